/-
  The walk of the program's blocks. Conditions: the view is right, and has entries.
-/
import Derived.Test.YtkbmnefjnfihbaaViewX
import Derived.Test.YtkbmnefjnfihbaaViewPlainA
import Derived.Deep.QuietTactic
import Derived.BigQuiet
namespace Go.Proofs.Ytkbmnefjnfihbaa
set_option linter.unusedVariables false
open Go.RowKit Adj
attribute [local go_sem ↓] Go.wp_at_zero Go.wp_at_succ

theorem Try.infoOf67 : (Try.prog.info? 67).map (fun i => (i.zero, i.size, i.bytes)) = some (some (.agg #[.int .i64 0, .int .i64 0]), 2, 16) := by kernel_rfl
namespace Vw
/-- Pairs as cells. -/
def bcells : List (Int × Int) → List Value
  | [] => []
  | (d, k) :: l => .int .i64 d :: .int .i64 k :: bcells l
theorem bcells_length : ∀ l, (bcells l).length = l.length * 2
  | [] => rfl
  | (d, k) :: l => by simp only [bcells, List.length_cons, bcells_length l]; omega
theorem bcells_append : ∀ l m, bcells (l ++ m) = bcells l ++ bcells m
  | [], m => rfl
  | (d, k) :: l, m => by simp only [bcells, List.cons_append, bcells_append l m]
theorem bcells_last (r : List (Int × Int)) (n s : Int) : (bcells (r.reverse ++ [(n, s)]))[r.length * 2]? = some (.int .i64 n) ∧ (bcells (r.reverse ++ [(n, s)]))[r.length * 2 + 1]? = some (.int .i64 s) := by
  have h : (bcells r.reverse).length = r.length * 2 := by rw [bcells_length, List.length_reverse]
  rw [bcells_append]
  refine ⟨?_, ?_⟩
  · rw [List.getElem?_append_right (by omega), h, Nat.sub_self]; rfl
  · rw [List.getElem?_append_right (by omega), h, show r.length * 2 + 1 - r.length * 2 = 1 by omega]; rfl
theorem bcells_set (r : List (Int × Int)) (n s n' s' : Int) : ((bcells (r.reverse ++ [(n, s)])).set (r.length * 2) (.int .i64 n')).set (r.length * 2 + 1) (.int .i64 s') = bcells (r.reverse ++ [(n', s')]) := by
  have h : (bcells r.reverse).length = r.length * 2 := by rw [bcells_length, List.length_reverse]
  rw [bcells_append, bcells_append, List.set_append_right _ _ (by omega), h, Nat.sub_self, List.set_append_right _ _ (by omega), h, show r.length * 2 + 1 - r.length * 2 = 1 by omega]
  rfl
theorem own_lower {w : World} {base base' size : Nat} {e : TypeId} {v : Value} {n : Nat} {xs : List Value} (h : w.ownsRow base e size v n xs) (hb : base' ≤ base) : w.ownsRow base' e size v n xs := by
  refine ⟨h.1, ?_⟩
  rcases h.2 with h2 | ⟨g, cap, cur, h1, h2, h3⟩
  · exact .inl h2
  · exact .inr ⟨g, cap, cur, h1, by omega, h3⟩
theorem two_one (n s : Int) : ∀ u ∈ [Value.int .i64 n, .int .i64 s], u.oneCell' = true := by
  intro u hu
  simp only [List.mem_cons, List.not_mem_nil, or_false] at hu
  rcases hu with rfl | rfl <;> rfl
theorem blk_drewN {w : World} {base size : Nat} {e : TypeId} {v : Value} {n : Nat} {xs : List Value} (h : w.ownsRow base e size v n xs) (q : Nat) : (w.drewN q).ownsRow base e size v n xs := h
theorem two_new (w : World) (t : TypeId) (a b : Value) : ∀ j u, [a, b][j]? = some u → (w.alloc (.cells #[a, b] t)).cell? ((⟨w.heap.size, 0, none⟩ : Addr).add j) = some u := by
  intro j u hu
  rw [Addr.add_lit, Nat.zero_add, cell_of_row _ _ j #[a, b] t (0, 0) (heap_alloc_new w _)]
  simpa using hu
/-- The blocks laid so far. -/
structure BlkI (N : Nat) (W0 : World) (o : Value) (st : List (Int × Int)) (W : World) : Prop where
  own : W.ownsRow N 67 2 o st.length (bcells st.reverse)
  below : Below N W0 W
theorem BlkI.join {N g m co : Nat} {W0 W : World} {n t x s : Int} {r : List (Int × Int)} (ho : W.ownsRow N 67 2 (.slice (some ⟨g, 0, none⟩) (m + 1) co) (m + 1) (bcells (r.reverse ++ [(n, t)]))) (hm : r.length = m) (hb : Below N W0 W) :
    BlkI N W0 (.slice (some ⟨g, 0, none⟩) (m + 1) co) ((x, s) :: r) ((W.setCell ⟨g, m * 2, none⟩ (.int .i64 x)).setCell ⟨g, m * 2 + 1, none⟩ (.int .i64 s)).drew := by
  subst hm
  have h1 := ho.stored (r.length * 2) (.int .i64 x)
  have h2 := h1.1.stored (r.length * 2 + 1) (.int .i64 s)
  have hlt := ho.lt g rfl
  rw [bcells_set] at h2
  refine ⟨?_, ((hb.setCell (p := ⟨g, r.length * 2, none⟩) hlt.1 _).setCell (p := ⟨g, r.length * 2 + 1, none⟩) hlt.1 _).drew⟩
  rw [List.length_cons, List.reverse_cons]
  exact h2.1
theorem BlkI.more {N : Nat} {W0 W W' : World} {O v' : Value} {d s : Int} {st : List (Int × Int)} (ho : W.ownsRow N 67 2 O st.length (bcells st.reverse)) (hb : Below N W0 W) (hN : N ≤ W.heap.size)
    (hown : W'.ownsRow N 67 2 v' (st.length + 1) (bcells st.reverse ++ [.int .i64 d, .int .i64 s])) (hg : (W.alloc (.cells #[.int .i64 d, .int .i64 s] 67)).grownBy W' O.ownBlock) : BlkI N W0 v' ((d, s) :: st) W' := by
  refine ⟨?_, (hb.alloc hN _).grown hg (by simp; omega) (fun q hq => (ho.lt q hq).1)⟩
  rw [List.length_cons, List.reverse_cons, bcells_append]
  exact hown
def BlocksOut (w : World) (v : AdjV.V) (e : Ending) (w' : World) : Prop := ∃ o, e = .returned o ∧ w'.ownsRow w.heap.size 67 2 o (AdjV.blocks v).length (bcells (AdjV.blocks v).reverse) ∧ Below w.heap.size w w'
end Vw

set_option maxRecDepth 100000 in
set_option maxHeartbeats 4000000 in
theorem blocks_any (val : Value) (v : AdjV.V) (B : Nat) (w : World) (hB : B ≤ w.heap.size) (h : Vw.ViewAt w B val v) (h0 : AdjV.wrong v = 0) (hp : 0 < AdjV.prod v.dims) :
    Calls Try.prog 55 #[val] w (Vw.BlocksOut w v) := by
  obtain ⟨i0, hi, hz0, hz1, hz2⟩ := info_parts Try.infoOf67
  obtain ⟨A, c, A', c', rfl, hd, hs, c1, c2, c3, c4⟩ := h
  obtain ⟨z1, z2, z3, z4⟩ := AdjV.wrong_fine h0
  obtain ⟨s1, s2, s3, s4, s5⟩ := AdjV.size_fine z1
  have HPOS := Lib.hid (AdjV.no_zero_of_pos z1 hp)
  have HDM := Lib.hid s2
  have HZ2 := Lib.hid z2
  have HZ4 := Lib.hid z4
  have HD := Lib.hid hd
  have HS := Lib.hid hs
  have H0 := Lib.hid h0
  have HB0 := Lib.hid ((Below.refl w.heap.size w).alloc (Nat.le_refl _) (.cells #[.int .i64 v.st, .slice A v.dims.length c, .slice A' v.steps.length c'] 34))
  have HX := Lib.hid (Blk.new w 34 #[.int .i64 v.st, .slice A v.dims.length c, .slice A' v.steps.length c'])
  clear hd hs z1 z2 z4 s2 s3 h0
  go_enter Try.func55, Try.ntmps55
  go_wp2_with fail
  obtain ⟨W0, hW0⟩ : ∃ W0, w.alloc (.cells #[.int .i64 v.st, .slice A v.dims.length c, .slice A' v.steps.length c'] 34) = W0 := ⟨_, rfl⟩
  have hsz0 : W0.heap.size = w.heap.size + 1 := by rw [← hW0]; simp
  rw [hW0] at HB0 HX ⊢
  have HSZ0 := Lib.hid hsz0
  clear hW0 hsz0
  go_loopw [3, 4, 5, 6, 10] (fun o _ _ _ i wr => ∃ k : Nat, k ≤ v.dims.length ∧ i = .int .i64 (k : Int) ∧ Vw.BlkI (w.heap.size + 1) W0 o (AdjV.blocksK v k) wr) (fun _ _ _ _ i _ => v.dims.length + 1 - (intOf i).toNat)
  case atStart => exact ⟨0, by omega, rfl, by exact World.ownsRow_nil _ _ _ _, Below.refl _ _⟩
  case round =>
    obtain ⟨k, hk, rfl, hI⟩ := hrel
    obtain ⟨wo, rfl⟩ : ∃ wo : World, wo = wr := ⟨_, rfl⟩
    have HI := Lib.hid hI
    clear hI
    by_cases hlt : k < v.dims.length
    · have hks : k < v.steps.length := by have := HZ2.out; omega
      obtain ⟨b, off, rfl, hb, hc⟩ := HD.out (by omega)
      obtain ⟨b', off', rfl, hb', hc'⟩ := HS.out (by omega)
      have HBW := Lib.hid (HB0.out.trans (HI.out.below.mono (by omega)))
      have hd1 := (HBW.out.cell (p := ⟨b, off + k, none⟩) (by simp; omega)).trans (hc k hlt)
      have hs1 := (HBW.out.cell (p := ⟨b', off' + k, none⟩) (by simp; omega)).trans (hc' k hks)
      have hxo := HX.out.below HI.out.below (by omega)
      have hx2 : wo.cell? ⟨w.heap.size, 2, none⟩ = some (.slice (some ⟨b', off', none⟩) v.steps.length c') := hxo.cell 2
      have hsz : w.heap.size + 1 ≤ wo.heap.size := by have h1 := HI.out.below.size; have h2 := HSZ0.out; omega
      have hdm := HDM.out _ (List.getElem_mem hlt)
      have hsm := HZ4.out _ (List.getElem_mem hks)
      have HNX := Lib.hid (AdjV.blocksK_next hlt hks)
      have HFI := Lib.hid (AdjV.blocksK_fine H0.out hp k)
      have i1 : (0 : Int) ≤ (k : Int) := by omega
      have i2 : (k : Int) < (v.dims.length : Int) := by omega
      have i3 : (k : Int) < (v.steps.length : Int) := by omega
      have hmb := AdjV.mul_small hdm.1 hdm.2 hsm.1 hsm.2
      clear hc hc' hxo
      generalize v.dims[k] = d at hd1 hdm HNX hmb
      generalize v.steps[k] = s at hs1 hsm HNX hmb
      by_cases hd : d = 1
      · subst hd
        have HE := Lib.hid (HNX.out.trans (AdjV.push_skip rfl))
        go_wp2_with fail
        go_roundw
        case rel => exact ⟨k + 1, by omega, by go_num, by rw [HE.out]; exact HI.out⟩
        case measure => (simp [intOf] <;> omega)
      · have hdq : (d == 1) = false := by simpa using hd
        have HDQ := Lib.hid hd
        clear hd
        cases hst : AdjV.blocksK v k with
        | nil =>
          rw [hst] at HI HNX
          have HE := Lib.hid (HNX.out.trans (AdjV.push_first HDQ.out))
          have HST := Lib.hid hst
          clear hst
          obtain ⟨AO, co, rfl⟩ : ∃ AO co, u3 = .slice AO 0 co := by
            rcases HI.out.own.2 with ⟨h, _⟩ | ⟨g, cap, cur, h, _⟩
            · exact ⟨_, _, h⟩
            · exact ⟨_, _, h⟩
          go_wp2_with fail
          go_quiet (fail)
          have HBLQ := Lib.hid (below_drewN HI.out.below nq)
          have HOWQ := Lib.hid (Vw.blk_drewN HI.out.own nq)
          generalize hWq : wo.drewN nq = W2 at *
          have hsz2 : w.heap.size + 1 ≤ W2.heap.size := by rw [← hWq]; exact hsz
          have y2 : W2.cell? ⟨w.heap.size, 2, none⟩ = some (.slice (some ⟨b', off', none⟩) v.steps.length c') := by rw [← hWq]; exact hx2
          have y3 : W2.cell? ⟨b', off' + k, none⟩ = some (.int .i64 s) := by rw [← hWq]; exact hs1
          clear hWq hx2 hs1 hd1
          go_wp2_with (at_builtin; refine wpList_append_own _ rfl _ _ 63 rfl (w.heap.size + 1) 67 i0 (.agg #[.int .i64 0, .int .i64 0]) 2 16 Try.underlying63 hi hz0 hz1 hz2 rfl (by decide) _ _ _ rfl (HOWQ.out.alloc (.cells #[.int .i64 d, .int .i64 s] 67)) ⟨W2.heap.size, 0, none⟩ 1 1 [.int .i64 d, .int .i64 s] rfl rfl (Vw.two_new _ _ _ _) (Vw.two_one _ _) (by unfold maxLen; simp) (by simp) (by simp; omega) ?_)
          intro v' w1 hown' hgrow _
          have HF := Lib.hid (show Vw.BlkI (w.heap.size + 1) W0 v' (AdjV.blocksK v (k + 1)) w1 from by
            rw [HE.out]; exact Vw.BlkI.more (st := []) HOWQ.out HBLQ.out hsz2 hown' hgrow)
          clear hown' hgrow
          go_wp2_with fail
          first
            | exact ⟨⟨k + 1, by omega, by go_num, HF.out⟩, by simp [intOf]; omega⟩
            | (go_roundw
               case rel => exact ⟨k + 1, by omega, by go_num, HF.out⟩
               case measure => (simp [intOf] <;> omega))
        | cons y r =>
          obtain ⟨n, t⟩ := y
          rw [hst] at HI HNX HFI
          have HST := Lib.hid hst
          have hnt := HFI.out (n, t) (by simp)
          dsimp only at hnt
          clear hst
          obtain ⟨m, hm⟩ : ∃ m, r.length = m := ⟨_, rfl⟩
          obtain ⟨g, co, hu, _, _⟩ := HI.out.own.form (by simp)
          have hown : wo.ownsRow (w.heap.size + 1) 67 2 (.slice (some ⟨g, 0, none⟩) (m + 1) co) (m + 1) (Vw.bcells (r.reverse ++ [(n, t)])) := by
            have h := HI.out.own
            rw [List.reverse_cons, hu, List.length_cons, hm] at h
            exact h
          rw [List.length_cons, hm] at hu
          subst hu
          have hlc := Vw.bcells_last r n t
          rw [hm] at hlc
          have hg0 := (hown.cellAt (m * 2) (by omega)).trans hlc.1
          have hg1 := (hown.cellAt (m * 2 + 1) (by omega)).trans hlc.2
          have hf0 := hown.frozenAt (m * 2)
          have hf1 := hown.frozenAt (m * 2 + 1)
          have HOW := Lib.hid hown
          have HM := Lib.hid hm
          have m1 : (0 : Int) ≤ (m : Int) := by omega
          have m2 : (m : Int) < (m : Int) + 1 := by omega
          have m3 : (m : Int) + 1 ≤ 7 := by have h := AdjV.blocksK_length v k; rw [HST.out, List.length_cons] at h; have h2 := HM.out; omega
          clear hlc hown hm
          by_cases hj : t = d * s
          · have hjq : (t == d * s) = true := by simpa using hj
            have HJ := Lib.hid hj
            clear hj
            have HE := Lib.hid (HNX.out.trans (AdjV.push_join HDQ.out HJ.out))
            have hnd := AdjV.mul_abs (a := n) (b := d) (x := 65536) (y := 4096) (by omega) (by omega) (by omega) (by omega) (by omega)
            go_wp2_with fail
            go_quiet (fail)
            have HOWQ := Lib.hid (Vw.blk_drewN HOW.out nq)
            have HBLQ := Lib.hid (below_drewN HI.out.below nq)
            have g0 : (wo.drewN nq).cell? ⟨g, m * 2, none⟩ = some (.int .i64 n) := hg0
            have g1 : (wo.drewN nq).cell? ⟨g, m * 2 + 1, none⟩ = some (.int .i64 t) := hg1
            have y2 : (wo.drewN nq).cell? ⟨w.heap.size, 2, none⟩ = some (.slice (some ⟨b', off', none⟩) v.steps.length c') := hx2
            have y3 : (wo.drewN nq).cell? ⟨b', off' + k, none⟩ = some (.int .i64 s) := hs1
            have g2 := HOWQ.out.frozenAt (m * 2)
            have g3 := HOWQ.out.frozenAt (m * 2 + 1)
            generalize wo.drewN nq = W2 at HOWQ HBLQ g0 g1 g2 g3 y2 y3 ⊢
            have hwm : IntKind.i64.wrap (m : Int) = (m : Int) := IntWalk.i64_in _ (by omega)
            have hwn : IntKind.i64.wrap (n * d) = n * d := IntWalk.i64_in _ (by omega)
            clear hg0 hg1 hf0 hf1 hx2 hs1 hd1 hjq hdq
            go_wp2_with fail
            refine wp_region_T (fun w' => w'.cell? ⟨g, m * 2, none⟩ = some (.int .i64 n) ∧ w'.cell? ⟨w.heap.size, 2, none⟩ = some (.slice (some ⟨b', off', none⟩) v.steps.length c') ∧ w'.cell? ⟨b', off' + k, none⟩ = some (.int .i64 s)) 17 (fun _ => True) 17 19 rfl (by kernel_rfl) ⟨⟨g0, y2, y3⟩, trivial⟩ (fun hHeld => ?_)
            simp only [List.replicate_succ, List.replicate_zero]
            refine wpT_take 0 37 (v := ?_) hHeld.1 hHeld.2 rfl rfl (by kernel_rfl) (fun _ _ _ h => h) rfl ?_ ?_
            rotate_left
            · (intro w hSw; (try dsimp only at hSw); go_simp; try with_reducible rfl)
            try simp only [Act.put, List.setIfInBounds_toArray, List.set_cons_zero, List.set_cons_succ]
            refine wpT_take 1 38 (v := ?_) hHeld.1 hHeld.2 rfl rfl (by kernel_rfl) (fun _ _ _ h => h) rfl ?_ ?_
            rotate_left
            · (intro w hSw; (try dsimp only at hSw); go_simp; try with_reducible rfl)
            try simp only [Act.put, List.setIfInBounds_toArray, List.set_cons_zero, List.set_cons_succ]
            refine wpT_take 2 39 (v := ?_) hHeld.1 hHeld.2 rfl rfl (by kernel_rfl) (fun _ _ _ h => h) rfl ?_ ?_
            rotate_left
            · (intro w hSw; (try dsimp only at hSw); go_simp; try with_reducible rfl)
            try simp only [Act.put, List.setIfInBounds_toArray, List.set_cons_zero, List.set_cons_succ]
            refine wpT_take 3 40 (v := ?_) hHeld.1 hHeld.2 rfl rfl (by kernel_rfl) (fun _ _ _ h => h) rfl ?_ ?_
            rotate_left
            · (intro w hSw; (try dsimp only at hSw); go_simp; try with_reducible rfl)
            try simp only [Act.put, List.setIfInBounds_toArray, List.set_cons_zero, List.set_cons_succ]
            refine wpT_take 4 41 (v := ?_) hHeld.1 hHeld.2 rfl rfl (by kernel_rfl) (fun _ _ _ h => h) rfl ?_ ?_
            rotate_left
            · (intro w hSw; (try dsimp only at hSw); go_simp; try with_reducible rfl)
            try simp only [Act.put, List.setIfInBounds_toArray, List.set_cons_zero, List.set_cons_succ]
            refine wpT_take 5 42 (v := ?_) hHeld.1 hHeld.2 rfl rfl (by kernel_rfl) (fun _ _ _ h => h) rfl ?_ ?_
            rotate_left
            · (intro w hSw; (try dsimp only at hSw); go_simp; try with_reducible rfl)
            try simp only [Act.put, List.setIfInBounds_toArray, List.set_cons_zero, List.set_cons_succ]
            refine wpT_take 6 43 (v := ?_) hHeld.1 hHeld.2 rfl rfl (by kernel_rfl) (fun _ _ _ h => h) rfl ?_ ?_
            rotate_left
            · (intro w hSw; (try dsimp only at hSw); go_simp; try with_reducible rfl)
            try simp only [Act.put, List.setIfInBounds_toArray, List.set_cons_zero, List.set_cons_succ]
            refine wpT_take 7 44 (v := ?_) hHeld.1 hHeld.2 rfl rfl (by kernel_rfl) (fun _ _ _ h => h) rfl ?_ ?_
            rotate_left
            · (intro w hSw; (try dsimp only at hSw); go_simp; try with_reducible rfl)
            try simp only [Act.put, List.setIfInBounds_toArray, List.set_cons_zero, List.set_cons_succ]
            refine wpT_take 8 45 (v := ?_) hHeld.1 hHeld.2 rfl rfl (by kernel_rfl) (fun _ _ _ h => h) rfl ?_ ?_
            rotate_left
            · (intro w hSw; (try dsimp only at hSw); go_simp; try with_reducible rfl)
            try simp only [Act.put, List.setIfInBounds_toArray, List.set_cons_zero, List.set_cons_succ]
            refine wpT_take 9 46 (v := ?_) hHeld.1 hHeld.2 rfl rfl (by kernel_rfl) (fun _ _ _ h => h) rfl ?_ ?_
            rotate_left
            · (intro w hSw; (try dsimp only at hSw); go_simp; try with_reducible rfl)
            try simp only [Act.put, List.setIfInBounds_toArray, List.set_cons_zero, List.set_cons_succ]
            refine wpT_take 10 47 (v := ?_) hHeld.1 hHeld.2 rfl rfl (by kernel_rfl) (fun _ _ _ h => h) rfl ?_ ?_
            rotate_left
            · (intro w hSw; (try dsimp only at hSw); go_simp; try with_reducible rfl)
            try simp only [Act.put, List.setIfInBounds_toArray, List.set_cons_zero, List.set_cons_succ]
            refine wpT_take 11 48 (v := ?_) hHeld.1 hHeld.2 rfl rfl (by kernel_rfl) (fun _ _ _ h => h) rfl ?_ ?_
            rotate_left
            · (intro w hSw; (try dsimp only at hSw); go_simp; try with_reducible rfl)
            try simp only [Act.put, List.setIfInBounds_toArray, List.set_cons_zero, List.set_cons_succ]
            refine wpT_take 12 49 (v := ?_) hHeld.1 hHeld.2 rfl rfl (by kernel_rfl) (fun _ _ _ h => h) rfl ?_ ?_
            rotate_left
            · (intro w hSw; (try dsimp only at hSw); go_simp; try with_reducible rfl)
            try simp only [Act.put, List.setIfInBounds_toArray, List.set_cons_zero, List.set_cons_succ]
            refine wpT_take 13 50 (v := ?_) hHeld.1 hHeld.2 rfl rfl (by kernel_rfl) (fun _ _ _ h => h) rfl ?_ ?_
            rotate_left
            · (intro w hSw; (try dsimp only at hSw); go_simp; try with_reducible rfl)
            try simp only [Act.put, List.setIfInBounds_toArray, List.set_cons_zero, List.set_cons_succ]
            refine wpT_take 14 51 (v := ?_) hHeld.1 hHeld.2 rfl rfl (by kernel_rfl) (fun _ _ _ h => h) rfl ?_ ?_
            rotate_left
            · (intro w hSw; (try dsimp only at hSw); go_simp; try with_reducible rfl)
            try simp only [Act.put, List.setIfInBounds_toArray, List.set_cons_zero, List.set_cons_succ]
            refine wpT_take 15 52 (v := ?_) hHeld.1 hHeld.2 rfl rfl (by kernel_rfl) (fun _ _ _ h => h) rfl ?_ ?_
            rotate_left
            · (intro w hSw; (try dsimp only at hSw); go_simp; try with_reducible rfl)
            try simp only [Act.put, List.setIfInBounds_toArray, List.set_cons_zero, List.set_cons_succ]
            refine wpT_take 16 53 (v := ?_) hHeld.1 hHeld.2 rfl rfl (by kernel_rfl) (fun _ _ _ h => h) rfl ?_ ?_
            rotate_left
            · (intro w hSw; (try dsimp only at hSw); go_simp; try with_reducible rfl)
            try simp only [Act.put, List.setIfInBounds_toArray, List.set_cons_zero, List.set_cons_succ]
            refine wpT_tail [_, _] 17 [18] rfl (by kernel_rfl) ?_
            clear hHeld y2 y3 hwm hwn
            go_wp2_with fail
            have HF := Lib.hid (show Vw.BlkI (w.heap.size + 1) W0 (.slice (some ⟨g, 0, none⟩) (m + 1) co) (AdjV.blocksK v (k + 1)) ((W2.setCell ⟨g, m * 2, none⟩ (.int .i64 (n * d))).setCell ⟨g, m * 2 + 1, none⟩ (.int .i64 s)).drew from by
              rw [HE.out]; exact Vw.BlkI.join HOWQ.out HM.out HBLQ.out)
            first
              | exact ⟨⟨k + 1, by omega, by go_num, HF.out⟩, by simp [intOf]; omega⟩
              | (go_roundw
                 case rel => exact ⟨k + 1, by omega, by go_num, HF.out⟩
                 case measure => (simp [intOf] <;> omega))
          · have hjq : (t == d * s) = false := by simpa using hj
            have HE := Lib.hid (HNX.out.trans (AdjV.push_more HDQ.out hj))
            clear hj
            go_wp2_with fail
            go_quiet (fail)
            have HBLQ := Lib.hid (below_drewN HI.out.below nq)
            have HOWQ := Lib.hid (Vw.blk_drewN HOW.out nq)
            generalize hWq : wo.drewN nq = W2 at *
            have hsz2 : w.heap.size + 1 ≤ W2.heap.size := by rw [← hWq]; exact hsz
            have y2 : W2.cell? ⟨w.heap.size, 2, none⟩ = some (.slice (some ⟨b', off', none⟩) v.steps.length c') := by rw [← hWq]; exact hx2
            have y3 : W2.cell? ⟨b', off' + k, none⟩ = some (.int .i64 s) := by rw [← hWq]; exact hs1
            clear hWq hx2 hs1 hd1 hg0 hg1 hf0 hf1
            go_wp2_with (at_builtin; refine wpList_append_own _ rfl _ _ 63 rfl (w.heap.size + 1) 67 i0 (.agg #[.int .i64 0, .int .i64 0]) 2 16 Try.underlying63 hi hz0 hz1 hz2 rfl (by decide) _ _ _ rfl (HOWQ.out.alloc (.cells #[.int .i64 d, .int .i64 s] 67)) ⟨W2.heap.size, 0, none⟩ 1 1 [.int .i64 d, .int .i64 s] rfl rfl (Vw.two_new _ _ _ _) (Vw.two_one _ _) (by unfold maxLen; omega) (by omega) (by simp; omega) ?_)
            intro v' w1 hown' hgrow _
            have HF := Lib.hid (show Vw.BlkI (w.heap.size + 1) W0 v' (AdjV.blocksK v (k + 1)) w1 from by
              have e : ((n, t) :: r).length = m + 1 := by rw [List.length_cons, HM.out]
              rw [HE.out]; exact Vw.BlkI.more (st := (n, t) :: r) (O := .slice (some ⟨g, 0, none⟩) (m + 1) co) (by rw [e, List.reverse_cons]; exact HOWQ.out) HBLQ.out hsz2 (by rw [e, List.reverse_cons]; exact hown') hgrow)
            clear hown' hgrow
            go_wp2_with fail
            first
              | exact ⟨⟨k + 1, by omega, by go_num, HF.out⟩, by simp [intOf]; omega⟩
              | (go_roundw
                 case rel => exact ⟨k + 1, by omega, by go_num, HF.out⟩
                 case measure => (simp [intOf] <;> omega))
    · obtain rfl : k = v.dims.length := by omega
      go_wp2_with fail
      go_ret
      have hI := HI.out
      rw [AdjV.blocksK_all HZ2.out] at hI
      exact ⟨_, rfl, Vw.own_lower hI.own (Nat.le_succ _), HB0.out.trans (hI.below.mono (Nat.le_succ _))⟩
end Go.Proofs.Ytkbmnefjnfihbaa
