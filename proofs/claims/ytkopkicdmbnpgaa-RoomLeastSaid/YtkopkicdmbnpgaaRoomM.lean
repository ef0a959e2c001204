/-
  The walk of the program's Climb. Conditions: both lists can be read.
-/
import Derived.Test.YtkopkicdmbnpgaaRoomL
import Derived.Laws.EntriesVeiled
namespace Go.Proofs.Ytkopkicdmbnpgaa
set_option linter.unusedVariables false
open Go.RowKit Adj

set_option maxRecDepth 100000 in
set_option maxHeartbeats 8000000 in
theorem Climb_any (w : World) (ab ws : List Int) (A A' : Option Addr) (n m c c' : Nat) (hn : ab.length = n) (hm : ws.length = m) (h1 : IntsAt w w.heap.size A ab) (h2 : IntsAt w w.heap.size A' ws) :
    Calls Try.prog 11 #[.slice A n c, .slice A' m c'] w fun e w' => ∃ v, e = .returned (.tuple #[v, .int .i64 (AdjR.climb ab ws).2.1, .int .i64 (AdjR.climb ab ws).2.2]) ∧ Below w.heap.size w w' ∧ ∃ AO cO, v = .slice AO (AdjR.climb ab ws).1.length cO ∧ IntsAt w' w'.heap.size AO (AdjR.climb ab ws).1 := by
  have HGR := Lib.hid (grow_any (w.alloc (.cells #[.slice A' m c'] 22)) ab ws A A' n m c c' hn hm ((h1.alloc (Nat.le_refl _) _).up (by simp)) ((h2.alloc (Nat.le_refl _) _).up (by simp)))
  have HW0 := Lib.hid (Below.refl w.heap.size w |>.alloc (Nat.le_refl _) (.cells #[.slice A' m c'] 22))
  have HBX := Lib.hid (Blk.new w 22 #[.slice A' m c'])
  have hsz : (w.alloc (.cells #[.slice A' m c'] 22)).heap.size = w.heap.size + 1 := by simp
  by_cases hbad : AdjR.treeBad ab ws = 0
  · have HT := Lib.hid hbad
    obtain ⟨g1, g2, g3⟩ := AdjR.treeOk hbad
    obtain rfl : m = n := by omega
    have hbig : m ≤ 4096 := by omega
    have HN := Lib.hid (And.intro hn hm)
    have H1 := Lib.hid h1
    have H2 := Lib.hid h2
    have hmk := fun W => run_make_int m (by omega) W
    have hmf : ∀ (fn : Fn) (first cap : Array Value) (w : World), (Instr.makeFunc fn first cap).run Try.prog w = .ok (.func fn first cap) w := fun _ _ _ _ => rfl
    clear hbad g1 g2 g3 hn hm h1 h2
    have cbx := HBX.out.cell 0
    generalize hw0 : w.alloc (.cells #[.slice A' m c'] 22) = w0 at HGR HW0 HBX hsz cbx
    have HEW := Lib.hid hw0
    go_enter Try.func11, Try.ntmps11
    go_wp2_with fail
    ((with_reducible refine HGR.out.mono ?_); rintro e w1 ⟨v, rfl, hb1, htr, _⟩)
    rw [HT.out]
    obtain ⟨bt, bb, rfl, htr2⟩ := htr HT.out
    have HTR := Lib.hid htr2
    have HB1 := Lib.hid hb1
    clear htr htr2 hb1
    clear hw0
    go_wp2_with fail
    obtain ⟨gs, cs, hrows⟩ := HTR.out.ps.rows
    have hge1 : w.heap.size < w1.heap.size := by have := HB1.out.size; omega
    have HCL0 := Lib.hid (show Rm.Cl w w0 A' c' bt bb m w1.heap.size (.slice A m c) (.slice A' m c') gs cs (AdjR.climbTo ab ws 0).1 (AdjR.climbTo ab ws 0).2 (((w1.alloc (.cells #[.pointer (some ⟨bt, 0, none⟩)] 46)).alloc (.cells (Adj.ints (List.replicate m 0)).toArray 3)).alloc (.cells #[.slice (some ⟨w1.heap.size + 1, 0, none⟩) m m] 22)) from by
      have e0 : (AdjR.climbTo ab ws 0).1 = List.replicate m 0 := by show List.replicate ab.length 0 = _; rw [HN.out.1]
      have e1 : (AdjR.climbTo ab ws 0).2 = AdjR.belowTo ab m := by show (fun s => AdjR.belowTo ab ab.length s) = _; rw [HN.out.1]
      rw [e0, e1]
      have hbe : Below w1.heap.size w1 (((w1.alloc (.cells #[.pointer (some ⟨bt, 0, none⟩)] 46)).alloc (.cells (Adj.ints (List.replicate m 0)).toArray 3)).alloc (.cells #[.slice (some ⟨w1.heap.size + 1, 0, none⟩) m m] 22)) := (((Below.refl _ _).alloc (Nat.le_refl _) _).alloc (by simp) _).alloc (by simp; omega) _
      have hpb := Blk.new ((w1.alloc (.cells #[.pointer (some ⟨bt, 0, none⟩)] 46)).alloc (.cells (Adj.ints (List.replicate m 0)).toArray 3)) 22 #[.slice (some ⟨w1.heap.size + 1, 0, none⟩) m m]
      have hpk := Blk.new (w1.alloc (.cells #[.pointer (some ⟨bt, 0, none⟩)] 46)) 3 (Adj.ints (List.replicate m 0)).toArray
      simp only [World.size_alloc] at hpb hpk
      refine ⟨(HW0.out.trans (HB1.out.mono (by omega))).trans (hbe.mono (by omega)), (HBX.out.below HB1.out (by omega)).below hbe (by omega), (((Blk.new w1 _ _).alloc _).alloc _), HTR.out.tree.below hbe HTR.out.tree.lt, hpk.alloc _, hpb, hrows.below hbe, hsz, fun s hs h0 => ?_, by simp, hge1⟩
      obtain ⟨_, _, cur, k3, _⟩ := hrows.row s hs h0
      exact k3.lt)
    clear hmk hrows
    go_loopw [30] (fun iv wr => ∃ i : Nat, iv = .int .i64 (i : Int) ∧ i ≤ m ∧ Rm.Cl w w0 A' c' bt bb m w1.heap.size (.slice A m c) (.slice A' m c') gs cs (AdjR.climbTo ab ws i).1 (AdjR.climbTo ab ws i).2 wr) (fun iv _ => m - (intOf iv).toNat)
    case atStart => exact ⟨0, rfl, by omega, HCL0.out⟩
    case round =>
      obtain ⟨i, rfl, hi, hcl⟩ := hrel
      have HCL := Lib.hid hcl
      clear hcl HCL0
      by_cases hlt : i < m
      · have c7 : wr.cell? ⟨w1.heap.size, 0, none⟩ = some (.pointer (some ⟨bt, 0, none⟩)) := HCL.out.tp.cell 0
        have ct : wr.cell? ⟨bt, 2, none⟩ = some (.slice (some ⟨bb, 0, none⟩) m m) := HCL.out.tree.cell 2
        obtain ⟨AL, cL, hcL, _⟩ := HCL.out.row hlt
        have HFI := Lib.hid (show (AdjR.climbTo ab ws i).2 i = AdjR.belowTo ab m i by rw [AdjR.climbTo_later ab ws i i (Nat.le_refl _), HN.out.1])
        have HNX1 := Lib.hid (show (AdjR.climbTo ab ws (i + 1)).1 = (AdjR.climbTo ab ws i).1.set i (AdjR.peakOf (AdjR.climbTo ab ws i).1 ws (ws.getD i 0) (AdjR.sortBy (AdjR.keyOf (AdjR.climbTo ab ws i).1 ws) ((AdjR.climbTo ab ws i).2 i)) 0 0) from rfl)
        have HNX2 := Lib.hid (show (AdjR.climbTo ab ws (i + 1)).2 = fun t => if t = i then AdjR.sortBy (AdjR.keyOf (AdjR.climbTo ab ws i).1 ws) ((AdjR.climbTo ab ws i).2 i) else (AdjR.climbTo ab ws i).2 t from rfl)
        have HPB := Lib.hid (fun s (hs : s < m) => AdjR.climbTo_bound HT.out i (by rw [HN.out.1]; omega) s (by rw [HN.out.1]; exact hs))
        have HPZ := Lib.hid (AdjR.climbTo_zero ab ws i i (Nat.le_refl _))
        have HPL := Lib.hid (show (AdjR.climbTo ab ws i).1.length = m by rw [AdjR.climbTo_length, HN.out.1])
        have HFL := Lib.hid (fun x hx => AdjR.climb_lt HT.out i i x hx)
        have hfl : ((AdjR.climbTo ab ws i).2 i).length ≤ 4096 := by rw [HFI.out]; have := AdjR.belowTo_length ab m i; omega
        have HOK := Lib.hid (fun s (hs : s < m) => (AdjR.treeOk HT.out).2.2 s (by rw [HN.out.1]; exact hs))
        have HASC := Lib.hid (show ((AdjR.climbTo ab ws i).2 i).Pairwise (· < ·) by rw [HFI.out]; exact AdjR.belowTo_asc _ _ _)
        generalize (AdjR.climbTo ab ws i).1 = pk at HCL HNX1 HNX2 HPB HPZ HPL
        generalize (AdjR.climbTo ab ws i).2 = F at HCL HNX1 HNX2 HFI HFL hcL hfl HASC
        have HSC := Lib.hid (sort_cl w w0 wr ws A' c' bt bb m w1.heap.size i (.slice A m c) (.slice A' m c') gs cs pk F hlt hbig HN.out.2 H2.out HCL.out HASC.out (fun x hx => by have := HFL.out x hx; omega) hfl (fun s hs => by
          have h1 := HPB.out s hs
          have h2 := HOK.out s hs
          omega) AL cL hcL)
        clear HASC HFI
        have HTP := Lib.hid (AdjR.sortBy_perm (AdjR.keyOf pk ws) (F i))
        obtain ⟨T, hT⟩ : ∃ T, AdjR.sortBy (AdjR.keyOf pk ws) (F i) = T := ⟨_, rfl⟩
        rw [hT] at HNX1 HNX2 HSC HTP
        have HTE := Lib.hid hT
        clear hT
        go_wp2_with fail
        ((with_reducible refine HSC.out.mono ?_); rintro e w5 ⟨rfl, hcl5⟩)
        have HC5 := Lib.hid hcl5
        clear hcl5 c7 ct hcL
        have HFT := Lib.hid (show (fun t => if t = i then T else F t) i = T from if_pos rfl)
        have HFG : ∃ F', F' = fun t => if t = i then T else F t := ⟨_, rfl⟩
        obtain ⟨F', hF'⟩ := HFG
        rw [← hF'] at HC5 HNX2 HFT
        clear hF'
        have c7 : w5.cell? ⟨w1.heap.size, 0, none⟩ = some (.pointer (some ⟨bt, 0, none⟩)) := HC5.out.tp.cell 0
        have ct : w5.cell? ⟨bt, 2, none⟩ = some (.slice (some ⟨bb, 0, none⟩) m m) := HC5.out.tree.cell 2
        obtain ⟨A5, c5, hcL5, _⟩ := HC5.out.row hlt
        have HA5 := Lib.hid (show 0 < (F' i).length → A5 = some ⟨gs i, 0, none⟩ from fun hp => by
          have e := HC5.out.rows.cell i hlt hp
          rw [hcL5] at e
          injection e with e; injection e)
        rw [HFT.out] at hcL5 HA5
        have htl : T.length ≤ 4096 := by rw [HTP.out.length_eq]; exact hfl
        have HTM := Lib.hid (fun x (hx : x ∈ T) => HFL.out x (HTP.out.subset hx))
        have hown := HOK.out i hlt
        have HSET0 := Lib.hid (show pk.set i 0 = pk from by
          apply List.ext_getElem? 
          intro j
          rw [List.getElem?_set]
          by_cases e : i = j
          · subst e
            have h := HPZ.out
            have hl := HPL.out
            rw [List.getD_eq_getElem?_getD, List.getElem?_eq_getElem (by omega)] at h
            rw [if_pos rfl, if_pos (by omega), List.getElem?_eq_getElem (by omega)]
            exact congrArg some h.symm
          · rw [if_neg e])
        obtain ⟨b2, off2, rfl, r2⟩ := ints_cell H2.out (by have := HN.out; omega)
        have HWI := Lib.hid (fun (w6 : World) (hb : Below w.heap.size w w6) => (hb.cell (cell_lt (r2 i (by have := HN.out; omega)))).trans (r2 i (by have := HN.out; omega)))
        have HR2 := Lib.hid r2
        clear r2
        generalize ws.getD i 0 = own at HNX1 hown HWI
        obtain ⟨_, _, ho0, ho1⟩ := hown
        have hi2 : (i : Int) ≤ 4096 := by omega
        go_wp2_with fail
        go_loopw [11, 50] (fun hv kv wr => ∃ (k : Nat) (h p : Int), kv = .int .i64 (k : Int) ∧ hv = .int .i64 h ∧ k ≤ T.length ∧ (0 ≤ h ∧ h ≤ (k : Int) * 1048576) ∧ (0 ≤ p ∧ p ≤ ((i : Int) + 1) * 8589934592) ∧ AdjR.peakOf pk ws own T 0 0 = AdjR.peakOf pk ws own (T.drop k) h p ∧ Rm.Cl w w0 (some ⟨b2, off2, none⟩) c' bt bb m w1.heap.size (.slice A m c) (.slice (some ⟨b2, off2, none⟩) m c') gs cs (pk.set i p) F' wr) (fun _ kv _ => T.length - (intOf kv).toNat)
        case atStart => exact ⟨0, 0, 0, rfl, rfl, by omega, by omega, by omega, rfl, by rw [HSET0.out]; exact HC5.out⟩
        case round =>
          obtain ⟨k, h, p, rfl, rfl, hk, ⟨hh0, hh1⟩, ⟨hp0, hp1⟩, hpk, hclx⟩ := hrel
          have HPK := Lib.hid hpk
          have HCX := Lib.hid hclx
          clear hpk hclx c7 ct hcL5
          have hwx : w1.heap.size + 2 < wr.heap.size := HCX.out.pkb.lt
          have cpb : wr.cell? ⟨w1.heap.size + 2, 0, none⟩ = some (.slice (some ⟨w1.heap.size + 1, 0, none⟩) m m) := HCX.out.pkb.cell 0
          have cbo : wr.cell? ⟨w.heap.size, 0, none⟩ = some (.slice (some ⟨b2, off2, none⟩) m c') := HCX.out.box.cell 0
          have cpi : wr.cell? ⟨w1.heap.size + 1, i, none⟩ = some (.int .i64 p) := by
            have h := HCX.out.peak hlt
            have hl := HPL.out
            rwa [List.getD_eq_getElem?_getD, List.getElem?_set, if_pos rfl, if_pos (by omega)] at h
          have fz : wr.frozen? ⟨w1.heap.size + 1, i, none⟩ = false := HCX.out.pks.frozen i
          by_cases hkl : k < T.length
          · have hA := HA5.out (by omega)
            subst hA
            have HIT := Lib.hid (show IntsAt wr wr.heap.size (some ⟨gs i, 0, none⟩) T by
              have h := HCX.out.rows.ints hlt (HCX.out.rows.cell i hlt (by rw [HFT.out]; omega))
              rwa [HFT.out] at h)
            obtain ⟨bz, offz, hbz, r1⟩ := ints_cell HIT.out (by omega)
            injection hbz with hbz
            injection hbz with e1 e2 e3
            subst e1 e2
            have c1 := r1 k hkl
            have hxr := HTM.out T[k] (List.getElem_mem hkl)
            have HDR := Lib.hid (show T.drop k = T[k] :: T.drop (k + 1) from List.drop_eq_getElem_cons hkl)
            have hgx : T.getD k 0 = T[k] := by rw [List.getD_eq_getElem?_getD, List.getElem?_eq_getElem hkl]; rfl
            rw [hgx, Nat.zero_add] at c1
            generalize T[k] = x at c1 hxr HDR
            obtain ⟨z, rfl⟩ : ∃ z : Nat, x = (z : Int) := ⟨x.toNat, by omega⟩
            have hz : z < m := by omega
            have cpz : wr.cell? ⟨w1.heap.size + 1, z, none⟩ = some (.int .i64 (pk.getD z 0)) := by
              have h := HCX.out.peak hz
              rwa [List.getD_eq_getElem?_getD, List.getElem?_set, if_neg (by omega), ← List.getD_eq_getElem?_getD] at h
            have r2 := HR2.out
            have cwz := (HCX.out.out.cell (cell_lt (r2 z (by have := HN.out; omega)))).trans (r2 z (by have := HN.out; omega))
            have HWZ := Lib.hid (fun (w6 : World) (hb : Below w.heap.size w w6) => (hb.cell (cell_lt (r2 z (by have := HN.out; omega)))).trans (r2 z (by have := HN.out; omega)))
            have hyb := HPB.out z hz
            have hwb := HOK.out z hz
            have HPO := Lib.hid (show AdjR.peakOf pk ws own T 0 0 = AdjR.peakOf pk ws own (T.drop (k + 1)) (h + ws.getD z 0) (max p (h + pk.getD z 0)) by
              rw [HPK.out, HDR.out]; rfl)
            generalize pk.getD z 0 = y at cpz hyb HPO
            generalize ws.getD z 0 = wz at cwz hwb HPO HWZ
            obtain ⟨_, _, hw0, hw1⟩ := hwb
            obtain ⟨hy0, hy1⟩ := hyb
            have q1 : IntKind.i64.wrap (h + y) = h + y := IntWalk.i64_in _ (by omega)
            have q2 : IntKind.i64.wrap (h + wz) = h + wz := IntWalk.i64_in _ (by omega)
            clear r1 r2 hgx
            have him : (i : Int) < (m : Int) := by omega
            have hi0 : (0 : Int) ≤ (i : Int) := by omega
            have hzm : (z : Int) < (m : Int) := by omega
            have hz0 : (0 : Int) ≤ (z : Int) := by omega
            by_cases hgt : p < h + y
            · have hmax : max p (h + y) = h + y := by omega
              rw [hmax] at HPO
              have HC6 := Lib.hid (show Rm.Cl w w0 (some ⟨b2, off2, none⟩) c' bt bb m w1.heap.size (.slice A m c) (.slice (some ⟨b2, off2, none⟩) m c') gs cs (pk.set i (h + y)) F' (wr.setCell ⟨w1.heap.size + 1, i, none⟩ (.int .i64 (h + y))).drew by
                have h := HCX.out.set i (h + y)
                rw [List.set_set] at h
                exact h.below (Below.refl _ _).drew)
              obtain ⟨w6, hw6⟩ : ∃ w6, (wr.setCell ⟨w1.heap.size + 1, i, none⟩ (.int .i64 (h + y))).drew = w6 := ⟨_, rfl⟩
              rw [hw6] at HC6
              have dbo : w6.cell? ⟨w.heap.size, 0, none⟩ = some (.slice (some ⟨b2, off2, none⟩) m c') := HC6.out.box.cell 0
              have dwz : w6.cell? ⟨b2, off2 + z, none⟩ = some (.int .i64 wz) := HWZ.out w6 HC6.out.out
              go_upto_region 13 with (fail)
              refine wp_region_T (fun w' => w'.cell? ⟨w1.heap.size + 2, 0, none⟩ = some (.slice (some ⟨w1.heap.size + 1, 0, none⟩) m m) ∧ w'.cell? ⟨w1.heap.size + 1, i, none⟩ = some (.int .i64 p) ∧ w'.cell? ⟨w1.heap.size + 1, z, none⟩ = some (.int .i64 y)) 13 (fun _ => True) 13 15 rfl (by kernel_rfl) ⟨⟨cpb, cpi, cpz⟩, trivial⟩ (fun hHeld => ?_)
              simp only [List.replicate_succ, List.replicate_zero]
              refine wpT_take 0 54 (v := ?_) hHeld.1 hHeld.2 rfl rfl (by kernel_rfl) (fun _ _ _ h => h) rfl ?_ ?_
              rotate_left
              · (intro w hSw; (try dsimp only at hSw); go_simp; try with_reducible rfl)
              try simp only [Act.put, List.setIfInBounds_toArray, List.set_cons_zero, List.set_cons_succ]
              refine wpT_take 1 55 (v := ?_) hHeld.1 hHeld.2 rfl rfl (by kernel_rfl) (fun _ _ _ h => h) rfl ?_ ?_
              rotate_left
              · (intro w hSw; (try dsimp only at hSw); go_simp; try with_reducible rfl)
              try simp only [Act.put, List.setIfInBounds_toArray, List.set_cons_zero, List.set_cons_succ]
              refine wpT_take 2 56 (v := ?_) hHeld.1 hHeld.2 rfl rfl (by kernel_rfl) (fun _ _ _ h => h) rfl ?_ ?_
              rotate_left
              · (intro w hSw; (try dsimp only at hSw); go_simp; try with_reducible rfl)
              try simp only [Act.put, List.setIfInBounds_toArray, List.set_cons_zero, List.set_cons_succ]
              refine wpT_take 3 57 (v := ?_) hHeld.1 hHeld.2 rfl rfl (by kernel_rfl) (fun _ _ _ h => h) rfl ?_ ?_
              rotate_left
              · (intro w hSw; (try dsimp only at hSw); go_simp; try with_reducible rfl)
              try simp only [Act.put, List.setIfInBounds_toArray, List.set_cons_zero, List.set_cons_succ]
              refine wpT_take 4 58 (v := ?_) hHeld.1 hHeld.2 rfl rfl (by kernel_rfl) (fun _ _ _ h => h) rfl ?_ ?_
              rotate_left
              · (intro w hSw; (try dsimp only at hSw); go_simp; try with_reducible rfl)
              try simp only [Act.put, List.setIfInBounds_toArray, List.set_cons_zero, List.set_cons_succ]
              refine wpT_take 5 59 (v := ?_) hHeld.1 hHeld.2 rfl rfl (by kernel_rfl) (fun _ _ _ h => h) rfl ?_ ?_
              rotate_left
              · (intro w hSw; (try dsimp only at hSw); go_simp; try with_reducible rfl)
              try simp only [Act.put, List.setIfInBounds_toArray, List.set_cons_zero, List.set_cons_succ]
              refine wpT_take 6 60 (v := ?_) hHeld.1 hHeld.2 rfl rfl (by kernel_rfl) (fun _ _ _ h => h) rfl ?_ ?_
              rotate_left
              · (intro w hSw; (try dsimp only at hSw); go_simp; try with_reducible rfl)
              try simp only [Act.put, List.setIfInBounds_toArray, List.set_cons_zero, List.set_cons_succ]
              refine wpT_take 7 61 (v := ?_) hHeld.1 hHeld.2 rfl rfl (by kernel_rfl) (fun _ _ _ h => h) rfl ?_ ?_
              rotate_left
              · (intro w hSw; (try dsimp only at hSw); go_simp; try with_reducible rfl)
              try simp only [Act.put, List.setIfInBounds_toArray, List.set_cons_zero, List.set_cons_succ]
              refine wpT_take 8 62 (v := ?_) hHeld.1 hHeld.2 rfl rfl (by kernel_rfl) (fun _ _ _ h => h) rfl ?_ ?_
              rotate_left
              · (intro w hSw; (try dsimp only at hSw); go_simp; try with_reducible rfl)
              try simp only [Act.put, List.setIfInBounds_toArray, List.set_cons_zero, List.set_cons_succ]
              refine wpT_take 9 63 (v := ?_) hHeld.1 hHeld.2 rfl rfl (by kernel_rfl) (fun _ _ _ h => h) rfl ?_ ?_
              rotate_left
              · (intro w hSw; (try dsimp only at hSw); go_simp; try with_reducible rfl)
              try simp only [Act.put, List.setIfInBounds_toArray, List.set_cons_zero, List.set_cons_succ]
              refine wpT_take 10 64 (v := ?_) hHeld.1 hHeld.2 rfl rfl (by kernel_rfl) (fun _ _ _ h => h) rfl ?_ ?_
              rotate_left
              · (intro w hSw; (try dsimp only at hSw); go_simp; try with_reducible rfl)
              try simp only [Act.put, List.setIfInBounds_toArray, List.set_cons_zero, List.set_cons_succ]
              refine wpT_take 11 65 (v := ?_) hHeld.1 hHeld.2 rfl rfl (by kernel_rfl) (fun _ _ _ h => h) rfl ?_ ?_
              rotate_left
              · (intro w hSw; (try dsimp only at hSw); go_simp; try with_reducible rfl)
              try simp only [Act.put, List.setIfInBounds_toArray, List.set_cons_zero, List.set_cons_succ]
              refine wpT_take 12 66 (v := ?_) hHeld.1 hHeld.2 rfl rfl (by kernel_rfl) (fun _ _ _ h => h) rfl ?_ ?_
              rotate_left
              · (intro w hSw; (try dsimp only at hSw); go_simp; try with_reducible rfl)
              try simp only [Act.put, List.setIfInBounds_toArray, List.set_cons_zero, List.set_cons_succ]
              refine wpT_tail [_, _] 13 [14] rfl (by kernel_rfl) ?_
              go_wp2_with fail
              go_roundw
              case rel => exact ⟨k + 1, h + wz, (h + y), by go_num, rfl, by omega, by omega, by omega, HPO.out, HC6.out⟩
              case measure => simp [intOf]; omega
            · have hmax : max p (h + y) = p := by omega
              rw [hmax] at HPO
              have HC6 := Lib.hid (show Rm.Cl w w0 (some ⟨b2, off2, none⟩) c' bt bb m w1.heap.size (.slice A m c) (.slice (some ⟨b2, off2, none⟩) m c') gs cs (pk.set i p) F' (wr.setCell ⟨w1.heap.size + 1, i, none⟩ (.int .i64 p)).drew by
                have h := HCX.out.set i p
                rw [List.set_set] at h
                exact h.below (Below.refl _ _).drew)
              obtain ⟨w6, hw6⟩ : ∃ w6, (wr.setCell ⟨w1.heap.size + 1, i, none⟩ (.int .i64 p)).drew = w6 := ⟨_, rfl⟩
              rw [hw6] at HC6
              have dbo : w6.cell? ⟨w.heap.size, 0, none⟩ = some (.slice (some ⟨b2, off2, none⟩) m c') := HC6.out.box.cell 0
              have dwz : w6.cell? ⟨b2, off2 + z, none⟩ = some (.int .i64 wz) := HWZ.out w6 HC6.out.out
              go_upto_region 13 with (fail)
              refine wp_region_T (fun w' => w'.cell? ⟨w1.heap.size + 2, 0, none⟩ = some (.slice (some ⟨w1.heap.size + 1, 0, none⟩) m m) ∧ w'.cell? ⟨w1.heap.size + 1, i, none⟩ = some (.int .i64 p) ∧ w'.cell? ⟨w1.heap.size + 1, z, none⟩ = some (.int .i64 y)) 13 (fun _ => True) 13 15 rfl (by kernel_rfl) ⟨⟨cpb, cpi, cpz⟩, trivial⟩ (fun hHeld => ?_)
              simp only [List.replicate_succ, List.replicate_zero]
              refine wpT_take 0 54 (v := ?_) hHeld.1 hHeld.2 rfl rfl (by kernel_rfl) (fun _ _ _ h => h) rfl ?_ ?_
              rotate_left
              · (intro w hSw; (try dsimp only at hSw); go_simp; try with_reducible rfl)
              try simp only [Act.put, List.setIfInBounds_toArray, List.set_cons_zero, List.set_cons_succ]
              refine wpT_take 1 55 (v := ?_) hHeld.1 hHeld.2 rfl rfl (by kernel_rfl) (fun _ _ _ h => h) rfl ?_ ?_
              rotate_left
              · (intro w hSw; (try dsimp only at hSw); go_simp; try with_reducible rfl)
              try simp only [Act.put, List.setIfInBounds_toArray, List.set_cons_zero, List.set_cons_succ]
              refine wpT_take 2 56 (v := ?_) hHeld.1 hHeld.2 rfl rfl (by kernel_rfl) (fun _ _ _ h => h) rfl ?_ ?_
              rotate_left
              · (intro w hSw; (try dsimp only at hSw); go_simp; try with_reducible rfl)
              try simp only [Act.put, List.setIfInBounds_toArray, List.set_cons_zero, List.set_cons_succ]
              refine wpT_take 3 57 (v := ?_) hHeld.1 hHeld.2 rfl rfl (by kernel_rfl) (fun _ _ _ h => h) rfl ?_ ?_
              rotate_left
              · (intro w hSw; (try dsimp only at hSw); go_simp; try with_reducible rfl)
              try simp only [Act.put, List.setIfInBounds_toArray, List.set_cons_zero, List.set_cons_succ]
              refine wpT_take 4 58 (v := ?_) hHeld.1 hHeld.2 rfl rfl (by kernel_rfl) (fun _ _ _ h => h) rfl ?_ ?_
              rotate_left
              · (intro w hSw; (try dsimp only at hSw); go_simp; try with_reducible rfl)
              try simp only [Act.put, List.setIfInBounds_toArray, List.set_cons_zero, List.set_cons_succ]
              refine wpT_take 5 59 (v := ?_) hHeld.1 hHeld.2 rfl rfl (by kernel_rfl) (fun _ _ _ h => h) rfl ?_ ?_
              rotate_left
              · (intro w hSw; (try dsimp only at hSw); go_simp; try with_reducible rfl)
              try simp only [Act.put, List.setIfInBounds_toArray, List.set_cons_zero, List.set_cons_succ]
              refine wpT_take 6 60 (v := ?_) hHeld.1 hHeld.2 rfl rfl (by kernel_rfl) (fun _ _ _ h => h) rfl ?_ ?_
              rotate_left
              · (intro w hSw; (try dsimp only at hSw); go_simp; try with_reducible rfl)
              try simp only [Act.put, List.setIfInBounds_toArray, List.set_cons_zero, List.set_cons_succ]
              refine wpT_take 7 61 (v := ?_) hHeld.1 hHeld.2 rfl rfl (by kernel_rfl) (fun _ _ _ h => h) rfl ?_ ?_
              rotate_left
              · (intro w hSw; (try dsimp only at hSw); go_simp; try with_reducible rfl)
              try simp only [Act.put, List.setIfInBounds_toArray, List.set_cons_zero, List.set_cons_succ]
              refine wpT_take 8 62 (v := ?_) hHeld.1 hHeld.2 rfl rfl (by kernel_rfl) (fun _ _ _ h => h) rfl ?_ ?_
              rotate_left
              · (intro w hSw; (try dsimp only at hSw); go_simp; try with_reducible rfl)
              try simp only [Act.put, List.setIfInBounds_toArray, List.set_cons_zero, List.set_cons_succ]
              refine wpT_take 9 63 (v := ?_) hHeld.1 hHeld.2 rfl rfl (by kernel_rfl) (fun _ _ _ h => h) rfl ?_ ?_
              rotate_left
              · (intro w hSw; (try dsimp only at hSw); go_simp; try with_reducible rfl)
              try simp only [Act.put, List.setIfInBounds_toArray, List.set_cons_zero, List.set_cons_succ]
              refine wpT_take 10 64 (v := ?_) hHeld.1 hHeld.2 rfl rfl (by kernel_rfl) (fun _ _ _ h => h) rfl ?_ ?_
              rotate_left
              · (intro w hSw; (try dsimp only at hSw); go_simp; try with_reducible rfl)
              try simp only [Act.put, List.setIfInBounds_toArray, List.set_cons_zero, List.set_cons_succ]
              refine wpT_take 11 65 (v := ?_) hHeld.1 hHeld.2 rfl rfl (by kernel_rfl) (fun _ _ _ h => h) rfl ?_ ?_
              rotate_left
              · (intro w hSw; (try dsimp only at hSw); go_simp; try with_reducible rfl)
              try simp only [Act.put, List.setIfInBounds_toArray, List.set_cons_zero, List.set_cons_succ]
              refine wpT_take 12 66 (v := ?_) hHeld.1 hHeld.2 rfl rfl (by kernel_rfl) (fun _ _ _ h => h) rfl ?_ ?_
              rotate_left
              · (intro w hSw; (try dsimp only at hSw); go_simp; try with_reducible rfl)
              try simp only [Act.put, List.setIfInBounds_toArray, List.set_cons_zero, List.set_cons_succ]
              refine wpT_tail [_, _] 13 [14] rfl (by kernel_rfl) ?_
              go_wp2_with fail
              go_roundw
              case rel => exact ⟨k + 1, h + wz, p, by go_num, rfl, by omega, by omega, by omega, HPO.out, HC6.out⟩
              case measure => simp [intOf]; omega
          · obtain rfl : k = T.length := by omega
            have cwi := HWI.out wr HCX.out.out
            have HPO := Lib.hid (show AdjR.peakOf pk ws own T 0 0 = max p (h + own) by
              rw [HPK.out, List.drop_length]; rfl)
            have q1 : IntKind.i64.wrap (h + own) = h + own := IntWalk.i64_in _ (by omega)
            have him : (i : Int) < (m : Int) := by omega
            have hi0 : (0 : Int) ≤ (i : Int) := by omega
            by_cases hgt : p < h + own
            · have hmax : max p (h + own) = h + own := by omega
              rw [hmax] at HPO
              have HC6 := Lib.hid (show Rm.Cl w w0 (some ⟨b2, off2, none⟩) c' bt bb m w1.heap.size (.slice A m c) (.slice (some ⟨b2, off2, none⟩) m c') gs cs (pk.set i (h + own)) F' (wr.setCell ⟨w1.heap.size + 1, i, none⟩ (.int .i64 (h + own))).drew by
                have h := HCX.out.set i (h + own)
                rw [List.set_set] at h
                exact h.below (Below.refl _ _).drew)
              obtain ⟨w6, hw6⟩ : ∃ w6, (wr.setCell ⟨w1.heap.size + 1, i, none⟩ (.int .i64 (h + own))).drew = w6 := ⟨_, rfl⟩
              rw [hw6] at HC6
              have HC7 := Lib.hid (show Rm.Cl w w0 (some ⟨b2, off2, none⟩) c' bt bb m w1.heap.size (.slice A m c) (.slice (some ⟨b2, off2, none⟩) m c') gs cs (AdjR.climbTo ab ws (i + 1)).1 (AdjR.climbTo ab ws (i + 1)).2 w6 by
                rw [HNX1.out, HNX2.out, HPO.out]; exact HC6.out)
              go_upto_region 16 with (fail)
              refine wp_region_T (fun w' => w'.cell? ⟨w1.heap.size + 2, 0, none⟩ = some (.slice (some ⟨w1.heap.size + 1, 0, none⟩) m m) ∧ w'.cell? ⟨w1.heap.size + 1, i, none⟩ = some (.int .i64 p) ∧ w'.cell? ⟨w.heap.size, 0, none⟩ = some (.slice (some ⟨b2, off2, none⟩) m c') ∧ w'.cell? ⟨b2, off2 + i, none⟩ = some (.int .i64 own)) 13 (fun _ => True) 13 15 rfl (by kernel_rfl) ⟨⟨cpb, cpi, cbo, cwi⟩, trivial⟩ (fun hHeld => ?_)
              simp only [List.replicate_succ, List.replicate_zero]
              refine wpT_take 0 75 (v := ?_) hHeld.1 hHeld.2 rfl rfl (by kernel_rfl) (fun _ _ _ h => h) rfl ?_ ?_
              rotate_left
              · (intro w hSw; (try dsimp only at hSw); go_simp; try with_reducible rfl)
              try simp only [Act.put, List.setIfInBounds_toArray, List.set_cons_zero, List.set_cons_succ]
              refine wpT_take 1 76 (v := ?_) hHeld.1 hHeld.2 rfl rfl (by kernel_rfl) (fun _ _ _ h => h) rfl ?_ ?_
              rotate_left
              · (intro w hSw; (try dsimp only at hSw); go_simp; try with_reducible rfl)
              try simp only [Act.put, List.setIfInBounds_toArray, List.set_cons_zero, List.set_cons_succ]
              refine wpT_take 2 77 (v := ?_) hHeld.1 hHeld.2 rfl rfl (by kernel_rfl) (fun _ _ _ h => h) rfl ?_ ?_
              rotate_left
              · (intro w hSw; (try dsimp only at hSw); go_simp; try with_reducible rfl)
              try simp only [Act.put, List.setIfInBounds_toArray, List.set_cons_zero, List.set_cons_succ]
              refine wpT_take 3 78 (v := ?_) hHeld.1 hHeld.2 rfl rfl (by kernel_rfl) (fun _ _ _ h => h) rfl ?_ ?_
              rotate_left
              · (intro w hSw; (try dsimp only at hSw); go_simp; try with_reducible rfl)
              try simp only [Act.put, List.setIfInBounds_toArray, List.set_cons_zero, List.set_cons_succ]
              refine wpT_take 4 79 (v := ?_) hHeld.1 hHeld.2 rfl rfl (by kernel_rfl) (fun _ _ _ h => h) rfl ?_ ?_
              rotate_left
              · (intro w hSw; (try dsimp only at hSw); go_simp; try with_reducible rfl)
              try simp only [Act.put, List.setIfInBounds_toArray, List.set_cons_zero, List.set_cons_succ]
              refine wpT_take 5 80 (v := ?_) hHeld.1 hHeld.2 rfl rfl (by kernel_rfl) (fun _ _ _ h => h) rfl ?_ ?_
              rotate_left
              · (intro w hSw; (try dsimp only at hSw); go_simp; try with_reducible rfl)
              try simp only [Act.put, List.setIfInBounds_toArray, List.set_cons_zero, List.set_cons_succ]
              refine wpT_take 6 81 (v := ?_) hHeld.1 hHeld.2 rfl rfl (by kernel_rfl) (fun _ _ _ h => h) rfl ?_ ?_
              rotate_left
              · (intro w hSw; (try dsimp only at hSw); go_simp; try with_reducible rfl)
              try simp only [Act.put, List.setIfInBounds_toArray, List.set_cons_zero, List.set_cons_succ]
              refine wpT_take 7 82 (v := ?_) hHeld.1 hHeld.2 rfl rfl (by kernel_rfl) (fun _ _ _ h => h) rfl ?_ ?_
              rotate_left
              · (intro w hSw; (try dsimp only at hSw); go_simp; try with_reducible rfl)
              try simp only [Act.put, List.setIfInBounds_toArray, List.set_cons_zero, List.set_cons_succ]
              refine wpT_take 8 83 (v := ?_) hHeld.1 hHeld.2 rfl rfl (by kernel_rfl) (fun _ _ _ h => h) rfl ?_ ?_
              rotate_left
              · (intro w hSw; (try dsimp only at hSw); go_simp; try with_reducible rfl)
              try simp only [Act.put, List.setIfInBounds_toArray, List.set_cons_zero, List.set_cons_succ]
              refine wpT_take 9 84 (v := ?_) hHeld.1 hHeld.2 rfl rfl (by kernel_rfl) (fun _ _ _ h => h) rfl ?_ ?_
              rotate_left
              · (intro w hSw; (try dsimp only at hSw); go_simp; try with_reducible rfl)
              try simp only [Act.put, List.setIfInBounds_toArray, List.set_cons_zero, List.set_cons_succ]
              refine wpT_take 10 85 (v := ?_) hHeld.1 hHeld.2 rfl rfl (by kernel_rfl) (fun _ _ _ h => h) rfl ?_ ?_
              rotate_left
              · (intro w hSw; (try dsimp only at hSw); go_simp; try with_reducible rfl)
              try simp only [Act.put, List.setIfInBounds_toArray, List.set_cons_zero, List.set_cons_succ]
              refine wpT_take 11 86 (v := ?_) hHeld.1 hHeld.2 rfl rfl (by kernel_rfl) (fun _ _ _ h => h) rfl ?_ ?_
              rotate_left
              · (intro w hSw; (try dsimp only at hSw); go_simp; try with_reducible rfl)
              try simp only [Act.put, List.setIfInBounds_toArray, List.set_cons_zero, List.set_cons_succ]
              refine wpT_take 12 87 (v := ?_) hHeld.1 hHeld.2 rfl rfl (by kernel_rfl) (fun _ _ _ h => h) rfl ?_ ?_
              rotate_left
              · (intro w hSw; (try dsimp only at hSw); go_simp; try with_reducible rfl)
              try simp only [Act.put, List.setIfInBounds_toArray, List.set_cons_zero, List.set_cons_succ]
              refine wpT_tail [_, _] 13 [14] rfl (by kernel_rfl) ?_
              go_wp2_with fail
              go_roundw
              case rel => exact ⟨i + 1, by go_num, by omega, HC7.out⟩
              case measure => simp [intOf]; omega
            · have hmax : max p (h + own) = p := by omega
              rw [hmax] at HPO
              have HC6 := Lib.hid (show Rm.Cl w w0 (some ⟨b2, off2, none⟩) c' bt bb m w1.heap.size (.slice A m c) (.slice (some ⟨b2, off2, none⟩) m c') gs cs (pk.set i p) F' (wr.setCell ⟨w1.heap.size + 1, i, none⟩ (.int .i64 p)).drew by
                have h := HCX.out.set i p
                rw [List.set_set] at h
                exact h.below (Below.refl _ _).drew)
              obtain ⟨w6, hw6⟩ : ∃ w6, (wr.setCell ⟨w1.heap.size + 1, i, none⟩ (.int .i64 p)).drew = w6 := ⟨_, rfl⟩
              rw [hw6] at HC6
              have HC7 := Lib.hid (show Rm.Cl w w0 (some ⟨b2, off2, none⟩) c' bt bb m w1.heap.size (.slice A m c) (.slice (some ⟨b2, off2, none⟩) m c') gs cs (AdjR.climbTo ab ws (i + 1)).1 (AdjR.climbTo ab ws (i + 1)).2 w6 by
                rw [HNX1.out, HNX2.out, HPO.out]; exact HC6.out)
              go_upto_region 16 with (fail)
              refine wp_region_T (fun w' => w'.cell? ⟨w1.heap.size + 2, 0, none⟩ = some (.slice (some ⟨w1.heap.size + 1, 0, none⟩) m m) ∧ w'.cell? ⟨w1.heap.size + 1, i, none⟩ = some (.int .i64 p) ∧ w'.cell? ⟨w.heap.size, 0, none⟩ = some (.slice (some ⟨b2, off2, none⟩) m c') ∧ w'.cell? ⟨b2, off2 + i, none⟩ = some (.int .i64 own)) 13 (fun _ => True) 13 15 rfl (by kernel_rfl) ⟨⟨cpb, cpi, cbo, cwi⟩, trivial⟩ (fun hHeld => ?_)
              simp only [List.replicate_succ, List.replicate_zero]
              refine wpT_take 0 75 (v := ?_) hHeld.1 hHeld.2 rfl rfl (by kernel_rfl) (fun _ _ _ h => h) rfl ?_ ?_
              rotate_left
              · (intro w hSw; (try dsimp only at hSw); go_simp; try with_reducible rfl)
              try simp only [Act.put, List.setIfInBounds_toArray, List.set_cons_zero, List.set_cons_succ]
              refine wpT_take 1 76 (v := ?_) hHeld.1 hHeld.2 rfl rfl (by kernel_rfl) (fun _ _ _ h => h) rfl ?_ ?_
              rotate_left
              · (intro w hSw; (try dsimp only at hSw); go_simp; try with_reducible rfl)
              try simp only [Act.put, List.setIfInBounds_toArray, List.set_cons_zero, List.set_cons_succ]
              refine wpT_take 2 77 (v := ?_) hHeld.1 hHeld.2 rfl rfl (by kernel_rfl) (fun _ _ _ h => h) rfl ?_ ?_
              rotate_left
              · (intro w hSw; (try dsimp only at hSw); go_simp; try with_reducible rfl)
              try simp only [Act.put, List.setIfInBounds_toArray, List.set_cons_zero, List.set_cons_succ]
              refine wpT_take 3 78 (v := ?_) hHeld.1 hHeld.2 rfl rfl (by kernel_rfl) (fun _ _ _ h => h) rfl ?_ ?_
              rotate_left
              · (intro w hSw; (try dsimp only at hSw); go_simp; try with_reducible rfl)
              try simp only [Act.put, List.setIfInBounds_toArray, List.set_cons_zero, List.set_cons_succ]
              refine wpT_take 4 79 (v := ?_) hHeld.1 hHeld.2 rfl rfl (by kernel_rfl) (fun _ _ _ h => h) rfl ?_ ?_
              rotate_left
              · (intro w hSw; (try dsimp only at hSw); go_simp; try with_reducible rfl)
              try simp only [Act.put, List.setIfInBounds_toArray, List.set_cons_zero, List.set_cons_succ]
              refine wpT_take 5 80 (v := ?_) hHeld.1 hHeld.2 rfl rfl (by kernel_rfl) (fun _ _ _ h => h) rfl ?_ ?_
              rotate_left
              · (intro w hSw; (try dsimp only at hSw); go_simp; try with_reducible rfl)
              try simp only [Act.put, List.setIfInBounds_toArray, List.set_cons_zero, List.set_cons_succ]
              refine wpT_take 6 81 (v := ?_) hHeld.1 hHeld.2 rfl rfl (by kernel_rfl) (fun _ _ _ h => h) rfl ?_ ?_
              rotate_left
              · (intro w hSw; (try dsimp only at hSw); go_simp; try with_reducible rfl)
              try simp only [Act.put, List.setIfInBounds_toArray, List.set_cons_zero, List.set_cons_succ]
              refine wpT_take 7 82 (v := ?_) hHeld.1 hHeld.2 rfl rfl (by kernel_rfl) (fun _ _ _ h => h) rfl ?_ ?_
              rotate_left
              · (intro w hSw; (try dsimp only at hSw); go_simp; try with_reducible rfl)
              try simp only [Act.put, List.setIfInBounds_toArray, List.set_cons_zero, List.set_cons_succ]
              refine wpT_take 8 83 (v := ?_) hHeld.1 hHeld.2 rfl rfl (by kernel_rfl) (fun _ _ _ h => h) rfl ?_ ?_
              rotate_left
              · (intro w hSw; (try dsimp only at hSw); go_simp; try with_reducible rfl)
              try simp only [Act.put, List.setIfInBounds_toArray, List.set_cons_zero, List.set_cons_succ]
              refine wpT_take 9 84 (v := ?_) hHeld.1 hHeld.2 rfl rfl (by kernel_rfl) (fun _ _ _ h => h) rfl ?_ ?_
              rotate_left
              · (intro w hSw; (try dsimp only at hSw); go_simp; try with_reducible rfl)
              try simp only [Act.put, List.setIfInBounds_toArray, List.set_cons_zero, List.set_cons_succ]
              refine wpT_take 10 85 (v := ?_) hHeld.1 hHeld.2 rfl rfl (by kernel_rfl) (fun _ _ _ h => h) rfl ?_ ?_
              rotate_left
              · (intro w hSw; (try dsimp only at hSw); go_simp; try with_reducible rfl)
              try simp only [Act.put, List.setIfInBounds_toArray, List.set_cons_zero, List.set_cons_succ]
              refine wpT_take 11 86 (v := ?_) hHeld.1 hHeld.2 rfl rfl (by kernel_rfl) (fun _ _ _ h => h) rfl ?_ ?_
              rotate_left
              · (intro w hSw; (try dsimp only at hSw); go_simp; try with_reducible rfl)
              try simp only [Act.put, List.setIfInBounds_toArray, List.set_cons_zero, List.set_cons_succ]
              refine wpT_take 12 87 (v := ?_) hHeld.1 hHeld.2 rfl rfl (by kernel_rfl) (fun _ _ _ h => h) rfl ?_ ?_
              rotate_left
              · (intro w hSw; (try dsimp only at hSw); go_simp; try with_reducible rfl)
              try simp only [Act.put, List.setIfInBounds_toArray, List.set_cons_zero, List.set_cons_succ]
              refine wpT_tail [_, _] 13 [14] rfl (by kernel_rfl) ?_
              go_wp2_with fail
              go_roundw
              case rel => exact ⟨i + 1, by go_num, by omega, HC7.out⟩
              case measure => simp [intOf]; omega
      · obtain rfl : i = m := by omega
        have HFL := Lib.hid (AdjR.climb_lt HT.out i)
        have HFN := Lib.hid (fun s (hs : s < i) => show ((AdjR.climbTo ab ws i).2 s).length ≤ 4096 by
          rw [(AdjR.climbTo_perm ab ws i s).length_eq]
          have := AdjR.belowTo_length ab ab.length s
          have := HN.out; omega)
        have HVN := Lib.hid (fun (s : Nat) (hs : s < i) => AdjR.visit_length' HT.out (AdjR.climbTo_perm ab ws i) (AdjR.climb_lt HT.out i) (fun _ _ => rfl) (i := s) (by have := HN.out; omega))
        have HCLI := Lib.hid (show AdjR.climb ab ws = if i = 0 then ([], 0, 0) else (AdjR.visit (AdjR.climbTo ab ws i).2 (i - 1) (i - 1), (AdjR.climbTo ab ws i).1.getD (i - 1) 0, 0) by
          unfold AdjR.climb
          rw [if_neg (by rw [HT.out]; decide), HN.out.1])
        generalize (AdjR.climbTo ab ws i).1 = pk at HCL HCLI
        generalize (AdjR.climbTo ab ws i).2 = F at HCL HCLI HFL HFN HVN
        have HBE := Lib.hid (show Below wr.heap.size wr ((wr.alloc (.cells #[.slice none 0 0] 22)).alloc (.cells #[.nilFunc] 57)) from ((Below.refl _ _).alloc (Nat.le_refl _) _).alloc (by simp) _)
        have HBO := Lib.hid ((Blk.new wr 22 #[.slice none 0 0]).alloc (.cells #[.nilFunc] 57))
        have HBV := Lib.hid (show Blk ((wr.alloc (.cells #[.slice none 0 0] 22)).alloc (.cells #[.nilFunc] 57)) (wr.heap.size + 1) 57 #[.nilFunc] by
          have h := Blk.new (wr.alloc (.cells #[.slice none 0 0] 22)) 57 #[.nilFunc]
          rwa [World.size_alloc] at h)
        obtain ⟨W2, hW2⟩ : ∃ W2, (wr.alloc (.cells #[.slice none 0 0] 22)).alloc (.cells #[.nilFunc] 57) = W2 := ⟨_, rfl⟩
        rw [hW2] at HBE HBO HBV
        have z1 : W2.cell? ⟨wr.heap.size + 1, 0, none⟩ = some .nilFunc := HBV.out.cell 0
        have z2 : W2.frozen? ⟨wr.heap.size + 1, 0, none⟩ = false := HBV.out.frozen 0
        have HBE3 := Lib.hid (HBE.out.setCell (p := ⟨wr.heap.size + 1, 0, none⟩) (by simp) (Rm.visitFn w1.heap.size (wr.heap.size + 1) wr.heap.size))
        have HBO3 := Lib.hid (HBO.out.far (p := ⟨wr.heap.size + 1, 0, none⟩) (by simp) (Rm.visitFn w1.heap.size (wr.heap.size + 1) wr.heap.size))
        have HBV3 := Lib.hid (show Blk (W2.setCell ⟨wr.heap.size + 1, 0, none⟩ (Rm.visitFn w1.heap.size (wr.heap.size + 1) wr.heap.size)) (wr.heap.size + 1) 57 #[Rm.visitFn w1.heap.size (wr.heap.size + 1) wr.heap.size] by
          simpa using HBV.out.set_ 0 (Rm.visitFn w1.heap.size (wr.heap.size + 1) wr.heap.size))
        obtain ⟨W3, hW3⟩ : ∃ W3, W2.setCell ⟨wr.heap.size + 1, 0, none⟩ (Rm.visitFn w1.heap.size (wr.heap.size + 1) wr.heap.size) = W3 := ⟨_, rfl⟩
        rw [hW3] at HBE3 HBO3 HBV3
        have z3 : W3.cell? ⟨wr.heap.size + 1, 0, none⟩ = some (Rm.visitFn w1.heap.size (wr.heap.size + 1) wr.heap.size) := HBV3.out.cell 0
        unfold Rm.visitFn at z3 hW3
        have HOD := Lib.hid (show Rm.Od wr w1.heap.size (wr.heap.size + 1) wr.heap.size [] W3 from ⟨HBE3.out, HBV3.out, ⟨_, HBO3.out, rfl, .inl ⟨rfl, rfl⟩⟩, by omega, Nat.le_refl _⟩)
        have HO3 := Lib.hid (HCL.out.out.trans (HBE3.out.mono HCL.out.out.size))
        by_cases hz : i = 0
        · have HR := Lib.hid (HCLI.out.trans (if_pos hz))
          subst hz
          go_wp2_with fail
          go_ret3
          rw [HR.out]
          exact ⟨_, rfl, HO3.out, _, ⟨_, rfl⟩, fun h => by simp [Adj.ints] at h⟩
        · have HR := Lib.hid (HCLI.out.trans (if_neg hz))
          have HVA := Lib.hid (visit_any w0 wr (.slice A i c) (.slice A' i c') bt bb i w1.heap.size (wr.heap.size + 1) wr.heap.size gs cs F hbig HFL.out HFN.out HCL.out.tp HCL.out.tree HCL.out.rows (i - 1) (by omega) [] W3 (by have := HVN.out (i - 1) (by omega); simp; omega) HOD.out)
          rw [show ((i - 1 : Nat) : Int) = (i : Int) - 1 from by omega] at HVA
          have cpbx := (HBE3.out.cell (cell_lt (HCL.out.pkb.cell 0))).trans (HCL.out.pkb.cell 0)
          go_wp2_with fail
          ((with_reducible refine HVA.out.mono ?_); rintro e w8 ⟨rfl, hod⟩)
          have HO8 := Lib.hid hod
          clear hod
          have HO9 := Lib.hid (HCL.out.out.trans (HO8.out.bel.mono HCL.out.out.size))
          obtain ⟨v, hv1, hv2⟩ := HO8.out.ord
          have cv : w8.cell? ⟨wr.heap.size, 0, none⟩ = some v := hv1.cell 0
          have cpb : w8.cell? ⟨w1.heap.size + 2, 0, none⟩ = some (.slice (some ⟨w1.heap.size + 1, 0, none⟩) i i) := (HO8.out.bel.cell (cell_lt (HCL.out.pkb.cell 0))).trans (HCL.out.pkb.cell 0)
          have cpe : w8.cell? ⟨w1.heap.size + 1, i - 1, none⟩ = some (.int .i64 (pk.getD (i - 1) 0)) := (HO8.out.bel.cell (cell_lt (HCL.out.peak (by omega)))).trans (HCL.out.peak (by omega))
          have HV2 := Lib.hid hv2
          have HPZ := Lib.hid (show (AdjR.climb ab ws).1 = AdjR.visit F (i - 1) (i - 1) from congrArg Prod.fst HR.out)
          have HPY := Lib.hid (show (AdjR.climb ab ws).2 = (pk.getD (i - 1) 0, 0) from congrArg Prod.snd HR.out)
          have hii : ((i : Int) - 1).toNat = i - 1 := by omega
          have hi1 : (i : Int) - 1 < (i : Int) := by omega
          have hi0 : (0 : Int) ≤ (i : Int) - 1 := by omega
          have hi2 : (1 : Int) ≤ (i : Int) := by omega
          have qw : IntKind.i64.wrap ((i : Int) - 1) = (i : Int) - 1 := IntWalk.i64_in _ (by omega)
          clear hv1 hv2
          go_wp2_with fail
          refine wp_region_T (fun w' => w'.cell? ⟨wr.heap.size, 0, none⟩ = some v ∧ w'.cell? ⟨w1.heap.size + 2, 0, none⟩ = some (.slice (some ⟨w1.heap.size + 1, 0, none⟩) i i) ∧ w'.cell? ⟨w1.heap.size + 1, i - 1, none⟩ = some (.int .i64 (pk.getD (i - 1) 0))) 8 (fun _ => True) 8 10 rfl (by kernel_rfl) ⟨⟨cv, cpb, cpe⟩, trivial⟩ (fun hHeld => ?_)
          simp only [List.replicate_succ, List.replicate_zero]
          refine wpT_take 0 99 (v := ?_) hHeld.1 hHeld.2 rfl rfl (by kernel_rfl) (fun _ _ _ h => h) rfl ?_ ?_
          rotate_left
          · (intro w hSw; (try dsimp only at hSw); go_simp; try with_reducible rfl)
          try simp only [Act.put, List.setIfInBounds_toArray, List.set_cons_zero, List.set_cons_succ]
          refine wpT_take 1 100 (v := ?_) hHeld.1 hHeld.2 rfl rfl (by kernel_rfl) (fun _ _ _ h => h) rfl ?_ ?_
          rotate_left
          · (intro w hSw; (try dsimp only at hSw); go_simp; try with_reducible rfl)
          try simp only [Act.put, List.setIfInBounds_toArray, List.set_cons_zero, List.set_cons_succ]
          refine wpT_take 2 101 (v := ?_) hHeld.1 hHeld.2 rfl rfl (by kernel_rfl) (fun _ _ _ h => h) rfl ?_ ?_
          rotate_left
          · (intro w hSw; (try dsimp only at hSw); go_simp; try with_reducible rfl)
          try simp only [Act.put, List.setIfInBounds_toArray, List.set_cons_zero, List.set_cons_succ]
          refine wpT_take 3 102 (v := ?_) hHeld.1 hHeld.2 rfl rfl (by kernel_rfl) (fun _ _ _ h => h) rfl ?_ ?_
          rotate_left
          · (intro w hSw; (try dsimp only at hSw); go_simp; try with_reducible rfl)
          try simp only [Act.put, List.setIfInBounds_toArray, List.set_cons_zero, List.set_cons_succ]
          refine wpT_take 4 103 (v := ?_) hHeld.1 hHeld.2 rfl rfl (by kernel_rfl) (fun _ _ _ h => h) rfl ?_ ?_
          rotate_left
          · (intro w hSw; (try dsimp only at hSw); go_simp; try with_reducible rfl)
          try simp only [Act.put, List.setIfInBounds_toArray, List.set_cons_zero, List.set_cons_succ]
          refine wpT_take 5 104 (v := ?_) hHeld.1 hHeld.2 rfl rfl (by kernel_rfl) (fun _ _ _ h => h) rfl ?_ ?_
          rotate_left
          · (intro w hSw; (try dsimp only at hSw); go_simp; try with_reducible rfl)
          try simp only [Act.put, List.setIfInBounds_toArray, List.set_cons_zero, List.set_cons_succ]
          refine wpT_take 6 105 (v := ?_) hHeld.1 hHeld.2 rfl rfl (by kernel_rfl) (fun _ _ _ h => h) rfl ?_ ?_
          rotate_left
          · (intro w hSw; (try dsimp only at hSw); go_simp; try with_reducible rfl)
          try simp only [Act.put, List.setIfInBounds_toArray, List.set_cons_zero, List.set_cons_succ]
          refine wpT_take 7 4 (v := ?_) hHeld.1 hHeld.2 rfl rfl (by kernel_rfl) (fun _ _ _ h => h) rfl ?_ ?_
          rotate_left
          · (intro w hSw; (try dsimp only at hSw); go_simp; try with_reducible rfl)
          try simp only [Act.put, List.setIfInBounds_toArray, List.set_cons_zero, List.set_cons_succ]
          refine wpT_tail [_, _] 8 [9] rfl (by kernel_rfl) ?_
          go_wp2_with fail
          go_ret3
          rw [HPZ.out, HPY.out]
          have hv2 := HV2.out
          rw [List.nil_append] at hv2
          obtain ⟨AO, cO, rfl⟩ : ∃ A c, v = .slice A (AdjR.visit F (i - 1) (i - 1)).length c := by
            rcases hv2.2 with ⟨e1, e2⟩ | ⟨g, cap, cur, e1, _⟩
            · exact ⟨none, 0, by rw [e1, e2]⟩
            · exact ⟨_, _, e1⟩
          exact ⟨_, rfl, HO9.out.drew, AO, cO, rfl, RowAt.of_own hv2⟩
  · have HR := Lib.hid (show AdjR.climb ab ws = ([], 0, AdjR.treeBad ab ws) by unfold AdjR.climb; rw [if_pos hbad])
    have cbx := HBX.out.cell 0
    generalize hw0 : w.alloc (.cells #[.slice A' m c'] 22) = w0 at HGR HW0 HBX hsz cbx
    clear hn hm h1 h2
    generalize AdjR.treeBad ab ws = t at hbad HGR HR
    have t0 : (t == 0) = false := by simpa using hbad
    go_enter Try.func11, Try.ntmps11
    go_wp2_with fail
    ((with_reducible refine HGR.out.mono ?_); rintro e w1 ⟨v, rfl, hb1, _, hv⟩)
    obtain rfl := hv hbad
    have HB1 := Lib.hid ((HW0.out.trans (hb1.mono (by omega))).alloc (by have := hb1.size; omega) (.cells #[.pointer none] 46))
    clear hb1 hw0 hv
    go_wp2_with fail
    all_goals first | (exfalso; simp at *; omega) | (go_ret3; rw [HR.out]; first | exact ⟨_, rfl, HB1.out, none, 0, rfl, IntsAt.nil⟩ | exact ⟨_, rfl, HB1.out, none, ⟨0, rfl⟩, IntsAt.nil⟩)
end Go.Proofs.Ytkopkicdmbnpgaa
