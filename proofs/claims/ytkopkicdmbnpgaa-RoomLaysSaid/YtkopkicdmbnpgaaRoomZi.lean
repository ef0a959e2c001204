/-
  The walk of the reference's free. Conditions: what lies can be read.
-/
import Derived.Test.YtkopkicdmbnpgaaRoomZh
import Derived.Test.YtkopkicdmbnpgaaHeldG
import Derived.Test.YtkopkicdmbnpgaaHeld3
import Derived.Test.YtkopkicdmbnpgaaRoomC
namespace Go.Proofs.Ytkopkicdmbnpgaa
set_option linter.unusedVariables false
open Go.RowKit Adj

namespace Ld
theorem free_no {l : List AdjL.Life} {out : List Int} {D : List Bool} {i : Nat} {p : Int} {n k : Nat} (hk : k < n) (h : AdjL.hits l out D i p k = true) : AdjL.freeTo l out D i p n = false := by
  cases hf : AdjL.freeTo l out D i p n with
  | false => rfl
  | true => rw [AdjL.freeTo_iff.1 hf k hk] at h; cases h
theorem free_yes {l : List AdjL.Life} {out : List Int} {D : List Bool} {i : Nat} {p : Int} {n : Nat} (h : ∀ k, k < n → AdjL.hits l out D i p k = false) : AdjL.freeTo l out D i p n = true := AdjL.freeTo_iff.2 h
end Ld

set_option maxRecDepth 100000 in
set_option maxHeartbeats 8000000 in
theorem free_any (w : World) (l : List AdjL.Life) (out : List Int) (D : List Bool) (A : Option Addr) (n c i go gl : Nat) (p : Int) (hn : l.length = n) (hbig : n ≤ 4096) (hok : ∀ x ∈ l, ¬ AdjL.bad x) (hi : i < n) (hp : 0 ≤ p ∧ p ≤ 8589934592) (hol : out.length = n) (hdl : D.length = n)
    (hor : ∀ k, k < n → 0 ≤ out.getD k 0 ∧ out.getD k 0 ≤ 8589934592) (h : IntsAt w w.heap.size A (AdjL.flat l)) (ho : Blk w go 3 (Adj.ints out).toArray) (hd : Blk w gl 4 (Rm.bools D).toArray) :
    Calls Try.prog 50 #[.slice A n c, .slice (some ⟨go, 0, none⟩) n n, .slice (some ⟨gl, 0, none⟩) n n, .int .i64 (i : Int), .int .i64 p] w fun e w' => e = .returned (.bool (AdjL.freeTo l out D i p n)) ∧ Below w.heap.size w w' := by
  have H := Lib.hid h
  have HN := Lib.hid hn
  have HOK := Lib.hid hok
  have HOL := Lib.hid hol
  have HDL := Lib.hid hdl
  have HOR := Lib.hid hor
  have HO := Lib.hid ho
  have HD := Lib.hid hd
  have HB0 := Lib.hid (Below.refl w.heap.size w)
  have hi0 : (0 : Int) ≤ (i : Int) := by omega
  have hin2 : (i : Int) < (n : Int) := by omega
  clear h hn hok hol hdl hor ho hd
  go_enter Try.func50, Try.ntmps50
  go_wp2_with fail
  go_loopw [15] (fun kv wr => ∃ k : Nat, kv = .int .i64 (k : Int) ∧ k ≤ n ∧ (∀ j, j < k → AdjL.hits l out D i p j = false) ∧ Below w.heap.size w wr) (fun kv _ => n - (intOf kv).toNat)
  case atStart => exact ⟨0, rfl, by omega, fun j hj => by omega, HB0.out⟩
  case round =>
    obtain ⟨k, rfl, hk, hno, hb⟩ := hrel
    have HNO := Lib.hid hno
    have HB := Lib.hid hb
    clear hno hb
    by_cases hkn : k < n
    · have hkl : k < l.length := by have := HN.out; omega
      have hil : i < l.length := by have := HN.out; omega
      have hg1 : AdjL.get l k = l[k] := by unfold AdjL.get; rw [List.getD_eq_getElem?_getD, List.getElem?_eq_getElem hkl]; rfl
      have hg2 : AdjL.get l i = l[i] := by unfold AdjL.get; rw [List.getD_eq_getElem?_getD, List.getElem?_eq_getElem hil]; rfl
      obtain ⟨b, off, rfl, hbb⟩ := Lv.spot H.out hkl
      obtain ⟨y1, y2, y3⟩ := Lv.cells H.out hkl
      obtain ⟨u1, u2, u3⟩ := Lv.cells H.out hil
      rw [← hg1] at y1 y2 y3
      rw [← hg2] at u1 u2 u3
      have c1 := (HB.out.cell (cell_lt y1)).trans y1
      have c2 := (HB.out.cell (cell_lt y2)).trans y2
      have c3 := (HB.out.cell (cell_lt y3)).trans y3
      have v1 := (HB.out.cell (cell_lt u1)).trans u1
      have v2 := (HB.out.cell (cell_lt u2)).trans u2
      have v3 := (HB.out.cell (cell_lt u3)).trans u3
      have co : wr.cell? ⟨go, k, none⟩ = some (.int .i64 (out.getD k 0)) := (HO.out.below HB.out HO.out.lt).at (by
        have h3 := ints_at out k (by rw [HOL.out]; exact hkn)
        rw [List.getD_eq_getElem?_getD, List.getElem?_eq_getElem (by rw [HOL.out]; exact hkn)]
        simpa using h3)
      have cd : wr.cell? ⟨gl, k, none⟩ = some (.bool (D.getD k false)) := (HD.out.below HB.out HD.out.lt).at (Rm.bools_at D k (by rw [HDL.out]; exact hkn))
      have hq := HOR.out k hkn
      have hbx : ¬ AdjL.bad (AdjL.get l k) := HOK.out _ (AdjL.get_mem hkl)
      have hby : ¬ AdjL.bad (AdjL.get l i) := HOK.out _ (AdjL.get_mem hil)
      have HHIT := Lib.hid (show AdjL.hits l out D i p k = (D.getD k false && AdjL.meet (AdjL.get l i) (AdjL.get l k) && decide (p < out.getD k 0 + (AdjL.get l k).w) && decide (out.getD k 0 < p + (AdjL.get l i).w)) from rfl)
      have HM := Lib.hid (fun W => meet_any W (AdjL.get l i) (AdjL.get l k))
      have HNX := Lib.hid (fun (h : AdjL.hits l out D i p k = false) => show ∀ j, j < k + 1 → AdjL.hits l out D i p j = false from fun j hj => by
        by_cases e : j = k
        · subst e; exact h
        · exact HNO.out j (by omega))
      have HST := Lib.hid (fun (h : AdjL.hits l out D i p k = true) => Ld.free_no hkn h)
      clear y1 y2 y3 u1 u2 u3 hg1 hg2
      generalize AdjL.get l k = x at c1 c2 c3 hbx HHIT HM
      generalize AdjL.get l i = y at v1 v2 v3 hby HHIT HM
      generalize out.getD k 0 = q at co hq HHIT
      generalize D.getD k false = d at cd HHIT
      generalize AdjL.meet y x = m at HHIT HM
      obtain ⟨f', t', z'⟩ := x
      obtain ⟨f, t, z⟩ := y
      unfold Lv.lifeV at HM
      simp only at c1 c2 c3 v1 v2 v3 HHIT HM
      have hbx2 : ¬ (f' < 0 ∨ t' < f' ∨ 1048576 < t' ∨ z' < 0 ∨ 1048576 < z') := hbx
      have hby2 : ¬ (f < 0 ∨ t < f ∨ 1048576 < t ∨ z < 0 ∨ 1048576 < z) := hby
      have HXB := Lib.hid (Blk.new wr 37 #[.int .i64 f', .int .i64 t', .int .i64 z'])
      have HB6 := Lib.hid (HB.out.alloc HB.out.size (.cells #[.int .i64 f', .int .i64 t', .int .i64 z'] 37))
      have hAL := fun a (h : a.block < wr.heap.size) => World.cell?_alloc_lt wr (.cells #[.int .i64 f', .int .i64 t', .int .i64 z'] 37) a h
      have w1 := (hAL ⟨b, off + i * 3, none⟩ (cell_lt v1)).trans v1
      have w2 := (hAL ⟨b, off + i * 3 + 1, none⟩ (cell_lt v2)).trans v2
      have w3 := (hAL ⟨b, off + i * 3 + 2, none⟩ (cell_lt v3)).trans v3
      have w4 := (hAL ⟨go, k, none⟩ (cell_lt co)).trans co
      have w5 := (hAL ⟨gl, k, none⟩ (cell_lt cd)).trans cd
      clear hAL
      obtain ⟨W6, hW6⟩ : ∃ W6, wr.alloc (.cells #[.int .i64 f', .int .i64 t', .int .i64 z'] 37) = W6 := ⟨_, rfl⟩
      rw [hW6] at HXB HB6 w1 w2 w3 w4 w5
      have x0 := HXB.out.cell 0
      have x1 := HXB.out.cell 1
      have x2 := HXB.out.cell 2
      have hk0 : (0 : Int) ≤ (k : Int) := by omega
      have hkn2 : (k : Int) < (n : Int) := by omega
      clear hbx hby
      have HV := Lib.hid (And.intro v1 (And.intro v2 (And.intro v3 (And.intro co cd))))
      clear v1 v2 v3 co cd
      have q1 : IntKind.i64.wrap (q + z') = q + z' := IntWalk.i64_in _ (by omega)
      have q2 : IntKind.i64.wrap (p + z) = p + z := IntWalk.i64_in _ (by omega)
      cases d with
      | false =>
        have HF := Lib.hid (HNX.out (by rw [HHIT.out]; rfl))
        go_wp2_with fail
        go_quiet (fail)
        have HB7 := Lib.hid (below_drewN HB6.out nq)
        generalize W6.drewN nq = W7 at HB7 ⊢
        go_wp2_with fail
        go_roundw
        case rel => exact ⟨k + 1, by go_num, by omega, HF.out, HB7.out⟩
        case measure => simp [intOf]; omega
      | true =>
        have HS := Lib.hid (show W6.drew.cell? ⟨b, off + i * 3, none⟩ = some (.int .i64 f) ∧ W6.drew.cell? ⟨b, off + i * 3 + 1, none⟩ = some (.int .i64 t) ∧ W6.drew.cell? ⟨b, off + i * 3 + 2, none⟩ = some (.int .i64 z) ∧ W6.drew.cell? ⟨wr.heap.size, 0, none⟩ = some (.int .i64 f') ∧ W6.drew.cell? ⟨wr.heap.size, 1, none⟩ = some (.int .i64 t') ∧ W6.drew.cell? ⟨wr.heap.size, 2, none⟩ = some (.int .i64 z') ∧ W6.drew.cell? ⟨gl, k, none⟩ = some (.bool true) ∧ W6.drew.cell? ⟨go, k, none⟩ = some (.int .i64 q) from ⟨w1, w2, w3, x0, x1, x2, w5, w4⟩)
        have HSK := Lib.hid (fun W7 (hb : Below W6.drew.heap.size W6.drew W7) => show W7.cell? ⟨b, off + i * 3, none⟩ = some (.int .i64 f) ∧ W7.cell? ⟨b, off + i * 3 + 1, none⟩ = some (.int .i64 t) ∧ W7.cell? ⟨b, off + i * 3 + 2, none⟩ = some (.int .i64 z) ∧ W7.cell? ⟨wr.heap.size, 0, none⟩ = some (.int .i64 f') ∧ W7.cell? ⟨wr.heap.size, 1, none⟩ = some (.int .i64 t') ∧ W7.cell? ⟨wr.heap.size, 2, none⟩ = some (.int .i64 z') ∧ W7.cell? ⟨gl, k, none⟩ = some (.bool true) ∧ W7.cell? ⟨go, k, none⟩ = some (.int .i64 q) from
          ⟨(hb.cell (cell_lt w1)).trans w1, (hb.cell (cell_lt w2)).trans w2, (hb.cell (cell_lt w3)).trans w3, (hb.cell (p := ⟨wr.heap.size, 0, none⟩) HXB.out.lt).trans x0, (hb.cell (p := ⟨wr.heap.size, 1, none⟩) HXB.out.lt).trans x1, (hb.cell (p := ⟨wr.heap.size, 2, none⟩) HXB.out.lt).trans x2, (hb.cell (cell_lt w5)).trans w5, (hb.cell (cell_lt w4)).trans w4⟩)
        clear w1 w2 w3 w4 w5 x0 x1 x2
        cases m with
        | false =>
          have HF := Lib.hid (HNX.out (by rw [HHIT.out]; rfl))
          go_wp2_with fail
          refine wp_region_T (fun w' => w'.cell? ⟨b, off + i * 3, none⟩ = some (.int .i64 f) ∧ w'.cell? ⟨b, off + i * 3 + 1, none⟩ = some (.int .i64 t) ∧ w'.cell? ⟨b, off + i * 3 + 2, none⟩ = some (.int .i64 z) ∧ w'.cell? ⟨wr.heap.size, 0, none⟩ = some (.int .i64 f') ∧ w'.cell? ⟨wr.heap.size, 1, none⟩ = some (.int .i64 t') ∧ w'.cell? ⟨wr.heap.size, 2, none⟩ = some (.int .i64 z') ∧ w'.cell? ⟨gl, k, none⟩ = some (.bool true) ∧ w'.cell? ⟨go, k, none⟩ = some (.int .i64 q)) 36 (fun _ => True) 36 37 rfl (by kernel_rfl) ⟨HS.out, trivial⟩ (fun hHeld => ?_)
          simp only [List.replicate_succ, List.replicate_zero]
          refine wpT_takeC [2, 3, 4, 11, 12, 22, 23] 0 20 (v := ?_) hHeld.1 hHeld.2 rfl rfl (by kernel_rfl) (fun _ _ _ h => h) (yields_yes rfl ?_) ?_
          rotate_left
          · (intro w hSw; (try dsimp only at hSw); go_simp; try with_reducible rfl)
          try simp only [Act.put, List.setIfInBounds_toArray, List.set_cons_zero, List.set_cons_succ]
          refine wpT_takeC [2, 3, 4, 11, 12, 22, 23] 1 21 (v := ?_) hHeld.1 hHeld.2 rfl rfl (by kernel_rfl) (fun _ _ _ h => h) (yields_yes rfl ?_) ?_
          rotate_left
          · (intro w hSw; (try dsimp only at hSw); go_simp; try with_reducible rfl)
          try simp only [Act.put, List.setIfInBounds_toArray, List.set_cons_zero, List.set_cons_succ]
          refine wpT_takeC [3, 4, 11, 12, 22, 23] 2 22 (v := ?_) hHeld.1 hHeld.2 rfl rfl (by kernel_rfl) (fun _ _ _ h => h) (yields_yes rfl ?_) ?_
          rotate_left
          · (intro w hSw; (try dsimp only at hSw); go_simp; try with_reducible rfl)
          try simp only [Act.put, List.setIfInBounds_toArray, List.set_cons_zero, List.set_cons_succ]
          refine wpT_takeC [4, 11, 12, 22, 23] 3 23 (v := ?_) hHeld.1 hHeld.2 rfl rfl (by kernel_rfl) (fun _ _ _ h => h) (yields_yes rfl ?_) ?_
          rotate_left
          · (intro w hSw; (try dsimp only at hSw); go_simp; try with_reducible rfl)
          try simp only [Act.put, List.setIfInBounds_toArray, List.set_cons_zero, List.set_cons_succ]
          refine wpT_takeC [11, 12, 22, 23] 4 24 (v := ?_) hHeld.1 hHeld.2 rfl rfl (by kernel_rfl) (fun _ _ _ h => h) (yields_yes rfl ?_) ?_
          rotate_left
          · (intro w hSw; (try dsimp only at hSw); go_simp; try with_reducible rfl)
          try simp only [Act.put, List.setIfInBounds_toArray, List.set_cons_zero, List.set_cons_succ]
          refine wpT_takeC [7, 8, 10, 11, 12, 22, 23] 5 25 (v := ?_) hHeld.1 hHeld.2 rfl rfl (by kernel_rfl) (fun _ _ _ h => h) (yields_yes rfl ?_) ?_
          rotate_left
          · (intro w hSw; (try dsimp only at hSw); go_simp; try with_reducible rfl)
          try simp only [Act.put, List.setIfInBounds_toArray, List.set_cons_zero, List.set_cons_succ]
          refine wpT_takeC [7, 8, 10, 11, 12, 22, 23] 6 26 (v := ?_) hHeld.1 hHeld.2 rfl rfl (by kernel_rfl) (fun _ _ _ h => h) (yields_yes rfl ?_) ?_
          rotate_left
          · (intro w hSw; (try dsimp only at hSw); go_simp; try with_reducible rfl)
          try simp only [Act.put, List.setIfInBounds_toArray, List.set_cons_zero, List.set_cons_succ]
          refine wpT_takeC [8, 10, 11, 12, 22, 23] 7 27 (v := ?_) hHeld.1 hHeld.2 rfl rfl (by kernel_rfl) (fun _ _ _ h => h) (yields_yes rfl ?_) ?_
          rotate_left
          · (intro w hSw; (try dsimp only at hSw); go_simp; try with_reducible rfl)
          try simp only [Act.put, List.setIfInBounds_toArray, List.set_cons_zero, List.set_cons_succ]
          refine wpT_takeC [10, 11, 12, 22, 23] 8 28 (v := ?_) hHeld.1 hHeld.2 rfl rfl (by kernel_rfl) (fun _ _ _ h => h) (yields_yes rfl ?_) ?_
          rotate_left
          · (intro w hSw; (try dsimp only at hSw); go_simp; try with_reducible rfl)
          try simp only [Act.put, List.setIfInBounds_toArray, List.set_cons_zero, List.set_cons_succ]
          refine wpT_takeC [10, 11, 12, 22, 23] 9 29 (v := ?_) hHeld.1 hHeld.2 rfl rfl (by kernel_rfl) (fun _ _ _ h => h) (yields_yes rfl ?_) ?_
          rotate_left
          · (intro w hSw; (try dsimp only at hSw); go_simp; try with_reducible rfl)
          try simp only [Act.put, List.setIfInBounds_toArray, List.set_cons_zero, List.set_cons_succ]
          refine wpT_one 10 (by kernel_rfl) (stepT_wanted rfl rfl (fun K hK => ?_))
          go_simp
          ((with_reducible refine (HM.out _).mono ?_); rintro e W7 ⟨rfl, hb⟩)
          have HB7 := Lib.hid (HB6.out.drew.trans (hb.mono HB6.out.drew.size))
          have HS7 := Lib.hid (HSK.out W7 hb)
          try go_simp
          refine hK.out _ _ ⟨HS7.out, trivial⟩ (fun hHeld2 => ?_)
          clear hK K hHeld hb
          have hHeld := hHeld2
          clear hHeld2
          try simp only [List.setIfInBounds_toArray, List.set_cons_zero, List.set_cons_succ]
          refine wpT_takeC [12, 22, 23] 11 31 (v := ?_) hHeld.1 hHeld.2 rfl rfl (by kernel_rfl) (fun _ _ _ h => h) (yields_yes rfl ?_) ?_
          rotate_left
          · (intro w hSw; (try dsimp only at hSw); go_simp; try with_reducible rfl)
          try simp only [Act.put, List.setIfInBounds_toArray, List.set_cons_zero, List.set_cons_succ]
          refine wpT_takeC [22, 23] 12 32 (v := ?_) hHeld.1 hHeld.2 rfl rfl (by kernel_rfl) (fun _ _ _ h => h) (yields_yes rfl ?_) ?_
          rotate_left
          · (intro w hSw; (try dsimp only at hSw); go_simp; try with_reducible rfl)
          try simp only [Act.put, List.setIfInBounds_toArray, List.set_cons_zero, List.set_cons_succ]
          refine wpT_takeC [21, 22, 23] 13 33 (v := undef) hHeld.1 hHeld.2 rfl rfl (by kernel_rfl) (fun _ _ _ h => h) (yields_not rfl) ?_
          try simp only [Act.put, List.setIfInBounds_toArray, List.set_cons_zero, List.set_cons_succ]
          refine wpT_takeC [16, 17, 20, 21, 22, 23] 14 34 (v := undef) hHeld.1 hHeld.2 rfl rfl (by kernel_rfl) (fun _ _ _ h => h) (yields_not rfl) ?_
          try simp only [Act.put, List.setIfInBounds_toArray, List.set_cons_zero, List.set_cons_succ]
          refine wpT_takeC [16, 17, 20, 21, 22, 23] 15 35 (v := undef) hHeld.1 hHeld.2 rfl rfl (by kernel_rfl) (fun _ _ _ h => h) (yields_not rfl) ?_
          try simp only [Act.put, List.setIfInBounds_toArray, List.set_cons_zero, List.set_cons_succ]
          refine wpT_takeC [17, 20, 21, 22, 23] 16 36 (v := undef) hHeld.1 hHeld.2 rfl rfl (by kernel_rfl) (fun _ _ _ h => h) (yields_not rfl) ?_
          try simp only [Act.put, List.setIfInBounds_toArray, List.set_cons_zero, List.set_cons_succ]
          refine wpT_takeC [20, 21, 22, 23] 17 37 (v := undef) hHeld.1 hHeld.2 rfl rfl (by kernel_rfl) (fun _ _ _ h => h) (yields_not rfl) ?_
          try simp only [Act.put, List.setIfInBounds_toArray, List.set_cons_zero, List.set_cons_succ]
          refine wpT_takeC [19, 20, 21, 22, 23] 18 38 (v := undef) hHeld.1 hHeld.2 rfl rfl (by kernel_rfl) (fun _ _ _ h => h) (yields_not rfl) ?_
          try simp only [Act.put, List.setIfInBounds_toArray, List.set_cons_zero, List.set_cons_succ]
          refine wpT_takeC [20, 21, 22, 23] 19 39 (v := undef) hHeld.1 hHeld.2 rfl rfl (by kernel_rfl) (fun _ _ _ h => h) (yields_not rfl) ?_
          try simp only [Act.put, List.setIfInBounds_toArray, List.set_cons_zero, List.set_cons_succ]
          refine wpT_takeC [21, 22, 23] 20 40 (v := undef) hHeld.1 hHeld.2 rfl rfl (by kernel_rfl) (fun _ _ _ h => h) (yields_not rfl) ?_
          try simp only [Act.put, List.setIfInBounds_toArray, List.set_cons_zero, List.set_cons_succ]
          refine wpT_takeC [22, 23] 21 41 (v := undef) hHeld.1 hHeld.2 rfl rfl (by kernel_rfl) (fun _ _ _ h => h) (yields_not rfl) ?_
          try simp only [Act.put, List.setIfInBounds_toArray, List.set_cons_zero, List.set_cons_succ]
          refine wpT_takeC [23] 22 42 (v := ?_) hHeld.1 hHeld.2 rfl rfl (by kernel_rfl) (fun _ _ _ h => h) (yields_yes rfl ?_) ?_
          rotate_left
          · (intro w hSw; (try dsimp only at hSw); go_simp; try with_reducible rfl)
          try simp only [Act.put, List.setIfInBounds_toArray, List.set_cons_zero, List.set_cons_succ]
          refine wpT_takeC [] 23 43 (v := ?_) hHeld.1 hHeld.2 rfl rfl (by kernel_rfl) (fun _ _ _ h => h) (yields_yes rfl ?_) ?_
          rotate_left
          · (intro w hSw; (try dsimp only at hSw); go_simp; try with_reducible rfl)
          try simp only [Act.put, List.setIfInBounds_toArray, List.set_cons_zero, List.set_cons_succ]
          refine wpT_takeC [26, 27, 35] 24 44 (v := undef) hHeld.1 hHeld.2 rfl rfl (by kernel_rfl) (fun _ _ _ h => h) (yields_not rfl) ?_
          try simp only [Act.put, List.setIfInBounds_toArray, List.set_cons_zero, List.set_cons_succ]
          refine wpT_takeC [26, 27, 35] 25 45 (v := undef) hHeld.1 hHeld.2 rfl rfl (by kernel_rfl) (fun _ _ _ h => h) (yields_not rfl) ?_
          try simp only [Act.put, List.setIfInBounds_toArray, List.set_cons_zero, List.set_cons_succ]
          refine wpT_takeC [27, 35] 26 46 (v := undef) hHeld.1 hHeld.2 rfl rfl (by kernel_rfl) (fun _ _ _ h => h) (yields_not rfl) ?_
          try simp only [Act.put, List.setIfInBounds_toArray, List.set_cons_zero, List.set_cons_succ]
          refine wpT_takeC [35] 27 47 (v := undef) hHeld.1 hHeld.2 rfl rfl (by kernel_rfl) (fun _ _ _ h => h) (yields_not rfl) ?_
          try simp only [Act.put, List.setIfInBounds_toArray, List.set_cons_zero, List.set_cons_succ]
          refine wpT_takeC [34, 35] 28 48 (v := undef) hHeld.1 hHeld.2 rfl rfl (by kernel_rfl) (fun _ _ _ h => h) (yields_not rfl) ?_
          try simp only [Act.put, List.setIfInBounds_toArray, List.set_cons_zero, List.set_cons_succ]
          refine wpT_takeC [31, 32, 33, 34, 35] 29 49 (v := undef) hHeld.1 hHeld.2 rfl rfl (by kernel_rfl) (fun _ _ _ h => h) (yields_not rfl) ?_
          try simp only [Act.put, List.setIfInBounds_toArray, List.set_cons_zero, List.set_cons_succ]
          refine wpT_takeC [31, 32, 33, 34, 35] 30 50 (v := undef) hHeld.1 hHeld.2 rfl rfl (by kernel_rfl) (fun _ _ _ h => h) (yields_not rfl) ?_
          try simp only [Act.put, List.setIfInBounds_toArray, List.set_cons_zero, List.set_cons_succ]
          refine wpT_takeC [32, 33, 34, 35] 31 51 (v := undef) hHeld.1 hHeld.2 rfl rfl (by kernel_rfl) (fun _ _ _ h => h) (yields_not rfl) ?_
          try simp only [Act.put, List.setIfInBounds_toArray, List.set_cons_zero, List.set_cons_succ]
          refine wpT_takeC [33, 34, 35] 32 52 (v := undef) hHeld.1 hHeld.2 rfl rfl (by kernel_rfl) (fun _ _ _ h => h) (yields_not rfl) ?_
          try simp only [Act.put, List.setIfInBounds_toArray, List.set_cons_zero, List.set_cons_succ]
          refine wpT_takeC [34, 35] 33 53 (v := undef) hHeld.1 hHeld.2 rfl rfl (by kernel_rfl) (fun _ _ _ h => h) (yields_not rfl) ?_
          try simp only [Act.put, List.setIfInBounds_toArray, List.set_cons_zero, List.set_cons_succ]
          refine wpT_takeC [35] 34 54 (v := undef) hHeld.1 hHeld.2 rfl rfl (by kernel_rfl) (fun _ _ _ h => h) (yields_not rfl) ?_
          try simp only [Act.put, List.setIfInBounds_toArray, List.set_cons_zero, List.set_cons_succ]
          refine wpT_takeC [] 35 55 (v := undef) hHeld.1 hHeld.2 rfl rfl (by kernel_rfl) (fun _ _ _ h => h) (yields_not rfl) ?_
          try simp only [Act.put, List.setIfInBounds_toArray, List.set_cons_zero, List.set_cons_succ]
          refine wpT_tail [_] 36 [] rfl (by kernel_rfl) ?_
          go_wp2_with fail
          go_roundw
          case rel => exact ⟨k + 1, by go_num, by omega, HF.out, HB7.out⟩
          case measure => simp [intOf]; omega
        | true =>
          by_cases e3 : p < q + z'
          · by_cases e4 : q < p + z
            · have HF := Lib.hid (HST.out (by rw [HHIT.out]; simp [e3, e4]))
              go_wp2_with fail
              refine wp_region_T (fun w' => w'.cell? ⟨b, off + i * 3, none⟩ = some (.int .i64 f) ∧ w'.cell? ⟨b, off + i * 3 + 1, none⟩ = some (.int .i64 t) ∧ w'.cell? ⟨b, off + i * 3 + 2, none⟩ = some (.int .i64 z) ∧ w'.cell? ⟨wr.heap.size, 0, none⟩ = some (.int .i64 f') ∧ w'.cell? ⟨wr.heap.size, 1, none⟩ = some (.int .i64 t') ∧ w'.cell? ⟨wr.heap.size, 2, none⟩ = some (.int .i64 z') ∧ w'.cell? ⟨gl, k, none⟩ = some (.bool true) ∧ w'.cell? ⟨go, k, none⟩ = some (.int .i64 q)) 36 (fun _ => True) 36 37 rfl (by kernel_rfl) ⟨HS.out, trivial⟩ (fun hHeld => ?_)
              simp only [List.replicate_succ, List.replicate_zero]
              refine wpT_takeC [2, 3, 4, 11, 12, 22, 23] 0 20 (v := ?_) hHeld.1 hHeld.2 rfl rfl (by kernel_rfl) (fun _ _ _ h => h) (yields_yes rfl ?_) ?_
              rotate_left
              · (intro w hSw; (try dsimp only at hSw); go_simp; try with_reducible rfl)
              try simp only [Act.put, List.setIfInBounds_toArray, List.set_cons_zero, List.set_cons_succ]
              refine wpT_takeC [2, 3, 4, 11, 12, 22, 23] 1 21 (v := ?_) hHeld.1 hHeld.2 rfl rfl (by kernel_rfl) (fun _ _ _ h => h) (yields_yes rfl ?_) ?_
              rotate_left
              · (intro w hSw; (try dsimp only at hSw); go_simp; try with_reducible rfl)
              try simp only [Act.put, List.setIfInBounds_toArray, List.set_cons_zero, List.set_cons_succ]
              refine wpT_takeC [3, 4, 11, 12, 22, 23] 2 22 (v := ?_) hHeld.1 hHeld.2 rfl rfl (by kernel_rfl) (fun _ _ _ h => h) (yields_yes rfl ?_) ?_
              rotate_left
              · (intro w hSw; (try dsimp only at hSw); go_simp; try with_reducible rfl)
              try simp only [Act.put, List.setIfInBounds_toArray, List.set_cons_zero, List.set_cons_succ]
              refine wpT_takeC [4, 11, 12, 22, 23] 3 23 (v := ?_) hHeld.1 hHeld.2 rfl rfl (by kernel_rfl) (fun _ _ _ h => h) (yields_yes rfl ?_) ?_
              rotate_left
              · (intro w hSw; (try dsimp only at hSw); go_simp; try with_reducible rfl)
              try simp only [Act.put, List.setIfInBounds_toArray, List.set_cons_zero, List.set_cons_succ]
              refine wpT_takeC [11, 12, 22, 23] 4 24 (v := ?_) hHeld.1 hHeld.2 rfl rfl (by kernel_rfl) (fun _ _ _ h => h) (yields_yes rfl ?_) ?_
              rotate_left
              · (intro w hSw; (try dsimp only at hSw); go_simp; try with_reducible rfl)
              try simp only [Act.put, List.setIfInBounds_toArray, List.set_cons_zero, List.set_cons_succ]
              refine wpT_takeC [7, 8, 10, 11, 12, 22, 23] 5 25 (v := ?_) hHeld.1 hHeld.2 rfl rfl (by kernel_rfl) (fun _ _ _ h => h) (yields_yes rfl ?_) ?_
              rotate_left
              · (intro w hSw; (try dsimp only at hSw); go_simp; try with_reducible rfl)
              try simp only [Act.put, List.setIfInBounds_toArray, List.set_cons_zero, List.set_cons_succ]
              refine wpT_takeC [7, 8, 10, 11, 12, 22, 23] 6 26 (v := ?_) hHeld.1 hHeld.2 rfl rfl (by kernel_rfl) (fun _ _ _ h => h) (yields_yes rfl ?_) ?_
              rotate_left
              · (intro w hSw; (try dsimp only at hSw); go_simp; try with_reducible rfl)
              try simp only [Act.put, List.setIfInBounds_toArray, List.set_cons_zero, List.set_cons_succ]
              refine wpT_takeC [8, 10, 11, 12, 22, 23] 7 27 (v := ?_) hHeld.1 hHeld.2 rfl rfl (by kernel_rfl) (fun _ _ _ h => h) (yields_yes rfl ?_) ?_
              rotate_left
              · (intro w hSw; (try dsimp only at hSw); go_simp; try with_reducible rfl)
              try simp only [Act.put, List.setIfInBounds_toArray, List.set_cons_zero, List.set_cons_succ]
              refine wpT_takeC [10, 11, 12, 22, 23] 8 28 (v := ?_) hHeld.1 hHeld.2 rfl rfl (by kernel_rfl) (fun _ _ _ h => h) (yields_yes rfl ?_) ?_
              rotate_left
              · (intro w hSw; (try dsimp only at hSw); go_simp; try with_reducible rfl)
              try simp only [Act.put, List.setIfInBounds_toArray, List.set_cons_zero, List.set_cons_succ]
              refine wpT_takeC [10, 11, 12, 22, 23] 9 29 (v := ?_) hHeld.1 hHeld.2 rfl rfl (by kernel_rfl) (fun _ _ _ h => h) (yields_yes rfl ?_) ?_
              rotate_left
              · (intro w hSw; (try dsimp only at hSw); go_simp; try with_reducible rfl)
              try simp only [Act.put, List.setIfInBounds_toArray, List.set_cons_zero, List.set_cons_succ]
              refine wpT_one 10 (by kernel_rfl) (stepT_wanted rfl rfl (fun K hK => ?_))
              go_simp
              ((with_reducible refine (HM.out _).mono ?_); rintro e W7 ⟨rfl, hb⟩)
              have HB7 := Lib.hid (HB6.out.drew.trans (hb.mono HB6.out.drew.size))
              have HS7 := Lib.hid (HSK.out W7 hb)
              try go_simp
              refine hK.out _ _ ⟨HS7.out, trivial⟩ (fun hHeld2 => ?_)
              clear hK K hHeld hb
              have hHeld := hHeld2
              clear hHeld2
              try simp only [List.setIfInBounds_toArray, List.set_cons_zero, List.set_cons_succ]
              refine wpT_takeC [12, 22, 23] 11 31 (v := ?_) hHeld.1 hHeld.2 rfl rfl (by kernel_rfl) (fun _ _ _ h => h) (yields_yes rfl ?_) ?_
              rotate_left
              · (intro w hSw; (try dsimp only at hSw); go_simp; try with_reducible rfl)
              try simp only [Act.put, List.setIfInBounds_toArray, List.set_cons_zero, List.set_cons_succ]
              refine wpT_takeC [22, 23] 12 32 (v := ?_) hHeld.1 hHeld.2 rfl rfl (by kernel_rfl) (fun _ _ _ h => h) (yields_yes rfl ?_) ?_
              rotate_left
              · (intro w hSw; (try dsimp only at hSw); go_simp; try with_reducible rfl)
              try simp only [Act.put, List.setIfInBounds_toArray, List.set_cons_zero, List.set_cons_succ]
              refine wpT_takeC [21, 22, 23] 13 33 (v := ?_) hHeld.1 hHeld.2 rfl rfl (by kernel_rfl) (fun _ _ _ h => h) (yields_yes rfl ?_) ?_
              rotate_left
              · (intro w hSw; (try dsimp only at hSw); go_simp; try with_reducible rfl)
              try simp only [Act.put, List.setIfInBounds_toArray, List.set_cons_zero, List.set_cons_succ]
              refine wpT_takeC [16, 17, 20, 21, 22, 23] 14 34 (v := ?_) hHeld.1 hHeld.2 rfl rfl (by kernel_rfl) (fun _ _ _ h => h) (yields_yes rfl ?_) ?_
              rotate_left
              · (intro w hSw; (try dsimp only at hSw); go_simp; try with_reducible rfl)
              try simp only [Act.put, List.setIfInBounds_toArray, List.set_cons_zero, List.set_cons_succ]
              refine wpT_takeC [16, 17, 20, 21, 22, 23] 15 35 (v := ?_) hHeld.1 hHeld.2 rfl rfl (by kernel_rfl) (fun _ _ _ h => h) (yields_yes rfl ?_) ?_
              rotate_left
              · (intro w hSw; (try dsimp only at hSw); go_simp; try with_reducible rfl)
              try simp only [Act.put, List.setIfInBounds_toArray, List.set_cons_zero, List.set_cons_succ]
              refine wpT_takeC [17, 20, 21, 22, 23] 16 36 (v := ?_) hHeld.1 hHeld.2 rfl rfl (by kernel_rfl) (fun _ _ _ h => h) (yields_yes rfl ?_) ?_
              rotate_left
              · (intro w hSw; (try dsimp only at hSw); go_simp; try with_reducible rfl)
              try simp only [Act.put, List.setIfInBounds_toArray, List.set_cons_zero, List.set_cons_succ]
              refine wpT_takeC [20, 21, 22, 23] 17 37 (v := ?_) hHeld.1 hHeld.2 rfl rfl (by kernel_rfl) (fun _ _ _ h => h) (yields_yes rfl ?_) ?_
              rotate_left
              · (intro w hSw; (try dsimp only at hSw); go_simp; try with_reducible rfl)
              try simp only [Act.put, List.setIfInBounds_toArray, List.set_cons_zero, List.set_cons_succ]
              refine wpT_takeC [19, 20, 21, 22, 23] 18 38 (v := ?_) hHeld.1 hHeld.2 rfl rfl (by kernel_rfl) (fun _ _ _ h => h) (yields_yes rfl ?_) ?_
              rotate_left
              · (intro w hSw; (try dsimp only at hSw); go_simp; try with_reducible rfl)
              try simp only [Act.put, List.setIfInBounds_toArray, List.set_cons_zero, List.set_cons_succ]
              refine wpT_takeC [20, 21, 22, 23] 19 39 (v := ?_) hHeld.1 hHeld.2 rfl rfl (by kernel_rfl) (fun _ _ _ h => h) (yields_yes rfl ?_) ?_
              rotate_left
              · (intro w hSw; (try dsimp only at hSw); go_simp; try with_reducible rfl)
              try simp only [Act.put, List.setIfInBounds_toArray, List.set_cons_zero, List.set_cons_succ]
              refine wpT_takeC [21, 22, 23] 20 40 (v := ?_) hHeld.1 hHeld.2 rfl rfl (by kernel_rfl) (fun _ _ _ h => h) (yields_yes rfl ?_) ?_
              rotate_left
              · (intro w hSw; (try dsimp only at hSw); go_simp; try with_reducible rfl)
              try simp only [Act.put, List.setIfInBounds_toArray, List.set_cons_zero, List.set_cons_succ]
              refine wpT_takeC [22, 23] 21 41 (v := ?_) hHeld.1 hHeld.2 rfl rfl (by kernel_rfl) (fun _ _ _ h => h) (yields_yes rfl ?_) ?_
              rotate_left
              · (intro w hSw; (try dsimp only at hSw); go_simp; try with_reducible rfl)
              try simp only [Act.put, List.setIfInBounds_toArray, List.set_cons_zero, List.set_cons_succ]
              refine wpT_takeC [23] 22 42 (v := ?_) hHeld.1 hHeld.2 rfl rfl (by kernel_rfl) (fun _ _ _ h => h) (yields_yes rfl ?_) ?_
              rotate_left
              · (intro w hSw; (try dsimp only at hSw); go_simp; try with_reducible rfl)
              try simp only [Act.put, List.setIfInBounds_toArray, List.set_cons_zero, List.set_cons_succ]
              refine wpT_takeC [] 23 43 (v := ?_) hHeld.1 hHeld.2 rfl rfl (by kernel_rfl) (fun _ _ _ h => h) (yields_yes rfl ?_) ?_
              rotate_left
              · (intro w hSw; (try dsimp only at hSw); go_simp; try with_reducible rfl)
              try simp only [Act.put, List.setIfInBounds_toArray, List.set_cons_zero, List.set_cons_succ]
              refine wpT_takeC [26, 27, 35] 24 44 (v := ?_) hHeld.1 hHeld.2 rfl rfl (by kernel_rfl) (fun _ _ _ h => h) (yields_yes rfl ?_) ?_
              rotate_left
              · (intro w hSw; (try dsimp only at hSw); go_simp; try with_reducible rfl)
              try simp only [Act.put, List.setIfInBounds_toArray, List.set_cons_zero, List.set_cons_succ]
              refine wpT_takeC [26, 27, 35] 25 45 (v := ?_) hHeld.1 hHeld.2 rfl rfl (by kernel_rfl) (fun _ _ _ h => h) (yields_yes rfl ?_) ?_
              rotate_left
              · (intro w hSw; (try dsimp only at hSw); go_simp; try with_reducible rfl)
              try simp only [Act.put, List.setIfInBounds_toArray, List.set_cons_zero, List.set_cons_succ]
              refine wpT_takeC [27, 35] 26 46 (v := ?_) hHeld.1 hHeld.2 rfl rfl (by kernel_rfl) (fun _ _ _ h => h) (yields_yes rfl ?_) ?_
              rotate_left
              · (intro w hSw; (try dsimp only at hSw); go_simp; try with_reducible rfl)
              try simp only [Act.put, List.setIfInBounds_toArray, List.set_cons_zero, List.set_cons_succ]
              refine wpT_takeC [35] 27 47 (v := ?_) hHeld.1 hHeld.2 rfl rfl (by kernel_rfl) (fun _ _ _ h => h) (yields_yes rfl ?_) ?_
              rotate_left
              · (intro w hSw; (try dsimp only at hSw); go_simp; try with_reducible rfl)
              try simp only [Act.put, List.setIfInBounds_toArray, List.set_cons_zero, List.set_cons_succ]
              refine wpT_takeC [34, 35] 28 48 (v := ?_) hHeld.1 hHeld.2 rfl rfl (by kernel_rfl) (fun _ _ _ h => h) (yields_yes rfl ?_) ?_
              rotate_left
              · (intro w hSw; (try dsimp only at hSw); go_simp; try with_reducible rfl)
              try simp only [Act.put, List.setIfInBounds_toArray, List.set_cons_zero, List.set_cons_succ]
              refine wpT_takeC [31, 32, 33, 34, 35] 29 49 (v := ?_) hHeld.1 hHeld.2 rfl rfl (by kernel_rfl) (fun _ _ _ h => h) (yields_yes rfl ?_) ?_
              rotate_left
              · (intro w hSw; (try dsimp only at hSw); go_simp; try with_reducible rfl)
              try simp only [Act.put, List.setIfInBounds_toArray, List.set_cons_zero, List.set_cons_succ]
              refine wpT_takeC [31, 32, 33, 34, 35] 30 50 (v := ?_) hHeld.1 hHeld.2 rfl rfl (by kernel_rfl) (fun _ _ _ h => h) (yields_yes rfl ?_) ?_
              rotate_left
              · (intro w hSw; (try dsimp only at hSw); go_simp; try with_reducible rfl)
              try simp only [Act.put, List.setIfInBounds_toArray, List.set_cons_zero, List.set_cons_succ]
              refine wpT_takeC [32, 33, 34, 35] 31 51 (v := ?_) hHeld.1 hHeld.2 rfl rfl (by kernel_rfl) (fun _ _ _ h => h) (yields_yes rfl ?_) ?_
              rotate_left
              · (intro w hSw; (try dsimp only at hSw); go_simp; try with_reducible rfl)
              try simp only [Act.put, List.setIfInBounds_toArray, List.set_cons_zero, List.set_cons_succ]
              refine wpT_takeC [33, 34, 35] 32 52 (v := ?_) hHeld.1 hHeld.2 rfl rfl (by kernel_rfl) (fun _ _ _ h => h) (yields_yes rfl ?_) ?_
              rotate_left
              · (intro w hSw; (try dsimp only at hSw); go_simp; try with_reducible rfl)
              try simp only [Act.put, List.setIfInBounds_toArray, List.set_cons_zero, List.set_cons_succ]
              refine wpT_takeC [34, 35] 33 53 (v := ?_) hHeld.1 hHeld.2 rfl rfl (by kernel_rfl) (fun _ _ _ h => h) (yields_yes rfl ?_) ?_
              rotate_left
              · (intro w hSw; (try dsimp only at hSw); go_simp; try with_reducible rfl)
              try simp only [Act.put, List.setIfInBounds_toArray, List.set_cons_zero, List.set_cons_succ]
              refine wpT_takeC [35] 34 54 (v := ?_) hHeld.1 hHeld.2 rfl rfl (by kernel_rfl) (fun _ _ _ h => h) (yields_yes rfl ?_) ?_
              rotate_left
              · (intro w hSw; (try dsimp only at hSw); go_simp; try with_reducible rfl)
              try simp only [Act.put, List.setIfInBounds_toArray, List.set_cons_zero, List.set_cons_succ]
              refine wpT_takeC [] 35 55 (v := ?_) hHeld.1 hHeld.2 rfl rfl (by kernel_rfl) (fun _ _ _ h => h) (yields_yes rfl ?_) ?_
              rotate_left
              · (intro w hSw; (try dsimp only at hSw); go_simp; try with_reducible rfl)
              try simp only [Act.put, List.setIfInBounds_toArray, List.set_cons_zero, List.set_cons_succ]
              refine wpT_tail [_] 36 [] rfl (by kernel_rfl) ?_
              go_wp2_with fail
              go_ret
              exact ⟨by rw [HF.out]; rfl, HB7.out⟩
            · have HF := Lib.hid (HNX.out (by rw [HHIT.out]; simp [e3, e4]))
              have d4 : decide (q < p + z) = false := by simpa using e4
              go_wp2_with fail
              refine wp_region_T (fun w' => w'.cell? ⟨b, off + i * 3, none⟩ = some (.int .i64 f) ∧ w'.cell? ⟨b, off + i * 3 + 1, none⟩ = some (.int .i64 t) ∧ w'.cell? ⟨b, off + i * 3 + 2, none⟩ = some (.int .i64 z) ∧ w'.cell? ⟨wr.heap.size, 0, none⟩ = some (.int .i64 f') ∧ w'.cell? ⟨wr.heap.size, 1, none⟩ = some (.int .i64 t') ∧ w'.cell? ⟨wr.heap.size, 2, none⟩ = some (.int .i64 z') ∧ w'.cell? ⟨gl, k, none⟩ = some (.bool true) ∧ w'.cell? ⟨go, k, none⟩ = some (.int .i64 q)) 36 (fun _ => True) 36 37 rfl (by kernel_rfl) ⟨HS.out, trivial⟩ (fun hHeld => ?_)
              simp only [List.replicate_succ, List.replicate_zero]
              refine wpT_takeC [2, 3, 4, 11, 12, 22, 23] 0 20 (v := ?_) hHeld.1 hHeld.2 rfl rfl (by kernel_rfl) (fun _ _ _ h => h) (yields_yes rfl ?_) ?_
              rotate_left
              · (intro w hSw; (try dsimp only at hSw); go_simp; try with_reducible rfl)
              try simp only [Act.put, List.setIfInBounds_toArray, List.set_cons_zero, List.set_cons_succ]
              refine wpT_takeC [2, 3, 4, 11, 12, 22, 23] 1 21 (v := ?_) hHeld.1 hHeld.2 rfl rfl (by kernel_rfl) (fun _ _ _ h => h) (yields_yes rfl ?_) ?_
              rotate_left
              · (intro w hSw; (try dsimp only at hSw); go_simp; try with_reducible rfl)
              try simp only [Act.put, List.setIfInBounds_toArray, List.set_cons_zero, List.set_cons_succ]
              refine wpT_takeC [3, 4, 11, 12, 22, 23] 2 22 (v := ?_) hHeld.1 hHeld.2 rfl rfl (by kernel_rfl) (fun _ _ _ h => h) (yields_yes rfl ?_) ?_
              rotate_left
              · (intro w hSw; (try dsimp only at hSw); go_simp; try with_reducible rfl)
              try simp only [Act.put, List.setIfInBounds_toArray, List.set_cons_zero, List.set_cons_succ]
              refine wpT_takeC [4, 11, 12, 22, 23] 3 23 (v := ?_) hHeld.1 hHeld.2 rfl rfl (by kernel_rfl) (fun _ _ _ h => h) (yields_yes rfl ?_) ?_
              rotate_left
              · (intro w hSw; (try dsimp only at hSw); go_simp; try with_reducible rfl)
              try simp only [Act.put, List.setIfInBounds_toArray, List.set_cons_zero, List.set_cons_succ]
              refine wpT_takeC [11, 12, 22, 23] 4 24 (v := ?_) hHeld.1 hHeld.2 rfl rfl (by kernel_rfl) (fun _ _ _ h => h) (yields_yes rfl ?_) ?_
              rotate_left
              · (intro w hSw; (try dsimp only at hSw); go_simp; try with_reducible rfl)
              try simp only [Act.put, List.setIfInBounds_toArray, List.set_cons_zero, List.set_cons_succ]
              refine wpT_takeC [7, 8, 10, 11, 12, 22, 23] 5 25 (v := ?_) hHeld.1 hHeld.2 rfl rfl (by kernel_rfl) (fun _ _ _ h => h) (yields_yes rfl ?_) ?_
              rotate_left
              · (intro w hSw; (try dsimp only at hSw); go_simp; try with_reducible rfl)
              try simp only [Act.put, List.setIfInBounds_toArray, List.set_cons_zero, List.set_cons_succ]
              refine wpT_takeC [7, 8, 10, 11, 12, 22, 23] 6 26 (v := ?_) hHeld.1 hHeld.2 rfl rfl (by kernel_rfl) (fun _ _ _ h => h) (yields_yes rfl ?_) ?_
              rotate_left
              · (intro w hSw; (try dsimp only at hSw); go_simp; try with_reducible rfl)
              try simp only [Act.put, List.setIfInBounds_toArray, List.set_cons_zero, List.set_cons_succ]
              refine wpT_takeC [8, 10, 11, 12, 22, 23] 7 27 (v := ?_) hHeld.1 hHeld.2 rfl rfl (by kernel_rfl) (fun _ _ _ h => h) (yields_yes rfl ?_) ?_
              rotate_left
              · (intro w hSw; (try dsimp only at hSw); go_simp; try with_reducible rfl)
              try simp only [Act.put, List.setIfInBounds_toArray, List.set_cons_zero, List.set_cons_succ]
              refine wpT_takeC [10, 11, 12, 22, 23] 8 28 (v := ?_) hHeld.1 hHeld.2 rfl rfl (by kernel_rfl) (fun _ _ _ h => h) (yields_yes rfl ?_) ?_
              rotate_left
              · (intro w hSw; (try dsimp only at hSw); go_simp; try with_reducible rfl)
              try simp only [Act.put, List.setIfInBounds_toArray, List.set_cons_zero, List.set_cons_succ]
              refine wpT_takeC [10, 11, 12, 22, 23] 9 29 (v := ?_) hHeld.1 hHeld.2 rfl rfl (by kernel_rfl) (fun _ _ _ h => h) (yields_yes rfl ?_) ?_
              rotate_left
              · (intro w hSw; (try dsimp only at hSw); go_simp; try with_reducible rfl)
              try simp only [Act.put, List.setIfInBounds_toArray, List.set_cons_zero, List.set_cons_succ]
              refine wpT_one 10 (by kernel_rfl) (stepT_wanted rfl rfl (fun K hK => ?_))
              go_simp
              ((with_reducible refine (HM.out _).mono ?_); rintro e W7 ⟨rfl, hb⟩)
              have HB7 := Lib.hid (HB6.out.drew.trans (hb.mono HB6.out.drew.size))
              have HS7 := Lib.hid (HSK.out W7 hb)
              try go_simp
              refine hK.out _ _ ⟨HS7.out, trivial⟩ (fun hHeld2 => ?_)
              clear hK K hHeld hb
              have hHeld := hHeld2
              clear hHeld2
              try simp only [List.setIfInBounds_toArray, List.set_cons_zero, List.set_cons_succ]
              refine wpT_takeC [12, 22, 23] 11 31 (v := ?_) hHeld.1 hHeld.2 rfl rfl (by kernel_rfl) (fun _ _ _ h => h) (yields_yes rfl ?_) ?_
              rotate_left
              · (intro w hSw; (try dsimp only at hSw); go_simp; try with_reducible rfl)
              try simp only [Act.put, List.setIfInBounds_toArray, List.set_cons_zero, List.set_cons_succ]
              refine wpT_takeC [22, 23] 12 32 (v := ?_) hHeld.1 hHeld.2 rfl rfl (by kernel_rfl) (fun _ _ _ h => h) (yields_yes rfl ?_) ?_
              rotate_left
              · (intro w hSw; (try dsimp only at hSw); go_simp; try with_reducible rfl)
              try simp only [Act.put, List.setIfInBounds_toArray, List.set_cons_zero, List.set_cons_succ]
              refine wpT_takeC [21, 22, 23] 13 33 (v := ?_) hHeld.1 hHeld.2 rfl rfl (by kernel_rfl) (fun _ _ _ h => h) (yields_yes rfl ?_) ?_
              rotate_left
              · (intro w hSw; (try dsimp only at hSw); go_simp; try with_reducible rfl)
              try simp only [Act.put, List.setIfInBounds_toArray, List.set_cons_zero, List.set_cons_succ]
              refine wpT_takeC [16, 17, 20, 21, 22, 23] 14 34 (v := ?_) hHeld.1 hHeld.2 rfl rfl (by kernel_rfl) (fun _ _ _ h => h) (yields_yes rfl ?_) ?_
              rotate_left
              · (intro w hSw; (try dsimp only at hSw); go_simp; try with_reducible rfl)
              try simp only [Act.put, List.setIfInBounds_toArray, List.set_cons_zero, List.set_cons_succ]
              refine wpT_takeC [16, 17, 20, 21, 22, 23] 15 35 (v := ?_) hHeld.1 hHeld.2 rfl rfl (by kernel_rfl) (fun _ _ _ h => h) (yields_yes rfl ?_) ?_
              rotate_left
              · (intro w hSw; (try dsimp only at hSw); go_simp; try with_reducible rfl)
              try simp only [Act.put, List.setIfInBounds_toArray, List.set_cons_zero, List.set_cons_succ]
              refine wpT_takeC [17, 20, 21, 22, 23] 16 36 (v := ?_) hHeld.1 hHeld.2 rfl rfl (by kernel_rfl) (fun _ _ _ h => h) (yields_yes rfl ?_) ?_
              rotate_left
              · (intro w hSw; (try dsimp only at hSw); go_simp; try with_reducible rfl)
              try simp only [Act.put, List.setIfInBounds_toArray, List.set_cons_zero, List.set_cons_succ]
              refine wpT_takeC [20, 21, 22, 23] 17 37 (v := ?_) hHeld.1 hHeld.2 rfl rfl (by kernel_rfl) (fun _ _ _ h => h) (yields_yes rfl ?_) ?_
              rotate_left
              · (intro w hSw; (try dsimp only at hSw); go_simp; try with_reducible rfl)
              try simp only [Act.put, List.setIfInBounds_toArray, List.set_cons_zero, List.set_cons_succ]
              refine wpT_takeC [19, 20, 21, 22, 23] 18 38 (v := ?_) hHeld.1 hHeld.2 rfl rfl (by kernel_rfl) (fun _ _ _ h => h) (yields_yes rfl ?_) ?_
              rotate_left
              · (intro w hSw; (try dsimp only at hSw); go_simp; try with_reducible rfl)
              try simp only [Act.put, List.setIfInBounds_toArray, List.set_cons_zero, List.set_cons_succ]
              refine wpT_takeC [20, 21, 22, 23] 19 39 (v := ?_) hHeld.1 hHeld.2 rfl rfl (by kernel_rfl) (fun _ _ _ h => h) (yields_yes rfl ?_) ?_
              rotate_left
              · (intro w hSw; (try dsimp only at hSw); go_simp; try with_reducible rfl)
              try simp only [Act.put, List.setIfInBounds_toArray, List.set_cons_zero, List.set_cons_succ]
              refine wpT_takeC [21, 22, 23] 20 40 (v := ?_) hHeld.1 hHeld.2 rfl rfl (by kernel_rfl) (fun _ _ _ h => h) (yields_yes rfl ?_) ?_
              rotate_left
              · (intro w hSw; (try dsimp only at hSw); go_simp; try with_reducible rfl)
              try simp only [Act.put, List.setIfInBounds_toArray, List.set_cons_zero, List.set_cons_succ]
              refine wpT_takeC [22, 23] 21 41 (v := ?_) hHeld.1 hHeld.2 rfl rfl (by kernel_rfl) (fun _ _ _ h => h) (yields_yes rfl ?_) ?_
              rotate_left
              · (intro w hSw; (try dsimp only at hSw); go_simp; try with_reducible rfl)
              try simp only [Act.put, List.setIfInBounds_toArray, List.set_cons_zero, List.set_cons_succ]
              refine wpT_takeC [23] 22 42 (v := ?_) hHeld.1 hHeld.2 rfl rfl (by kernel_rfl) (fun _ _ _ h => h) (yields_yes rfl ?_) ?_
              rotate_left
              · (intro w hSw; (try dsimp only at hSw); go_simp; try with_reducible rfl)
              try simp only [Act.put, List.setIfInBounds_toArray, List.set_cons_zero, List.set_cons_succ]
              refine wpT_takeC [] 23 43 (v := ?_) hHeld.1 hHeld.2 rfl rfl (by kernel_rfl) (fun _ _ _ h => h) (yields_yes rfl ?_) ?_
              rotate_left
              · (intro w hSw; (try dsimp only at hSw); go_simp; try with_reducible rfl)
              try simp only [Act.put, List.setIfInBounds_toArray, List.set_cons_zero, List.set_cons_succ]
              refine wpT_takeC [26, 27, 35] 24 44 (v := ?_) hHeld.1 hHeld.2 rfl rfl (by kernel_rfl) (fun _ _ _ h => h) (yields_yes rfl ?_) ?_
              rotate_left
              · (intro w hSw; (try dsimp only at hSw); go_simp; try with_reducible rfl)
              try simp only [Act.put, List.setIfInBounds_toArray, List.set_cons_zero, List.set_cons_succ]
              refine wpT_takeC [26, 27, 35] 25 45 (v := ?_) hHeld.1 hHeld.2 rfl rfl (by kernel_rfl) (fun _ _ _ h => h) (yields_yes rfl ?_) ?_
              rotate_left
              · (intro w hSw; (try dsimp only at hSw); go_simp; try with_reducible rfl)
              try simp only [Act.put, List.setIfInBounds_toArray, List.set_cons_zero, List.set_cons_succ]
              refine wpT_takeC [27, 35] 26 46 (v := ?_) hHeld.1 hHeld.2 rfl rfl (by kernel_rfl) (fun _ _ _ h => h) (yields_yes rfl ?_) ?_
              rotate_left
              · (intro w hSw; (try dsimp only at hSw); go_simp; try with_reducible rfl)
              try simp only [Act.put, List.setIfInBounds_toArray, List.set_cons_zero, List.set_cons_succ]
              refine wpT_takeC [35] 27 47 (v := ?_) hHeld.1 hHeld.2 rfl rfl (by kernel_rfl) (fun _ _ _ h => h) (yields_yes rfl ?_) ?_
              rotate_left
              · (intro w hSw; (try dsimp only at hSw); go_simp; try with_reducible rfl)
              try simp only [Act.put, List.setIfInBounds_toArray, List.set_cons_zero, List.set_cons_succ]
              refine wpT_takeC [34, 35] 28 48 (v := ?_) hHeld.1 hHeld.2 rfl rfl (by kernel_rfl) (fun _ _ _ h => h) (yields_yes rfl ?_) ?_
              rotate_left
              · (intro w hSw; (try dsimp only at hSw); go_simp; try with_reducible rfl)
              try simp only [Act.put, List.setIfInBounds_toArray, List.set_cons_zero, List.set_cons_succ]
              refine wpT_takeC [31, 32, 33, 34, 35] 29 49 (v := ?_) hHeld.1 hHeld.2 rfl rfl (by kernel_rfl) (fun _ _ _ h => h) (yields_yes rfl ?_) ?_
              rotate_left
              · (intro w hSw; (try dsimp only at hSw); go_simp; try with_reducible rfl)
              try simp only [Act.put, List.setIfInBounds_toArray, List.set_cons_zero, List.set_cons_succ]
              refine wpT_takeC [31, 32, 33, 34, 35] 30 50 (v := ?_) hHeld.1 hHeld.2 rfl rfl (by kernel_rfl) (fun _ _ _ h => h) (yields_yes rfl ?_) ?_
              rotate_left
              · (intro w hSw; (try dsimp only at hSw); go_simp; try with_reducible rfl)
              try simp only [Act.put, List.setIfInBounds_toArray, List.set_cons_zero, List.set_cons_succ]
              refine wpT_takeC [32, 33, 34, 35] 31 51 (v := ?_) hHeld.1 hHeld.2 rfl rfl (by kernel_rfl) (fun _ _ _ h => h) (yields_yes rfl ?_) ?_
              rotate_left
              · (intro w hSw; (try dsimp only at hSw); go_simp; try with_reducible rfl)
              try simp only [Act.put, List.setIfInBounds_toArray, List.set_cons_zero, List.set_cons_succ]
              refine wpT_takeC [33, 34, 35] 32 52 (v := ?_) hHeld.1 hHeld.2 rfl rfl (by kernel_rfl) (fun _ _ _ h => h) (yields_yes rfl ?_) ?_
              rotate_left
              · (intro w hSw; (try dsimp only at hSw); go_simp; try with_reducible rfl)
              try simp only [Act.put, List.setIfInBounds_toArray, List.set_cons_zero, List.set_cons_succ]
              refine wpT_takeC [34, 35] 33 53 (v := ?_) hHeld.1 hHeld.2 rfl rfl (by kernel_rfl) (fun _ _ _ h => h) (yields_yes rfl ?_) ?_
              rotate_left
              · (intro w hSw; (try dsimp only at hSw); go_simp; try with_reducible rfl)
              try simp only [Act.put, List.setIfInBounds_toArray, List.set_cons_zero, List.set_cons_succ]
              refine wpT_takeC [35] 34 54 (v := ?_) hHeld.1 hHeld.2 rfl rfl (by kernel_rfl) (fun _ _ _ h => h) (yields_yes rfl ?_) ?_
              rotate_left
              · (intro w hSw; (try dsimp only at hSw); go_simp; try with_reducible rfl)
              try simp only [Act.put, List.setIfInBounds_toArray, List.set_cons_zero, List.set_cons_succ]
              refine wpT_takeC [] 35 55 (v := ?_) hHeld.1 hHeld.2 rfl rfl (by kernel_rfl) (fun _ _ _ h => h) (yields_yes rfl ?_) ?_
              rotate_left
              · (intro w hSw; (try dsimp only at hSw); go_simp; try with_reducible rfl)
              try simp only [Act.put, List.setIfInBounds_toArray, List.set_cons_zero, List.set_cons_succ]
              refine wpT_tail [_] 36 [] rfl (by kernel_rfl) ?_
              go_wp2_with fail
              go_roundw
              case rel => exact ⟨k + 1, by go_num, by omega, HF.out, HB7.out⟩
              case measure => simp [intOf]; omega
          · have HF := Lib.hid (HNX.out (by rw [HHIT.out]; simp [e3]))
            have d3 : decide (p < q + z') = false := by simpa using e3
            go_wp2_with fail
            refine wp_region_T (fun w' => w'.cell? ⟨b, off + i * 3, none⟩ = some (.int .i64 f) ∧ w'.cell? ⟨b, off + i * 3 + 1, none⟩ = some (.int .i64 t) ∧ w'.cell? ⟨b, off + i * 3 + 2, none⟩ = some (.int .i64 z) ∧ w'.cell? ⟨wr.heap.size, 0, none⟩ = some (.int .i64 f') ∧ w'.cell? ⟨wr.heap.size, 1, none⟩ = some (.int .i64 t') ∧ w'.cell? ⟨wr.heap.size, 2, none⟩ = some (.int .i64 z') ∧ w'.cell? ⟨gl, k, none⟩ = some (.bool true) ∧ w'.cell? ⟨go, k, none⟩ = some (.int .i64 q)) 36 (fun _ => True) 36 37 rfl (by kernel_rfl) ⟨HS.out, trivial⟩ (fun hHeld => ?_)
            simp only [List.replicate_succ, List.replicate_zero]
            refine wpT_takeC [2, 3, 4, 11, 12, 22, 23] 0 20 (v := ?_) hHeld.1 hHeld.2 rfl rfl (by kernel_rfl) (fun _ _ _ h => h) (yields_yes rfl ?_) ?_
            rotate_left
            · (intro w hSw; (try dsimp only at hSw); go_simp; try with_reducible rfl)
            try simp only [Act.put, List.setIfInBounds_toArray, List.set_cons_zero, List.set_cons_succ]
            refine wpT_takeC [2, 3, 4, 11, 12, 22, 23] 1 21 (v := ?_) hHeld.1 hHeld.2 rfl rfl (by kernel_rfl) (fun _ _ _ h => h) (yields_yes rfl ?_) ?_
            rotate_left
            · (intro w hSw; (try dsimp only at hSw); go_simp; try with_reducible rfl)
            try simp only [Act.put, List.setIfInBounds_toArray, List.set_cons_zero, List.set_cons_succ]
            refine wpT_takeC [3, 4, 11, 12, 22, 23] 2 22 (v := ?_) hHeld.1 hHeld.2 rfl rfl (by kernel_rfl) (fun _ _ _ h => h) (yields_yes rfl ?_) ?_
            rotate_left
            · (intro w hSw; (try dsimp only at hSw); go_simp; try with_reducible rfl)
            try simp only [Act.put, List.setIfInBounds_toArray, List.set_cons_zero, List.set_cons_succ]
            refine wpT_takeC [4, 11, 12, 22, 23] 3 23 (v := ?_) hHeld.1 hHeld.2 rfl rfl (by kernel_rfl) (fun _ _ _ h => h) (yields_yes rfl ?_) ?_
            rotate_left
            · (intro w hSw; (try dsimp only at hSw); go_simp; try with_reducible rfl)
            try simp only [Act.put, List.setIfInBounds_toArray, List.set_cons_zero, List.set_cons_succ]
            refine wpT_takeC [11, 12, 22, 23] 4 24 (v := ?_) hHeld.1 hHeld.2 rfl rfl (by kernel_rfl) (fun _ _ _ h => h) (yields_yes rfl ?_) ?_
            rotate_left
            · (intro w hSw; (try dsimp only at hSw); go_simp; try with_reducible rfl)
            try simp only [Act.put, List.setIfInBounds_toArray, List.set_cons_zero, List.set_cons_succ]
            refine wpT_takeC [7, 8, 10, 11, 12, 22, 23] 5 25 (v := ?_) hHeld.1 hHeld.2 rfl rfl (by kernel_rfl) (fun _ _ _ h => h) (yields_yes rfl ?_) ?_
            rotate_left
            · (intro w hSw; (try dsimp only at hSw); go_simp; try with_reducible rfl)
            try simp only [Act.put, List.setIfInBounds_toArray, List.set_cons_zero, List.set_cons_succ]
            refine wpT_takeC [7, 8, 10, 11, 12, 22, 23] 6 26 (v := ?_) hHeld.1 hHeld.2 rfl rfl (by kernel_rfl) (fun _ _ _ h => h) (yields_yes rfl ?_) ?_
            rotate_left
            · (intro w hSw; (try dsimp only at hSw); go_simp; try with_reducible rfl)
            try simp only [Act.put, List.setIfInBounds_toArray, List.set_cons_zero, List.set_cons_succ]
            refine wpT_takeC [8, 10, 11, 12, 22, 23] 7 27 (v := ?_) hHeld.1 hHeld.2 rfl rfl (by kernel_rfl) (fun _ _ _ h => h) (yields_yes rfl ?_) ?_
            rotate_left
            · (intro w hSw; (try dsimp only at hSw); go_simp; try with_reducible rfl)
            try simp only [Act.put, List.setIfInBounds_toArray, List.set_cons_zero, List.set_cons_succ]
            refine wpT_takeC [10, 11, 12, 22, 23] 8 28 (v := ?_) hHeld.1 hHeld.2 rfl rfl (by kernel_rfl) (fun _ _ _ h => h) (yields_yes rfl ?_) ?_
            rotate_left
            · (intro w hSw; (try dsimp only at hSw); go_simp; try with_reducible rfl)
            try simp only [Act.put, List.setIfInBounds_toArray, List.set_cons_zero, List.set_cons_succ]
            refine wpT_takeC [10, 11, 12, 22, 23] 9 29 (v := ?_) hHeld.1 hHeld.2 rfl rfl (by kernel_rfl) (fun _ _ _ h => h) (yields_yes rfl ?_) ?_
            rotate_left
            · (intro w hSw; (try dsimp only at hSw); go_simp; try with_reducible rfl)
            try simp only [Act.put, List.setIfInBounds_toArray, List.set_cons_zero, List.set_cons_succ]
            refine wpT_one 10 (by kernel_rfl) (stepT_wanted rfl rfl (fun K hK => ?_))
            go_simp
            ((with_reducible refine (HM.out _).mono ?_); rintro e W7 ⟨rfl, hb⟩)
            have HB7 := Lib.hid (HB6.out.drew.trans (hb.mono HB6.out.drew.size))
            have HS7 := Lib.hid (HSK.out W7 hb)
            try go_simp
            refine hK.out _ _ ⟨HS7.out, trivial⟩ (fun hHeld2 => ?_)
            clear hK K hHeld hb
            have hHeld := hHeld2
            clear hHeld2
            try simp only [List.setIfInBounds_toArray, List.set_cons_zero, List.set_cons_succ]
            refine wpT_takeC [12, 22, 23] 11 31 (v := ?_) hHeld.1 hHeld.2 rfl rfl (by kernel_rfl) (fun _ _ _ h => h) (yields_yes rfl ?_) ?_
            rotate_left
            · (intro w hSw; (try dsimp only at hSw); go_simp; try with_reducible rfl)
            try simp only [Act.put, List.setIfInBounds_toArray, List.set_cons_zero, List.set_cons_succ]
            refine wpT_takeC [22, 23] 12 32 (v := ?_) hHeld.1 hHeld.2 rfl rfl (by kernel_rfl) (fun _ _ _ h => h) (yields_yes rfl ?_) ?_
            rotate_left
            · (intro w hSw; (try dsimp only at hSw); go_simp; try with_reducible rfl)
            try simp only [Act.put, List.setIfInBounds_toArray, List.set_cons_zero, List.set_cons_succ]
            refine wpT_takeC [21, 22, 23] 13 33 (v := ?_) hHeld.1 hHeld.2 rfl rfl (by kernel_rfl) (fun _ _ _ h => h) (yields_yes rfl ?_) ?_
            rotate_left
            · (intro w hSw; (try dsimp only at hSw); go_simp; try with_reducible rfl)
            try simp only [Act.put, List.setIfInBounds_toArray, List.set_cons_zero, List.set_cons_succ]
            refine wpT_takeC [16, 17, 20, 21, 22, 23] 14 34 (v := ?_) hHeld.1 hHeld.2 rfl rfl (by kernel_rfl) (fun _ _ _ h => h) (yields_yes rfl ?_) ?_
            rotate_left
            · (intro w hSw; (try dsimp only at hSw); go_simp; try with_reducible rfl)
            try simp only [Act.put, List.setIfInBounds_toArray, List.set_cons_zero, List.set_cons_succ]
            refine wpT_takeC [16, 17, 20, 21, 22, 23] 15 35 (v := ?_) hHeld.1 hHeld.2 rfl rfl (by kernel_rfl) (fun _ _ _ h => h) (yields_yes rfl ?_) ?_
            rotate_left
            · (intro w hSw; (try dsimp only at hSw); go_simp; try with_reducible rfl)
            try simp only [Act.put, List.setIfInBounds_toArray, List.set_cons_zero, List.set_cons_succ]
            refine wpT_takeC [17, 20, 21, 22, 23] 16 36 (v := ?_) hHeld.1 hHeld.2 rfl rfl (by kernel_rfl) (fun _ _ _ h => h) (yields_yes rfl ?_) ?_
            rotate_left
            · (intro w hSw; (try dsimp only at hSw); go_simp; try with_reducible rfl)
            try simp only [Act.put, List.setIfInBounds_toArray, List.set_cons_zero, List.set_cons_succ]
            refine wpT_takeC [20, 21, 22, 23] 17 37 (v := ?_) hHeld.1 hHeld.2 rfl rfl (by kernel_rfl) (fun _ _ _ h => h) (yields_yes rfl ?_) ?_
            rotate_left
            · (intro w hSw; (try dsimp only at hSw); go_simp; try with_reducible rfl)
            try simp only [Act.put, List.setIfInBounds_toArray, List.set_cons_zero, List.set_cons_succ]
            refine wpT_takeC [19, 20, 21, 22, 23] 18 38 (v := ?_) hHeld.1 hHeld.2 rfl rfl (by kernel_rfl) (fun _ _ _ h => h) (yields_yes rfl ?_) ?_
            rotate_left
            · (intro w hSw; (try dsimp only at hSw); go_simp; try with_reducible rfl)
            try simp only [Act.put, List.setIfInBounds_toArray, List.set_cons_zero, List.set_cons_succ]
            refine wpT_takeC [20, 21, 22, 23] 19 39 (v := ?_) hHeld.1 hHeld.2 rfl rfl (by kernel_rfl) (fun _ _ _ h => h) (yields_yes rfl ?_) ?_
            rotate_left
            · (intro w hSw; (try dsimp only at hSw); go_simp; try with_reducible rfl)
            try simp only [Act.put, List.setIfInBounds_toArray, List.set_cons_zero, List.set_cons_succ]
            refine wpT_takeC [21, 22, 23] 20 40 (v := ?_) hHeld.1 hHeld.2 rfl rfl (by kernel_rfl) (fun _ _ _ h => h) (yields_yes rfl ?_) ?_
            rotate_left
            · (intro w hSw; (try dsimp only at hSw); go_simp; try with_reducible rfl)
            try simp only [Act.put, List.setIfInBounds_toArray, List.set_cons_zero, List.set_cons_succ]
            refine wpT_takeC [22, 23] 21 41 (v := ?_) hHeld.1 hHeld.2 rfl rfl (by kernel_rfl) (fun _ _ _ h => h) (yields_yes rfl ?_) ?_
            rotate_left
            · (intro w hSw; (try dsimp only at hSw); go_simp; try with_reducible rfl)
            try simp only [Act.put, List.setIfInBounds_toArray, List.set_cons_zero, List.set_cons_succ]
            refine wpT_takeC [23] 22 42 (v := ?_) hHeld.1 hHeld.2 rfl rfl (by kernel_rfl) (fun _ _ _ h => h) (yields_yes rfl ?_) ?_
            rotate_left
            · (intro w hSw; (try dsimp only at hSw); go_simp; try with_reducible rfl)
            try simp only [Act.put, List.setIfInBounds_toArray, List.set_cons_zero, List.set_cons_succ]
            refine wpT_takeC [] 23 43 (v := ?_) hHeld.1 hHeld.2 rfl rfl (by kernel_rfl) (fun _ _ _ h => h) (yields_yes rfl ?_) ?_
            rotate_left
            · (intro w hSw; (try dsimp only at hSw); go_simp; try with_reducible rfl)
            try simp only [Act.put, List.setIfInBounds_toArray, List.set_cons_zero, List.set_cons_succ]
            refine wpT_takeC [26, 27, 35] 24 44 (v := undef) hHeld.1 hHeld.2 rfl rfl (by kernel_rfl) (fun _ _ _ h => h) (yields_not rfl) ?_
            try simp only [Act.put, List.setIfInBounds_toArray, List.set_cons_zero, List.set_cons_succ]
            refine wpT_takeC [26, 27, 35] 25 45 (v := undef) hHeld.1 hHeld.2 rfl rfl (by kernel_rfl) (fun _ _ _ h => h) (yields_not rfl) ?_
            try simp only [Act.put, List.setIfInBounds_toArray, List.set_cons_zero, List.set_cons_succ]
            refine wpT_takeC [27, 35] 26 46 (v := undef) hHeld.1 hHeld.2 rfl rfl (by kernel_rfl) (fun _ _ _ h => h) (yields_not rfl) ?_
            try simp only [Act.put, List.setIfInBounds_toArray, List.set_cons_zero, List.set_cons_succ]
            refine wpT_takeC [35] 27 47 (v := undef) hHeld.1 hHeld.2 rfl rfl (by kernel_rfl) (fun _ _ _ h => h) (yields_not rfl) ?_
            try simp only [Act.put, List.setIfInBounds_toArray, List.set_cons_zero, List.set_cons_succ]
            refine wpT_takeC [34, 35] 28 48 (v := undef) hHeld.1 hHeld.2 rfl rfl (by kernel_rfl) (fun _ _ _ h => h) (yields_not rfl) ?_
            try simp only [Act.put, List.setIfInBounds_toArray, List.set_cons_zero, List.set_cons_succ]
            refine wpT_takeC [31, 32, 33, 34, 35] 29 49 (v := undef) hHeld.1 hHeld.2 rfl rfl (by kernel_rfl) (fun _ _ _ h => h) (yields_not rfl) ?_
            try simp only [Act.put, List.setIfInBounds_toArray, List.set_cons_zero, List.set_cons_succ]
            refine wpT_takeC [31, 32, 33, 34, 35] 30 50 (v := undef) hHeld.1 hHeld.2 rfl rfl (by kernel_rfl) (fun _ _ _ h => h) (yields_not rfl) ?_
            try simp only [Act.put, List.setIfInBounds_toArray, List.set_cons_zero, List.set_cons_succ]
            refine wpT_takeC [32, 33, 34, 35] 31 51 (v := undef) hHeld.1 hHeld.2 rfl rfl (by kernel_rfl) (fun _ _ _ h => h) (yields_not rfl) ?_
            try simp only [Act.put, List.setIfInBounds_toArray, List.set_cons_zero, List.set_cons_succ]
            refine wpT_takeC [33, 34, 35] 32 52 (v := undef) hHeld.1 hHeld.2 rfl rfl (by kernel_rfl) (fun _ _ _ h => h) (yields_not rfl) ?_
            try simp only [Act.put, List.setIfInBounds_toArray, List.set_cons_zero, List.set_cons_succ]
            refine wpT_takeC [34, 35] 33 53 (v := undef) hHeld.1 hHeld.2 rfl rfl (by kernel_rfl) (fun _ _ _ h => h) (yields_not rfl) ?_
            try simp only [Act.put, List.setIfInBounds_toArray, List.set_cons_zero, List.set_cons_succ]
            refine wpT_takeC [35] 34 54 (v := undef) hHeld.1 hHeld.2 rfl rfl (by kernel_rfl) (fun _ _ _ h => h) (yields_not rfl) ?_
            try simp only [Act.put, List.setIfInBounds_toArray, List.set_cons_zero, List.set_cons_succ]
            refine wpT_takeC [] 35 55 (v := undef) hHeld.1 hHeld.2 rfl rfl (by kernel_rfl) (fun _ _ _ h => h) (yields_not rfl) ?_
            try simp only [Act.put, List.setIfInBounds_toArray, List.set_cons_zero, List.set_cons_succ]
            refine wpT_tail [_] 36 [] rfl (by kernel_rfl) ?_
            go_wp2_with fail
            go_roundw
            case rel => exact ⟨k + 1, by go_num, by omega, HF.out, HB7.out⟩
            case measure => simp [intOf]; omega
    · obtain rfl : k = n := by omega
      have HF := Lib.hid (Ld.free_yes HNO.out)
      go_wp2_with fail
      go_ret
      exact ⟨by rw [HF.out]; rfl, HB.out⟩
end Go.Proofs.Ytkopkicdmbnpgaa
