/-
  The walk of what Climb does to visit a tree. Conditions: the lists below each node can be read; the order has room of its own.
-/
import Derived.Test.YtkopkicdmbnpgaaRoomJ
import Derived.Test.YtkopkicdmbnpgaaClimbPlain4
namespace Go.Proofs.Ytkopkicdmbnpgaa
set_option linter.unusedVariables false
open Go.RowKit Adj

namespace Rm
def visitFn (N bv bo : Nat) : Value := .func (.func 31) #[] #[.pointer (some ⟨N, 0, none⟩), .pointer (some ⟨bv, 0, none⟩), .pointer (some ⟨bo, 0, none⟩)]
/-- An order that is being written; what stood before is as it was. -/
structure Od (wb : World) (N bv bo : Nat) (acc : List Int) (wr : World) : Prop where
  bel : Below wb.heap.size wb wr
  fn : Blk wr bv 57 #[visitFn N bv bo]
  ord : ∃ v, Blk wr bo 22 #[v] ∧ wr.ownsRow wb.heap.size 3 1 v acc.length (Adj.ints acc)
  le : wb.heap.size ≤ bv
  le2 : wb.heap.size ≤ bo
theorem flat_take (g : Int → List Int) (L : List Int) {k : Nat} (hk : k < L.length) : ((L.take (k + 1)).map g).flatten = ((L.take k).map g).flatten ++ g L[k] := by
  rw [List.take_succ_eq_append_getElem hk, List.map_append, List.flatten_append]; simp
theorem flat_le (g : Int → List Int) (L : List Int) (k : Nat) : ((L.take k).map g).flatten.length ≤ (L.map g).flatten.length := by
  conv => rhs; rw [← List.take_append_drop k L, List.map_append, List.flatten_append, List.length_append]
  omega
end Rm

set_option maxRecDepth 100000 in
theorem callVisit : ∀ (args : Array Value) (W : World), (callFunc 31 args).run Try.prog W = .ok (.enter 31 args) W := fun _ _ => rfl

set_option maxRecDepth 100000 in
set_option maxHeartbeats 4000000 in
theorem visit_any (w wb : World) (x y : Value) (bt bb n N bv bo : Nat) (gs cs : Nat → Nat) (F : Nat → List Int) (hn : n ≤ 4096) (hF : ∀ i x, x ∈ F i → 0 ≤ x ∧ x < (i : Int)) (hlen : ∀ i, i < n → (F i).length ≤ 4096)
    (h1 : Blk wb N 46 #[.pointer (some ⟨bt, 0, none⟩)]) (h2 : Blk wb bt 53 #[x, y, .slice (some ⟨bb, 0, none⟩) n n]) (h3 : Rm.Rows w bb n gs cs F wb) :
    ∀ i, i < n → ∀ acc W, acc.length + (AdjR.visit F i i).length ≤ 65536 → Rm.Od wb N bv bo acc W →
      Calls Try.prog 31 #[.int .i64 (i : Int), .pointer (some ⟨N, 0, none⟩), .pointer (some ⟨bv, 0, none⟩), .pointer (some ⟨bo, 0, none⟩)] W fun e W' => e = .returned (.tuple #[]) ∧ Rm.Od wb N bv bo (acc ++ AdjR.visit F i i) W' := by
  intro i
  induction i using Nat.strongRecOn with
  | ind i ih =>
  intro hi acc W hbd hod
  have IH := Lib.hid (fun (z : Nat) (hz : z < i) => ih z hz (by omega))
  have hcf := callVisit
  have HV := Lib.hid (AdjR.visit_one hF i)
  have HFI := Lib.hid (hF i)
  have hli := hlen i hi
  have HR := Lib.hid h3
  have HOD := Lib.hid hod
  have HBD := Lib.hid hbd
  have h10 := (hod.bel.cell (cell_lt (h1.cell 0))).trans (h1.cell 0)
  have h22 := (hod.bel.cell (cell_lt (h2.cell 2))).trans (h2.cell 2)
  obtain ⟨AL, cL, hcL⟩ : ∃ A c, wb.cell? ⟨bb, i, none⟩ = some (.slice A (F i).length c) := by
    by_cases e : 0 < (F i).length
    · exact ⟨_, _, h3.cell i hi e⟩
    · have e2 : F i = [] := List.length_eq_zero_iff.1 (by omega)
      obtain ⟨A, c, h⟩ := h3.nil_ i hi e2
      exact ⟨A, c, by rw [e2]; exact h⟩
  have HIL := Lib.hid (h3.ints hi hcL)
  have h33 := (hod.bel.cell (cell_lt hcL)).trans hcL
  obtain ⟨L, hL⟩ : ∃ L, F i = L := ⟨_, rfl⟩
  rw [hL] at h33 hli HIL HV HFI
  have HVL := Lib.hid (show ∀ k, ((L.take k).map (fun x => AdjR.visit F x.toNat x.toNat)).flatten.length + 1 ≤ (AdjR.visit F i i).length from fun k => by
    rw [HV.out, List.length_append]
    have := Rm.flat_le (fun x => AdjR.visit F x.toNat x.toNat) L k
    simp only [List.length_singleton]; omega)
  clear ih h1 h2 h3 hod hbd hF hcL hlen hL
  go_enter Try.func31, Try.ntmps31
  go_wp2_with fail
  go_loopw [15] (fun kv wr => ∃ k : Nat, kv = .int .i64 (k : Int) ∧ k ≤ L.length ∧ Rm.Od wb N bv bo (acc ++ ((L.take k).map (fun x => AdjR.visit F x.toNat x.toNat)).flatten) wr) (fun kv _ => L.length - (intOf kv).toNat)
  case atStart => exact ⟨0, rfl, by omega, by simpa using HOD.out⟩
  case round =>
    obtain ⟨k, rfl, hk, hod⟩ := hrel
    have HO := Lib.hid hod
    clear hod
    by_cases hlt : k < L.length
    · obtain ⟨b, off, rfl, r1⟩ := ints_cell HIL.out (by omega)
      have c1 := (HO.out.bel.cell (cell_lt (r1 k hlt))).trans (r1 k hlt)
      have c2 : wr.cell? ⟨bv, 0, none⟩ = some (Rm.visitFn N bv bo) := HO.out.fn.cell 0
      unfold Rm.visitFn at c2
      have hxr := HFI.out L[k] (List.getElem_mem hlt)
      have HFT := Lib.hid (Rm.flat_take (fun x => AdjR.visit F x.toNat x.toNat) L hlt)
      have HLE := Lib.hid (HVL.out (k + 1))
      have hgx : L.getD k 0 = L[k] := by rw [List.getD_eq_getElem?_getD, List.getElem?_eq_getElem hlt]; rfl
      rw [hgx] at c1
      generalize L[k] = x at c1 hxr HFT
      obtain ⟨z, rfl⟩ : ∃ z : Nat, x = (z : Int) := ⟨x.toNat, by omega⟩
      have HIH := Lib.hid (IH.out z (by omega) _ wr (by
        have h1 := HLE.out
        have h2 := HBD.out
        rw [HFT.out, Int.toNat_natCast, List.length_append] at h1
        rw [List.length_append]; omega) HO.out)
      clear r1 hgx
      go_wp2_with fail
      ((with_reducible refine HIH.out.mono ?_); rintro e w5 ⟨rfl, ho5⟩)
      have HO5 := Lib.hid ho5
      clear ho5
      go_wp2_with fail
      go_roundw
      case rel => exact ⟨k + 1, by go_num, by omega, by rw [HFT.out, Int.toNat_natCast, ← List.append_assoc]; exact HO5.out⟩
      case measure => simp [intOf]; omega
    · obtain rfl : k = L.length := by omega
      have HO2 := Lib.hid (show Rm.Od wb N bv bo (acc ++ (L.map (fun x => AdjR.visit F x.toNat x.toNat)).flatten) wr by have h := HO.out; rwa [List.take_length] at h)
      have HL2 := Lib.hid (show (acc ++ (L.map (fun x => AdjR.visit F x.toNat x.toNat)).flatten).length ≤ 65536 by
        have h1 := HVL.out L.length
        have h2 := HBD.out
        rw [List.take_length] at h1
        rw [List.length_append]; omega)
      have HRES := Lib.hid (show acc ++ AdjR.visit F i i = (acc ++ (L.map (fun x => AdjR.visit F x.toNat x.toNat)).flatten) ++ [(i : Int)] by rw [HV.out, List.append_assoc])
      generalize acc ++ (L.map (fun x => AdjR.visit F x.toNat x.toNat)).flatten = D at HO2 HL2 HRES
      have hdl := HL2.out
      obtain ⟨v, hv1, hv2⟩ := HO2.out.ord
      have H3 := Lib.hid hv1
      have H4 := Lib.hid hv2
      have c3 : wr.cell? ⟨bo, 0, none⟩ = some v := hv1.cell 0
      obtain ⟨i0, hi0, hz0, hz1, hz2⟩ := info_parts Try.infoNum
      have hle2 := HO2.out.le2
      have hbo := hv1.lt
      clear hv1 hv2
      go_wp2_with (at_builtin; refine wpList_append_own _ rfl _ _ 22 rfl wb.heap.size 3 i0 (.int .i64 0) 1 8 Try.underlying22 hi0 hz0 hz1 hz2 rfl (by decide) _ _ _ rfl (H4.out.alloc _) ⟨wr.heap.size, 0, none⟩ 1 1 [.int .i64 (i : Int)] rfl rfl (cell_one_new _ _ _) (one_one _ _) (by unfold maxLen; omega) (by omega) (by simp; omega) ?_)
      intro v' w1 hown hgrow _
      have hbl : some bo ≠ v.ownBlock := fun h => (Rm.own_blk_ne H4.out H3.out (by decide)) h.symm
      have hbf : some bv ≠ v.ownBlock := fun h => (Rm.own_blk_ne H4.out HO2.out.fn (by decide)) h.symm
      have hb1 : Blk w1 bo 22 #[v] := (H3.out.alloc _).grown hgrow hbl
      have hb2 : Blk w1 bv 57 #[Rm.visitFn N bv bo] := (HO2.out.fn.alloc _).grown hgrow hbf
      have hne : bv ≠ bo := fun e => by subst e; unfold Blk at hb1 hb2; rw [hb1] at hb2; injection hb2 with hb2; injection hb2 with _ h; exact absurd h (by decide)
      have hsz1 := hb1.lt
      have hc1 := hb1.at (i := 0) (v := v) rfl
      have hf1 := hb1.frozen 0
      have hbel : Below wb.heap.size wb w1 := (HO2.out.bel.alloc (by omega) _).grown hgrow (by simp; omega) (fun q hq => by have := (H4.out.lt q hq).1; omega)
      have HO := Lib.hid hown
      have HB := Lib.hid hb1
      have HB2 := Lib.hid (hb2.far (p := ⟨bo, 0, none⟩) hne v')
      obtain ⟨gv, cv, hv, _⟩ := hown.form (by omega)
      have hnb : v'.ownBlock ≠ some bo := Rm.own_blk_ne hown hb1 (by decide)
      clear hown hgrow hb1 hb2
      rw [hv]
      have HV2 := Lib.hid hv
      clear hv
      go_wp2_with fail
      go_end0
      rw [← HV2.out]
      refine ⟨rfl, ?_⟩
      rw [HRES.out]
      refine ⟨hbel.setCell (by omega) _, HB2.out, ⟨v', HB.out.set_ 0 v', ?_⟩, HO2.out.le, hle2⟩
      rw [Rm.ints_snoc2, List.length_append]
      exact Rm.own_keep HO.out (fun g hg => Below.heap_setCell _ _ _ _ (fun e => hnb (by rw [hg, e])))
end Go.Proofs.Ytkopkicdmbnpgaa
