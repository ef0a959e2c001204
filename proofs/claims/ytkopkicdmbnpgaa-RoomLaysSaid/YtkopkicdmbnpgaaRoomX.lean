/-
  The walk of slices.BinarySearchFunc at what lies. Conditions: what lies is in order, and can be read.
-/
import Derived.Test.YtkopkicdmbnpgaaRoomW
namespace Go.Proofs.Ytkopkicdmbnpgaa
set_option linter.unusedVariables false
open Go.RowKit Adj

namespace Ld
theorem under_eq {p : Int} : ∀ {L : List AdjL.Laid} {i : Nat}, i ≤ L.length → (∀ t (ht : t < L.length), t < i → L[t].at_ < p) → (∀ hi : i < L.length, p ≤ L[i].at_) → AdjL.under L p = i
  | [], i, h, _, _ => by
    obtain rfl : i = 0 := by simpa using h
    rfl
  | y :: L, 0, h, _, h2 => by
    have := h2 (by simp)
    show (if y.at_ < p then _ else 0) = 0
    rw [if_neg (by have h3 : p ≤ y.at_ := this; omega)]
  | y :: L, i + 1, h, h1, h2 => by
    have h3 := h1 0 (by simp) (by omega)
    show (if y.at_ < p then AdjL.under L p + 1 else 0) = i + 1
    rw [if_pos (show y.at_ < p from h3), under_eq (i := i) (by simpa using h) (fun t ht hti => h1 (t + 1) (by simpa using ht) (by omega)) (fun hi => h2 (by simpa using hi))]
theorem asc_of {L : List AdjL.Laid} (h : AdjL.Apart L) {s t : Nat} (hs : s < L.length) (ht : t < L.length) (hst : s ≤ t) : L[s].at_ ≤ L[t].at_ := by
  by_cases e : s = t
  · subst e; exact Int.le_refl _
  · have h1 := List.pairwise_iff_getElem.1 h.1 s t hs ht (by omega)
    have h2 := h.2 L[s] (List.getElem_mem hs)
    omega
end Ld

set_option maxRecDepth 100000 in
set_option maxHeartbeats 4000000 in
theorem bsearch_any (w : World) (L : List AdjL.Laid) (A : Option Addr) (n c : Nat) (p : Int) (hn : L.length = n) (hbig : n ≤ 1048576) (hL : AdjL.Apart L) (h : IntsAt w w.heap.size A (Ld.lints L)) :
    Calls Try.prog 47 #[.slice A n c, .int .i64 p, .func (.func 48) #[] #[]] w fun e w' => ∃ b, e = .returned (.tuple #[.int .i64 (AdjL.under L p : Nat), .bool b]) ∧ Below w.heap.size w w' := by
  have hcf : ∀ (args : Array Value) (W : World), (callFunc 48 args).run Try.prog W = .ok (.enter 48 args) W := fun _ _ => rfl
  have HN := Lib.hid hn
  have HI := Lib.hid h
  have HL := Lib.hid hL
  have HC := Lib.hid (fun W y => lay3_any W p y)
  have HB0 := Lib.hid (Below.refl w.heap.size w)
  clear hn h hL
  go_enter Try.func47, Try.ntmps47
  go_wp2_with fail
  go_loopw [9, 10] (fun iv jv wr => ∃ (i j : Nat), iv = .int .i64 (i : Int) ∧ jv = .int .i64 (j : Int) ∧ i ≤ j ∧ j ≤ n ∧ (∀ t (ht : t < L.length), t < i → L[t].at_ < p) ∧ (∀ t (ht : t < L.length), j ≤ t → p ≤ L[t].at_) ∧ Below w.heap.size w wr) (fun iv jv _ => (intOf jv).toNat - (intOf iv).toNat)
  case atStart => exact ⟨0, n, rfl, rfl, by omega, by omega, fun t _ h => by omega, fun t ht h => by have := HN.out; omega, HB0.out⟩
  case round =>
    obtain ⟨i, j, rfl, rfl, hij, hj, h1, h2, hb⟩ := hrel
    have H1 := Lib.hid h1
    have H2 := Lib.hid h2
    have HB := Lib.hid hb
    clear h1 h2 hb
    by_cases hlt : i < j
    · obtain ⟨m, hm⟩ : ∃ m : Nat, (i + j) / 2 = m := ⟨_, rfl⟩
      have hm2 : ((i : Int) + (j : Int)) / 2 = (m : Int) := by omega
      have him : i ≤ m := by omega
      have hmj : m < j := by omega
      have hml : m < L.length := by have := HN.out; omega
      obtain ⟨b, off, rfl, hbb⟩ := Ld.spot HI.out hml
      obtain ⟨y1, y2, y3⟩ := Ld.cells HI.out hml
      have c1 := (HB.out.cell (cell_lt y1)).trans y1
      have c2 := (HB.out.cell (cell_lt y2)).trans y2
      have c3 := (HB.out.cell (cell_lt y3)).trans y3
      have HCC := Lib.hid (HC.out wr L[m])
      have HLO := Lib.hid (show L[m].at_ < p → ∀ t (ht : t < L.length), t < m + 1 → L[t].at_ < p from fun h t ht htm => by
        have := Ld.asc_of HL.out ht hml (by omega); omega)
      have HHI := Lib.hid (show p ≤ L[m].at_ → ∀ t (ht : t < L.length), m ≤ t → p ≤ L[t].at_ from fun h t ht htm => by
        have := Ld.asc_of HL.out hml ht htm; omega)
      generalize L[m] = y at c1 c2 c3 HCC HLO HHI
      obtain ⟨a, e, t⟩ := y
      unfold Ld.laidV at HCC
      simp only at c1 c2 c3 HCC HLO HHI
      clear y1 y2 y3 hm
      go_wp2_with fail
      ((with_reducible refine HCC.out.mono ?_); rintro e w5 ⟨rfl, hb5⟩)
      have HB5 := Lib.hid (HB.out.trans (hb5.mono HB.out.size))
      clear hb5
      by_cases hap : a < p
      · have hc : AdjS.cmp3 a p = -1 := by unfold AdjS.cmp3; rw [if_pos hap]
        rw [hc]
        have HX := Lib.hid (HLO.out hap)
        go_wp2_with fail
        go_roundw
        case rel => exact ⟨m + 1, j, by go_num, rfl, by omega, hj, HX.out, H2.out, HB5.out⟩
        case measure => simp [intOf]; omega
      · obtain ⟨q, hq, hq0⟩ : ∃ q : Int, AdjS.cmp3 a p = q ∧ 0 ≤ q := ⟨_, rfl, by unfold AdjS.cmp3; rw [if_neg hap]; split <;> omega⟩
        rw [hq]
        clear hq
        have HX := Lib.hid (HHI.out (by omega))
        go_wp2_with fail
        go_roundw
        case rel => exact ⟨i, m, rfl, rfl, by omega, by omega, H1.out, HX.out, HB5.out⟩
        case measure => simp [intOf]; omega
    · obtain rfl : i = j := by omega
      have HU := Lib.hid (show AdjL.under L p = i from Ld.under_eq (by have := HN.out; omega) H1.out (fun hi => H2.out i hi (Nat.le_refl _)))
      by_cases hin : i < n
      · have hml : i < L.length := by have := HN.out; omega
        obtain ⟨b, off, rfl, hbb⟩ := Ld.spot HI.out hml
        obtain ⟨y1, y2, y3⟩ := Ld.cells HI.out hml
        have c1 := (HB.out.cell (cell_lt y1)).trans y1
        have c2 := (HB.out.cell (cell_lt y2)).trans y2
        have c3 := (HB.out.cell (cell_lt y3)).trans y3
        have HCC := Lib.hid (HC.out wr L[i])
        generalize L[i] = y at c1 c2 c3 HCC
        obtain ⟨a, e, t⟩ := y
        unfold Ld.laidV at HCC
        simp only at c1 c2 c3 HCC
        clear y1 y2 y3
        go_wp2_with fail
        ((with_reducible refine HCC.out.mono ?_); rintro e w5 ⟨rfl, hb5⟩)
        have HB5 := Lib.hid (HB.out.trans (hb5.mono HB.out.size))
        clear hb5
        generalize AdjS.cmp3 a p = q
        go_wp2_with fail
        go_ret2
        first | exact ⟨_, by rw [HU.out]; rfl, HB5.out⟩ | exact ⟨⟨_, by rw [HU.out]; rfl⟩, HB5.out⟩
      · go_wp2_with fail
        go_ret2
        first | exact ⟨_, by rw [HU.out]; rfl, HB.out⟩ | exact ⟨⟨_, by rw [HU.out]; rfl⟩, HB.out⟩ | exact ⟨by rw [HU.out], HB.out⟩
end Go.Proofs.Ytkopkicdmbnpgaa
