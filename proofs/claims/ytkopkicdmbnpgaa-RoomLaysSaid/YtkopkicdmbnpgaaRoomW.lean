/-
  What lies, in memory; the walks of Lay's closures and of lowest. Conditions: what is read can be read.
-/
import Derived.Test.YtkopkicdmbnpgaaRoomU
import Derived.Test.YtkopkicdmbnpgaaRoomA
import Derived.Test.YtkopkicdmbnpgaaLayPlain4
namespace Go.Proofs.Ytkopkicdmbnpgaa
set_option linter.unusedVariables false
open Go.RowKit Adj

namespace Ld
def laidV (y : AdjL.Laid) : Value := .agg #[.int .i64 y.at_, .int .i64 y.end_, .int .i64 y.to]
def three (y : AdjL.Laid) : List Int := [y.at_, y.end_, y.to]
def lints (L : List AdjL.Laid) : List Int := L.flatMap three
theorem lints_append (a b : List AdjL.Laid) : lints (a ++ b) = lints a ++ lints b := by simp [lints]
theorem lints_length : ∀ L : List AdjL.Laid, (lints L).length = 3 * L.length
  | [] => rfl
  | x :: l => by
    have := lints_length l
    show (three x ++ lints l).length = _
    rw [List.length_append, this, List.length_cons]; show 3 + _ = _; omega
theorem lints_at : ∀ (L : List AdjL.Laid) (i j : Nat) (hi : i < L.length) (hj : j < 3), (lints L)[i * 3 + j]? = (three L[i])[j]?
  | x :: l, 0, j, _, hj => by
    show (three x ++ lints l)[0 * 3 + j]? = _
    rw [List.getElem?_append_left (by show _ < 3; omega), Nat.zero_mul, Nat.zero_add]; rfl
  | x :: l, i + 1, j, hi, hj => by
    show (three x ++ lints l)[(i + 1) * 3 + j]? = _
    rw [List.getElem?_append_right (by show 3 ≤ _; omega), show (i + 1) * 3 + j - (three x).length = i * 3 + j from by show _ - 3 = _; omega, lints_at l i j (by simpa using hi) hj]
    rfl
theorem cells {w : World} {B b off : Nat} {L : List AdjL.Laid} (h : IntsAt w B (some ⟨b, off, none⟩) (lints L)) {k : Nat} (hk : k < L.length) :
    w.cell? ⟨b, off + k * 3, none⟩ = some (.int .i64 L[k].at_) ∧ w.cell? ⟨b, off + k * 3 + 1, none⟩ = some (.int .i64 L[k].end_) ∧ w.cell? ⟨b, off + k * 3 + 2, none⟩ = some (.int .i64 L[k].to) := by
  have g : ∀ j v, j < 3 → (three L[k])[j]? = some v → w.cell? ⟨b, off + k * 3 + j, none⟩ = some (.int .i64 v) := fun j v hj hv => by
    have := h.at_ ((lints_at L k j hk hj).trans hv)
    rwa [← Nat.add_assoc] at this
  exact ⟨g 0 _ (by omega) rfl, g 1 _ (by omega) rfl, g 2 _ (by omega) rfl⟩
theorem spot {w : World} {B : Nat} {A : Option Addr} {L : List AdjL.Laid} (h : IntsAt w B A (lints L)) {k : Nat} (hk : k < L.length) : ∃ b off, A = some ⟨b, off, none⟩ ∧ b < B := h.spot (by rw [lints_length]; omega)
theorem ints_own {w : World} {base n c : Nat} {A : Option Addr} {L : List AdjL.Laid} (h : w.ownsRow base 78 3 (.slice A n c) n (Adj.ints (lints L))) : IntsAt w w.heap.size A (lints L) := by
  intro hp
  have hp2 : 0 < n := by have := h.1; omega
  obtain ⟨g, cap, hv, _, hlt⟩ := h.form hp2
  have hA : A = some ⟨g, 0, none⟩ := by injection hv
  subst hA
  refine ⟨g, 0, rfl, hlt, fun i u hu => ?_⟩
  have h2 := h.cells (g := g) rfl i u hu
  rw [Nat.zero_add]
  unfold Addr.add at h2
  split at h2
  · rename_i e; subst e; exact h2
  · simpa using h2
end Ld

set_option maxRecDepth 100000 in
theorem lay2_any (W : World) (bx : Nat) (f : Int) (y : AdjL.Laid) (h : W.cell? ⟨bx, 0, none⟩ = some (.int .i64 f)) :
    Calls Try.prog 45 #[Ld.laidV y, .pointer (some ⟨bx, 0, none⟩)] W fun e W' => e = .returned (.bool (decide (y.to ≤ f))) ∧ Below W.heap.size W W' := by
  obtain ⟨a, b, c⟩ := y
  unfold Ld.laidV
  simp only
  have HB := Lib.hid ((Below.refl W.heap.size W).alloc (Nat.le_refl _) (.cells #[.int .i64 a, .int .i64 b, .int .i64 c] 78))
  have hc := (World.cell?_alloc_lt W (.cells #[.int .i64 a, .int .i64 b, .int .i64 c] 78) ⟨bx, 0, none⟩ (cell_lt h)).trans h
  go_enter Try.func45, Try.ntmps45
  go_wp2_with fail
  go_ret
  exact ⟨rfl, HB.out⟩
set_option maxRecDepth 100000 in
theorem lay3_any (W : World) (p : Int) (y : AdjL.Laid) :
    Calls Try.prog 48 #[Ld.laidV y, .int .i64 p] W fun e W' => e = .returned (.int .i64 (AdjS.cmp3 y.at_ p)) ∧ Below W.heap.size W W' := by
  obtain ⟨a, b, c⟩ := y
  unfold Ld.laidV
  simp only
  have HB := Lib.hid ((Below.refl W.heap.size W).alloc (Nat.le_refl _) (.cells #[.int .i64 a, .int .i64 b, .int .i64 c] 78))
  go_enter Try.func48, Try.ntmps48
  go_wp2_with ((with_reducible refine (compare_any _ _ _).mono ?_); rintro e w' ⟨rfl, hw⟩; rw [hw])
  go_ret
  exact ⟨rfl, HB.out⟩

set_option maxRecDepth 100000 in
set_option maxHeartbeats 4000000 in
theorem lowest_any (w : World) (L : List AdjL.Laid) (A : Option Addr) (n c : Nat) (z : Int) (hn : L.length = n) (hbig : n ≤ 1048576) (hz : 0 ≤ z ∧ z ≤ 1048576) (hL : ∀ y ∈ L, 0 ≤ y.at_ ∧ y.end_ ≤ 1099511627776) (h : IntsAt w w.heap.size A (Ld.lints L)) :
    Calls Try.prog 46 #[.slice A n c, .int .i64 z] w fun e w' => e = .returned (.int .i64 (AdjL.lowest L z 0)) ∧ Below w.heap.size w w' := by
  have HN := Lib.hid hn
  have HI := Lib.hid h
  have HL := Lib.hid hL
  have HB0 := Lib.hid (Below.refl w.heap.size w)
  clear hn h hL
  go_enter Try.func46, Try.ntmps46
  go_wp2_with fail
  go_loopw [5, 10] (fun pv kv wr => ∃ (k : Nat) (p : Int), kv = .int .i64 (k : Int) ∧ pv = .int .i64 p ∧ k ≤ n ∧ (0 ≤ p ∧ p ≤ 1099511627776) ∧ AdjL.lowest L z 0 = AdjL.lowest (L.drop k) z p ∧ Below w.heap.size w wr) (fun _ kv _ => n - (intOf kv).toNat)
  case atStart => exact ⟨0, 0, rfl, rfl, by omega, by omega, rfl, HB0.out⟩
  case round =>
    obtain ⟨k, p, rfl, rfl, hk, ⟨hp0, hp1⟩, hlow, hb⟩ := hrel
    have HLO := Lib.hid hlow
    have HB := Lib.hid hb
    clear hlow hb
    by_cases hkn : k < n
    · have hkl : k < L.length := by have := HN.out; omega
      obtain ⟨b, off, rfl, hbb⟩ := Ld.spot HI.out hkl
      obtain ⟨y1, y2, y3⟩ := Ld.cells HI.out hkl
      have c1 := (HB.out.cell (cell_lt y1)).trans y1
      have c2 := (HB.out.cell (cell_lt y2)).trans y2
      have c3 := (HB.out.cell (cell_lt y3)).trans y3
      have HDR := Lib.hid (show AdjL.lowest L z 0 = if p + z ≤ L[k].at_ then p else AdjL.lowest (L.drop (k + 1)) z (max p L[k].end_) by
        rw [HLO.out, List.drop_eq_getElem_cons hkl]; rfl)
      have hlk := HL.out L[k] (List.getElem_mem hkl)
      generalize L[k] = y at c1 c2 c3 HDR hlk
      obtain ⟨a, e, t⟩ := y
      simp only at c1 c2 c3 HDR hlk
      obtain ⟨hl1, hl2⟩ := hlk
      have HX := Lib.hid (Blk.new wr 78 #[.int .i64 a, .int .i64 e, .int .i64 t])
      have HBA := Lib.hid (HB.out.alloc HB.out.size (.cells #[.int .i64 a, .int .i64 e, .int .i64 t] 78))
      obtain ⟨W2, hW2⟩ : ∃ W2, wr.alloc (.cells #[.int .i64 a, .int .i64 e, .int .i64 t] 78) = W2 := ⟨_, rfl⟩
      rw [hW2] at HX HBA
      have x0 := HX.out.cell 0
      have x1 := HX.out.cell 1
      have x2 := HX.out.cell 2
      clear y1 y2 y3
      by_cases hge : p + z ≤ a
      · have HR := Lib.hid (HDR.out.trans (if_pos hge))
        go_wp2_with fail
        go_ret
        exact ⟨by rw [HR.out]; rfl, HBA.out⟩
      · have HR := Lib.hid (HDR.out.trans (if_neg hge))
        by_cases hgt : p < e
        · have hmax : max p e = e := by omega
          rw [hmax] at HR
          go_wp2_with fail
          go_roundw
          case rel => exact ⟨k + 1, e, by go_num, rfl, by omega, by omega, HR.out, HBA.out⟩
          case measure => simp [intOf]; omega
        · have hmax : max p e = p := by omega
          rw [hmax] at HR
          go_wp2_with fail
          go_roundw
          case rel => exact ⟨k + 1, p, by go_num, rfl, by omega, by omega, HR.out, HBA.out⟩
          case measure => simp [intOf]; omega
    · obtain rfl : k = n := by omega
      have HR := Lib.hid (show AdjL.lowest L z 0 = p by rw [HLO.out, List.drop_eq_nil_of_le (by have := HN.out; omega)]; rfl)
      go_wp2_with fail
      go_ret
      exact ⟨by rw [HR.out]; rfl, HB.out⟩
end Go.Proofs.Ytkopkicdmbnpgaa
