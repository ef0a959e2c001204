/-
  Lives in memory; the walks of Wrong (both) and of nothing. Conditions: the lives can be read.
-/
import Derived.Test.YtkopkicdmbnpgaaRoomB
import Derived.Test.YtkopkicdmbnpgaaLoadPlain
namespace Go.Proofs.Ytkopkicdmbnpgaa
set_option linter.unusedVariables false
open Go.RowKit Adj

namespace Lv
def lifeV (x : AdjL.Life) : Value := .agg #[.int .i64 x.f, .int .i64 x.t, .int .i64 x.w]
/-- The three cells of a life of a list. -/
theorem cells {w : World} {B b off : Nat} {L : List AdjL.Life} (h : IntsAt w B (some ⟨b, off, none⟩) (AdjL.flat L)) {k : Nat} (hk : k < L.length) :
    w.cell? ⟨b, off + k * 3, none⟩ = some (.int .i64 L[k].f) ∧ w.cell? ⟨b, off + k * 3 + 1, none⟩ = some (.int .i64 L[k].t) ∧ w.cell? ⟨b, off + k * 3 + 2, none⟩ = some (.int .i64 L[k].w) := by
  have g : ∀ j v, j < 3 → (AdjL.three L[k])[j]? = some v → w.cell? ⟨b, off + k * 3 + j, none⟩ = some (.int .i64 v) := fun j v hj hv => by
    have := h.at_ ((AdjL.flat_at L k j hk hj).trans hv)
    rwa [← Nat.add_assoc] at this
  exact ⟨g 0 _ (by omega) rfl, g 1 _ (by omega) rfl, g 2 _ (by omega) rfl⟩
theorem spot {w : World} {B : Nat} {A : Option Addr} {L : List AdjL.Life} (h : IntsAt w B A (AdjL.flat L)) {k : Nat} (hk : k < L.length) : ∃ b off, A = some ⟨b, off, none⟩ ∧ b < B := h.spot (by rw [AdjL.flat_length]; omega)
end Lv

set_option maxRecDepth 100000 in
set_option maxHeartbeats 4000000 in
theorem Wrong_any (w : World) (l : List AdjL.Life) (A : Option Addr) (n c : Nat) (hn : l.length = n) (h : IntsAt w w.heap.size A (AdjL.flat l)) :
    Calls Try.prog 21 #[.slice A n c] w fun e w' => e = .returned (.int .i64 (AdjL.wrong l)) ∧ Below w.heap.size w w' := by
  have HB0 := Lib.hid (Below.refl w.heap.size w)
  by_cases hbig : 4096 < n
  · have HE := Lib.hid (show AdjL.wrong l = 2 by unfold AdjL.wrong; rw [if_pos (by omega)])
    clear hn h
    go_enter Try.func21, Try.ntmps21
    go_wp2_with fail
    go_ret
    exact ⟨by rw [HE.out]; rfl, HB0.out⟩
  · have HE := Lib.hid (show AdjL.wrong l = if AdjL.anyBad l then 4 else 0 by unfold AdjL.wrong; rw [if_neg (by omega)])
    have H := Lib.hid h
    have HN := Lib.hid hn
    clear h hn
    go_enter Try.func21, Try.ntmps21
    go_wp2_with fail
    go_loopw [10] (fun kv wr => ∃ k : Nat, kv = .int .i64 (k : Int) ∧ k ≤ n ∧ (∀ j (hj : j < l.length), j < k → ¬ AdjL.bad l[j]) ∧ Below w.heap.size w wr) (fun kv _ => n - (intOf kv).toNat)
    case atStart => exact ⟨0, rfl, by omega, fun j _ hj => by omega, HB0.out⟩
    case round =>
      obtain ⟨k, rfl, hk, hno, hb⟩ := hrel
      have HNO := Lib.hid hno
      have HB := Lib.hid hb
      clear hno hb
      by_cases hkn : k < n
      · have hkl : k < l.length := by have := HN.out; omega
        obtain ⟨b, off, rfl, hbb⟩ := Lv.spot H.out hkl
        obtain ⟨y1, y2, y3⟩ := Lv.cells H.out hkl
        have c1 := (HB.out.cell (cell_lt y1)).trans y1
        have c2 := (HB.out.cell (cell_lt y2)).trans y2
        have c3 := (HB.out.cell (cell_lt y3)).trans y3
        have HNX := Lib.hid (show ¬ AdjL.bad l[k] → ∀ j (hj : j < l.length), j < k + 1 → ¬ AdjL.bad l[j] from fun h j hj hjk => by
          by_cases e : j = k
          · subst e; exact h
          · exact HNO.out j hj (by omega))
        have HAB := Lib.hid (show AdjL.bad l[k] → AdjL.wrong l = 4 from fun h => by rw [HE.out, AdjL.anyBad_at hkl h]; rfl)
        have hsz : w.heap.size ≤ wr.heap.size := HB.out.size
        have HBA := Lib.hid (fun o => HB.out.alloc HB.out.size o)
        generalize l[k] = x at c1 c2 c3 HNX HAB
        clear y1 y2 y3
        obtain ⟨f, t, z⟩ := x
        simp only at c1 c2 c3
        by_cases b1 : f < 0
        · have HV := Lib.hid (HAB.out (.inl b1))
          go_wp2_with fail
          go_ret
          exact ⟨by rw [HV.out]; rfl, HBA.out _⟩
        by_cases b2 : t < f
        · have HV := Lib.hid (HAB.out (.inr (.inl b2)))
          go_wp2_with fail
          go_ret
          exact ⟨by rw [HV.out]; rfl, HBA.out _⟩
        by_cases b3 : 1048576 < t
        · have HV := Lib.hid (HAB.out (.inr (.inr (.inl b3))))
          go_wp2_with fail
          go_ret
          exact ⟨by rw [HV.out]; rfl, HBA.out _⟩
        by_cases b4 : z < 0
        · have HV := Lib.hid (HAB.out (.inr (.inr (.inr (.inl b4)))))
          go_wp2_with fail
          go_ret
          exact ⟨by rw [HV.out]; rfl, HBA.out _⟩
        by_cases b5 : 1048576 < z
        · have HV := Lib.hid (HAB.out (.inr (.inr (.inr (.inr b5)))))
          go_wp2_with fail
          go_ret
          exact ⟨by rw [HV.out]; rfl, HBA.out _⟩
        have HNX2 := Lib.hid (HNX.out (show ¬ (f < 0 ∨ t < f ∨ 1048576 < t ∨ z < 0 ∨ 1048576 < z) by omega))
        go_wp2_with fail
        go_roundw
        case rel => exact ⟨k + 1, by go_num, by omega, HNX2.out, HBA.out _⟩
        case measure => simp [intOf]; omega
      · obtain rfl : k = n := by omega
        have HV := Lib.hid (show AdjL.wrong l = 0 by
          rw [HE.out, AdjL.anyBad_none (fun j hj => HNO.out j hj (by have := HN.out; omega))]; rfl)
        go_wp2_with fail
        go_ret
        exact ⟨by rw [HV.out]; rfl, HB.out⟩
set_option maxRecDepth 100000 in
set_option maxHeartbeats 4000000 in
theorem refWrong_any (w : World) (l : List AdjL.Life) (A : Option Addr) (n c : Nat) (hn : l.length = n) (h : IntsAt w w.heap.size A (AdjL.flat l)) :
    Calls Try.prog 22 #[.slice A n c] w fun e w' => e = .returned (.int .i64 (AdjL.wrong l)) ∧ Below w.heap.size w w' := by
  have HB0 := Lib.hid (Below.refl w.heap.size w)
  by_cases hbig : 4096 < n
  · have HE := Lib.hid (show AdjL.wrong l = 2 by unfold AdjL.wrong; rw [if_pos (by omega)])
    clear hn h
    go_enter Try.func22, Try.ntmps22
    go_wp2_with fail
    go_ret
    exact ⟨by rw [HE.out]; rfl, HB0.out⟩
  · have HE := Lib.hid (show AdjL.wrong l = if AdjL.anyBad l then 4 else 0 by unfold AdjL.wrong; rw [if_neg (by omega)])
    have H := Lib.hid h
    have HN := Lib.hid hn
    clear h hn
    go_enter Try.func22, Try.ntmps22
    go_wp2_with fail
    go_loopw [10] (fun kv wr => ∃ k : Nat, kv = .int .i64 (k : Int) ∧ k ≤ n ∧ (∀ j (hj : j < l.length), j < k → ¬ AdjL.bad l[j]) ∧ Below w.heap.size w wr) (fun kv _ => n - (intOf kv).toNat)
    case atStart => exact ⟨0, rfl, by omega, fun j _ hj => by omega, HB0.out⟩
    case round =>
      obtain ⟨k, rfl, hk, hno, hb⟩ := hrel
      have HNO := Lib.hid hno
      have HB := Lib.hid hb
      clear hno hb
      by_cases hkn : k < n
      · have hkl : k < l.length := by have := HN.out; omega
        obtain ⟨b, off, rfl, hbb⟩ := Lv.spot H.out hkl
        obtain ⟨y1, y2, y3⟩ := Lv.cells H.out hkl
        have c1 := (HB.out.cell (cell_lt y1)).trans y1
        have c2 := (HB.out.cell (cell_lt y2)).trans y2
        have c3 := (HB.out.cell (cell_lt y3)).trans y3
        have HNX := Lib.hid (show ¬ AdjL.bad l[k] → ∀ j (hj : j < l.length), j < k + 1 → ¬ AdjL.bad l[j] from fun h j hj hjk => by
          by_cases e : j = k
          · subst e; exact h
          · exact HNO.out j hj (by omega))
        have HAB := Lib.hid (show AdjL.bad l[k] → AdjL.wrong l = 4 from fun h => by rw [HE.out, AdjL.anyBad_at hkl h]; rfl)
        have hsz : w.heap.size ≤ wr.heap.size := HB.out.size
        have HBA := Lib.hid (fun o => HB.out.alloc HB.out.size o)
        generalize l[k] = x at c1 c2 c3 HNX HAB
        clear y1 y2 y3
        obtain ⟨f, t, z⟩ := x
        simp only at c1 c2 c3
        by_cases b1 : f < 0
        · have HV := Lib.hid (HAB.out (.inl b1))
          go_wp2_with fail
          go_ret
          exact ⟨by rw [HV.out]; rfl, HBA.out _⟩
        by_cases b2 : t < f
        · have HV := Lib.hid (HAB.out (.inr (.inl b2)))
          go_wp2_with fail
          go_ret
          exact ⟨by rw [HV.out]; rfl, HBA.out _⟩
        by_cases b3 : 1048576 < t
        · have HV := Lib.hid (HAB.out (.inr (.inr (.inl b3))))
          go_wp2_with fail
          go_ret
          exact ⟨by rw [HV.out]; rfl, HBA.out _⟩
        by_cases b4 : z < 0
        · have HV := Lib.hid (HAB.out (.inr (.inr (.inr (.inl b4)))))
          go_wp2_with fail
          go_ret
          exact ⟨by rw [HV.out]; rfl, HBA.out _⟩
        by_cases b5 : 1048576 < z
        · have HV := Lib.hid (HAB.out (.inr (.inr (.inr (.inr b5)))))
          go_wp2_with fail
          go_ret
          exact ⟨by rw [HV.out]; rfl, HBA.out _⟩
        have HNX2 := Lib.hid (HNX.out (show ¬ (f < 0 ∨ t < f ∨ 1048576 < t ∨ z < 0 ∨ 1048576 < z) by omega))
        go_wp2_with fail
        go_roundw
        case rel => exact ⟨k + 1, by go_num, by omega, HNX2.out, HBA.out _⟩
        case measure => simp [intOf]; omega
      · obtain rfl : k = n := by omega
        have HV := Lib.hid (show AdjL.wrong l = 0 by
          rw [HE.out, AdjL.anyBad_none (fun j hj => HNO.out j hj (by have := HN.out; omega))]; rfl)
        go_wp2_with fail
        go_ret
        exact ⟨by rw [HV.out]; rfl, HB.out⟩

set_option maxRecDepth 100000 in
theorem nothing_any (w : World) (x : AdjL.Life) :
    Calls Try.prog 39 #[Lv.lifeV x] w fun e w' => e = .returned (.bool (AdjL.nothing x)) ∧ Below w.heap.size w w' := by
  have HBA := Lib.hid (fun o => (Below.refl w.heap.size w).alloc (Nat.le_refl _) o)
  obtain ⟨f, t, z⟩ := x
  unfold Lv.lifeV AdjL.nothing
  simp only
  by_cases e1 : z = 0
  · subst e1
    go_enter Try.func39, Try.ntmps39
    go_wp2_with fail
    go_ret
    exact ⟨by simp, HBA.out _⟩
  · have q0 : (z == 0) = false := by simpa using e1
    by_cases e2 : f = t
    · subst e2
      go_enter Try.func39, Try.ntmps39
      go_wp2_with fail
      go_ret
      exact ⟨by simp, HBA.out _⟩
    · have q1 : (f == t) = false := by simpa using e2
      go_enter Try.func39, Try.ntmps39
      go_wp2_with fail
      go_ret
      exact ⟨by rw [q0, q1]; rfl, HBA.out _⟩
end Go.Proofs.Ytkopkicdmbnpgaa
