/-
  slices.SortFunc of the changes: what the row holds behind it. Conditions: the row can be read and written.
-/
import Derived.Test.YtkopkicdmbnpgaaRoomS
import Derived.Test.YtkopkicdmbnpgaaSortChg
namespace Go.Proofs.Ytkopkicdmbnpgaa
set_option linter.unusedVariables false
open Go.RowKit Adj Go.Sort Go.Shelf

namespace Lv
def encC (c : Int × Int) : List Value := [.int .i64 c.1, .int .i64 c.2]
theorem byTime_lt (x y : Int × Int) : ltOf byTime x y = decide (x.1 < y.1 ∨ (x.1 = y.1 ∧ x.2 < y.2)) := by
  unfold ltOf byTime AdjS.cmp3
  congr 1
  refine propext ?_
  (repeat' split) <;> omega
theorem byTime_swo : SWO (ltOf byTime) where
  irrefl x := by rw [byTime_lt]; simp
  trans x y z h1 h2 := by rw [byTime_lt] at *; simp at *; omega
  ntrans x y z h1 h2 := by rw [byTime_lt] at *; simp at *; omega
/-- The row of changes at block g. -/
def Row (W : World) (g : Nat) (d : List (Int × Int)) : Prop := g < W.heap.size ∧ (∀ i, W.frozen? ⟨g, i, none⟩ = false) ∧ ∀ (j : Nat) (hj : j < d.length), W.cell? ⟨g, j * 2, none⟩ = some (.int .i64 d[j].1) ∧ W.cell? ⟨g, j * 2 + 1, none⟩ = some (.int .i64 d[j].2)
theorem Row.holds {W : World} {g : Nat} {d : List (Int × Int)} (h : Row W g d) : HoldsK encC 2 W g 0 d.toArray := by
  intro j hj
  rw [size_flatK] at hj
  have hj2 : j / 2 < d.length := by simp at hj; omega
  rw [get_flatK _ _ _ _ hj, Nat.zero_add]
  have h1 := h.2.2 (j / 2) hj2
  have h2 : d.toArray[j / 2]! = d[j / 2] := by simp [hj2]
  rw [h2]
  refine ⟨?_, h.2.1 j⟩
  rcases Nat.mod_two_eq_zero_or_one j with e | e
  · rw [e]
    have : j = j / 2 * 2 := by omega
    conv => lhs; rw [this]
    exact h1.1
  · rw [e]
    have : j = j / 2 * 2 + 1 := by omega
    conv => lhs; rw [this]
    exact h1.2
theorem sortWorld_below {W : World} {g n B : Nat} {d : Array (Int × Int)} {os : Array Obj} (hg : g < W.heap.size) (hB : B ≤ g) : Below B W (sortWorldK encC 2 W g 0 n d os) := by
  refine ⟨rfl, rfl, rfl, ?_, fun k hk => ?_⟩
  · simp [sortWorldK, grow, putRowK, putRow, mapBlock]
  · show (W.heap.modify g _ ++ os)[k]? = _
    rw [Array.getElem?_append_left (by simp; omega), Array.getElem?_modify, if_neg (by omega)]
end Lv

set_option maxRecDepth 100000 in
set_option maxHeartbeats 4000000 in
theorem sortChg_any (W : World) (g cap n : Nat) (d : List (Int × Int)) (hn : d.length = n) (hbig : n ≤ 1048576) (h : Lv.Row W g d) :
    Calls Try.prog 40 #[.slice (some ⟨g, 0, none⟩) n cap, .func (.func 41) #[] #[]] W fun e w' => e = .returned (.tuple #[]) ∧ ∃ d' : List (Int × Int), d'.Perm d ∧ AdjL.Srt d' ∧ (∀ (j : Nat) (hj : j < d'.length), w'.cell? ⟨g, j * 2, none⟩ = some (.int .i64 d'[j].1) ∧ w'.cell? ⟨g, j * 2 + 1, none⟩ = some (.int .i64 d'[j].2)) ∧ ∀ B, B ≤ g → Below B W w' := by
  have eg : ∀ args w, (callFunc 41 args).run Try.prog w = .ok (.enter 41 args) w := fun _ _ => rfl
  have hcmp : CmpLays Try.prog 41 #[] Lv.encC 2 Lv.byTime g 0 d.toArray.size W := fun _ _ _ _ x y => load1_any _ x y
  have hcon := AnyQ.slices_SortFunc Try.sortChg 2 Try.isAgg71 Try.sizeOf71 Lv.encC (fun _ => rfl) (fun x v hv => by simp [Lv.encC] at hv; rcases hv with rfl | rfl <;> rfl) Lv.byTime Lv.byTime_swo 41 #[] g 0 cap d.toArray W eg hcmp h.holds h.1 (by simp; omega)
  change Calls Try.prog 40 _ _ _ at hcon
  have e1 : d.toArray.size = n := by simpa using hn
  rw [e1] at hcon
  refine hcon.mono ?_
  rintro e w' ⟨rfl, d', m, os, hp, hs, rfl⟩
  obtain ⟨p1, p2, p3⟩ := hp
  have e2 : d'.size = n := by rw [p1, e1]
  have e3 : d'.extract 0 n = d' := by rw [← e2]; simp
  have e4 : d.toArray.extract 0 n = d.toArray := by rw [← e1]; simp
  rw [e3, e4] at p3
  have hH := holdsK_sortWorldK_c Lv.encC 2 W g 0 d.toArray d' m os h.holds h.1 p1
  refine ⟨rfl, d'.toList, by simpa using p3, ?_, fun j hj => ?_, fun B hB => Lv.sortWorld_below h.1 hB⟩
  · unfold AdjL.Srt
    rw [List.pairwise_iff_getElem]
    intro i j hi hj hij
    have hi2 : i < d'.size := by simpa using hi
    have hj2 : j < d'.size := by simpa using hj
    have h1 := hs i j (Nat.zero_le _) hij (by omega)
    rw [Lv.byTime_lt] at h1
    have h2 : d'[j]! = d'.toList[j] := by simp [hj2]
    have h3 : d'[i]! = d'.toList[i] := by simp [hi2]
    rw [h2, h3] at h1
    have h4 := of_decide_eq_false h1
    omega
  · have hj2 : j < d'.size := by simpa using hj
    have h2 : d'[j]! = d'.toList[j] := by simp [hj2]
    have c0 := (hH.cell (c := 0) hj2 (by omega)).1
    have c1 := (hH.cell (c := 1) hj2 (by omega)).1
    rw [h2] at c0 c1
    rw [Nat.zero_add] at c0 c1
    exact ⟨c0, c1⟩
end Go.Proofs.Ytkopkicdmbnpgaa
