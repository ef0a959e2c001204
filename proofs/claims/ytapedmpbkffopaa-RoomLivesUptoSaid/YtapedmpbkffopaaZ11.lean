/-
  Plain: what the program's array.Dims reckons is what the rules say; The walks of cmp.Less, slices.IsSorted, slices.Equal at ints; of array.many, distinct, rising; lists of lists and operations in memory; A slice value that reads as a row of cells, nil let in; append of such a slice onto a row of the call's own; The walks of array.fits, of slices.Concat at lists of ints, of array.summed. Conditions: where the theorems name them.
-/
import Derived.Test.YtapedmpbkffopaaZ09
import Derived.Test.YtapedmpbkffopaaZ10
import Derived.Deep.QuietTactic
import Derived.BigQuiet
import Derived.Laws.MakeOwn
import Derived.Maps.AppendAt
import Derived.Deep.AppendLies
import Derived.RegionTactic
import Derived.OwnWalk
import Derived.Below
import Derived.Laws.OwnMore
import Derived.Deep.Draws
import Derived.Lib.AppendZerosOnto
import Derived.Lib.AppendZeros
section
namespace AdjD
set_option linter.unusedVariables false
open AdjV (size pick rangeZ riseB prev riseB_true)
def sortedB (l : List Int) : Bool := (List.range (l.length - 1)).all fun i => decide (l.getD i 0 ≤ l.getD (i + 1) 0)
def pairDims (op : Op) (a b : List Int) : List Int × Int :=
 if op.at_.length ≠ op.step.length ∨ op.lo.length ≠ op.hi.length ∨ onceB (op.lo ++ op.at_) a.length = false ∨ onceB (op.hi ++ op.step) b.length = false then ([], 6)
 else if chosen a (op.lo ++ op.at_) ≠ chosen b (op.hi ++ op.step) then ([], 6)
 else (chosen a op.lo ++ chosen a (free a (op.lo ++ op.at_)) ++ chosen b (free b (op.hi ++ op.step)), 0)
theorem once_comm (l m : List Int) (n : Nat) : onceB (l ++ m) n = onceB (m ++ l) n := by
 unfold onceB
 rw [List.all_append, List.all_append, Bool.and_comm (l.all _), decide_eq_decide.2 (List.perm_append_comm (l₁ := l) (l₂ := m)).nodup_iff]
theorem free_comm (d l m : List Int) : free d (l ++ m) = free d (m ++ l) := by
 unfold free
 refine List.filter_congr (fun k _ => ?_)
 rw [decide_eq_decide.2 (show k ∈ l ++ m ↔ k ∈ m ++ l by simp [or_comm])]
theorem chosen_append (d l m : List Int) : chosen d (l ++ m) = chosen d l ++ chosen d m := List.map_append
theorem chosen_length (d l : List Int) : (chosen d l).length = l.length := List.length_map _
theorem pair_eq (op : Op) (a b : List Int) : pairDims op a b = dotDims op a b := by
 unfold pairDims dotDims
 have o1 := once_comm op.lo op.at_ a.length
 have o2 := once_comm op.hi op.step b.length
 have f1 := free_comm a op.lo op.at_
 have f2 := free_comm b op.hi op.step
 by_cases c : op.at_.length ≠ op.step.length ∨ op.lo.length ≠ op.hi.length ∨ onceB (op.lo ++ op.at_) a.length = false ∨ onceB (op.hi ++ op.step) b.length = false
 ·rw [if_pos c]
  symm
  by_cases c1 : op.at_.length ≠ op.step.length ∨ op.lo.length ≠ op.hi.length
  ·rw [if_pos c1]
  ·have c2 : onceB (op.at_ ++ op.lo) a.length = false ∨ onceB (op.step ++ op.hi) b.length = false := by
     rw [← o1, ← o2]
     rcases c with c | c | c
     ·exact absurd (.inl c) c1
     ·exact absurd (.inr c) c1
     ·exact c
   rw [if_neg c1, if_pos c2]
 ·have c1 : ¬ (op.at_.length ≠ op.step.length ∨ op.lo.length ≠ op.hi.length) := fun h => c (h.elim .inl (fun h => .inr (.inl h)))
  have c2 : ¬ (onceB (op.at_ ++ op.lo) a.length = false ∨ onceB (op.step ++ op.hi) b.length = false) := by
   rw [← o1, ← o2]
   exact fun h => c (.inr (.inr h))
  rw [if_neg c]
  symm
  rw [if_neg c1, if_neg c2]
  symm
  have h5 : chosen a (op.lo ++ op.at_) = chosen b (op.hi ++ op.step) ↔ chosen a op.lo = chosen b op.hi ∧ chosen a op.at_ = chosen b op.step := by
   rw [chosen_append, chosen_append]
   refine ⟨fun h => List.append_inj h (by rw [chosen_length, chosen_length]; omega), fun h => by rw [h.1, h.2]⟩
  by_cases h6 : chosen a (op.lo ++ op.at_) = chosen b (op.hi ++ op.step)
  ·obtain ⟨h7, h8⟩ := h5.1 h6
   have c3 : ¬ (chosen a op.at_ ≠ chosen b op.step ∨ chosen a op.lo ≠ chosen b op.hi) := fun h => h.elim (fun h => h h8) (fun h => h h7)
   rw [if_neg (not_not_intro h6), if_neg c3, f1, f2]
  ·have c3 : chosen a op.at_ ≠ chosen b op.step ∨ chosen a op.lo ≠ chosen b op.hi := by
     by_cases h7 : chosen a op.at_ = chosen b op.step
     ·exact .inr (fun h8 => h6 (h5.2 ⟨h8, h7⟩))
     ·exact .inl h7
   rw [if_pos h6, if_pos c3]
theorem sorted_at {l : List Int} (h : sortedB l = true) {i : Nat} (hi : i + 1 < l.length) : l.getD i 0 ≤ l.getD (i + 1) 0 := of_decide_eq_true (List.all_eq_true.1 h i (List.mem_range.2 (by omega)))
theorem getD_at (l : List Int) (i : Nat) (h : i < l.length) : l.getD i 0 = l[i] := by simp [List.getD_eq_getElem?_getD, h]
theorem sorted_le {l : List Int} (h : sortedB l = true) : ∀ (j i : Nat), i ≤ j → j < l.length → l.getD i 0 ≤ l.getD j 0
 | 0, i, h1, h2 => by obtain rfl : i = 0 := by omega
                      exact Int.le_refl _
 | j + 1, i, h1, h2 => by
  by_cases e : i = j + 1
  ·subst e; exact Int.le_refl _
  ·exact Int.le_trans (sorted_le h j i (by omega) (by omega)) (sorted_at h h2)
theorem rise_eq (l : List Int) (n : Nat) : riseB n l = (sortedB l && onceB l n) := by
 rw [Bool.eq_iff_iff]
 constructor
 ·intro h
  have hr := riseB_true h
  have hs : sortedB l = true := by
   refine List.all_eq_true.2 (fun i hi => decide_eq_true ?_)
   have hi := List.mem_range.1 hi
   have h1 := (hr (i + 1) (by omega)).1
   unfold prev at h1
   rw [if_neg (by omega), Nat.add_sub_cancel] at h1
   rw [getD_at l (i + 1) (by omega)]
   omega
  have hlow : ∀ i (hi : i < l.length), 0 ≤ l[i] := fun i hi => by
   have h0 := (hr 0 (by omega)).1
   unfold prev at h0
   rw [if_pos rfl] at h0
   have h1 := sorted_le hs i 0 (by omega) hi
   rw [getD_at l 0 (by omega), getD_at l i hi] at h1
   omega
  rw [Bool.and_eq_true]
  refine ⟨hs, ?_⟩
  unfold onceB
  rw [Bool.and_eq_true]
  refine ⟨List.all_eq_true.2 (fun k hk => ?_), decide_eq_true ?_⟩
  ·obtain ⟨i, hi, rfl⟩ := List.getElem_of_mem hk
   have h1 := hlow i hi
   have h2 := (hr i hi).2
   rw [decide_eq_true h1, decide_eq_true h2]; rfl
  ·refine List.pairwise_iff_getElem.2 (fun i j hi hj hij e => ?_)
   have h1 := (hr j hj).1
   unfold prev at h1
   rw [if_neg (by omega), getD_at l (j - 1) (by omega)] at h1
   have h2 := sorted_le hs (j - 1) i (by omega) (by omega)
   rw [getD_at l i hi, getD_at l (j - 1) (by omega)] at h2
   omega
 ·intro h
  rw [Bool.and_eq_true] at h
  obtain ⟨hs, ho⟩ := h
  unfold onceB at ho
  rw [Bool.and_eq_true] at ho
  obtain ⟨ho1, ho2⟩ := ho
  have hn := List.pairwise_iff_getElem.1 (of_decide_eq_true ho2)
  unfold riseB
  refine List.all_eq_true.2 (fun i hi => ?_)
  have hi := List.mem_range.1 hi
  have h1 := List.all_eq_true.1 ho1 _ (List.getElem_mem hi)
  simp only [Bool.and_eq_true, decide_eq_true_eq] at h1 ⊢
  rw [getD_at l i hi]
  refine ⟨?_, h1.2⟩
  unfold prev
  by_cases e : i = 0
  ·rw [if_pos e]; omega
  ·rw [if_neg e]
   have h2 := sorted_at hs (i := i - 1) (by omega)
   have h3 := hn (i - 1) i (by omega) hi (by omega)
   rw [Nat.sub_add_cancel (by omega), getD_at l i hi, getD_at l (i - 1) (by omega)] at h2
   rw [getD_at l (i - 1) (by omega)]
   omega
end AdjD
end
section
namespace Go.Proofs.Ytapedmpbkffopaa
set_option linter.unusedVariables false
open Go.RowKit Adj
theorem ar_lt {w : World} {p : Addr} {v : Value} (h : w.cell? p = some v) : p.block < w.heap.size := by
 rcases Nat.lt_or_ge p.block w.heap.size with hlt | hge
 ·exact hlt
 ·exfalso
  unfold World.cell? at h
  rw [Array.getElem?_eq_none hge] at h
  cases h
namespace Ar
def SlAt (w : World) (B : Nat) (v : Value) (l : List Int) : Prop := ∃ A c, v = .slice A l.length c ∧ Vw.IntsAt w B A l ∧ l.length ≤ c ∧ c ≤ 9223372036854775807
theorem SlAt.below {w w' : World} {B : Nat} {v : Value} {l : List Int} (h : SlAt w B v l) (hb : Below B w w') : SlAt w' B v l := by
 obtain ⟨A, c, e, h1, h2⟩ := h
 exact ⟨A, c, e, h1.below hb, h2⟩
theorem SlAt.up {w : World} {B B' : Nat} {v : Value} {l : List Int} (h : SlAt w B v l) (hb : B ≤ B') : SlAt w B' v l := by
 obtain ⟨A, c, e, h1, h2⟩ := h
 exact ⟨A, c, e, h1.up hb, h2⟩
theorem SlAt.nil (w : World) (B : Nat) : SlAt w B (.slice none 0 0) [] := ⟨none, 0, rfl, fun h => by simp at h, Nat.le_refl _, by omega⟩
def ListsAt (w : World) (B : Nat) (A : Option Addr) (ls : List (List Int)) : Prop :=
 0 < ls.length → ∃ b off, A = some ⟨b, off, none⟩ ∧ b < B ∧ ∀ i (h : i < ls.length), ∃ v, w.cell? ⟨b, off + i, none⟩ = some v ∧ SlAt w B v ls[i]
theorem ListsAt.below {w w' : World} {B : Nat} {A : Option Addr} {ls : List (List Int)} (h : ListsAt w B A ls) (hb : Below B w w') : ListsAt w' B A ls := fun hp => by
 obtain ⟨b, off, hA, hlt, hc⟩ := h hp
 refine ⟨b, off, hA, hlt, fun i hi => ?_⟩
 obtain ⟨v, h1, h2⟩ := hc i hi
 exact ⟨v, (hb.cell (p := ⟨b, off + i, none⟩) hlt).trans h1, h2.below hb⟩
theorem ListsAt.up {w : World} {B B' : Nat} {A : Option Addr} {ls : List (List Int)} (h : ListsAt w B A ls) (hb : B ≤ B') : ListsAt w B' A ls := fun hp => by
 obtain ⟨b, off, hA, hlt, hc⟩ := h hp
 refine ⟨b, off, hA, by omega, fun i hi => ?_⟩
 obtain ⟨v, h1, h2⟩ := hc i hi
 exact ⟨v, h1, h2.up hb⟩
def OpAt (w : World) (B : Nat) (val : Value) (op : AdjD.Op) : Prop :=
 ∃ v1 v2 v3 v4 v5, val = .agg #[.int .i64 op.kind, v1, v2, v3, v4, v5, .int .i64 op.value] ∧ SlAt w B v1 op.dims ∧ SlAt w B v2 op.at_ ∧ SlAt w B v3 op.lo ∧ SlAt w B v4 op.hi ∧ SlAt w B v5 op.step
theorem OpAt.below {w w' : World} {B : Nat} {v : Value} {op : AdjD.Op} (h : OpAt w B v op) (hb : Below B w w') : OpAt w' B v op := by
 obtain ⟨v1, v2, v3, v4, v5, e, h1, h2, h3, h4, h5⟩ := h
 exact ⟨v1, v2, v3, v4, v5, e, h1.below hb, h2.below hb, h3.below hb, h4.below hb, h5.below hb⟩
theorem OpAt.up {w : World} {B B' : Nat} {v : Value} {op : AdjD.Op} (h : OpAt w B v op) (hb : B ≤ B') : OpAt w B' v op := by
 obtain ⟨v1, v2, v3, v4, v5, e, h1, h2, h3, h4, h5⟩ := h
 exact ⟨v1, v2, v3, v4, v5, e, h1.up hb, h2.up hb, h3.up hb, h4.up hb, h5.up hb⟩
def bools (l : List Bool) : List Value := l.map .bool
theorem made_false (c : Nat) : madeCells (Value.bool false).cells c = (bools (List.replicate c false)).toArray := by
 apply Array.ext
 ·simp [size_madeCells, bools]
 ·intro i h1 h2
  simp [madeCells, bools, Value.cells, Nat.mod_one]
end Ar
theorem Ar.run_make_bool (c : Nat) (h : c ≤ 65536) (w : World) :
    (Instr.makeSlice 85 (.int .i64 (c : Int)) (.int .i64 (c : Int))).run Try.prog w = .ok (.slice (some ⟨w.heap.size, 0, none⟩) c c) (w.alloc (.cells (Ar.bools (List.replicate c false)).toArray 4)) := by
 rw [← Ar.made_false]
 obtain ⟨i0, hi, hz0, hz1, hz2⟩ := info_parts Try.infoOf4
 have hb : (i0.bytes : Int) * (c : Int) ≤ 281474976710656 := by rw [hz2]; omega
 have hr := run_make (P := Try.prog) w 85 4 i0 _ Try.underlying85 hi hz0 .i64 .i64 c c (by omega) (by omega) hb (by omega)
 simp only [Int.toNat_natCast, hz1, Nat.mul_one] at hr
 exact hr
set_option maxRecDepth 100000 in
theorem Ar.isNaN_any (x : Int) (w : World) : Calls Try.prog 80 #[.int .i64 x] w fun e w' => e = .returned (.bool false) ∧ w' = w := by
 have h : (x != x) = false := by simp
 go_enter Try.func80, Try.ntmps80
 go_wp2_with fail
 go_ret
 exact ⟨rfl, rfl⟩
set_option maxRecDepth 100000 in
theorem Ar.less_any (x y : Int) (w : World) : Calls Try.prog 76 #[.int .i64 x, .int .i64 y] w fun e w' => e = .returned (.bool (decide (x < y))) ∧ w' = w := by
 go_enter Try.func76, Try.ntmps76
 go_wp2_with ((with_reducible refine (Ar.isNaN_any _ _).mono ?_); rintro e w' ⟨rfl, hw⟩; rw [hw])
 go_ret
 exact ⟨rfl, rfl⟩
set_option maxRecDepth 100000 in
set_option maxHeartbeats 4000000 in
theorem Ar.sorted_any (A : Option Addr) (cap : Nat) (l : List Int) (B : Nat) (w : World) (hl : l.length ≤ 9223372036854775807) (hB : B ≤ w.heap.size) (hm : Vw.IntsAt w B A l) :
    Calls Try.prog 68 #[.slice A l.length cap] w fun e w' => e = .returned (.bool (AdjD.sortedB l)) ∧ ∃ d, w' = w.drewN d := by
 have HM := Lib.hid hm
 obtain ⟨n, hn⟩ : ∃ n, l.length = n := ⟨_, rfl⟩
 have HN := Lib.hid hn
 rw [hn] at hl ⊢
 clear hm hn
 go_enter Try.func68, Try.ntmps68
 go_wp2_with fail
 go_loopw [3] (fun iv wr => ∃ (i : Int) (d : Nat), iv = .int .i64 i ∧ -1 ≤ i ∧ i < (n : Int) ∧ (∀ j : Nat, i ≤ (j : Int) → j + 1 < n → l.getD j 0 ≤ l.getD (j + 1) 0) ∧ wr = w.drewN d) (fun iv _ => (intOf iv + 1).toNat)
 case atStart => exact ⟨(n : Int) - 1, 0, by go_num, by omega, by omega, fun j h1 h2 => by omega, rfl⟩
 case round =>
  obtain ⟨i, d, rfl, hi0, hin, hs, hd⟩ := hrel
  have HS := Lib.hid hs
  have HD := Lib.hid hd
  clear hs
  by_cases hpos : 0 < i
  ·obtain ⟨k, rfl⟩ : ∃ k : Nat, i = (k : Int) + 1 := ⟨(i - 1).toNat, by omega⟩
   have hkl : k + 1 < l.length := by have := HN.out; omega
   obtain ⟨b, off, rfl, hb, hc⟩ := HM.out (by omega)
   have c1 : wr.cell? ⟨b, off + (k + 1), none⟩ = some (.int .i64 l[k + 1]) := by rw [hd]; exact hc (k + 1) hkl
   have c2 : wr.cell? ⟨b, off + k, none⟩ = some (.int .i64 l[k]) := by rw [hd]; exact hc k (by omega)
   have e1 : l.getD k 0 = l[k] := AdjD.getD_at l k (by omega)
   have e2 : l.getD (k + 1) 0 = l[k + 1] := AdjD.getD_at l (k + 1) hkl
   rw [← e1] at c2
   rw [← e2] at c1
   have HF := Lib.hid (show l.getD (k + 1) 0 < l.getD k 0 → AdjD.sortedB l = false from fun h => by
    cases hb : AdjD.sortedB l with
    | false => rfl
    | true => have := AdjD.sorted_at hb hkl; omega)
   have HX := Lib.hid (show ¬ l.getD (k + 1) 0 < l.getD k 0 → ∀ j : Nat, (k : Int) ≤ (j : Int) → j + 1 < n → l.getD j 0 ≤ l.getD (j + 1) 0 from fun h j h1 h2 => by
    by_cases e : j = k
    ·subst e; omega
    ·exact HS.out j (by omega) h2)
   clear hc e1 e2 hd
   generalize l.getD k 0 = x at c2 HF HX
   generalize l.getD (k + 1) 0 = y at c1 HF HX
   have q1 : (k : Int) + 1 - 1 = (k : Int) := by omega
   have hk0 : (0 : Int) ≤ (k : Int) := by omega
   have hk1 : (k : Int) < (n : Int) := by omega
   have hk2 : ((k : Int) + 1).toNat = k + 1 := by omega
   have hk3 : (0 : Int) ≤ (k : Int) + 1 := by omega
   have qw : IntKind.i64.wrap (k : Int) = (k : Int) := IntWalk.i64_in _ (by omega)
   by_cases hlt : y < x
   ·have HR := Lib.hid (HF.out hlt)
    go_wp2_with fail
    go_quiet ((exact Calls.quiet_of_same (Ar.less_any _ _ _)))
    go_wp2_with fail
    go_ret
    exact ⟨by rw [HR.out]; rfl, d + nq, by rw [HD.out, World.drewN_drewN]⟩
   ·have HR := Lib.hid (HX.out hlt)
    have dlt : decide (y < x) = false := by simpa using hlt
    go_wp2_with fail
    go_quiet ((exact Calls.quiet_of_same (Ar.less_any _ _ _)))
    go_wp2_with fail
    go_roundw
    case rel => exact ⟨(k : Int), d + nq, by go_num, by omega, by omega, HR.out, by rw [HD.out, World.drewN_drewN]⟩
    case measure => simp [intOf]; omega
  ·have HR := Lib.hid (show AdjD.sortedB l = true from List.all_eq_true.2 (fun j hj => decide_eq_true (HS.out j (by omega) (by have := List.mem_range.1 hj; have := HN.out; omega))))
   clear hd
   go_wp2_with fail
   go_ret
   exact ⟨by rw [HR.out]; rfl, d, HD.out⟩
set_option maxRecDepth 100000 in
set_option maxHeartbeats 4000000 in
theorem Ar.equal_any (A A' : Option Addr) (cap cap' : Nat) (l m : List Int) (B B' : Nat) (w : World) (hl : l.length ≤ 9223372036854775807) (hl' : m.length ≤ 9223372036854775807) (hm : Vw.IntsAt w B A l) (hm' : Vw.IntsAt w B' A' m) :
    Calls Try.prog 36 #[.slice A l.length cap, .slice A' m.length cap'] w fun e w' => e = .returned (.bool (decide (l = m))) ∧ ∃ d, w' = w.drewN d := by
 by_cases hlen : l.length = m.length
 ·have HM := Lib.hid hm
  have HM' := Lib.hid hm'
  have hq : ((l.length : Int) != (m.length : Int)) = false := by simp; omega
  have HLEN := Lib.hid hlen
  clear hm hm' hlen
  go_enter Try.func36, Try.ntmps36
  go_wp2_with fail
  go_loopw [5, 13] (fun _ i wr => ∃ k d : Nat, k ≤ l.length ∧ i = .int .i64 (k : Int) ∧ l.take k = m.take k ∧ wr = w.drewN d) (fun _ i _ => l.length + 1 - (intOf i).toNat)
  case atStart => exact ⟨0, 0, by omega, rfl, by simp, rfl⟩
  case round =>
   obtain ⟨k, d, hk, rfl, hsame, rfl⟩ := hrel
   have HS := Lib.hid hsame
   clear hsame
   by_cases hlt : k < l.length
   ·have hlt' : k < m.length := by have := HLEN.out; omega
    obtain ⟨b, off, rfl, hb, hc⟩ := HM.out (by omega)
    obtain ⟨b', off', rfl, hb', hc'⟩ := HM'.out (by omega)
    have hck := hc k hlt
    have hck' := hc' k hlt'
    have hi1 : (0 : Int) ≤ (k : Int) := by omega
    have hi2 : (k : Int) < (l.length : Int) := by omega
    have hi3 : (k : Int) < (m.length : Int) := by omega
    have HT := Lib.hid (List.take_succ_eq_append_getElem hlt)
    have HT' := Lib.hid (List.take_succ_eq_append_getElem hlt')
    have HNE := Lib.hid (show l[k] ≠ m[k] → decide (l = m) = false from fun h => decide_eq_false (fun e => h (by subst e; rfl)))
    clear hc hc'
    generalize l[k] = x at hck HT HNE
    generalize m[k] = y at hck' HT' HNE
    by_cases hxy : x = y
    ·have HN := Lib.hid (show l.take (k + 1) = m.take (k + 1) by rw [HT.out, HT'.out, HS.out, hxy])
     have q0 : (x != y) = false := by simpa using hxy
     clear hxy
     go_wp2_with fail
     go_quiet (fail)
     go_wp2_with fail
     go_roundw
     case rel => exact ⟨k + 1, d + nq, by omega, by go_num, HN.out, by first | rfl | rw [World.drewN_drewN]⟩
     case measure => simp [intOf]; omega
    ·have HF := Lib.hid (HNE.out hxy)
     have q0 : (x != y) = true := by simpa using hxy
     clear hxy
     go_wp2_with fail
     go_quiet (fail)
     go_wp2_with fail
     go_ret
     exact ⟨by rw [HF.out]; rfl, d + nq, by first | rfl | rw [World.drewN_drewN]⟩
   ·obtain rfl : k = l.length := by omega
    have HT := Lib.hid (show decide (l = m) = true from decide_eq_true (by
     have h := HS.out
     rwa [List.take_of_length_le (Nat.le_refl _), List.take_of_length_le (by have := HLEN.out; omega)] at h))
    go_wp2_with fail
    go_ret
    exact ⟨by rw [HT.out]; rfl, d, rfl⟩
 ·have hq : ((l.length : Int) != (m.length : Int)) = true := by simp; omega
  have HF := Lib.hid (show decide (l = m) = false from decide_eq_false (fun e => hlen (by rw [e])))
  clear hlen hm hm'
  go_enter Try.func36, Try.ntmps36
  go_wp2_with fail
  go_ret
  exact ⟨by rw [HF.out]; rfl, 0, rfl⟩
namespace AdjD'
def manyOf (k : Int) : Int :=
 if k = 2 then 0
 else if k = 9 ∨ k = 10 ∨ k = 11 ∨ k = 12 ∨ k = 13 ∨ k = 14 ∨ k = 15 then 1
 else if k = 3 ∨ k = 4 ∨ k = 5 ∨ k = 6 ∨ k = 7 ∨ k = 16 ∨ k = 18 ∨ k = 19 then 2
 else if k = 8 then 3
 else if k = 17 then -1
 else -2
theorem right_many (k : Int) (n : Nat) : AdjD.right k n = if manyOf k = -2 then 1 else if (0 ≤ manyOf k ∧ manyOf k ≠ (n : Int)) ∨ (manyOf k = -1 ∧ n = 0) then 2 else 0 := by
 unfold AdjD.right manyOf
 (repeat' split) <;> omega
end AdjD'
set_option maxRecDepth 100000 in
set_option maxHeartbeats 4000000 in
theorem Ar.many_any (k : Int) (w : World) : Calls Try.prog 50 #[.int .i64 k] w fun e w' => e = .returned (.int .i64 (AdjD'.manyOf k)) ∧ w' = w := by
 have HD := Lib.hid (show AdjD'.manyOf k = if k = 2 then 0 else if k = 9 ∨ k = 10 ∨ k = 11 ∨ k = 12 ∨ k = 13 ∨ k = 14 ∨ k = 15 then 1 else if k = 3 ∨ k = 4 ∨ k = 5 ∨ k = 6 ∨ k = 7 ∨ k = 16 ∨ k = 18 ∨ k = 19 then 2 else if k = 8 then 3 else if k = 17 then -1 else -2 from rfl)
 go_enter Try.func50, Try.ntmps50
 go_wp2_with fail
 all_goals go_ret
 all_goals first | ((have e : AdjD'.manyOf k = 0 := by (rw [HD.out]; (try simp only [beq_iff_eq] at *); (try simp only [beq_eq_false_iff_ne] at *); (repeat' split) <;> first | rfl | omega)); exact ⟨by rw [e]; rfl, rfl⟩) | ((have e : AdjD'.manyOf k = 1 := by (rw [HD.out]; (try simp only [beq_iff_eq] at *); (try simp only [beq_eq_false_iff_ne] at *); (repeat' split) <;> first | rfl | omega)); exact ⟨by rw [e]; rfl, rfl⟩) | ((have e : AdjD'.manyOf k = 2 := by (rw [HD.out]; (try simp only [beq_iff_eq] at *); (try simp only [beq_eq_false_iff_ne] at *); (repeat' split) <;> first | rfl | omega)); exact ⟨by rw [e]; rfl, rfl⟩) | ((have e : AdjD'.manyOf k = 3 := by (rw [HD.out]; (try simp only [beq_iff_eq] at *); (try simp only [beq_eq_false_iff_ne] at *); (repeat' split) <;> first | rfl | omega)); exact ⟨by rw [e]; rfl, rfl⟩) | ((have e : AdjD'.manyOf k = -1 := by (rw [HD.out]; (try simp only [beq_iff_eq] at *); (try simp only [beq_eq_false_iff_ne] at *); (repeat' split) <;> first | rfl | omega)); exact ⟨by rw [e]; rfl, rfl⟩) | ((have e : AdjD'.manyOf k = -2 := by (rw [HD.out]; (try simp only [beq_iff_eq] at *); (try simp only [beq_eq_false_iff_ne] at *); (repeat' split) <;> first | rfl | omega)); exact ⟨by rw [e]; rfl, rfl⟩)
set_option maxRecDepth 100000 in
set_option maxHeartbeats 4000000 in
theorem Ar.distinct_any (A : Option Addr) (cap n : Nat) (l : List Int) (B : Nat) (w : World) (hl : l.length ≤ 9223372036854775807) (hn : n ≤ 65536) (hB : B ≤ w.heap.size) (hm : Vw.IntsAt w B A l) :
    Calls Try.prog 53 #[.slice A l.length cap, .int .i64 (n : Int)] w fun e w' => e = .returned (.bool (AdjD.onceB l n)) ∧ Below w.heap.size w w' := by
 have HM := Lib.hid hm
 have hmb := fun W => run_make_bool n hn W
 have HB0 := Lib.hid (Below.refl w.heap.size w)
 obtain ⟨m, hmm⟩ : ∃ m, l.length = m := ⟨_, rfl⟩
 have HN := Lib.hid hmm
 rw [hmm] at hl ⊢
 clear hm hmm
 go_enter Try.func53, Try.ntmps53
 go_wp2_with fail
 go_loopw [12] (fun kv wr => ∃ k : Nat, k ≤ m ∧ kv = .int .i64 (k : Int) ∧ (∀ x ∈ l.take k, 0 ≤ x ∧ x < (n : Int)) ∧ (l.take k).Nodup ∧ Below w.heap.size w wr ∧ Blk wr w.heap.size 4 (Vw.bools (Vw.seen n (l.take k))).toArray) (fun kv _ => m - (intOf kv).toNat)
 case atStart =>
  refine ⟨0, by omega, rfl, by simp, by simp, HB0.out.alloc (Nat.le_refl _) _, ?_⟩
  rw [List.take_zero, Vw.seen_nil]
  exact Blk.new w _ _
 case round =>
  obtain ⟨k, hk, rfl, hrng, hnd, hb, hblk⟩ := hrel
  have HR := Lib.hid hrng
  have HND := Lib.hid hnd
  have HB := Lib.hid hb
  have HBK := Lib.hid hblk
  clear hrng hnd hb hblk
  by_cases hkm : k < m
  ·have hkl : k < l.length := by have := HN.out; omega
   obtain ⟨b, off, rfl, hbb, hc⟩ := HM.out (by omega)
   have c1 := (HB.out.cell (p := ⟨b, off + k, none⟩) (by show b < w.heap.size; omega)).trans (hc k hkl)
   have HTK := Lib.hid (AdjV.take_next l k hkl)
   have HF := Lib.hid (show (l[k] < 0 ∨ (n : Int) ≤ l[k] ∨ l[k] ∈ l.take k) → AdjD.onceB l n = false from fun h => by
    cases hb : AdjD.onceB l n with
    | false => rfl
    | true =>
     exfalso
     unfold AdjD.onceB at hb
     rw [Bool.and_eq_true] at hb
     have h1 := List.all_eq_true.1 hb.1 _ (List.getElem_mem hkl)
     simp only [Bool.and_eq_true, decide_eq_true_eq] at h1
     rcases h with h | h | h
     ·omega
     ·omega
     ·obtain ⟨j, hj, e⟩ := List.getElem_of_mem h
      rw [List.length_take] at hj
      rw [List.getElem_take] at e
      exact List.pairwise_iff_getElem.1 (of_decide_eq_true hb.2) j k (by omega) hkl (by omega) e)
   have i1 : (0 : Int) ≤ (k : Int) := by omega
   have i2 : (k : Int) < (m : Int) := by omega
   clear hc
   generalize l[k] = x at c1 HTK HF
   by_cases hx0 : x < 0
   ·have HV := Lib.hid (HF.out (.inl hx0))
    go_wp2_with fail
    go_ret
    exact ⟨by rw [HV.out]; rfl, HB.out⟩
   by_cases hxn : (n : Int) ≤ x
   ·have HV := Lib.hid (HF.out (.inr (.inl hxn)))
    go_wp2_with fail
    go_ret
    exact ⟨by rw [HV.out]; rfl, HB.out⟩
   obtain ⟨q, rfl⟩ : ∃ q : Nat, x = (q : Int) := ⟨x.toNat, by omega⟩
   have hqn : q < n := by omega
   have i3 : (0 : Int) ≤ (q : Int) := by omega
   have i4 : (q : Int) < (n : Int) := by omega
   have cs : wr.cell? ⟨w.heap.size, q, none⟩ = some (.bool (decide ((q : Int) ∈ l.take k))) := by
    rw [HBK.out.cell q, Vw.bools_at _ q (by rw [Vw.seen_length]; exact hqn), Vw.seen_at _ _ _ hqn]
   by_cases hin : (q : Int) ∈ l.take k
   ·have HV := Lib.hid (HF.out (.inr (.inr hin)))
    rw [decide_eq_true hin] at cs
    clear hin
    go_wp2_with fail
    go_ret
    exact ⟨by rw [HV.out]; rfl, HB.out⟩
   ·rw [decide_eq_false hin] at cs
    have fz := HBK.out.frozen q
    have HBN := Lib.hid (show Blk (wr.setCell ⟨w.heap.size, q, none⟩ (.bool true)) w.heap.size 4 (Vw.bools (Vw.seen n (l.take (k + 1)))).toArray by
     have h2 := HBK.out.set_ q (.bool true)
     rw [Vw.bools_set, Vw.seen_set _ _ _ hqn] at h2
     rw [HTK.out]; exact h2)
    have HBB := Lib.hid (HB.out.setCell (p := ⟨w.heap.size, q, none⟩) (Nat.le_refl _) (.bool true))
    have HR2 := Lib.hid (show ∀ x ∈ l.take (k + 1), 0 ≤ x ∧ x < (n : Int) from fun x hx => by
     rw [HTK.out] at hx
     rcases List.mem_append.1 hx with h | h
     ·exact HR.out x h
     ·rw [List.mem_singleton.1 h]; omega)
    have HND2 := Lib.hid (show (l.take (k + 1)).Nodup by rw [HTK.out]; exact Vw.nodup_snoc HND.out hin)
    clear hin
    obtain ⟨W2, hW2⟩ : ∃ W2, wr.setCell ⟨w.heap.size, q, none⟩ (.bool true) = W2 := ⟨_, rfl⟩
    rw [hW2] at HBN HBB
    go_wp2_with fail
    go_roundw
    case rel => exact ⟨k + 1, by omega, by go_num, HR2.out, HND2.out, HBB.out, HBN.out⟩
    case measure => simp [intOf]; omega
  ·obtain rfl : k = m := by omega
   have HV := Lib.hid (show AdjD.onceB l n = true by
    have h1 := HR.out
    have h2 := HND.out
    rw [List.take_of_length_le (by have := HN.out; omega)] at h1 h2
    unfold AdjD.onceB
    rw [Bool.and_eq_true]
    exact ⟨List.all_eq_true.2 (fun x hx => by have := h1 x hx; simp; omega), decide_eq_true h2⟩)
   go_wp2_with fail
   go_ret
   exact ⟨by rw [HV.out]; rfl, HB.out⟩
set_option maxRecDepth 100000 in
set_option maxHeartbeats 4000000 in
theorem Ar.rising_any (A : Option Addr) (cap n : Nat) (l : List Int) (B : Nat) (w : World) (hl : l.length ≤ 9223372036854775807) (hn : n ≤ 65536) (hB : B ≤ w.heap.size) (hm : Vw.IntsAt w B A l) :
    Calls Try.prog 51 #[.slice A l.length cap, .int .i64 (n : Int)] w fun e w' => e = .returned (.bool (AdjV.riseB n l)) ∧ Below w.heap.size w w' := by
 have HS := Lib.hid (Ar.sorted_any A cap l B w hl hB hm)
 have HD := Lib.hid (fun d => Ar.distinct_any A cap n l B (w.drewN d) hl hn hB hm)
 have HE := Lib.hid (AdjD.rise_eq l n)
 have HB0 := Lib.hid (fun d => below_drewN (Below.refl w.heap.size w) d)
 clear hm
 go_enter Try.func51, Try.ntmps51
 go_wp2_with fail
 ((with_reducible refine HS.out.mono ?_); rintro e w1 ⟨rfl, d, rfl⟩)
 have HD2 := Lib.hid (HD.out d)
 have HB1 := Lib.hid (HB0.out d)
 generalize w.drewN d = w1 at HD2 HB1 ⊢
 cases hs : AdjD.sortedB l with
 | false =>
  have HV := Lib.hid (show AdjV.riseB n l = false by rw [HE.out, hs]; rfl)
  clear hs
  go_wp2_with fail
  go_ret
  exact ⟨by rw [HV.out]; rfl, HB1.out⟩
 | true =>
  have HV := Lib.hid (show AdjV.riseB n l = AdjD.onceB l n by rw [HE.out, hs]; rfl)
  clear hs
  go_wp2_with fail
  ((with_reducible refine HD2.out.mono ?_); rintro e w2 ⟨rfl, hb⟩)
  have HB2 := Lib.hid (HB1.out.trans (hb.mono HB1.out.size))
  clear hb
  go_wp2_with fail
  go_ret
  exact ⟨by rw [HV.out]; rfl, HB2.out⟩
end Go.Proofs.Ytapedmpbkffopaa
end
section
namespace Adj
open Go Go.RowKit
set_option linter.unusedVariables false
def Reads (w : World) (B size : Nat) (A : Option Addr) (n : Nat) (xs : List Value) : Prop :=
 xs.length = n * size ∧ (0 < n → ∃ ad, A = some ad ∧ ad.block < B ∧ ∀ j u, xs[j]? = some u → w.cell? (ad.add j) = some u)
section
variable {w w' : World} {B B' size n : Nat} {A : Option Addr} {xs : List Value}
end
section
variable {P : Program} (w : World)
theorem run_append_of_nil (base : Nat) (t ty e : TypeId) (i : TypeInfo) (size : Nat) (ht : P.underlying t = some (.slice e)) (hi : P.info? e = some i)
    (v : Value) (n : Nat) (xs : List Value) (hown : w.ownsRow base e size v n xs) (c : Nat) : (Builtin.append_ #[t, t] ty #[v, .slice none 0 c]).run P w = .ok v w := by
 rcases hown.2 with ⟨rfl, rfl⟩ | ⟨g, cap, cur, rfl, _, _, hnc, _⟩
 ·simp [Builtin.append_, run_underlying ht, Go.sizeOf, typeInfo, hi, Builtin.lenOf, Builtin.firstCells]
 ·simp [Builtin.append_, run_underlying ht, Go.sizeOf, typeInfo, hi, Builtin.lenOf, Builtin.firstCells, hnc, storeCells]
theorem run_append_any (base : Nat) (t ty e : TypeId) (i : TypeInfo) (z : Value) (size bytes : Nat) (ht : P.underlying t = some (.slice e)) (hi : P.info? e = some i) (hz : i.zero = some z)
    (hsize : i.size = size) (hby : i.bytes = bytes) (hzs : z.cells.size = size) (hsz : 0 < size)
    (v : Value) (n : Nat) (xs : List Value) (hown : w.ownsRow base e size v n xs)
    (B : Nat) (A : Option Addr) (m c : Nat) (news : List Value) (hr : Reads w B size A m news) (h1 : ∀ u ∈ news, u.oneCell' = true)
    (h63 : n + m ≤ maxLen) (hbytes : (n + m) * bytes ≤ 140737488355328) (hbase : base ≤ w.heap.size) :
    ∃ v' w', (Builtin.append_ #[t, t] ty #[v, .slice A m c]).run P w = .ok v' w' ∧ w'.ownsRow base e size v' (n + m) (xs ++ news) ∧ w.grownBy w' v.ownBlock ∧
     (v'.ownBlock = v.ownBlock ∨ v'.ownBlock = some w.heap.size) := by
 rcases A with _ | ad
 ·have hm : m = 0 := by
    rcases Nat.eq_zero_or_pos m with h0 | h0
    ·exact h0
    ·obtain ⟨ad, h, _⟩ := hr.2 h0
     cases h
  subst hm
  have hn : news = [] := List.eq_nil_of_length_eq_zero (by simpa using hr.1)
  subst hn
  exact ⟨v, w, run_append_of_nil w base t ty e i size ht hi v n xs hown c, by simpa using hown, World.grownBy.refl w _, .inl rfl⟩
 ·have hcells : ∀ j u, news[j]? = some u → w.cell? (ad.add j) = some u := by
    intro j u hu
    rcases Nat.eq_zero_or_pos m with h0 | h0
    ·subst h0
     have hn : news = [] := List.eq_nil_of_length_eq_zero (by simpa using hr.1)
     subst hn
     simp at hu
    ·obtain ⟨ad', h, _, hc⟩ := hr.2 h0
     injection h with h
     subst h
     exact hc j u hu
  obtain ⟨v', w', hrun, h2, h3, _, h5⟩ := run_append_own_at (P := P) w base t ty e i z size bytes ht hi hz hsize hby hzs hsz v n xs hown ad m c news hr.1 hcells h1 h63 hbytes hbase
  exact ⟨v', w', hrun, h2, h3, h5⟩
theorem wp_append_any {o : Oper} {a : Act} {K : Act → World → Prop} {Q : Exit → Act → World → Prop} (s x : Operand) (t : TypeId)
    (ho : o.op = .call { callee := .builtin .append, args := #[s, x], argTypes := #[t, t] })
    (base : Nat) (e : TypeId) (i : TypeInfo) (z : Value) (size bytes : Nat) (ht : P.underlying t = some (.slice e)) (hi : P.info? e = some i) (hz : i.zero = some z)
    (hsize : i.size = size) (hby : i.bytes = bytes) (hzs : z.cells.size = size) (hsz : 0 < size)
    (v : Value) (n : Nat) (xs : List Value) (hs : a.eval s = v) (hown : w.ownsRow base e size v n xs)
    (B : Nat) (A : Option Addr) (m c : Nat) (news : List Value) (hx : a.eval x = .slice A m c) (hr : Reads w B size A m news) (h1 : ∀ u ∈ news, u.oneCell' = true)
    (h63 : n + m ≤ maxLen) (hbytes : (n + m) * bytes ≤ 140737488355328) (hbase : base ≤ w.heap.size)
    (h : ∀ v' w', w'.ownsRow base e size v' (n + m) (xs ++ news) → w.grownBy w' v.ownBlock → (v'.ownBlock = v.ownBlock ∨ v'.ownBlock = some w.heap.size) → K (a.put o.dst v') w') : o.wp P a w K Q := by
 obtain ⟨v', w', hrun, h2, h3, h4⟩ := run_append_any (P := P) w base t o.type e i z size bytes ht hi hz hsize hby hzs hsz v n xs hown B A m c news hr h1 h63 hbytes hbase
 unfold Oper.wp execOp
 simp only [ho, resolve, invoke, builtin, Sem.run_bind, Sem.run_pure, Result.andThen_ok, List.map_toArray, List.map_cons, List.map_nil, hs, hx, hrun]
 exact h v' w' h2 h3 h4
theorem wpList_append_any {ops : Array Oper} {rest : List Oper} {o : Oper} {a : Act} {Q : Exit → Act → World → Prop} (hgd : o.guard = none) (s x : Operand) (t : TypeId)
    (ho : o.op = .call { callee := .builtin .append, args := #[s, x], argTypes := #[t, t] })
    (base : Nat) (e : TypeId) (i : TypeInfo) (z : Value) (size bytes : Nat) (ht : P.underlying t = some (.slice e)) (hi : P.info? e = some i) (hz : i.zero = some z)
    (hsize : i.size = size) (hby : i.bytes = bytes) (hzs : z.cells.size = size) (hsz : 0 < size)
    (v : Value) (n : Nat) (xs : List Value) (hs : a.eval s = v) (hown : w.ownsRow base e size v n xs)
    (B : Nat) (A : Option Addr) (m c : Nat) (news : List Value) (hx : a.eval x = .slice A m c) (hr : Reads w B size A m news) (h1 : ∀ u ∈ news, u.oneCell' = true)
    (h63 : n + m ≤ maxLen) (hbytes : (n + m) * bytes ≤ 140737488355328) (hbase : base ≤ w.heap.size)
    (h : ∀ v' w', w'.ownsRow base e size v' (n + m) (xs ++ news) → w.grownBy w' v.ownBlock → (v'.ownBlock = v.ownBlock ∨ v'.ownBlock = some w.heap.size) → wpList P ops Q rest (a.put o.dst v') w') : wpList P ops Q (o :: rest) a w :=
 wpList_plain hgd fun _ hK => wp_append_any w s x t ho base e i z size bytes ht hi hz hsize hby hzs hsz v n xs hs hown B A m c news hx hr h1 h63 hbytes hbase fun v' w' h2 h3 h4 => hK _ _ (h v' w' h2 h3 h4)
end
end Adj
end
section
namespace Go.Proofs.Ytapedmpbkffopaa
set_option linter.unusedVariables false
open Go.RowKit Adj
namespace AdjD'
def fitE (op : AdjD.Op) (args : List (List Int)) : Int := if AdjD.right op.kind args.length ≠ 0 then AdjD.right op.kind args.length else AdjD.sizes args
end AdjD'
set_option maxRecDepth 100000 in
set_option maxHeartbeats 4000000 in
theorem Ar.fits_any (val : Value) (op : AdjD.Op) (A : Option Addr) (cap : Nat) (args : List (List Int)) (B : Nat) (w : World) (hB : B ≤ w.heap.size) (hn : args.length ≤ 9223372036854775807) (hop : Ar.OpAt w B val op) (hargs : Ar.ListsAt w B A args) :
    Calls Try.prog 35 #[val, .slice A args.length cap] w fun e w' => e = .returned (.int .i64 (AdjD'.fitE op args)) ∧ Below w.heap.size w w' := by
 obtain ⟨v1, v2, v3, v4, v5, rfl, _⟩ := hop
 have HB := Lib.hid ((Below.refl w.heap.size w).alloc (Nat.le_refl _) (.cells #[.int .i64 op.kind, v1, v2, v3, v4, v5, .int .i64 op.value] 37))
 have HX := Lib.hid (Blk.new w 37 #[.int .i64 op.kind, v1, v2, v3, v4, v5, .int .i64 op.value])
 have HA := Lib.hid (fun W (hb : Below w.heap.size w W) => (hargs.below (hb.mono hB)))
 have HE := Lib.hid (show AdjD'.fitE op args = if AdjD.right op.kind args.length ≠ 0 then AdjD.right op.kind args.length else AdjD.sizes args from rfl)
 have HM := Lib.hid (AdjD'.right_many op.kind args.length)
 have HMA := Lib.hid (fun W => Ar.many_any op.kind W)
 obtain ⟨n, hnn⟩ : ∃ n, args.length = n := ⟨_, rfl⟩
 have HN := Lib.hid hnn
 rw [hnn] at hn HE HM ⊢
 clear hargs hnn
 have x0 := HX.out.cell 0
 obtain ⟨w0, hw0⟩ : ∃ w0, w.alloc (.cells #[.int .i64 op.kind, v1, v2, v3, v4, v5, .int .i64 op.value] 37) = w0 := ⟨_, rfl⟩
 rw [hw0] at HB x0
 go_enter Try.func35, Try.ntmps35
 go_wp2_with fail
 ((with_reducible refine (HMA.out _).mono ?_); rintro e w1 ⟨rfl, hw1⟩)
 rw [hw1]
 generalize AdjD'.manyOf op.kind = q at HM
 by_cases h1 : q = -2
 ·subst h1
  have HR := Lib.hid (show AdjD.right op.kind n = 1 by rw [HM.out]; rfl)
  have HV := Lib.hid (show AdjD'.fitE op args = 1 by rw [HE.out, HR.out]; rfl)
  go_wp2_with fail
  go_ret
  exact ⟨by rw [HV.out]; rfl, HB.out⟩
 ·have d1 : (q == -2) = false := by simpa using h1
  by_cases h2 : 0 ≤ q
  ·by_cases h3 : q = (n : Int)
   ·have HR := Lib.hid (show AdjD.right op.kind n = 0 by rw [HM.out, if_neg h1, if_neg (by omega)])
    subst h3
    have d2 : ((n : Int) != (n : Int)) = false := by simp
    have HV := Lib.hid (show AdjD'.fitE op args = AdjD.sizes args by rw [HE.out, HR.out]; rfl)
    clear x0
    go_wp2_with fail
    go_loop [34] (fun kv => ∃ k : Nat, kv = .int .i64 (k : Int) ∧ k ≤ n ∧ AdjD.sizes args = AdjD.sizes (args.drop k)) (fun kv => n - (intOf kv).toNat)
    case atStart => exact ⟨0, rfl, by omega, rfl⟩
    case round =>
     obtain ⟨k, rfl, hk, hs⟩ := hrel
     have HS := Lib.hid hs
     clear hs
     by_cases hkn : k < n
     ·have hkl : k < args.length := by have := HN.out; omega
      obtain ⟨b, off, rfl, hbb, hc⟩ := HA.out w0 HB.out (by omega)
      obtain ⟨v, cv, Ai, ci, rfl, hi, hl1, hl2⟩ := hc k hkl
      have HSZ := Lib.hid (Size_any Ai ci args[k] B w0 (by omega) hi)
      have HD := Lib.hid (show AdjD.sizes args = if (AdjV.size args[k]).2 ≠ 0 then (AdjV.size args[k]).2 else AdjD.sizes (args.drop (k + 1)) by rw [HS.out, List.drop_eq_getElem_cons hkl]; rfl)
      have i1 : (0 : Int) ≤ (k : Int) := by omega
      have i2 : (k : Int) < (n : Int) := by omega
      clear hc hi
      generalize args[k] = d at cv HSZ HD hl1
      obtain ⟨sz, er⟩ : ∃ x, AdjV.size d = x := ⟨_, rfl⟩
      go_wp2_with fail
      ((with_reducible refine HSZ.out.mono ?_); rintro e w3 ⟨rfl, hw3⟩)
      rw [← hw3]
      unfold Vw.sizeR
      by_cases he : (AdjV.size d).2 = 0
      ·rw [he]
       rw [he] at HD
       have HX := Lib.hid (show AdjD.sizes args = AdjD.sizes (args.drop (k + 1)) by rw [HD.out]; rfl)
       clear he er hw3
       go_wp2_with fail
       go_round
       case rel => exact ⟨k + 1, by go_num, by omega, HX.out⟩
       case measure => simp [intOf]; omega
      ·have e1 : ((AdjV.size d).2 == 0) = false := by simpa using he
       have e2 : ((AdjV.size d).2 != 0) = true := by simpa using he
       have HX := Lib.hid (show AdjD'.fitE op args = (AdjV.size d).2 by rw [HV.out, HD.out, if_pos he])
       clear hw3 er
       generalize (AdjV.size d).2 = er at e1 e2 HX ⊢
       go_wp2_with fail
       go_ret
       exact ⟨by rw [HX.out]; rfl, HB.out⟩
     ·obtain rfl : k = n := by omega
      have HX := Lib.hid (show AdjD'.fitE op args = 0 by rw [HV.out, HS.out, List.drop_eq_nil_of_le (by have := HN.out; omega)]; rfl)
      go_wp2_with fail
      go_ret
      exact ⟨by rw [HX.out]; rfl, HB.out⟩
   ·have HR := Lib.hid (show AdjD.right op.kind n = 2 by rw [HM.out, if_neg h1, if_pos (.inl ⟨h2, h3⟩)])
    have d2 : (q != (n : Int)) = true := by simpa using h3
    clear h3
    have HV := Lib.hid (show AdjD'.fitE op args = 2 by rw [HE.out, HR.out]; rfl)
    go_wp2_with fail
    go_ret
    exact ⟨by rw [HV.out]; rfl, HB.out⟩
  ·by_cases h3 : q = -1
   ·subst h3
    by_cases h4 : n = 0
    ·have HR := Lib.hid (show AdjD.right op.kind n = 2 by rw [HM.out, if_neg (by decide), if_pos (.inr ⟨rfl, h4⟩)])
     subst h4
     clear h1 h2
     have HV := Lib.hid (show AdjD'.fitE op args = 2 by rw [HE.out, HR.out]; rfl)
     go_wp2_with fail
     go_ret
     exact ⟨by rw [HV.out]; rfl, HB.out⟩
    ·have HR := Lib.hid (show AdjD.right op.kind n = 0 by rw [HM.out, if_neg (by decide), if_neg (by omega)])
     have d4 : ((n : Int) == 0) = false := by simp; omega
     clear h1 h2
     have HV := Lib.hid (show AdjD'.fitE op args = AdjD.sizes args by rw [HE.out, HR.out]; rfl)
     clear x0
     go_wp2_with fail
     go_loop [34] (fun kv => ∃ k : Nat, kv = .int .i64 (k : Int) ∧ k ≤ n ∧ AdjD.sizes args = AdjD.sizes (args.drop k)) (fun kv => n - (intOf kv).toNat)
     case atStart => exact ⟨0, rfl, by omega, rfl⟩
     case round =>
      obtain ⟨k, rfl, hk, hs⟩ := hrel
      have HS := Lib.hid hs
      clear hs
      by_cases hkn : k < n
      ·have hkl : k < args.length := by have := HN.out; omega
       obtain ⟨b, off, rfl, hbb, hc⟩ := HA.out w0 HB.out (by omega)
       obtain ⟨v, cv, Ai, ci, rfl, hi, hl1, hl2⟩ := hc k hkl
       have HSZ := Lib.hid (Size_any Ai ci args[k] B w0 (by omega) hi)
       have HD := Lib.hid (show AdjD.sizes args = if (AdjV.size args[k]).2 ≠ 0 then (AdjV.size args[k]).2 else AdjD.sizes (args.drop (k + 1)) by rw [HS.out, List.drop_eq_getElem_cons hkl]; rfl)
       have i1 : (0 : Int) ≤ (k : Int) := by omega
       have i2 : (k : Int) < (n : Int) := by omega
       clear hc hi
       generalize args[k] = d at cv HSZ HD hl1
       obtain ⟨sz, er⟩ : ∃ x, AdjV.size d = x := ⟨_, rfl⟩
       go_wp2_with fail
       ((with_reducible refine HSZ.out.mono ?_); rintro e w3 ⟨rfl, hw3⟩)
       rw [← hw3]
       unfold Vw.sizeR
       by_cases he : (AdjV.size d).2 = 0
       ·rw [he]
        rw [he] at HD
        have HX := Lib.hid (show AdjD.sizes args = AdjD.sizes (args.drop (k + 1)) by rw [HD.out]; rfl)
        clear he er hw3
        go_wp2_with fail
        go_round
        case rel => exact ⟨k + 1, by go_num, by omega, HX.out⟩
        case measure => simp [intOf]; omega
       ·have e1 : ((AdjV.size d).2 == 0) = false := by simpa using he
        have e2 : ((AdjV.size d).2 != 0) = true := by simpa using he
        have HX := Lib.hid (show AdjD'.fitE op args = (AdjV.size d).2 by rw [HV.out, HD.out, if_pos he])
        clear hw3 er
        generalize (AdjV.size d).2 = er at e1 e2 HX ⊢
        go_wp2_with fail
        go_ret
        exact ⟨by rw [HX.out]; rfl, HB.out⟩
      ·obtain rfl : k = n := by omega
       have HX := Lib.hid (show AdjD'.fitE op args = 0 by rw [HV.out, HS.out, List.drop_eq_nil_of_le (by have := HN.out; omega)]; rfl)
       go_wp2_with fail
       go_ret
       exact ⟨by rw [HX.out]; rfl, HB.out⟩
   ·have HR := Lib.hid (show AdjD.right op.kind n = 0 by rw [HM.out, if_neg h1, if_neg (by omega)])
    have d3 : (q == -1) = false := by simpa using h3
    clear h1
    have HV := Lib.hid (show AdjD'.fitE op args = AdjD.sizes args by rw [HE.out, HR.out]; rfl)
    clear x0
    go_wp2_with fail
    go_loop [34] (fun kv => ∃ k : Nat, kv = .int .i64 (k : Int) ∧ k ≤ n ∧ AdjD.sizes args = AdjD.sizes (args.drop k)) (fun kv => n - (intOf kv).toNat)
    case atStart => exact ⟨0, rfl, by omega, rfl⟩
    case round =>
     obtain ⟨k, rfl, hk, hs⟩ := hrel
     have HS := Lib.hid hs
     clear hs
     by_cases hkn : k < n
     ·have hkl : k < args.length := by have := HN.out; omega
      obtain ⟨b, off, rfl, hbb, hc⟩ := HA.out w0 HB.out (by omega)
      obtain ⟨v, cv, Ai, ci, rfl, hi, hl1, hl2⟩ := hc k hkl
      have HSZ := Lib.hid (Size_any Ai ci args[k] B w0 (by omega) hi)
      have HD := Lib.hid (show AdjD.sizes args = if (AdjV.size args[k]).2 ≠ 0 then (AdjV.size args[k]).2 else AdjD.sizes (args.drop (k + 1)) by rw [HS.out, List.drop_eq_getElem_cons hkl]; rfl)
      have i1 : (0 : Int) ≤ (k : Int) := by omega
      have i2 : (k : Int) < (n : Int) := by omega
      clear hc hi
      generalize args[k] = d at cv HSZ HD hl1
      obtain ⟨sz, er⟩ : ∃ x, AdjV.size d = x := ⟨_, rfl⟩
      go_wp2_with fail
      ((with_reducible refine HSZ.out.mono ?_); rintro e w3 ⟨rfl, hw3⟩)
      rw [← hw3]
      unfold Vw.sizeR
      by_cases he : (AdjV.size d).2 = 0
      ·rw [he]
       rw [he] at HD
       have HX := Lib.hid (show AdjD.sizes args = AdjD.sizes (args.drop (k + 1)) by rw [HD.out]; rfl)
       clear he er hw3
       go_wp2_with fail
       go_round
       case rel => exact ⟨k + 1, by go_num, by omega, HX.out⟩
       case measure => simp [intOf]; omega
      ·have e1 : ((AdjV.size d).2 == 0) = false := by simpa using he
       have e2 : ((AdjV.size d).2 != 0) = true := by simpa using he
       have HX := Lib.hid (show AdjD'.fitE op args = (AdjV.size d).2 by rw [HV.out, HD.out, if_pos he])
       clear hw3 er
       generalize (AdjV.size d).2 = er at e1 e2 HX ⊢
       go_wp2_with fail
       go_ret
       exact ⟨by rw [HX.out]; rfl, HB.out⟩
     ·obtain rfl : k = n := by omega
      have HX := Lib.hid (show AdjD'.fitE op args = 0 by rw [HV.out, HS.out, List.drop_eq_nil_of_le (by have := HN.out; omega)]; rfl)
      go_wp2_with fail
      go_ret
      exact ⟨by rw [HX.out]; rfl, HB.out⟩
theorem Ar.reads_of {w : World} {B B' : Nat} {A : Option Addr} {l : List Int} (h : Vw.IntsAt w B A l) (hB : B ≤ B') : Adj.Reads w B' 1 A l.length (ints l) := by
 refine ⟨by rw [ints_length, Nat.mul_one], fun hp => ?_⟩
 obtain ⟨b, off, rfl, hb, hc⟩ := h hp
 refine ⟨⟨b, off, none⟩, rfl, by show b < B'; omega, fun j u hj => ?_⟩
 have hjl : j < l.length := by
  have := (List.getElem?_eq_some_iff.1 hj).1
  rwa [ints_length] at this
 rw [ints_at l j hjl] at hj
 injection hj with hj
 rw [Addr.add_lit, ← hj]
 exact hc j hjl
set_option maxRecDepth 100000 in
set_option maxHeartbeats 4000000 in
theorem Ar.grow_any (n : Nat) (w : World) (hn : n ≤ 1099511627776) :
    Calls Try.prog 56 #[.slice none 0 0, .int .i64 (n : Int)] w fun e w' => ∃ A c, e = .returned (.slice A 0 c) ∧ w'.ownsRow w.heap.size 3 1 (.slice A 0 c) 0 [] ∧ Below w.heap.size w w' := by
 by_cases h0 : n = 0
 ·subst h0
  have HB := Lib.hid (Below.refl w.heap.size w)
  go_enter Try.func56, Try.ntmps56
  go_wp2_with fail
  go_ret
  exact ⟨_, _, rfl, ⟨rfl, .inl ⟨rfl, rfl⟩⟩, HB.out⟩
 ·obtain ⟨i0, hi0, hz0, hz1, hz2⟩ := info_parts Try.infoOf3
  obtain ⟨ROW, hROW⟩ : ∃ ROW : Array Value, Builtin.zeroCells (Value.int .i64 0).cells n ++ Builtin.zeroCells (Value.int .i64 0).cells (grownCap w n 0 3 - n) = ROW := ⟨_, rfl⟩
  have hrz := fun ty => Lib.run_append_nil_zeros (P := Try.prog) w 23 3 ty 3 i0 (.int .i64 0) .i64 .i64 Try.underlying23 Try.underlying3 hi0 hz0 n (by omega) (by omega) (by omega) (by rw [hz2]; omega)
  rw [hROW] at hrz
  have hGn : n ≤ grownCap w n 0 3 := grownCap_ge w _ _ _
  have hGm : grownCap w n 0 3 ≤ maxLen := grownCap_le_maxLen w n 0 _ (by unfold maxLen; omega)
  have hRs : ROW.size = grownCap w n 0 3 * 1 := by
   rw [← hROW]
   simp [Builtin.zeroCells, Value.cells]
   omega
  obtain ⟨G, hG⟩ : ∃ G, grownCap w n 0 3 = G := ⟨_, rfl⟩
  rw [hG] at hrz hGn hGm hRs
  have HB := Lib.hid (show Below w.heap.size w (w.drew.alloc (.cells ROW 3)) from (Below.refl _ _).drew.alloc (Nat.le_refl _) _)
  have HX := Lib.hid (show Blk (w.drew.alloc (.cells ROW 3)) w.heap.size 3 ROW from Blk.new w.drew _ _)
  have HS := Lib.hid (And.intro hGm hRs)
  have hGm2 : G ≤ 9223372036854775807 := by unfold maxLen at hGm; omega
  obtain ⟨W1, hW1⟩ : ∃ W1, w.drew.alloc (.cells ROW 3) = W1 := ⟨_, rfl⟩
  rw [hW1] at HB HX hrz
  clear hG hROW hRs hGm hW1
  go_enter Try.func56, Try.ntmps56
  go_wp2_with (at_builtin; refine Lib.wpList_append_run _ rfl _ _ 23 3 rfl _ _ rfl rfl _ _ (hrz _) ?_)
  go_wp2_with fail
  go_ret
  refine ⟨_, _, rfl, ⟨rfl, .inr ⟨w.heap.size, G, ROW, rfl, Nat.le_refl _, HX.out, by omega, HS.out.1, HS.out.2, by simp⟩⟩, HB.out⟩
namespace Ar
def cat (ls : List (List Int)) : List Int := ls.flatten
theorem sum_le (ls : List (List Int)) (k : Nat) : (cat (ls.take k)).length ≤ (cat ls).length := by
 show ((ls.take k).flatten).length ≤ ls.flatten.length
 conv => rhs; rw [← List.take_append_drop k ls]
 rw [List.flatten_append, List.length_append]; omega
theorem sum_next (ls : List (List Int)) {k : Nat} (hk : k < ls.length) : cat (ls.take (k + 1)) = cat (ls.take k) ++ ls[k] := by
 show (ls.take (k + 1)).flatten = (ls.take k).flatten ++ ls[k]
 rw [List.take_succ_eq_append_getElem hk, List.flatten_append]; simp
end Ar
set_option maxRecDepth 100000 in
set_option maxHeartbeats 4000000 in
theorem Ar.concat_any (A : Option Addr) (cap : Nat) (ls : List (List Int)) (B : Nat) (w : World) (hB : B ≤ w.heap.size) (hn : ls.length ≤ 9223372036854775807) (hbig : (Ar.cat ls).length ≤ 1099511627776) (hls : Ar.ListsAt w B A ls) :
    Calls Try.prog 41 #[.slice A ls.length cap] w fun e w' => ∃ v, e = .returned v ∧ w'.ownsRow w.heap.size 3 1 v (Ar.cat ls).length (ints (Ar.cat ls)) ∧ Below w.heap.size w w' := by
 have HL := Lib.hid (fun W (hb : Below w.heap.size w W) => (hls.below (hb.mono hB)))
 have HSL := Lib.hid (fun k => Ar.sum_le ls k)
 have HSN := Lib.hid (fun k (hk : k < ls.length) => Ar.sum_next ls hk)
 have HI := Lib.hid (info_parts Try.infoOf3)
 have HB0 := Lib.hid (Below.refl w.heap.size w)
 obtain ⟨n, hnn⟩ : ∃ n, ls.length = n := ⟨_, rfl⟩
 have HN := Lib.hid hnn
 rw [hnn] at hn ⊢
 clear hls hnn
 go_enter Try.func41, Try.ntmps41
 go_wp2_with fail
 go_loop [3, 11] (fun sv kv => ∃ k : Nat, kv = .int .i64 (k : Int) ∧ k ≤ n ∧ sv = .int .i64 (((Ar.cat (ls.take k)).length : Nat) : Int)) (fun _ kv => n - (intOf kv).toNat)
 case atStart => exact ⟨0, rfl, by omega, rfl⟩
 case round =>
  obtain ⟨k, rfl, hk, rfl⟩ := hrel
  have hs1 := HSL.out k
  by_cases hkn : k < n
  ·have hkl : k < ls.length := by have := HN.out; omega
   have hs2 := HSL.out (k + 1)
   obtain ⟨b, off, rfl, hbb, hc⟩ := HL.out w HB0.out (by omega)
   obtain ⟨v, cv, Ai, ci, rfl, hi, hl1, hl2⟩ := hc k hkl
   have HSX := Lib.hid (HSN.out k hkl)
   have HLN := Lib.hid (show (Ar.cat (ls.take (k + 1))).length = (Ar.cat (ls.take k)).length + (ls[k]).length by rw [HSX.out, List.length_append])
   have hs3 := HLN.out
   have i1 : (0 : Int) ≤ (k : Int) := by omega
   have i2 : (k : Int) < (n : Int) := by omega
   have i3 : (0 : Int) ≤ ((ls[k].length : Nat) : Int) := by omega
   clear hc hi
   generalize (ls[k]).length = m at cv hs3 hl1 HLN i3
   generalize (Ar.cat (ls.take k)).length = s1 at hs1 hs3 HLN ⊢
   obtain ⟨s2, hs2e⟩ : ∃ s2, (Ar.cat (ls.take (k + 1))).length = s2 := ⟨_, rfl⟩
   rw [hs2e] at hs2 hs3 HLN
   have HE := Lib.hid hs2e
   have q0 : (0 : Int) ≤ (s1 : Int) + (m : Int) := by omega
   have q2 : s1 + m ≤ 1099511627776 := by omega
   clear hs2e hs3
   go_wp2_with fail
   go_round
   case rel => exact ⟨k + 1, by go_num, by omega, by rw [HE.out, HLN.out]; go_num⟩
   case measure => simp [intOf]; omega
  ·obtain rfl : k = n := by omega
   have HTA := Lib.hid (show ls.take k = ls from List.take_of_length_le (by have := HN.out; omega))
   rw [HTA.out] at hs1 ⊢
   have HG := Lib.hid (Ar.grow_any (Ar.cat ls).length w hbig)
   go_wp2_with fail
   ((with_reducible refine HG.out.mono ?_); rintro e w1 ⟨A1, c1, rfl, ho1, hb1⟩)
   have HO1 := Lib.hid ho1
   have HB1 := Lib.hid hb1
   clear ho1 hb1
   go_wp2_with fail
   go_loopw [6, 27] (fun v kv wr => ∃ j : Nat, kv = .int .i64 (j : Int) ∧ j ≤ k ∧ Below w.heap.size w wr ∧ wr.ownsRow w.heap.size 3 1 v (Ar.cat (ls.take j)).length (ints (Ar.cat (ls.take j)))) (fun _ kv _ => k - (intOf kv).toNat)
   case atStart => exact ⟨0, rfl, by omega, HB1.out, HO1.out⟩
   case round =>
    obtain ⟨j, rfl, hj, hb, hown⟩ := hrel
    have HB2 := Lib.hid hb
    have HO2 := Lib.hid hown
    obtain ⟨Av, cv, hv, hcv⟩ := Vw.own_any hown
    subst hv
    clear hb hown
    by_cases hjn : j < k
    ·have hjl : j < ls.length := by have := HN.out; omega
     obtain ⟨b, off, rfl, hbb, hc⟩ := HL.out _ HB2.out (by omega)
     obtain ⟨v, cw, Ai, ci, rfl, hi, hl1, hl2⟩ := hc j hjl
     have HSX := Lib.hid (HSN.out j hjl)
     have hs2 := HSL.out (j + 1)
     have HLN := Lib.hid (show (Ar.cat (ls.take (j + 1))).length = (Ar.cat (ls.take j)).length + (ls[j]).length by rw [HSX.out, List.length_append])
     have hs3 := HLN.out
     have i1 : (0 : Int) ≤ (j : Int) := by omega
     have i2 : (j : Int) < (k : Int) := by omega
     have HRD := Lib.hid (show Adj.Reads wr wr.heap.size 1 Ai (ls[j]).length (ints ls[j]) from Ar.reads_of hi (Nat.le_trans hB HB2.out.size))
     clear hc hi
     obtain ⟨i0, g1, g2, g3, g4⟩ := HI.out
     have hwsz := HB2.out.size
     generalize ls[j] = d at cw hl1 HRD HSX HLN hs3
     have hone := Vw.ints_one d
     go_wp2_with (at_builtin; refine wpList_append_any _ rfl _ _ 23 rfl w.heap.size 3 i0 (.int .i64 0) 1 8 Try.underlying23 g1 g2 g3 g4 rfl (by decide) _ _ _ rfl HO2.out _ Ai d.length ci (ints d) rfl HRD.out hone (by unfold maxLen; omega) (by omega) hwsz ?_)
     intro v' w6 how hgr _
     have HBZ := Lib.hid (HB2.out.grown hgr hwsz (fun g hg => (HO2.out.lt g hg).1))
     have HO6 := Lib.hid (show w6.ownsRow w.heap.size 3 1 v' (Ar.cat (ls.take (j + 1))).length (ints (Ar.cat (ls.take (j + 1)))) by
      rw [HLN.out, HSX.out]
      have : ints (Ar.cat (ls.take j) ++ d) = ints (Ar.cat (ls.take j)) ++ ints d := by unfold ints; rw [List.map_append]
      rw [this]; exact how)
     clear how hgr hone
     go_wp2_with fail
     go_roundw
     case rel => exact ⟨j + 1, by go_num, by omega, HBZ.out, HO6.out⟩
     case measure => simp [intOf]; omega
    ·obtain rfl : j = k := by omega
     have HO3 := HO2.out
     rw [HTA.out] at HO3
     have HO4 := Lib.hid HO3
     clear HO3
     rw [HTA.out] at *
     go_wp2_with fail
     go_ret
     exact ⟨_, rfl, HO4.out, HB2.out⟩
end Go.Proofs.Ytapedmpbkffopaa
end
