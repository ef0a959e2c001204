/-
  Words for memory: a block that is known whole; a slice that reads as a list; small closers; Sizes of arrays, in plain Lean; The walks of slices.IndexFunc, ContainsFunc, Index, Contains at ints; of Size, the program's and the reference's; The walks of the reference's has, Steps, Lies; Rows of the call's own: kept, and where they lie; slices.Backward at ints: what its closure hands to a loop: the pairs of index and entry, the last one first; What Index and rowMajor do from behind, in plain Lean; A region that draws its order, and whose operations are of the plain kinds (no call, no defer), inside a fence: what holds of it outside a fence holds of it inside; slices.Backward at ints, wherever the list lies; what is let be; Views, in plain Lean: what is wrong with one; Turn; Flip; Cut; Spread. Conditions: where the theorems name them.
-/
import Derived.WalkKit
import Derived.WalkSpells
import Derived.WalkLawsBesides
import Derived.Lib.Hide
import Derived.Deep.Draws
import Derived.Test.YtapedmpbkffopaaRows
import Derived.OwnWalk
import Derived.Maps.AppendAt
import Derived.Deep.AppendLies
import Derived.RangeFuncNested
import Derived.RangeFuncBound
import Derived.RangeFuncCalls
import Derived.RangeFuncLeaves
import Derived.RangeFuncBox
import Derived.Shelf.Abstract
import Derived.Shelf.RegionOpen
import Derived.OwnWalkIn
import Derived.TacticsInMore
import Derived.LoopNIn
import Derived.LoopIn
import Derived.StillTail
import Derived.StillTailTactics
import Derived.OrdersIn
import Derived.TacticsIn
import Derived.Laws.Sem
import Derived.Laws.MakeOwn
section
namespace Adj
open Go Go.RowKit
theorem ret_bool {a b : Bool} (h : a = b) : Ending.returned (.bool a) = .returned (.bool b) := by rw [h]
def Blk (w : World) (g : Nat) (t : TypeId) (cs : Array Value) : Prop := w.heap[g]? = some (.cells cs t (0, 0))
section
variable {w w' : World} {g : Nat} {t : TypeId} {cs : Array Value}
theorem Blk.lt (h : Blk w g t cs) : g < w.heap.size := by
 rcases Nat.lt_or_ge g w.heap.size with hlt | hge
 ·exact hlt
 ·unfold Blk at h; rw [Array.getElem?_eq_none hge] at h; cases h
theorem Blk.cell (h : Blk w g t cs) (i : Nat) : w.cell? ⟨g, i, none⟩ = cs[i]? := cell_of_row w g i cs t (0, 0) h
theorem Blk.at (h : Blk w g t cs) {i : Nat} {v : Value} (hv : cs[i]? = some v) : w.cell? ⟨g, i, none⟩ = some v := (h.cell i).trans hv
theorem Blk.frozen (h : Blk w g t cs) (i : Nat) : w.frozen? ⟨g, i, none⟩ = false := by
 unfold Blk at h
 simp [World.frozen?, h]
theorem Blk.new (w : World) (t : TypeId) (cs : Array Value) : Blk (w.alloc (.cells cs t)) w.heap.size t cs := heap_alloc_new w _
theorem Blk.drew (h : Blk w g t cs) : Blk w.drew g t cs := h
theorem Blk.drewN (h : Blk w g t cs) (n : Nat) : Blk (w.drewN n) g t cs := h
theorem Blk.alloc (h : Blk w g t cs) (o : Obj) : Blk (w.alloc o) g t cs := (Below.heap_alloc w o g h.lt).trans h
theorem Blk.set_ (h : Blk w g t cs) (i : Nat) (u : Value) : Blk (w.setCell ⟨g, i, none⟩ u) g t (cs.setIfInBounds i u) := by
 unfold Blk at h ⊢
 simp [World.setCell, Array.getElem?_modify, h]
theorem Blk.far (h : Blk w g t cs) {p : Addr} (hp : g ≠ p.block) (u : Value) : Blk (w.setCell p u) g t cs := (Below.heap_setCell w p u g hp).trans h
theorem Blk.below {B : Nat} (h : Blk w g t cs) (hb : Below B w w') (hg : g < B) : Blk w' g t cs := (hb.block g hg).trans h
theorem Blk.grown {row : Option Nat} (h : Blk w g t cs) (hb : w.grownBy w' row) (hg : some g ≠ row) : Blk w' g t cs := (hb.block g h.lt hg).trans h
end
def ints (l : List Int) : List Value := l.map (.int .i64)
theorem ints_at (l : List Int) (j : Nat) (h : j < l.length) : (ints l)[j]? = some (.int .i64 l[j]) := by unfold ints; simp [h]
theorem ints_length (l : List Int) : (ints l).length = l.length := by unfold ints; simp
theorem ints_set (l : List Int) (j : Nat) (x : Int) : (ints l).toArray.setIfInBounds j (.int .i64 x) = (ints (l.set j x)).toArray := by
 unfold ints; simp [List.map_set]
theorem one_one (k : IntKind) (x : Int) : ∀ u ∈ [Value.int k x], u.oneCell' = true := by
 intro u hu
 rw [List.mem_singleton.1 hu]
 rfl
end Adj
end
section
namespace AdjV
set_option linter.unusedVariables false
set_option linter.unusedVariables false
def prod : List Int → Int
 | [] => 1
 | d :: l => d * prod l
theorem prod_append : ∀ (l m : List Int), prod (l ++ m) = prod l * prod m
 | [], m => by simp [prod]
 | d :: l, m => by simp only [List.cons_append, prod, prod_append l m, Int.mul_assoc]
theorem prod_snoc (l : List Int) (d : Int) : prod (l ++ [d]) = prod l * d := by rw [prod_append]; simp [prod]
theorem prod_pos : ∀ (l : List Int), (∀ d ∈ l, 1 ≤ d) → 1 ≤ prod l
 | [], _ => by simp [prod]
 | d :: l, h => by
  have h1 := h d (by simp)
  have h2 := prod_pos l (fun x hx => h x (by simp [hx]))
  have h3 := Int.mul_le_mul h1 h2 (by omega) (by omega)
  simpa [prod] using h3
theorem prod_zero : ∀ (l : List Int), (0 : Int) ∈ l → prod l = 0
 | d :: l, h => by
  rcases List.mem_cons.1 h with h | h
  ·subst h; simp [prod]
  ·simp [prod, prod_zero l h]
theorem prod_take_le (l : List Int) (i : Nat) (h : ∀ d ∈ l, 1 ≤ d) : prod (l.take i) ≤ prod l := by
 have e : prod l = prod (l.take i) * prod (l.drop i) := by rw [← prod_append, List.take_append_drop]
 have h1 := prod_pos (l.take i) (fun d hd => h d (List.mem_of_mem_take hd))
 have h2 := prod_pos (l.drop i) (fun d hd => h d (List.mem_of_mem_drop hd))
 have h3 := Int.mul_le_mul_of_nonneg_left h2 (show 0 ≤ prod (l.take i) by omega)
 rw [Int.mul_one] at h3
 rw [e]
 exact h3
def bad (d : Int) : Bool := decide (d < 0) || decide (4096 < d)
theorem bad_false {d : Int} : bad d = false ↔ 0 ≤ d ∧ d ≤ 4096 := by unfold bad; simp
def size (l : List Int) : Int × Int :=
 if 6 < l.length then (0, 3) else if l.any bad then (0, 4) else if (0 : Int) ∈ l then (0, 0) else if 65536 < prod l then (0, 5) else (prod l, 0)
theorem size_rank {l : List Int} (h : 6 < l.length) : size l = (0, 3) := if_pos h
theorem size_range {l : List Int} (h : ¬ 6 < l.length) (h2 : l.any bad = true) : size l = (0, 4) := by unfold size; rw [if_neg h, if_pos h2]
theorem size_none {l : List Int} (h : ¬ 6 < l.length) (h2 : l.any bad = false) (h3 : (0 : Int) ∈ l) : size l = (0, 0) := by unfold size; rw [if_neg h, if_neg (by simp [h2]), if_pos h3]
theorem size_much {l : List Int} (h : ¬ 6 < l.length) (h2 : l.any bad = false) (h3 : (0 : Int) ∉ l) (h4 : 65536 < prod l) : size l = (0, 5) := by unfold size; rw [if_neg h, if_neg (by simp [h2]), if_neg h3, if_pos h4]
theorem size_ok {l : List Int} (h : ¬ 6 < l.length) (h2 : l.any bad = false) (h3 : (0 : Int) ∉ l) (h4 : ¬ 65536 < prod l) : size l = (prod l, 0) := by unfold size; rw [if_neg h, if_neg (by simp [h2]), if_neg h3, if_neg h4]
theorem size_fine {l : List Int} (h : (size l).2 = 0) : l.length ≤ 6 ∧ (∀ d ∈ l, 0 ≤ d ∧ d ≤ 4096) ∧ (size l).1 = prod l ∧ 0 ≤ prod l ∧ prod l ≤ 65536 := by
 by_cases h1 : 6 < l.length
 ·rw [size_rank h1] at h; simp at h
 by_cases h2 : l.any bad = true
 ·rw [size_range h1 h2] at h; simp at h
 have h2' : l.any bad = false := by simpa using h2
 have hall : ∀ d ∈ l, 0 ≤ d ∧ d ≤ 4096 := fun d hd => bad_false.1 (by
  have := List.any_eq_false.1 h2' d hd
  simpa using this)
 by_cases h3 : (0 : Int) ∈ l
 ·have := prod_zero l h3
  exact ⟨by omega, hall, by rw [size_none h1 h2' h3, this], by omega, by omega⟩
 have hpos : 1 ≤ prod l := prod_pos l (fun d hd => by
  have := hall d hd
  have h0 : d ≠ 0 := fun e => h3 (e ▸ hd)
  omega)
 by_cases h4 : 65536 < prod l
 ·rw [size_much h1 h2' h3 h4] at h; simp at h
 ·exact ⟨by omega, hall, by rw [size_ok h1 h2' h3 h4], by omega, by omega⟩
theorem take_next {α : Type} (L : List α) (i : Nat) (h : i < L.length) : L.take (i + 1) = L.take i ++ [L[i]] := by
 rw [List.take_succ_eq_append_getElem h]
theorem any_take_next {α : Type} (L : List α) (p : α → Bool) (i : Nat) (h : i < L.length) : (L.take (i + 1)).any p = ((L.take i).any p || p L[i]) := by
 rw [take_next L i h, List.any_append]; simp
theorem any_of_take {α : Type} {L : List α} {p : α → Bool} {i : Nat} (h : i < L.length) (hp : p L[i] = true) : L.any p = true :=
 List.any_eq_true.2 ⟨L[i], List.getElem_mem h, hp⟩
end AdjV
namespace AdjV
set_option linter.unusedVariables false
def plc : List Int → List Int → Int
 | d :: l, a :: m => a * prod l + plc l m
 | _, _ => 0
def inside : List Int → List Int → Bool
 | [], [] => true
 | d :: l, a :: m => decide (0 ≤ a) && decide (a < d) && inside l m
 | _, _ => false
def steps (l : List Int) : List Int := (List.range l.length).map fun k => if (0 : Int) ∈ l then 0 else prod (l.drop (k + 1))
theorem steps_length (l : List Int) : (steps l).length = l.length := by simp [steps]
theorem steps_at (l : List Int) (k : Nat) (h : k < (steps l).length) : (steps l)[k] = if (0 : Int) ∈ l then 0 else prod (l.drop (k + 1)) := by simp [steps]
def idx (l : List Int) (p : Int) : List Int := (List.range l.length).map fun k => p / prod (l.drop (k + 1)) % l.getD k 0
theorem idx_length (l : List Int) (p : Int) : (idx l p).length = l.length := by simp [idx]
end AdjV
namespace AdjV
set_option linter.unusedVariables false
theorem prod_pow : ∀ (l : List Int), (∀ d ∈ l, 0 ≤ d ∧ d ≤ 4096) → 0 ≤ prod l ∧ prod l ≤ 4096 ^ l.length
 | [], _ => by simp [prod]
 | d :: l, h => by
  have h1 := h d (by simp)
  have h2 := prod_pow l (fun x hx => h x (by simp [hx]))
  refine ⟨Int.mul_nonneg h1.1 h2.1, ?_⟩
  have h3 := Int.mul_le_mul h1.2 h2.2 h2.1 (by omega)
  rw [List.length_cons, Int.pow_succ, Int.mul_comm (4096 ^ l.length) 4096]
  exact h3
theorem pow_five (n : Nat) (h : n ≤ 5) : (4096 : Int) ^ n ≤ 1152921504606846976 := by
 have : n = 0 ∨ n = 1 ∨ n = 2 ∨ n = 3 ∨ n = 4 ∨ n = 5 := by omega
 rcases this with rfl | rfl | rfl | rfl | rfl | rfl <;> decide
end AdjV
namespace AdjV
set_option linter.unusedVariables false
def dot : List Int → List Int → Int
 | a :: m, s :: l => a * s + dot m l
 | _, _ => 0
theorem dot_snoc : ∀ (m l : List Int) (a s : Int), m.length = l.length → dot (m ++ [a]) (l ++ [s]) = dot m l + a * s
 | [], [], a, s, _ => by simp [dot]
 | b :: m, t :: l, a, s, h => by
  have ih := dot_snoc m l a s (by simpa using h)
  simp only [List.cons_append, dot, ih, Int.add_assoc]
 | [], _ :: _, _, _, h => by simp at h
 | _ :: _, [], _, _, h => by simp at h
theorem plc_dot : ∀ (l m : List Int), (0 : Int) ∉ l → l.length = m.length → dot m ((List.range l.length).map fun k => prod (l.drop (k + 1))) = plc l m
 | [], [], _, _ => by simp [dot, plc]
 | d :: l, a :: m, h, hl => by
  have ih := plc_dot l m (fun hz => h (by simp [hz])) (by simpa using hl)
  simp only [List.length_cons, List.range_succ_eq_map, List.map_cons, List.map_map, dot, plc, List.drop_succ_cons, List.drop_zero]
  congr 1
 | [], _ :: _, _, h => by simp at h
 | _ :: _, [], _, h => by simp at h
theorem steps_plc {l m : List Int} (h : (0 : Int) ∉ l) (hl : l.length = m.length) : dot m (steps l) = plc l m := by
 rw [← plc_dot l m h hl]
 unfold steps
 congr 1
 apply List.map_congr_left
 intro k _
 rw [if_neg h]
end AdjV
namespace AdjV
set_option linter.unusedVariables false
end AdjV
namespace AdjV
set_option linter.unusedVariables false
theorem no_zero_of_pos {l : List Int} (h : (size l).2 = 0) (hp : 0 < prod l) : ∀ d ∈ l, 1 ≤ d := by
 obtain ⟨z1, z2, z3, z4, z5⟩ := size_fine h
 intro d hd
 have h1 := z2 d hd
 have h0 : d ≠ 0 := fun e => by subst e; have := prod_zero l hd; omega
 omega
end AdjV
end
section
namespace Go.Proofs.Ytapedmpbkffopaa
set_option linter.unusedVariables false
open Go.RowKit Adj
namespace Vw
def IntsAt (w : World) (B : Nat) (A : Option Addr) (l : List Int) : Prop :=
 0 < l.length → ∃ b off, A = some ⟨b, off, none⟩ ∧ b < B ∧ ∀ i (h : i < l.length), w.cell? ⟨b, off + i, none⟩ = some (.int .i64 l[i])
theorem IntsAt.below {w w' : World} {B : Nat} {A : Option Addr} {l : List Int} (h : IntsAt w B A l) (hb : Below B w w') : IntsAt w' B A l := fun hp => by
 obtain ⟨b, off, hA, hlt, hc⟩ := h hp
 exact ⟨b, off, hA, hlt, fun i hi => (hb.cell (p := ⟨b, off + i, none⟩) hlt).trans (hc i hi)⟩
theorem IntsAt.up {w : World} {B B' : Nat} {A : Option Addr} {l : List Int} (h : IntsAt w B A l) (hb : B ≤ B') : IntsAt w B' A l := fun hp => by
 obtain ⟨b, off, hA, hlt, hc⟩ := h hp
 exact ⟨b, off, hA, by omega, hc⟩
def Asks (fK : Nat) (p : Int → Bool) : Prop :=
 (∀ (args : Array Value) (w : World), (callFunc fK args).run Try.prog w = .ok (.enter fK args) w) ∧ ∀ (x : Int) (w : World), Calls Try.prog fK #[.int .i64 x] w fun e w' => e = .returned (.bool (p x)) ∧ w = w'
def Found (p : Int → Bool) (l : List Int) (r : Int) : Prop := (0 ≤ r ↔ l.any p = true) ∧ -1 ≤ r
end Vw
theorem call_enters {P : Program} {f : FuncId} {fn : Func} {c : Code} (hf : P.funcs[f]? = some fn) (hname : (fn.name == "runtime.NumGoroutine") = false) (hb : fn.body = some c) (args : Array Value) (w : World) :
    (callFunc f args).run P w = .ok (.enter f args) w := by
 have h1 : fn.name ≠ "runtime.NumGoroutine" := by simpa using hname
 simp [callFunc, hf, h1, hb]
set_option maxHeartbeats 1000000 in
theorem IndexFunc_any (fK : Nat) (p : Int → Bool) (hp : Vw.Asks fK p) (A : Option Addr) (cap : Nat) (l : List Int) (B : Nat) (w : World) (hl : l.length ≤ 9223372036854775807) (hm : Vw.IntsAt w B A l) :
    Calls Try.prog 21 #[.slice A l.length cap, .func (.func fK) #[] #[]] w fun e w' => ∃ r : Int, e = .returned (.int .i64 r) ∧ Vw.Found p l r ∧ w = w' := by
 have hcf := hp.1
 have HP := Lib.hid hp
 have HM := Lib.hid hm
 clear hp hm
 go_enter Try.func21, Try.ntmps21
 go_wp2_with fail
 go_loop [5, 8] (fun _ i => ∃ k : Nat, k ≤ l.length ∧ i = .int .i64 (k : Int) ∧ (l.take k).any p = false) (fun _ i => l.length + 1 - (intOf i).toNat)
 case atStart => exact ⟨0, by omega, rfl, by simp⟩
 case round =>
  obtain ⟨k, hk, rfl, hno⟩ := hrel
  have HNO := Lib.hid hno
  clear hno
  by_cases hlt : k < l.length
  ·obtain ⟨b, off, rfl, hb, hc⟩ := HM.out (by omega)
   have hck := hc k hlt
   have hi1 : (0 : Int) ≤ (k : Int) := by omega
   have hi2 : (k : Int) < (l.length : Int) := by omega
   clear hc
   have HASK := Lib.hid (HP.out.2 l[k])
   have HL := Lib.hid (AdjV.any_take_next l p k hlt)
   have HG := Lib.hid (fun h => AdjV.any_of_take (p := p) hlt h)
   generalize l[k] = x at hck HASK HL HG
   by_cases hpx : p x = true
   ·go_wp2_with fail
    refine (HASK.out _).mono ?_
    rintro e w1 ⟨rfl, rfl⟩
    rw [hpx]
    go_wp2_with fail
    go_ret
    exact ⟨_, rfl, ⟨⟨fun _ => HG.out hpx, fun _ => by omega⟩, by omega⟩, rfl⟩
   ·have hpx' : p x = false := by simpa using hpx
    go_wp2_with fail
    refine (HASK.out _).mono ?_
    rintro e w1 ⟨rfl, rfl⟩
    rw [hpx']
    go_wp2_with fail
    go_round
    case rel => exact ⟨k + 1, by omega, by go_num, by rw [HL.out, HNO.out, hpx']; rfl⟩
    case measure => simp [intOf]; omega
  ·obtain rfl : k = l.length := by omega
   go_wp2_with fail
   go_ret
   have := HNO.out
   rw [List.take_length] at this
   exact ⟨_, rfl, ⟨⟨fun h => by omega, fun h => by rw [this] at h; cases h⟩, by omega⟩, rfl⟩
set_option maxHeartbeats 1000000 in
theorem ContainsFunc_any (fK : Nat) (p : Int → Bool) (hp : Vw.Asks fK p) (A : Option Addr) (cap : Nat) (l : List Int) (B : Nat) (w : World) (hl : l.length ≤ 9223372036854775807) (hm : Vw.IntsAt w B A l) :
    Calls Try.prog 14 #[.slice A l.length cap, .func (.func fK) #[] #[]] w fun e w' => e = .returned (.bool (l.any p)) ∧ w = w' := by
 have HI := Lib.hid (IndexFunc_any fK p hp A cap l B w hl hm)
 clear hp hm
 go_enter Try.func14, Try.ntmps14
 go_wp2_with fail
 refine HI.out.mono ?_
 rintro e w1 ⟨r, rfl, hr, rfl⟩
 have HR := Lib.hid hr
 have hr1 := hr.2
 clear hr
 go_wp2_with fail
 go_ret
 exact ⟨ret_bool (by rw [Bool.eq_iff_iff, decide_eq_true_iff]; exact HR.out.1), rfl⟩
theorem Size1_any : Vw.Asks 15 AdjV.bad := by
 obtain ⟨c, hc⟩ : ∃ c, Try.f15.body = some c := ⟨_, rfl⟩
 refine ⟨call_enters Try.func15 (by kernel_rfl) hc, fun x w => ?_⟩
 clear hc c
 by_cases h1 : x < 0
 ·have h : AdjV.bad x = true := by unfold AdjV.bad; simp [h1]
  have H := Lib.hid h
  clear h
  go_enter Try.func15, Try.ntmps15
  go_wp2
  go_ret
  exact ⟨by rw [H.out]; rfl, rfl⟩
 ·by_cases h2 : 4096 < x
  ·have h : AdjV.bad x = true := by unfold AdjV.bad; simp [h2]
   have H := Lib.hid h
   clear h
   go_enter Try.func15, Try.ntmps15
   go_wp2
   go_ret
   exact ⟨by rw [H.out]; rfl, rfl⟩
  ·have h : AdjV.bad x = false := by unfold AdjV.bad; simp [h1, h2]
   have H := Lib.hid h
   clear h
   go_enter Try.func15, Try.ntmps15
   go_wp2
   go_ret
   exact ⟨by rw [H.out]; rfl, rfl⟩
set_option maxHeartbeats 1000000 in
theorem Index_any (x : Int) (A : Option Addr) (cap : Nat) (l : List Int) (B : Nat) (w : World) (hl : l.length ≤ 9223372036854775807) (hm : Vw.IntsAt w B A l) :
    Calls Try.prog 22 #[.slice A l.length cap, .int .i64 x] w fun e w' => ∃ r : Int, e = .returned (.int .i64 r) ∧ Vw.Found (x == ·) l r ∧ w = w' := by
 have HM := Lib.hid hm
 clear hm
 go_enter Try.func22, Try.ntmps22
 go_wp2_with fail
 go_loop [5, 8] (fun _ i => ∃ k : Nat, k ≤ l.length ∧ i = .int .i64 (k : Int) ∧ (l.take k).any (x == ·) = false) (fun _ i => l.length + 1 - (intOf i).toNat)
 case atStart => exact ⟨0, by omega, rfl, by simp⟩
 case round =>
  obtain ⟨k, hk, rfl, hno⟩ := hrel
  have HNO := Lib.hid hno
  clear hno
  by_cases hlt : k < l.length
  ·obtain ⟨b, off, rfl, hb, hc⟩ := HM.out (by omega)
   have hck := hc k hlt
   have hi1 : (0 : Int) ≤ (k : Int) := by omega
   have hi2 : (k : Int) < (l.length : Int) := by omega
   clear hc
   have HL := Lib.hid (AdjV.any_take_next l (x == ·) k hlt)
   have HG := Lib.hid (fun h => AdjV.any_of_take (p := (x == ·)) hlt h)
   generalize l[k] = y at hck HL HG
   by_cases hpx : (x == y) = true
   ·go_wp2_with fail
    go_ret
    exact ⟨_, rfl, ⟨⟨fun _ => HG.out hpx, fun _ => by omega⟩, by omega⟩, rfl⟩
   ·have hpx' : (x == y) = false := by simpa using hpx
    clear hpx
    go_wp2_with fail
    go_round
    case rel => exact ⟨k + 1, by omega, by go_num, by rw [HL.out, HNO.out]; simpa using hpx'⟩
    case measure => simp [intOf]; omega
  ·obtain rfl : k = l.length := by omega
   go_wp2_with fail
   go_ret
   have := HNO.out
   rw [List.take_length] at this
   exact ⟨_, rfl, ⟨⟨fun h => by omega, fun h => by rw [this] at h; cases h⟩, by omega⟩, rfl⟩
set_option maxHeartbeats 1000000 in
theorem Contains_any (x : Int) (A : Option Addr) (cap : Nat) (l : List Int) (B : Nat) (w : World) (hl : l.length ≤ 9223372036854775807) (hm : Vw.IntsAt w B A l) :
    Calls Try.prog 16 #[.slice A l.length cap, .int .i64 x] w fun e w' => e = .returned (.bool (decide (x ∈ l))) ∧ w = w' := by
 have HI := Lib.hid (Index_any x A cap l B w hl hm)
 clear hm
 go_enter Try.func16, Try.ntmps16
 go_wp2_with fail
 refine HI.out.mono ?_
 rintro e w1 ⟨r, rfl, hr, rfl⟩
 have HR := Lib.hid hr
 have hr1 := hr.2
 clear hr
 go_wp2_with fail
 go_ret
 refine ⟨ret_bool ?_, rfl⟩
 rw [Bool.eq_iff_iff, decide_eq_true_iff, decide_eq_true_iff, HR.out.1, List.any_eq_true]
 constructor
 ·rintro ⟨y, hy, hxy⟩
  rw [beq_iff_eq] at hxy
  exact hxy ▸ hy
 ·intro h
  exact ⟨x, h, by simp⟩
theorem Vw.mul_bound (n d : Int) (h0 : 0 ≤ n) (h1 : n ≤ 65537) (h2 : 0 ≤ d) (h3 : d ≤ 4096) : 0 ≤ n * d ∧ n * d ≤ 268439552 :=
 ⟨Int.mul_nonneg h0 h2, by have := Int.mul_le_mul h1 h3 h2 (by omega); omega⟩
theorem Vw.zero_next (l : List Int) (k : Nat) (h : k < l.length) : (0 : Int) ∈ l.take (k + 1) → (0 : Int) ∈ l.take k ∨ l[k] = 0 := by
 rw [AdjV.take_next l k h, List.mem_append, List.mem_singleton]
 rintro (h | h)
 ·exact .inl h
 ·exact .inr h.symm
theorem Vw.zero_mul' {l m : List Int} {d n : Int} (h : (0 : Int) ∈ m → (0 : Int) ∈ l ∨ d = 0) (hz : (0 : Int) ∈ l → n = 0) : (0 : Int) ∈ m → n * d = 0 := fun hm => by
 rcases h hm with h | h
 ·rw [hz h, Int.zero_mul]
 ·rw [h, Int.mul_zero]
theorem Vw.mul_pos (n d : Int) (h0 : 1 ≤ n) (h1 : 1 ≤ d) : 1 ≤ n * d := by
 have := Int.mul_le_mul h0 h1 (by omega) (by omega)
 omega
theorem Vw.zero_iff (l : List Int) (k : Nat) (h : k < l.length) : decide ((0 : Int) ∈ l.take (k + 1)) = (decide ((0 : Int) ∈ l.take k) || decide (l[k] = 0)) := by
 rw [AdjV.take_next l k h, Bool.eq_iff_iff]
 simp only [List.mem_append, List.mem_singleton, Bool.or_eq_true, decide_eq_true_iff]
 constructor
 ·rintro (h | h)
  ·exact .inl h
  ·exact .inr h.symm
 ·rintro (h | h)
  ·exact .inl h
  ·exact .inr h.symm
theorem Vw.min_spell (x : Int) (hb : 65536 < x) : Value.int .i64 (if 65537 < x then 65537 else x) = .int .i64 65537 := by
 split
 ·rfl
 ·rw [show x = 65537 from by omega]
def Vw.sizeR (l : List Int) : Value := .tuple #[.int .i64 (AdjV.size l).1, .int .i64 (AdjV.size l).2]
set_option maxHeartbeats 2000000 in
theorem Size_any (A : Option Addr) (cap : Nat) (l : List Int) (B : Nat) (w : World) (hl : l.length ≤ 9223372036854775807) (hm : Vw.IntsAt w B A l) :
    Calls Try.prog 7 #[.slice A l.length cap] w fun e w' => e = .returned (Vw.sizeR l) ∧ w = w' := by
 by_cases h1 : 6 < l.length
 ·have HS := Lib.hid (AdjV.size_rank h1)
  have h1' : (6 : Int) < (l.length : Int) := by omega
  go_enter Try.func7, Try.ntmps7
  go_wp2_with fail
  go_ret2
  exact ⟨by unfold Vw.sizeR; rw [HS.out]; rfl, rfl⟩
 have h1' : ¬ (6 : Int) < (l.length : Int) := by omega
 have HCF := Lib.hid (ContainsFunc_any _ _ Size1_any A cap l B w hl hm)
 by_cases h2 : l.any AdjV.bad = true
 ·have HS := Lib.hid (AdjV.size_range h1 h2)
  clear hm
  go_enter Try.func7, Try.ntmps7
  go_wp2_with fail
  refine HCF.out.mono ?_
  rintro e w1 ⟨rfl, rfl⟩
  rw [h2]
  go_wp2_with fail
  go_ret2
  exact ⟨by unfold Vw.sizeR; rw [HS.out]; rfl, rfl⟩
 have h2' : l.any AdjV.bad = false := by simpa using h2
 have hall : ∀ i (h : i < l.length), 0 ≤ l[i] ∧ l[i] ≤ 4096 := fun i hi => AdjV.bad_false.1 (by
  have := List.any_eq_false.1 h2' l[i] (List.getElem_mem hi)
  simpa using this)
 have HALL := Lib.hid hall
 have H2 := Lib.hid h2'
 have HCO := Lib.hid (fun W h => Contains_any 0 A cap l B W hl h)
 have HM := Lib.hid hm
 clear hall h2 h2' hm
 by_cases h3 : (0 : Int) ∈ l
 ·have HS := Lib.hid (AdjV.size_none h1 H2.out h3)
  have hco : decide ((0 : Int) ∈ l) = true := by simpa using h3
  have HCT := Lib.hid hco
  have H3 := Lib.hid h3
  clear hco h3
  go_enter Try.func7, Try.ntmps7
  go_wp2_with fail
  refine HCF.out.mono ?_
  rintro e w1 ⟨rfl, rfl⟩
  rw [H2.out]
  go_wp2_with fail
  go_loop [4, 6, 14] (fun v _ i => ∃ (k : Nat) (n : Int), k ≤ l.length ∧ i = .int .i64 (k : Int) ∧ v = .int .i64 n ∧ 0 ≤ n ∧ n ≤ 65537 ∧ ((0 : Int) ∈ l.take k → n = 0)) (fun _ _ i => l.length + 1 - (intOf i).toNat)
  case atStart => exact ⟨0, 1, by omega, rfl, rfl, by omega, by omega, by simp⟩
  case round =>
   obtain ⟨k, n, hk, rfl, rfl, hn0, hn1, hz⟩ := hrel
   have HZ := Lib.hid hz
   clear hz
   by_cases hlt : k < l.length
   ·obtain ⟨b, off, rfl, hb, hc⟩ := HM.out (by omega)
    have hck := hc k hlt
    have hd := HALL.out k hlt
    have hi1 : (0 : Int) ≤ (k : Int) := by omega
    have hi2 : (k : Int) < (l.length : Int) := by omega
    clear hc
    have HT := Lib.hid (Vw.zero_next l k hlt)
    generalize l[k] = d at hck hd HT
    have hp := Vw.mul_bound n d hn0 hn1 hd.1 hd.2
    have hdd := hd.1
    have HP := Lib.hid (Vw.zero_mul' HT.out HZ.out)
    by_cases hbig : 65536 < n * d
    ·go_wp2_with fail
     refine (HCO.out _ HM.out).mono ?_
     rintro e w1 ⟨rfl, rfl⟩
     rw [HCT.out]
     go_wp2_with fail
     exact ⟨⟨k + 1, 65537, by omega, by go_num, by first | exact Vw.min_spell _ hbig | rfl, by omega, by omega, fun h => by have := HP.out h; omega⟩, by simp [intOf]; omega⟩
    ·go_wp2_with fail
     exact ⟨⟨k + 1, n * d, by omega, by go_num, rfl, hp.1, by omega, HP.out⟩, by simp [intOf]; omega⟩
   ·obtain rfl : k = l.length := by omega
    have hn := HZ.out (by rw [List.take_length]; exact H3.out)
    subst hn
    go_wp2_with fail
    go_ret2
    exact ⟨by unfold Vw.sizeR; rw [HS.out]; rfl, rfl⟩
 ·have hco : decide ((0 : Int) ∈ l) = false := by simpa using h3
  have HCT := Lib.hid hco
  have hpos : ∀ i (h : i < l.length), 1 ≤ l[i] := fun i hi => by
   have := HALL.out i hi
   have h0 : l[i] ≠ 0 := fun e => h3 (e ▸ List.getElem_mem hi)
   omega
  have HPOS := Lib.hid hpos
  have H3 := Lib.hid h3
  clear hco h3 hpos
  go_enter Try.func7, Try.ntmps7
  go_wp2_with fail
  refine HCF.out.mono ?_
  rintro e w1 ⟨rfl, rfl⟩
  rw [H2.out]
  go_wp2_with fail
  go_loop [4, 6, 14] (fun v _ i => ∃ (k : Nat) (n : Int), k ≤ l.length ∧ i = .int .i64 (k : Int) ∧ v = .int .i64 n ∧ 1 ≤ n ∧ n ≤ 65536 ∧ n = AdjV.prod (l.take k)) (fun _ _ i => l.length + 1 - (intOf i).toNat)
  case atStart => exact ⟨0, 1, by omega, rfl, rfl, by omega, by omega, by simp [AdjV.prod]⟩
  case round =>
   obtain ⟨k, n, hk, rfl, rfl, hn0, hn1, hz⟩ := hrel
   have HZ := Lib.hid hz
   clear hz
   by_cases hlt : k < l.length
   ·obtain ⟨b, off, rfl, hb, hc⟩ := HM.out (by omega)
    have hck := hc k hlt
    have hd := HALL.out k hlt
    have hd1 := HPOS.out k hlt
    have hi1 : (0 : Int) ≤ (k : Int) := by omega
    have hi2 : (k : Int) < (l.length : Int) := by omega
    clear hc
    have HT := Lib.hid (show AdjV.prod (l.take (k + 1)) = AdjV.prod (l.take k) * l[k] by rw [AdjV.take_next l k hlt, AdjV.prod_snoc])
    generalize l[k] = d at hck hd hd1 HT
    have hp := Vw.mul_bound n d (by omega) (by omega) hd.1 hd.2
    have hp1 := Vw.mul_pos n d hn0 hd1
    by_cases hbig : 65536 < n * d
    ·have HS := Lib.hid (AdjV.size_much h1 H2.out H3.out (by
       have := AdjV.prod_take_le l (k + 1) (fun d hd => by
        obtain ⟨i, hi, rfl⟩ := List.getElem_of_mem hd
        exact HPOS.out i hi)
       rw [HT.out, ← HZ.out] at this
       omega))
     go_wp2_with fail
     refine (HCO.out _ HM.out).mono ?_
     rintro e w1 ⟨rfl, rfl⟩
     rw [HCT.out]
     go_wp2_with fail
     go_ret2
     exact ⟨by unfold Vw.sizeR; rw [HS.out]; rfl, rfl⟩
    ·go_wp2_with fail
     exact ⟨⟨k + 1, n * d, by omega, by go_num, rfl, hp1, by omega, by rw [HT.out, ← HZ.out]⟩, by simp [intOf]; omega⟩
   ·obtain rfl : k = l.length := by omega
    have hn := HZ.out
    rw [List.take_length] at hn
    have HS := Lib.hid (AdjV.size_ok h1 H2.out H3.out (by rw [← hn]; omega))
    have HN := Lib.hid hn
    clear hn
    go_wp2_with fail
    go_ret2
    exact ⟨by unfold Vw.sizeR; rw [HS.out, ← HN.out]; rfl, rfl⟩
set_option maxHeartbeats 2000000 in
theorem refSize_any (A : Option Addr) (cap : Nat) (l : List Int) (B : Nat) (w : World) (hl : l.length ≤ 9223372036854775807) (hm : Vw.IntsAt w B A l) :
    Calls Try.prog 10 #[.slice A l.length cap] w fun e w' => e = .returned (Vw.sizeR l) ∧ w = w' := by
 by_cases h1 : 6 < l.length
 ·have HS := Lib.hid (AdjV.size_rank h1)
  have h1' : (6 : Int) < (l.length : Int) := by omega
  go_enter Try.func10, Try.ntmps10
  go_wp2_with fail
  go_ret2
  exact ⟨by unfold Vw.sizeR; rw [HS.out]; rfl, rfl⟩
 have h1' : ¬ (6 : Int) < (l.length : Int) := by omega
 have HM := Lib.hid hm
 clear hm
 go_enter Try.func10, Try.ntmps10
 go_wp2_with fail
 go_loop [4, 6, 15] (fun v _ i => ∃ k : Nat, k ≤ l.length ∧ i = .int .i64 (k : Int) ∧ v = .bool (decide ((0 : Int) ∈ l.take k)) ∧ (l.take k).any AdjV.bad = false) (fun _ _ i => l.length + 1 - (intOf i).toNat)
 case atStart => exact ⟨0, by omega, rfl, by simp, by simp⟩
 case round =>
  obtain ⟨k, hk, rfl, rfl, hno⟩ := hrel
  have HNO := Lib.hid hno
  clear hno
  by_cases hlt : k < l.length
  ·obtain ⟨b, off, rfl, hb, hc⟩ := HM.out (by omega)
   have hck := hc k hlt
   have hi1 : (0 : Int) ≤ (k : Int) := by omega
   have hi2 : (k : Int) < (l.length : Int) := by omega
   clear hc
   have HT := Lib.hid (Vw.zero_iff l k hlt)
   have HB := Lib.hid (AdjV.any_take_next l AdjV.bad k hlt)
   have HG := Lib.hid (fun h => AdjV.size_range h1 (AdjV.any_of_take (p := AdjV.bad) hlt h))
   generalize l[k] = d at hck HT HB HG
   by_cases hd1 : d < 0
   ·have HS := Lib.hid (HG.out (by unfold AdjV.bad; simp [hd1]))
    go_wp2_with fail
    go_ret2
    exact ⟨by unfold Vw.sizeR; rw [HS.out]; rfl, rfl⟩
   by_cases hd2 : 4096 < d
   ·have HS := Lib.hid (HG.out (by unfold AdjV.bad; simp [hd2]))
    go_wp2_with fail
    go_ret2
    exact ⟨by unfold Vw.sizeR; rw [HS.out]; rfl, rfl⟩
   have HOK := Lib.hid (show AdjV.bad d = false from AdjV.bad_false.2 (by omega))
   generalize hz0 : decide ((0 : Int) ∈ l.take k) = z at *
   have HZ0 := Lib.hid hz0
   clear hz0
   by_cases hd0 : d = 0
   ·have hq : (d == 0) = true := by simpa using hd0
    have HD := Lib.hid hd0
    clear hd0
    go_wp2_with fail
    go_round
    case rel => exact ⟨k + 1, by omega, by go_num, by rw [HT.out, HD.out]; simp, by rw [HB.out, HNO.out, HOK.out]; rfl⟩
    case measure => simp [intOf]; omega
   ·have hq : (d == 0) = false := by simpa using hd0
    have HD := Lib.hid hd0
    clear hd0
    go_wp2_with fail
    go_round
    case rel => exact ⟨k + 1, by omega, by go_num, by rw [HT.out, ← HZ0.out]; simp [HD.out], by rw [HB.out, HNO.out, HOK.out]; rfl⟩
    case measure => simp [intOf]; omega
  ·obtain rfl : k = l.length := by omega
   have hno := HNO.out
   rw [List.take_length] at hno
   have H2 := Lib.hid hno
   rw [List.take_length]
   clear hno HNO
   by_cases h3 : (0 : Int) ∈ l
   ·have hz : decide ((0 : Int) ∈ l) = true := by simpa using h3
    have HS := Lib.hid (AdjV.size_none h1 H2.out h3)
    rw [hz]
    clear hz h3
    go_wp2_with fail
    go_ret2
    exact ⟨by unfold Vw.sizeR; rw [HS.out]; rfl, rfl⟩
   ·have hz : decide ((0 : Int) ∈ l) = false := by simpa using h3
    rw [hz]
    have hall : ∀ i (h : i < l.length), 1 ≤ l[i] ∧ l[i] ≤ 4096 := fun i hi => by
     have := AdjV.bad_false.1 (by
      have := List.any_eq_false.1 H2.out l[i] (List.getElem_mem hi)
      simpa using this)
     have h0 : l[i] ≠ 0 := fun e => h3 (e ▸ List.getElem_mem hi)
     omega
    have HALL := Lib.hid hall
    have H3 := Lib.hid h3
    clear hz h3 hall
    go_wp2_with fail
    go_loop [7, 9, 31] (fun v _ i => ∃ (k : Nat) (n : Int), k ≤ l.length ∧ i = .int .i64 (k : Int) ∧ v = .int .i64 n ∧ 1 ≤ n ∧ n ≤ 65536 ∧ n = AdjV.prod (l.take k)) (fun _ _ i => l.length + 1 - (intOf i).toNat)
    case atStart => exact ⟨0, 1, by omega, rfl, rfl, by omega, by omega, by simp [AdjV.prod]⟩
    case round =>
     obtain ⟨k, n, hk, rfl, rfl, hn0, hn1, hz⟩ := hrel
     have HZ := Lib.hid hz
     clear hz
     by_cases hlt : k < l.length
     ·obtain ⟨b, off, rfl, hb, hc⟩ := HM.out (by omega)
      have hck := hc k hlt
      have hd := HALL.out k hlt
      have hi1 : (0 : Int) ≤ (k : Int) := by omega
      have hi2 : (k : Int) < (l.length : Int) := by omega
      clear hc
      have HT := Lib.hid (show AdjV.prod (l.take (k + 1)) = AdjV.prod (l.take k) * l[k] by rw [AdjV.take_next l k hlt, AdjV.prod_snoc])
      generalize l[k] = d at hck hd HT
      have hp := Vw.mul_bound n d (by omega) (by omega) (by omega) hd.2
      have hp1 := Vw.mul_pos n d hn0 hd.1
      by_cases hbig : 65536 < n * d
      ·have HS := Lib.hid (AdjV.size_much h1 H2.out H3.out (by
         have := AdjV.prod_take_le l (k + 1) (fun d hd => by
          obtain ⟨i, hi, rfl⟩ := List.getElem_of_mem hd
          exact (HALL.out i hi).1)
         rw [HT.out, ← HZ.out] at this
         omega))
       go_wp2_with fail
       go_ret2
       exact ⟨by unfold Vw.sizeR; rw [HS.out]; rfl, rfl⟩
      ·go_wp2_with fail
       go_round
       case rel => exact ⟨k + 1, n * d, by omega, by go_num, rfl, hp1, by omega, by rw [HT.out, ← HZ.out]⟩
       case measure => simp [intOf]; omega
     ·obtain rfl : k = l.length := by omega
      have hn := HZ.out
      rw [List.take_length] at hn
      have HS := Lib.hid (AdjV.size_ok h1 H2.out H3.out (by rw [← hn]; omega))
      have HN := Lib.hid hn
      clear hn
      go_wp2_with fail
      go_ret2
      exact ⟨by unfold Vw.sizeR; rw [HS.out, ← HN.out]; rfl, rfl⟩
end Go.Proofs.Ytapedmpbkffopaa
end
section
namespace Go.Proofs.Ytapedmpbkffopaa
set_option linter.unusedVariables false
open Go.RowKit Adj
theorem Try.infoOf3 : (Try.prog.info? 3).map (fun i => (i.zero, i.size, i.bytes)) = some (some (.int .i64 0), 1, 8) := by kernel_rfl
namespace Vw
theorem IntsAt.of_own {w : World} {base : Nat} {A : Option Addr} {n c : Nat} {l : List Int} (h : w.ownsRow base 3 1 (.slice A n c) n (ints l)) : n = l.length ∧ IntsAt w w.heap.size A l := by
 have hn : l.length = n := by have := h.1; rw [ints_length] at this; omega
 refine ⟨hn.symm, fun hp => ?_⟩
 obtain ⟨g, cap, hv, _, hlt⟩ := h.form (by omega)
 injection hv with hA
 subst hA
 refine ⟨g, 0, rfl, hlt, fun i hi => ?_⟩
 have := h.cells (g := g) rfl i _ (ints_at l i hi)
 rw [Addr.add_lit] at this
 exact this
theorem own_any {w : World} {base : Nat} {e : TypeId} {v : Value} {n : Nat} {xs : List Value} (h : w.ownsRow base e 1 v n xs) : ∃ A c, v = .slice A n c ∧ n ≤ c := by
 rcases h.2 with ⟨rfl, rfl⟩ | ⟨g, cap, cur, rfl, _, _, h, _⟩
 ·exact ⟨_, _, rfl, Nat.le_refl _⟩
 ·exact ⟨_, _, rfl, h⟩
theorem ints_snoc (l : List Int) (x : Int) : ints (l ++ [x]) = ints l ++ [.int .i64 x] := by simp [ints]
theorem ints_take_next (l : List Int) (k : Nat) (h : k < l.length) : ints (l.take (k + 1)) = ints (l.take k) ++ [.int .i64 l[k]] := by rw [AdjV.take_next l k h, ints_snoc]
theorem put_end {w wm w1 : World} {k : Nat} {l : List Int} {x : Int} {v v' : Value} {o : Obj} (hb : Below w.heap.size w wm) (hown : wm.ownsRow w.heap.size 3 1 v k (ints (l.take k))) (hk : k < l.length) (hx : l[k] = x)
    (hown' : w1.ownsRow w.heap.size 3 1 v' (k + 1) (ints (l.take k) ++ [.int .i64 x])) (hg : (wm.alloc o).grownBy w1 v.ownBlock) :
    w1.ownsRow w.heap.size 3 1 v' (k + 1) (ints (l.take (k + 1))) ∧ Below w.heap.size w w1 := by
 subst hx
 refine ⟨by rw [ints_take_next l k hk]; exact hown', ?_⟩
 exact (hb.alloc hb.size o).grown hg (by have := hb.size; simp; omega) (fun q hq => (hown.lt q hq).1)
theorem own_nothing (w : World) (e : TypeId) : (w.alloc (.cells #[] e)).ownsRow w.heap.size e 1 (.slice (some ⟨w.heap.size, 0, none⟩) 0 0) 0 [] := World.ownsRow_made w #[] 0 (Nat.le_refl _) (by unfold maxLen; omega) rfl
theorem part_bound {l : List Int} (h : (AdjV.size l).2 = 0) {k j : Nat} : 0 ≤ AdjV.prod ((l.drop (k + 1)).take j) ∧ AdjV.prod ((l.drop (k + 1)).take j) ≤ 1152921504606846976 := by
 obtain ⟨z1, z2, _⟩ := AdjV.size_fine h
 have h1 := AdjV.prod_pow ((l.drop (k + 1)).take j) (fun d hd => z2 d (List.mem_of_mem_drop (List.mem_of_mem_take hd)))
 have h2 := AdjV.pow_five ((l.drop (k + 1)).take j).length (by
  have := List.length_take_le' j (l.drop (k + 1))
  rw [List.length_drop] at this
  omega)
 omega
theorem part_next (l : List Int) (k j : Nat) (h : k + 1 + j < l.length) : AdjV.prod ((l.drop (k + 1)).take (j + 1)) = AdjV.prod ((l.drop (k + 1)).take j) * l[k + 1 + j] := by
 rw [AdjV.take_next _ j (by rw [List.length_drop]; omega), AdjV.prod_snoc, List.getElem_drop]
theorem steps_next {l : List Int} {k : Nat} (h : k < l.length) : (AdjV.steps l)[k]'(by rw [AdjV.steps_length]; exact h) = if (0 : Int) ∈ l then 0 else AdjV.prod (l.drop (k + 1)) := AdjV.steps_at l k _
end Vw
set_option maxHeartbeats 1000000 in
theorem has_any (A : Option Addr) (cap : Nat) (l : List Int) (x : Int) (B : Nat) (w : World) (hl : l.length ≤ 9223372036854775807) (hm : Vw.IntsAt w B A l) :
    Calls Try.prog 65 #[.slice A l.length cap, .int .i64 x] w fun e w' => e = .returned (.bool (decide (x ∈ l))) ∧ w = w' := by
 have HM := Lib.hid hm
 clear hm
 go_enter Try.func65, Try.ntmps65
 go_wp2_with fail
 go_loop [6, 9] (fun _ i => ∃ k : Nat, k ≤ l.length ∧ i = .int .i64 (k : Int) ∧ x ∉ l.take k) (fun _ i => l.length + 1 - (intOf i).toNat)
 case atStart => exact ⟨0, by omega, rfl, by simp⟩
 case round =>
  obtain ⟨k, hk, rfl, hno⟩ := hrel
  have HNO := Lib.hid hno
  clear hno
  by_cases hlt : k < l.length
  ·obtain ⟨b, off, rfl, hb, hc⟩ := HM.out (by omega)
   have hck := hc k hlt
   have hi1 : (0 : Int) ≤ (k : Int) := by omega
   have hi2 : (k : Int) < (l.length : Int) := by omega
   clear hc
   have HT := Lib.hid (AdjV.take_next l k hlt)
   have HIN := Lib.hid (List.getElem_mem hlt)
   generalize l[k] = y at hck HT HIN
   by_cases hxy : y = x
   ·have hq : (y == x) = true := by simpa using hxy
    have HD := Lib.hid (show decide (x ∈ l) = true by simpa using hxy ▸ HIN.out)
    clear hxy
    go_wp2_with fail
    go_ret
    exact ⟨by rw [HD.out]; rfl, rfl⟩
   ·have hq : (y == x) = false := by simpa using hxy
    have HN := Lib.hid (show x ∉ l.take (k + 1) by
     rw [HT.out, List.mem_append, List.mem_singleton]
     rintro (h | h)
     ·exact HNO.out h
     ·exact hxy h.symm)
    clear hxy
    go_wp2_with fail
    go_round
    case rel => exact ⟨k + 1, by omega, by go_num, HN.out⟩
    case measure => simp [intOf]; omega
  ·obtain rfl : k = l.length := by omega
   have HD := Lib.hid (show decide (x ∈ l) = false by have := HNO.out; rw [List.take_length] at this; simpa using this)
   go_wp2_with fail
   go_ret
   exact ⟨by rw [HD.out]; rfl, rfl⟩
set_option maxRecDepth 100000 in
set_option maxHeartbeats 2000000 in
theorem Steps_any (A : Option Addr) (cap : Nat) (l : List Int) (B : Nat) (w : World) (hcap : l.length ≤ cap) (hcap2 : cap ≤ 9223372036854775807) (h0 : (AdjV.size l).2 = 0) (hm : Vw.IntsAt w B A l) (hB : B ≤ w.heap.size) :
    Calls Try.prog 63 #[.slice A l.length cap] w fun e w' => ∃ v, e = .returned v ∧ w'.ownsRow w.heap.size 3 1 v l.length (ints (AdjV.steps l)) ∧ Below w.heap.size w w' := by
 obtain ⟨i0, hi, hz0, hz1, hz2⟩ := info_parts Try.infoOf3
 obtain ⟨z1, z2, z3, z4, z5⟩ := AdjV.size_fine h0
 have HM := Lib.hid hm
 have HZ := Lib.hid z2
 clear hm z2 z3
 go_enter Try.func63, Try.ntmps63
 go_wp2_with fail
 go_loopw [3, 4, 11] (fun v _ i wr => ∃ k : Nat, k ≤ l.length ∧ i = .int .i64 (k : Int) ∧ wr.ownsRow w.heap.size 3 1 v k (ints ((AdjV.steps l).take k)) ∧ Below w.heap.size w wr) (fun _ _ i _ => l.length + 1 - (intOf i).toNat)
 case atStart => exact ⟨0, by omega, rfl, by simpa [ints] using Vw.own_nothing w _, (Below.refl _ _).alloc (Nat.le_refl _) _⟩
 case round =>
  obtain ⟨k, hk, rfl, hown, hbel⟩ := hrel
  obtain ⟨wo, rfl⟩ : ∃ wo : World, wo = wr := ⟨_, rfl⟩
  by_cases hlt : k < l.length
  ·obtain ⟨b, off, rfl, hb, hc⟩ := HM.out (by omega)
   have hi1 : (0 : Int) ≤ (k : Int) := by omega
   have hi2 : (k : Int) + 1 ≤ (l.length : Int) := by omega
   have HC := Lib.hid hc
   have HOWN := Lib.hid hown
   clear hc hown
   have hd0 : decide ((k : Int) < (l.length : Int)) = true := by simp; omega
   by_cases hce : cap = k + 1
   ·have hce' : (cap = k + 1) = True := eq_true hce
    have HCE := Lib.hid hce
    clear hce
    go_wp2_with fail
    go_loop [5, 7, 19] (fun v _ i => ∃ (j : Nat) (n : Int), j ≤ l.length - (k + 1) ∧ i = .int .i64 (j : Int) ∧ v = .int .i64 n ∧ n = AdjV.prod ((l.drop (k + 1)).take j)) (fun _ _ i => l.length + 1 - (intOf i).toNat)
    case atStart => exact ⟨0, 1, by omega, rfl, rfl, by simp [AdjV.prod]⟩
    case round =>
     obtain ⟨j, n, hj, rfl, rfl, hn⟩ := hrel
     have hnb := Vw.part_bound h0 (k := k) (j := j)
     rw [← hn] at hnb
     have HN := Lib.hid hn
     clear hn
     by_cases hjl : j < l.length - (k + 1)
     ·exfalso; have := HCE.out; omega
     ·obtain rfl : j = l.length - (k + 1) := by omega
      have hns := HN.out
      rw [List.take_of_length_le (by rw [List.length_drop]; omega)] at hns
      have HS := Lib.hid (Vw.steps_next (l := l) (k := k) hlt)
      by_cases hz : (0 : Int) ∈ l
      ·have HH := Lib.hid (fun (W : World) (c : Nat) (h : Vw.IntsAt W B (some ⟨b, off, none⟩) l) => has_any (some ⟨b, off, none⟩) c l 0 B W (by omega) h)
       have hdz : decide ((0 : Int) ∈ l) = true := by simpa using hz
       have HD := Lib.hid hdz
       have HX := Lib.hid (HS.out.trans (if_pos hz))
       clear hdz hz hns
       go_wp2_with fail
       refine (HH.out _ _ (HM.out.below (hbel.mono hB))).mono ?_
       rintro e w1 ⟨rfl, rfl⟩
       rw [HD.out]
       go_wp2_with (at_builtin; refine wpList_append_own _ rfl _ _ 23 rfl w.heap.size 3 i0 (.int .i64 0) 1 8 Try.underlying23 hi hz0 hz1 hz2 rfl (by decide) _ _ _ rfl (HOWN.out.alloc _) ⟨wo.heap.size, 0, none⟩ 1 1 [.int .i64 0] rfl rfl (cell_one_new _ _ _) (one_one _ _) (by unfold maxLen; omega) (by omega) (by have := hbel.size; simp; omega) ?_)
       intro v' w1 hown' hgrow _
       have H2 := Lib.hid (Vw.put_end hbel HOWN.out (by rw [AdjV.steps_length]; exact hlt) HX.out hown' hgrow)
       clear hown' hgrow
       go_wp2_with fail
       first
        | exact ⟨⟨k + 1, by omega, by go_num, H2.out.1, H2.out.2⟩, by simp [intOf]; omega⟩
        | (go_roundw
           case rel => exact ⟨k + 1, by omega, by go_num, H2.out.1, H2.out.2⟩
           case measure => simp [intOf]; omega)
      ·have HH := Lib.hid (fun (W : World) (c : Nat) (h : Vw.IntsAt W B (some ⟨b, off, none⟩) l) => has_any (some ⟨b, off, none⟩) c l 0 B W (by omega) h)
       have hdz : decide ((0 : Int) ∈ l) = false := by simpa using hz
       have HD := Lib.hid hdz
       have HX := Lib.hid ((HS.out.trans (if_neg hz)).trans hns.symm)
       clear hdz hz hns
       go_wp2_with fail
       refine (HH.out _ _ (HM.out.below (hbel.mono hB))).mono ?_
       rintro e w1 ⟨rfl, rfl⟩
       rw [HD.out]
       go_wp2_with (at_builtin; refine wpList_append_own _ rfl _ _ 23 rfl w.heap.size 3 i0 (.int .i64 0) 1 8 Try.underlying23 hi hz0 hz1 hz2 rfl (by decide) _ _ _ rfl (HOWN.out.alloc _) ⟨wo.heap.size, 0, none⟩ 1 1 [.int .i64 n] rfl rfl (cell_one_new _ _ _) (one_one _ _) (by unfold maxLen; omega) (by omega) (by have := hbel.size; simp; omega) ?_)
       intro v' w1 hown' hgrow _
       have H2 := Lib.hid (Vw.put_end hbel HOWN.out (by rw [AdjV.steps_length]; exact hlt) HX.out hown' hgrow)
       clear hown' hgrow
       go_wp2_with fail
       first
        | exact ⟨⟨k + 1, by omega, by go_num, H2.out.1, H2.out.2⟩, by simp [intOf]; omega⟩
        | (go_roundw
           case rel => exact ⟨k + 1, by omega, by go_num, H2.out.1, H2.out.2⟩
           case measure => simp [intOf]; omega)
   ·go_wp2_with fail
    go_loop [5, 7, 19] (fun v _ i => ∃ (j : Nat) (n : Int), j ≤ l.length - (k + 1) ∧ i = .int .i64 (j : Int) ∧ v = .int .i64 n ∧ n = AdjV.prod ((l.drop (k + 1)).take j)) (fun _ _ i => l.length + 1 - (intOf i).toNat)
    case atStart => exact ⟨0, 1, by omega, rfl, rfl, by simp [AdjV.prod]⟩
    case round =>
     obtain ⟨j, n, hj, rfl, rfl, hn⟩ := hrel
     have hnb := Vw.part_bound h0 (k := k) (j := j)
     rw [← hn] at hnb
     have HN := Lib.hid hn
     clear hn
     by_cases hjl : j < l.length - (k + 1)
     ·have hck := HC.out (k + 1 + j) (by omega)
      rw [← Nat.add_assoc] at hck
      replace hck := (hbel.cell (p := ⟨b, off + (k + 1) + j, none⟩) (Nat.lt_of_lt_of_le hb hB)).trans hck
      have hnb2 := Vw.part_bound h0 (k := k) (j := j + 1)
      have HT := Lib.hid (Vw.part_next l k j (by omega))
      have hj1 : (0 : Int) ≤ (j : Int) := by omega
      have hj2 : (j : Int) < ((l.length - (k + 1) : Nat) : Int) := by omega
      rw [HT.out, ← HN.out] at hnb2
      generalize l[k + 1 + j]'(by omega) = d at hck HT hnb2
      go_wp2_with fail
      go_round
      case rel => exact ⟨j + 1, n * d, by omega, by go_num, rfl, by rw [HT.out, ← HN.out]⟩
      case measure => (simp [intOf] <;> omega)
     ·obtain rfl : j = l.length - (k + 1) := by omega
      have hns := HN.out
      rw [List.take_of_length_le (by rw [List.length_drop]; omega)] at hns
      have HS := Lib.hid (Vw.steps_next (l := l) (k := k) hlt)
      by_cases hz : (0 : Int) ∈ l
      ·have HH := Lib.hid (fun (W : World) (c : Nat) (h : Vw.IntsAt W B (some ⟨b, off, none⟩) l) => has_any (some ⟨b, off, none⟩) c l 0 B W (by omega) h)
       have hdz : decide ((0 : Int) ∈ l) = true := by simpa using hz
       have HD := Lib.hid hdz
       have HX := Lib.hid (HS.out.trans (if_pos hz))
       clear hdz hz hns
       go_wp2_with fail
       refine (HH.out _ _ (HM.out.below (hbel.mono hB))).mono ?_
       rintro e w1 ⟨rfl, rfl⟩
       rw [HD.out]
       go_wp2_with (at_builtin; refine wpList_append_own _ rfl _ _ 23 rfl w.heap.size 3 i0 (.int .i64 0) 1 8 Try.underlying23 hi hz0 hz1 hz2 rfl (by decide) _ _ _ rfl (HOWN.out.alloc _) ⟨wo.heap.size, 0, none⟩ 1 1 [.int .i64 0] rfl rfl (cell_one_new _ _ _) (one_one _ _) (by unfold maxLen; omega) (by omega) (by have := hbel.size; simp; omega) ?_)
       intro v' w1 hown' hgrow _
       have H2 := Lib.hid (Vw.put_end hbel HOWN.out (by rw [AdjV.steps_length]; exact hlt) HX.out hown' hgrow)
       clear hown' hgrow
       go_wp2_with fail
       first
        | exact ⟨⟨k + 1, by omega, by go_num, H2.out.1, H2.out.2⟩, by simp [intOf]; omega⟩
        | (go_roundw
           case rel => exact ⟨k + 1, by omega, by go_num, H2.out.1, H2.out.2⟩
           case measure => simp [intOf]; omega)
      ·have HH := Lib.hid (fun (W : World) (c : Nat) (h : Vw.IntsAt W B (some ⟨b, off, none⟩) l) => has_any (some ⟨b, off, none⟩) c l 0 B W (by omega) h)
       have hdz : decide ((0 : Int) ∈ l) = false := by simpa using hz
       have HD := Lib.hid hdz
       have HX := Lib.hid ((HS.out.trans (if_neg hz)).trans hns.symm)
       clear hdz hz hns
       go_wp2_with fail
       refine (HH.out _ _ (HM.out.below (hbel.mono hB))).mono ?_
       rintro e w1 ⟨rfl, rfl⟩
       rw [HD.out]
       go_wp2_with (at_builtin; refine wpList_append_own _ rfl _ _ 23 rfl w.heap.size 3 i0 (.int .i64 0) 1 8 Try.underlying23 hi hz0 hz1 hz2 rfl (by decide) _ _ _ rfl (HOWN.out.alloc _) ⟨wo.heap.size, 0, none⟩ 1 1 [.int .i64 n] rfl rfl (cell_one_new _ _ _) (one_one _ _) (by unfold maxLen; omega) (by omega) (by have := hbel.size; simp; omega) ?_)
       intro v' w1 hown' hgrow _
       have H2 := Lib.hid (Vw.put_end hbel HOWN.out (by rw [AdjV.steps_length]; exact hlt) HX.out hown' hgrow)
       clear hown' hgrow
       go_wp2_with fail
       first
        | exact ⟨⟨k + 1, by omega, by go_num, H2.out.1, H2.out.2⟩, by simp [intOf]; omega⟩
        | (go_roundw
           case rel => exact ⟨k + 1, by omega, by go_num, H2.out.1, H2.out.2⟩
           case measure => simp [intOf]; omega)
  ·obtain rfl : k = l.length := by omega
   go_wp2_with fail
   go_ret
   have hst := hown
   rw [List.take_of_length_le (by rw [AdjV.steps_length]; omega)] at hst
   exact ⟨_, rfl, hst, hbel⟩
end Go.Proofs.Ytapedmpbkffopaa
end
section
namespace Go.Proofs.Ytapedmpbkffopaa
set_option linter.unusedVariables false
open Go.RowKit Adj
namespace Vw
theorem own_kept {w w' : World} {base : Nat} {e : TypeId} {v : Value} {n : Nat} {xs : List Value} (h : w.ownsRow base e 1 v n xs) (hb : Below w.heap.size w w') : w'.ownsRow base e 1 v n xs :=
 h.kept (row := none) ⟨hb.os, hb.tape, hb.output, hb.size, fun k hk _ => hb.block k hk⟩ (by cases v.ownBlock <;> simp)
end Vw
end Go.Proofs.Ytapedmpbkffopaa
end
section
namespace Go.Proofs.Ytapedmpbkffopaa
set_option linter.unusedVariables false
open Go.RowKit Go.Shelf Adj
attribute [local go_sem] Oper.semAt_some
namespace Vw
def upto {α : Type} (f : Nat → α) (k : Nat) : List α := (List.range k).map f
theorem upto_succ {α : Type} (f : Nat → α) (k : Nat) : upto f (k + 1) = upto f k ++ [f k] := by simp [upto, List.range_succ]
theorem upto_length {α : Type} (f : Nat → α) (k : Nat) : (upto f k).length = k := by simp [upto]
def down (n j : Nat) : Nat := n - 1 - j
abbrev Spot (l : List Int) := { q : Nat // q < l.length }
def told {l : List Int} (x : Spot l) : Array Value := #[.int .i64 (x.1 : Int), .int .i64 (l[x.1]'x.2)]
def Keeps (Bs b : Nat) (W W' : World) : Prop := ∀ p : Addr, (p.block = Bs ∨ p.block = b) → W'.cell? p = W.cell? p
theorem Keeps.refl (Bs b : Nat) (W : World) : Keeps Bs b W W := fun _ _ => rfl
theorem Keeps.trans {Bs b : Nat} {A B C : World} (h : Keeps Bs b A B) (h2 : Keeps Bs b B C) : Keeps Bs b A C := fun p hp => (h2 p hp).trans (h p hp)
theorem Keeps.of_below {Bs b N : Nat} {A B : World} (h : Below N A B) (h1 : Bs < N) (h2 : b < N) : Keeps Bs b A B := fun p hp => h.cell (by omega)
end Vw
set_option maxRecDepth 100000 in
set_option maxHeartbeats 1000000 in
theorem back1_nil_in (F : Fence) (n : Nat) (h7 : F.fn 79) (hro : F.round = none) (y Bs : Nat) (A : Option Addr) (cap : Nat) {α : Type} (J : List α → World → Prop) (W : World) (hBs : W.cell? ⟨Bs, 0, none⟩ = some (.slice A 0 cap)) (h0 : J [] W) :
    CallsIn F n Try.prog 79 #[.func (.yield y) #[] #[], .pointer (some ⟨Bs, 0, none⟩)] W fun e W' => (∃ v, e = .returned v) ∧ J [] W' := by
 refine callsIn_of_wp Try.func79 rfl h7 ?_ hro
 simp only [Try.ntmps79, List.size_toArray, List.length_cons, List.length_nil, Nat.reduceAdd, Nat.reduceSub, Array.replicate_succ, Array.replicate_zero, List.push_toArray, List.append_toArray, List.nil_append, List.cons_append]
 gi_wp2
 gi_loopw [3] (fun i wr => i = .int .i64 (-1) ∧ J [] wr) (fun _ _ => 0)
 case atStart => exact ⟨by go_num, h0⟩
 case round =>
  obtain ⟨rfl, hJs⟩ := hrel
  gi_wp2
  go_end0
  exact ⟨⟨_, rfl⟩, hJs⟩
set_option maxHeartbeats 1000000 in
theorem back_in (F : Fence) (n : Nat) (h5 : F.fn 73) (hro : F.round = none) (a : Option Addr) (len cap : Nat) (w : World) :
    CallsIn F n Try.prog 73 #[.slice a len cap] w fun e w' => e = .returned (.func (.func 79) #[] #[.pointer (some ⟨w.heap.size, 0, none⟩)]) ∧ w' = w.alloc (.cells #[.slice a len cap] 23) := by
 refine callsIn_of_wp Try.func73 rfl h5 ?_ hro
 simp only [Try.ntmps73, List.size_toArray, List.length_cons, List.length_nil, Nat.reduceAdd, Nat.reduceSub, Array.replicate_succ, Array.replicate_zero, List.push_toArray, List.append_toArray, List.nil_append, List.cons_append]
 gi_wp2
 go_ret
 exact ⟨rfl, rfl⟩
end Go.Proofs.Ytapedmpbkffopaa
end
section
namespace AdjV
set_option linter.unusedVariables false
end AdjV
end
section
namespace Adj
open Go
set_option linter.unusedVariables false
theorem andThen_value {r : Result Value} {nx : Next} {w' : World} (h : r.andThen (fun v w => .ok (.value v) w) = .ok nx w') : ∃ v, nx = .value v := by
 cases r with
 | ok v w => rw [Result.andThen_ok] at h; cases h; exact ⟨v, rfl⟩
 | halt h' w => rw [Result.andThen_halt] at h; cases h
theorem andThen_skip {r : Result Unit} {nx : Next} {w' : World} (h : r.andThen (fun _ w => .ok .skip w) = .ok nx w') : nx = .skip := by
 cases r with
 | ok v w => rw [Result.andThen_ok] at h; cases h; rfl
 | halt h' w => rw [Result.andThen_halt] at h; cases h
def only (K : Act → World → Prop) : Exit → Act → World → Prop
 | .normal, a, w => K a w
 | _, _, _ => False
variable {F : Fence} {n : Nat} {P : Program} {ops : Array Oper} {Q : Exit → Act → World → Prop}
end Adj
end
section
namespace Go.Proofs.Ytapedmpbkffopaa
set_option linter.unusedVariables false
open Go.RowKit Go.Shelf Adj
attribute [local go_sem] Oper.semAt_some
theorem made_zero (c : Nat) : madeCells (Value.int .i64 0).cells c = (ints (List.replicate c 0)).toArray := by
 apply Array.ext
 ·simp [size_madeCells, ints]
 ·intro i h1 h2
  simp [madeCells, ints, Value.cells, Nat.mod_one]
theorem run_make_int (c : Nat) (h : c ≤ 65536) (w : World) :
    (Instr.makeSlice 23 (.int .i64 (c : Int)) (.int .i64 (c : Int))).run Try.prog w = .ok (.slice (some ⟨w.heap.size, 0, none⟩) c c) (w.alloc (.cells (ints (List.replicate c 0)).toArray 3)) := by
 rw [← made_zero]
 obtain ⟨i0, hi, hz0, hz1, hz2⟩ := info_parts Try.infoOf3
 have hb : (i0.bytes : Int) * (c : Int) ≤ 281474976710656 := by rw [hz2]; omega
 have hr := run_make (P := Try.prog) w 23 3 i0 _ Try.underlying23 hi hz0 .i64 .i64 c c (by omega) (by omega) hb (by omega)
 simp only [Int.toNat_natCast, hz1, Nat.mul_one] at hr
 exact hr
namespace Vw
theorem own_from_below {β : Type} {N B : Nat} {I : β → World → Prop} (hN : N ≤ B) (h : ∀ s A B', I s A → Below N A B' → I s B') (hs : ∀ s A, I s A → N ≤ A.heap.size) : OwnFrom B I :=
 fun s W W' row hi hg hr => h s W W' hi ((Below.refl N W).grown hg (hs s W hi) (fun k e => Nat.le_trans hN (hr k e).1))
theorem Keeps.book {Bs b N : Nat} (h1 : Bs < N) (h2 : b < N) (W : World) (l : Nat) (o o' : Obj) (hl : N ≤ l) (hg : W.heap[l]? = some o) : Keeps Bs b W (W.putObj l o') :=
 Keeps.of_below ((Below.refl l W).grown (grownBy_putObj' W l o') (Nat.le_of_lt (Array.getElem?_eq_some_iff.1 hg).1) (fun k e => by cases e; exact Nat.le_refl _)) (by omega) (by omega)
end Vw
end Go.Proofs.Ytapedmpbkffopaa
end
section
namespace AdjV
set_option linter.unusedVariables false
structure V where
 st : Int
 dims : List Int
 steps : List Int
def none_ : V := ⟨0, [], []⟩
def near (n : Int) : Bool := decide (-1099511627776 ≤ n) && decide (n ≤ 1099511627776)
theorem near_true {n : Int} : near n = true ↔ -1099511627776 ≤ n ∧ n ≤ 1099511627776 := by unfold near; simp
theorem near_false {n : Int} : near n = false ↔ n < -1099511627776 ∨ 1099511627776 < n := by
 unfold near; rw [Bool.and_eq_false_iff, decide_eq_false_iff_not, decide_eq_false_iff_not]; omega
def wrong (v : V) : Int :=
 if (size v.dims).2 ≠ 0 then (size v.dims).2 else if v.steps.length ≠ v.dims.length then 6 else if near v.st && v.steps.all near then 0 else 4
theorem wrong_size {v : V} (h : (size v.dims).2 ≠ 0) : wrong v = (size v.dims).2 := if_pos h
theorem wrong_shape {v : V} (h : (size v.dims).2 = 0) (h2 : v.steps.length ≠ v.dims.length) : wrong v = 6 := by unfold wrong; rw [if_neg (by simp [h]), if_pos h2]
theorem wrong_far {v : V} (h : (size v.dims).2 = 0) (h2 : v.steps.length = v.dims.length) (h3 : (near v.st && v.steps.all near) = false) : wrong v = 4 := by
 unfold wrong; rw [if_neg (by simp [h]), if_neg (by simp [h2]), if_neg (by simp [h3])]
theorem wrong_no {v : V} (h : (size v.dims).2 = 0) (h2 : v.steps.length = v.dims.length) (h3 : (near v.st && v.steps.all near) = true) : wrong v = 0 := by
 unfold wrong; rw [if_neg (by simp [h]), if_neg (by simp [h2]), if_pos h3]
theorem wrong_fine {v : V} (h : wrong v = 0) : (size v.dims).2 = 0 ∧ v.steps.length = v.dims.length ∧ (-1099511627776 ≤ v.st ∧ v.st ≤ 1099511627776) ∧ ∀ s ∈ v.steps, -1099511627776 ≤ s ∧ s ≤ 1099511627776 := by
 by_cases h1 : (size v.dims).2 = 0
 ·by_cases h2 : v.steps.length = v.dims.length
  ·by_cases h3 : (near v.st && v.steps.all near) = true
   ·rw [Bool.and_eq_true] at h3
    exact ⟨h1, h2, near_true.1 h3.1, fun s hs => near_true.1 (List.all_eq_true.1 h3.2 s hs)⟩
   ·rw [wrong_far h1 h2 (by simpa using h3)] at h; cases h
  ·rw [wrong_shape h1 h2] at h; cases h
 ·rw [wrong_size h1] at h; exact absurd h h1
theorem any_all (l : List Int) : l.any (fun s => !near s) = !l.all near := by
 induction l with
 | nil => rfl
 | cons a l ih => simp [ih]
def made (v : V) : V × Int := if wrong v = 4 then (none_, 5) else (v, 0)
theorem wrong_two {v : V} (h : (size v.dims).2 = 0) (h2 : v.steps.length = v.dims.length) : wrong v = 0 ∨ wrong v = 4 := by
 by_cases h3 : (near v.st && v.steps.all near) = true
 ·exact .inl (wrong_no h h2 h3)
 ·exact .inr (wrong_far h h2 (by simpa using h3))
end AdjV
end
