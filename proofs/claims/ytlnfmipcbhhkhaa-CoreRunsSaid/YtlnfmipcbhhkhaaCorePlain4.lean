/-
  Plain: what is done for certain before an instruction begins, and races. No program in sight. No condition.
-/
import Derived.Test.YtlnfmipcbhhkhaaCorePlain3
namespace AdjC
set_option linter.unusedVariables false

/-- Where an engine posts on a semaphore: how many are done then. -/
def postsFrom (i : Int) : List I → Int → List Int
  | [], _ => []
  | x :: l, s => (if x.d = 3 ∧ x.a = s then [i + 1] else []) ++ postsFrom (i + 1) l s
def posts (l : List I) (s : Int) : List Int := postsFrom 0 l s
theorem postsFrom_snoc : ∀ (i : Int) (l : List I) (x : I) (s : Int), postsFrom i (l ++ [x]) s = postsFrom i l s ++ (if x.d = 3 ∧ x.a = s then [i + l.length + 1] else [])
  | i, [], x, s => by simp [postsFrom]
  | i, y :: l, x, s => by
    show (if y.d = 3 ∧ y.a = s then [i + 1] else []) ++ postsFrom (i + 1) (l ++ [x]) s = _
    rw [postsFrom_snoc (i + 1) l x s]
    show _ = ((if y.d = 3 ∧ y.a = s then [i + 1] else []) ++ postsFrom (i + 1) l s) ++ _
    rw [List.append_assoc, List.length_cons, show i + 1 + (l.length : Int) + 1 = i + ((l.length + 1 : Nat) : Int) + 1 by omega]
theorem posts_snoc (l : List I) (x : I) (s : Int) : posts (l ++ [x]) s = posts l s ++ (if x.d = 3 ∧ x.a = s then [(l.length : Int) + 1] else []) := by
  unfold posts; rw [postsFrom_snoc, Int.zero_add]
theorem posts_other {l : List I} {x : I} {s : Int} (h : ¬ (x.d = 3 ∧ x.a = s)) : posts (l ++ [x]) s = posts l s := by rw [posts_snoc, if_neg h, List.append_nil]
theorem postsFrom_length : ∀ (i : Int) (l : List I) (s : Int), (postsFrom i l s).length ≤ l.length
  | i, [], s => Nat.le_refl _
  | i, x :: l, s => by
    have := postsFrom_length (i + 1) l s
    show ((if x.d = 3 ∧ x.a = s then [i + 1] else []) ++ postsFrom (i + 1) l s).length ≤ l.length + 1
    rw [List.length_append]
    split <;> simp <;> omega
theorem posts_length (l : List I) (s : Int) : (posts l s).length ≤ l.length := postsFrom_length 0 l s
theorem postsFrom_range : ∀ (i : Int) (l : List I) (s : Int), ∀ p ∈ postsFrom i l s, i + 1 ≤ p ∧ p ≤ i + l.length
  | i, [], s, p, h => by simp [postsFrom] at h
  | i, x :: l, s, p, h => by
    have h' : p ∈ (if x.d = 3 ∧ x.a = s then [i + 1] else []) ++ postsFrom (i + 1) l s := h
    rw [List.length_cons]
    rcases List.mem_append.1 h' with h1 | h1
    · split at h1
      · simp at h1; omega
      · simp at h1
    · have := postsFrom_range (i + 1) l s p h1; omega
theorem posts_range {l : List I} {s : Int} : ∀ p ∈ posts l s, 1 ≤ p ∧ p ≤ l.length := fun p h => by have := postsFrom_range 0 l s p h; omega

/-- How often an engine waits on a semaphore. -/
def cnt (l : List I) (s : Int) : Nat := (l.filter fun x => x.d == 4 && x.a == s).length
theorem cnt_snoc (l : List I) (x : I) (s : Int) : cnt (l ++ [x]) s = cnt l s + (if x.d = 4 ∧ x.a = s then 1 else 0) := by
  unfold cnt
  rw [List.filter_append, List.length_append]
  by_cases h : x.d = 4 ∧ x.a = s
  · rw [if_pos h]; simp [h.1, h.2]
  · rw [if_neg h]
    have : (x.d == 4 && x.a == s) = false := by rw [Bool.eq_false_iff]; intro h2; simp at h2; exact h h2
    simp [this]
theorem cnt_le (l : List I) (s : Int) : cnt l s ≤ l.length := List.length_filter_le _ _

/-- So many of the other one's must be done when wait number k begins. -/
def need (own other : List I) (k : Nat) (s : Int) : Int := (posts other s).getD (cnt (own.take k) s) other.length
/-- So many of the other one's are done for certain when the first k have been begun. -/
def nowK (own other : List I) : Nat → Int
  | 0 => 0
  | k + 1 => match own[k]? with
    | none => nowK own other k
    | some x => if x.d = 4 then max (nowK own other k) (need own other k x.a) else nowK own other k
def ahead (own other : List I) : List Int := (List.range own.length).map fun k => nowK own other (k + 1)
theorem ahead_length (own other : List I) : (ahead own other).length = own.length := by simp [ahead]
theorem ahead_at {own other : List I} {k : Nat} (h : k < own.length) : (ahead own other)[k]? = some (nowK own other (k + 1)) := by simp [ahead, h]
theorem need_range (own other : List I) (k : Nat) (s : Int) : 0 ≤ need own other k s ∧ need own other k s ≤ other.length := by
  unfold need
  rw [List.getD_eq_getElem?_getD]
  rcases Nat.lt_or_ge (cnt (own.take k) s) (posts other s).length with h | h
  · rw [List.getElem?_eq_getElem h]
    have := posts_range _ (List.getElem_mem h)
    simp only [Option.getD_some]; omega
  · rw [List.getElem?_eq_none h]; simp only [Option.getD_none]; omega
theorem nowK_range (own other : List I) : ∀ k, 0 ≤ nowK own other k ∧ nowK own other k ≤ other.length
  | 0 => by simp only [nowK]; omega
  | k + 1 => by
    have ih := nowK_range own other k
    simp only [nowK]
    split
    · exact ih
    · rename_i x _
      split
      · have := need_range own other k x.a; omega
      · exact ih
theorem nowK_next {own other : List I} {k : Nat} {x : I} (hk : k < own.length) (hx : own[k] = x) : nowK own other (k + 1) = if x.d = 4 then max (nowK own other k) (need own other k x.a) else nowK own other k := by
  simp only [nowK, List.getElem?_eq_getElem hk, hx]
theorem nowK_mono (own other : List I) (k : Nat) : nowK own other k ≤ nowK own other (k + 1) := by
  simp only [nowK]
  split
  · omega
  · split <;> omega
theorem nowK_le (own other : List I) {j k : Nat} (h : j ≤ k) : nowK own other j ≤ nowK own other k := by
  induction h with
  | refl => exact Int.le_refl _
  | step _ ih => exact Int.le_trans ih (nowK_mono own other _)
/-- A wait whose post there is. -/
theorem need_there {own other : List I} {k : Nat} {s : Int} {c : Nat} (hc : cnt (own.take k) s = c) (h : c < (posts other s).length) : need own other k s = (posts other s)[c] := by
  subst hc; unfold need; rw [List.getD_eq_getElem?_getD, List.getElem?_eq_getElem h, Option.getD_some]
theorem need_none {own other : List I} {k : Nat} {s : Int} {c : Nat} (hc : cnt (own.take k) s = c) (h : (posts other s).length ≤ c) : need own other k s = other.length := by
  subst hc; unfold need; rw [List.getD_eq_getElem?_getD, List.getElem?_eq_none h, Option.getD_none]

/-- Where the post is that is wanted, as far as has been looked. -/
def seek (l : List I) (s : Int) (c : Nat) (m : Int) : Int := (posts l s).getD c m
theorem seek_other {l : List I} {x : I} {s : Int} {c : Nat} {m : Int} (h : ¬ (x.d = 3 ∧ x.a = s)) : seek (l ++ [x]) s c m = seek l s c m := by unfold seek; rw [posts_other h]
theorem seek_far {l : List I} {x : I} {s : Int} {c : Nat} {m : Int} (h : (posts l s).length ≠ c) : seek (l ++ [x]) s c m = seek l s c m := by
  unfold seek
  rw [posts_snoc, List.getD_eq_getElem?_getD, List.getD_eq_getElem?_getD]
  split
  · rw [List.getElem?_append]
    split
    · rfl
    · rename_i h2
      rw [List.getElem?_eq_none (by simp; omega), List.getElem?_eq_none (by omega)]
  · rw [List.append_nil]
theorem seek_here {l : List I} {x : I} {s : Int} {c : Nat} {m : Int} (h : x.d = 3 ∧ x.a = s) (hc : (posts l s).length = c) : seek (l ++ [x]) s c m = (l.length : Int) + 1 := by
  unfold seek
  rw [posts_snoc, if_pos h, List.getD_eq_getElem?_getD, List.getElem?_append_right (by omega), hc, Nat.sub_self]; rfl
/-- Is there a race of these two? -/
def raceB (c : Code) (i j : Nat) : Bool :=
  decide (nowK c.mover c.maker (i + 1) ≤ j) && decide (nowK c.maker c.mover (j + 1) ≤ i) && (match c.mover[i]?, c.maker[j]? with | some x, some y => clash x y | _, _ => false)
/-- The first race of instruction i of the mover. -/
def raceOf (c : Code) (i : Nat) : Option Nat := (List.range c.maker.length).find? (raceB c i)
def race (c : Code) : Option (Nat × Nat) := (List.range c.mover.length).findSome? fun i => (raceOf c i).map fun j => (i, j)
end AdjC
