/-
  Plain: instructions, what they touch, what is wrong with them. No program in sight. No condition.
-/
namespace AdjC
set_option linter.unusedVariables false

structure I where
  d : Int
  a : Int
  b : Int
  c : Int
  n : Int
  v : Int

/-- An instruction as six numbers. -/
def six (x : I) : List Int := [x.d, x.a, x.b, x.c, x.n, x.v]
def flat (l : List I) : List Int := l.flatMap six
theorem six_length (x : I) : (six x).length = 6 := rfl
theorem flat_length : ∀ l : List I, (flat l).length = 6 * l.length
  | [] => rfl
  | x :: l => by simp only [flat, List.flatMap_cons, List.length_append, List.length_cons, six_length]; have := flat_length l; simp only [flat] at this; omega
theorem flat_at : ∀ (l : List I) (i j : Nat) (hi : i < l.length) (hj : j < 6), (flat l)[i * 6 + j]? = (six l[i])[j]?
  | [], i, j, hi, _ => by simp at hi
  | x :: l, 0, j, _, hj => by
    show (six x ++ flat l)[0 * 6 + j]? = _
    rw [Nat.zero_mul, Nat.zero_add, List.getElem?_append_left (by rw [six_length]; exact hj)]
    rfl
  | x :: l, i + 1, j, hi, hj => by
    show (six x ++ flat l)[(i + 1) * 6 + j]? = _
    rw [List.getElem?_append_right (by rw [six_length]; omega), six_length, show (i + 1) * 6 + j - 6 = i * 6 + j from by omega, flat_at l i j (by simpa using hi) hj]
    rfl

/-- Pairs as numbers. -/
def two (l : List (Int × Int)) : List Int := l.flatMap fun p => [p.1, p.2]
theorem two_length : ∀ l : List (Int × Int), (two l).length = 2 * l.length
  | [] => rfl
  | x :: l => by simp only [two, List.flatMap_cons, List.length_append, List.length_cons, List.length_nil]; have := two_length l; simp only [two] at this; omega
theorem two_at : ∀ (l : List (Int × Int)) (i j : Nat) (hi : i < l.length) (hj : j < 2), (two l)[i * 2 + j]? = ([l[i].1, l[i].2] : List Int)[j]?
  | [], i, j, hi, _ => by simp at hi
  | x :: l, 0, j, _, hj => by
    show ([x.1, x.2] ++ two l)[0 * 2 + j]? = _
    rw [Nat.zero_mul, Nat.zero_add, List.getElem?_append_left (by simpa using hj)]
    rfl
  | x :: l, i + 1, j, hi, hj => by
    show ([x.1, x.2] ++ two l)[(i + 1) * 2 + j]? = _
    rw [List.getElem?_append_right (by simp; omega), show (i + 1) * 2 + j - ([x.1, x.2] : List Int).length = i * 2 + j from by simp; omega, two_at l i j (by simpa using hi) hj]
    rfl

/-- The words of the pad that an instruction reads. -/
def reads (x : I) : List (Int × Int) :=
  if x.d = 1 ∨ x.d = 5 then [] else if x.d = 2 then [(x.a, x.n)] else if x.d = 11 ∨ x.d = 12 then [(x.a, x.n), (x.b, x.n), (x.c, x.n)]
  else if x.d = 13 then [(x.a, 1), (x.b, x.n), (x.c, x.n)] else if x.d = 14 then [(x.a, x.n), (x.b, x.n)] else if x.d = 3 ∨ x.d = 4 then []
  else [(x.b, x.n), (x.c, x.n)]
/-- The words of the pad that it writes. -/
def write (x : I) : Int × Int :=
  if x.d = 1 ∨ x.d = 5 then (x.a, x.n) else if x.d = 2 then (0, 0) else if x.d = 11 ∨ x.d = 12 then (x.a, x.n)
  else if x.d = 13 then (x.a, 1) else if x.d = 14 then (x.a, x.n) else if x.d = 3 ∨ x.d = 4 then (0, 0) else (x.a, x.n)

def inside (s : Int × Int) (size : Int) : Bool := s.2 == 0 || (decide (0 ≤ s.1) && decide (s.1 + s.2 ≤ size))
def meet (a b : Int × Int) : Bool := decide (0 < a.2) && decide (0 < b.2) && decide (a.1 < b.1 + b.2) && decide (b.1 < a.1 + a.2)
/-- Does one of two write what the other one reads or writes? -/
def clash (x y : I) : Bool := meet (write x) (write y) || (reads y).any (fun s => meet s (write x)) || (reads x).any (fun s => meet s (write y))

def belongs (d : Int) (mover : Bool) : Bool :=
  if d = 3 ∨ d = 4 then true else if d = 1 ∨ d = 2 then mover else !mover && decide (5 ≤ d) && decide (d ≤ 14)
def far (n : Int) : Bool := decide (n < -1048576) || decide (1048576 < n)
/-- What is wrong with an instruction of an engine. -/
def wrongI (pad mem : Int) (mover : Bool) (x : I) : Int :=
  if belongs x.d mover = false then 1
  else if x.d = 3 ∨ x.d = 4 then (if x.a < 0 ∨ 16 ≤ x.a then 4 else 0)
  else if x.n < 0 ∨ 4096 < x.n ∨ far x.a = true ∨ far x.b = true ∨ far x.c = true then 4
  else if (reads x ++ [write x]).all (fun s => inside s pad) = false then 4
  else if mover = true ∧ 0 < x.n ∧ (min x.b (x.b + (x.n - 1) * x.c) < 0 ∨ mem ≤ max x.b (x.b + (x.n - 1) * x.c)) then 4
  else 0
/-- The first fault of a list. -/
def firstBad (f : I → Int) : List I → Int
  | [] => 0
  | x :: l => if f x ≠ 0 then f x else firstBad f l
def uses (l : List I) (d s : Int) : Bool := l.any fun x => x.d == d && x.a == s

structure Code where
  pad : Int
  mem : Int
  mover : List I
  maker : List I

def tangled (c : Code) (s : Int) : Bool :=
  (uses c.mover 3 s && uses c.maker 3 s) || ((uses c.mover 4 s && uses c.maker 4 s) || ((uses c.mover 3 s && uses c.mover 4 s) || (uses c.maker 3 s && uses c.maker 4 s)))
def sems : List Int := (List.range 16).map (fun (k : Nat) => (k : Int))
/-- What is wrong with code. -/
def wrong (c : Code) : Int :=
  if c.pad < 0 ∨ 4096 < c.pad ∨ c.mem < 0 ∨ 1048576 < c.mem then 4
  else if 262144 < c.mover.length ∨ 262144 < c.maker.length then 2
  else if firstBad (wrongI c.pad c.mem true) c.mover ≠ 0 then firstBad (wrongI c.pad c.mem true) c.mover
  else if firstBad (wrongI c.pad c.mem false) c.maker ≠ 0 then firstBad (wrongI c.pad c.mem false) c.maker
  else if sems.any (tangled c) = true then 11 else 0
end AdjC
