/-
  Plain: the machine at work. No program in sight. No condition.
-/
import Derived.Test.YtlnfmipcbhhkhaaCorePlain5
import Derived.IntWalk
namespace AdjC
set_option linter.unusedVariables false

/-- A number as 64 bits hold it. -/
abbrev w64 (n : Int) : Int := Go.RowKit.wrap64 n
def at_ (l : List Int) (k : Int) : Int := l.getD k.toNat 0
def put (l : List Int) (k : Int) (v : Int) : List Int := l.set k.toNat v

/-- What an instruction puts at a word, out of three old ones. -/
def wordV (d v p q r : Int) : Int :=
  if d = 5 then v else if d = 6 then w64 (q + r) else if d = 7 then w64 (q - r)
  else if d = 8 then w64 (q * r) else if d = 9 then max q r
  else if d = 10 then (if q < r then 1 else 0) else if d = 11 then (if p ≠ 0 then q else r)
  else if d = 12 then w64 (p + w64 (q * r)) else w64 (p + q)
/-- What an instruction puts at word i (all is read of old). -/
def word (x : I) (old : List Int) (i : Int) : Int := wordV x.d x.v (at_ old (x.a + i)) (at_ old (x.b + i)) (at_ old (x.c + i))
/-- Word by word, the first k. -/
def eachK (x : I) (old : List Int) : Nat → List Int
  | 0 => old
  | k + 1 => put (eachK x old k) (x.a + k) (word x old k)
def loadK (x : I) (pad mem : List Int) : Nat → List Int
  | 0 => pad
  | k + 1 => put (loadK x pad mem k) (x.a + k) (at_ mem (x.b + k * x.c))
def storeK (x : I) (pad mem : List Int) : Nat → List Int
  | 0 => mem
  | k + 1 => put (storeK x pad mem k) (x.b + k * x.c) (at_ pad (x.a + k))
def sumK (x : I) (pad : List Int) : Nat → Int
  | 0 => at_ pad x.a
  | k + 1 => w64 (sumK x pad k + w64 (at_ pad (x.b + k) * at_ pad (x.c + k)))

structure St where
  pad : List Int
  mem : List Int
  sems : List Int
  i : Nat
  j : Nat

/-- What an instruction does. -/
def doI (x : I) (s : St) : St :=
  if x.d = 1 then { s with pad := loadK x s.pad s.mem x.n.toNat } else if x.d = 2 then { s with mem := storeK x s.pad s.mem x.n.toNat }
  else if x.d = 3 then { s with sems := put s.sems x.a (at_ s.sems x.a + 1) } else if x.d = 4 then { s with sems := put s.sems x.a (at_ s.sems x.a - 1) }
  else if x.d = 13 then { s with pad := put s.pad x.a (sumK x s.pad x.n.toNat) } else { s with pad := eachK x s.pad x.n.toNat }
/-- Can an instruction be begun? -/
def ready (x : I) (s : St) : Bool := decide (x.d ≠ 4) || decide (0 < at_ s.sems x.a)
def canA (c : Code) (s : St) : Bool := match c.mover[s.i]? with | none => false | some x => ready x s
def canB (c : Code) (s : St) : Bool := match c.maker[s.j]? with | none => false | some x => ready x s
def stepA (c : Code) (s : St) : St := match c.mover[s.i]? with | none => s | some x => { doI x s with i := s.i + 1 }
def stepB (c : Code) (s : St) : St := match c.maker[s.j]? with | none => s | some x => { doI x s with j := s.j + 1 }
/-- Which engine goes on at turn t, where both can: the mover? -/
def picked (picks : List Int) (t : Nat) : Bool := if picks = [] then true else decide ((picks.getD (t % picks.length) 0) % 2 = 0)
end AdjC
