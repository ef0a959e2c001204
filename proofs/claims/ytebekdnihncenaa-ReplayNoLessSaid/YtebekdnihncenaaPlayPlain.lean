/-
  Plays, in plain Lean: how one stands, what a move does, what a whole play comes to. No program in sight. No condition.
-/
namespace Adj8

/-- How a play stands: where, how many steps are left, what it has cost, what the slots keep (-1: nothing). -/
structure St where
  at_ : Int
  left : Int
  cost : Int
  kept : List Int

/-- What stands for a play of n steps. -/
def St.fine (n : Int) (s : Nat) (x : St) : Prop := 0 ≤ x.at_ ∧ x.at_ ≤ n ∧ 0 ≤ x.left ∧ x.left ≤ n ∧ x.kept.length = s ∧ ∀ v ∈ x.kept, -1 ≤ v ∧ v ≤ n

/-- The error that a move meets, 0: none. -/
def moveErr (n : Int) (x : St) (d k : Int) : Int :=
  if d = 1 then (if x.at_ = n then 13 else 0)
  else if d = 2 then (if k < 0 ∨ (x.kept.length : Int) ≤ k then 4 else 0)
  else if d = 3 then (if k < 0 ∨ (x.kept.length : Int) ≤ k then 4 else if x.kept.getD k.toNat 0 < 0 then 9 else 0)
  else if d = 4 then (if x.at_ = x.left - 1 then 0 else 13)
  else 1

/-- What a move does, where it meets no error. -/
def moveDo (x : St) (d k : Int) : St :=
  if d = 1 then { x with at_ := x.at_ + 1, cost := x.cost + 1 }
  else if d = 2 then { x with kept := x.kept.set k.toNat x.at_ }
  else if d = 3 then { x with at_ := x.kept.getD k.toNat 0 }
  else { x with left := x.left - 1 }

def play0 (n : Int) (s : Nat) : St := { at_ := 0, left := n, cost := 0, kept := List.replicate s (-1) }

/-- The moves one behind the other: the first error, or how the play stands behind them. -/
def plays (n : Int) : St → List (Int × Int) → Except Int St
  | x, [] => .ok x
  | x, (d, k) :: l => if moveErr n x d k = 0 then plays n (moveDo x d k) l else .error (moveErr n x d k)

theorem plays_snoc (n : Int) : ∀ (x : St) (l : List (Int × Int)) (m : Int × Int), plays n x (l ++ [m]) =
    match plays n x l with
    | .ok y => if moveErr n y m.1 m.2 = 0 then .ok (moveDo y m.1 m.2) else .error (moveErr n y m.1 m.2)
    | .error e => .error e
  | x, [], m => by simp [plays]
  | x, (d, k) :: l, m => by
    simp only [List.cons_append, plays]
    by_cases h : moveErr n x d k = 0
    · rw [if_pos h, if_pos h]; exact plays_snoc n _ l m
    · rw [if_neg h, if_neg h]
theorem plays_stop (n : Int) {x : St} {e : Int} : ∀ {l : List (Int × Int)} (r : List (Int × Int)), plays n x l = .error e → plays n x (l ++ r) = .error e
  | [], r, h => by simp [plays] at h
  | (d, k) :: l, r, h => by
    simp only [List.cons_append, plays] at h ⊢
    by_cases hm : moveErr n x d k = 0
    · rw [if_pos hm] at h ⊢; exact plays_stop' n r h
    · rw [if_neg hm] at h ⊢; exact h
where plays_stop' (n : Int) {x : St} {e : Int} {l : List (Int × Int)} (r : List (Int × Int)) (h : plays n x l = .error e) : plays n x (l ++ r) = .error e := plays_stop n r h

theorem play0_fine (n : Int) (s : Nat) (h : 0 ≤ n) : (play0 n s).fine n s := by
  refine ⟨Int.le_refl _, h, h, Int.le_refl _, by simp [play0], ?_⟩
  intro v hv
  have := List.eq_of_mem_replicate hv
  omega
theorem mem_set {l : List Int} {i : Nat} {a v : Int} (h : v ∈ l.set i a) : v ∈ l ∨ v = a := List.mem_or_eq_of_mem_set h
theorem do_fine {n : Int} {s : Nat} {x : St} {d k : Int} (h : x.fine n s) (he : moveErr n x d k = 0) : (moveDo x d k).fine n s := by
  obtain ⟨h1, h2, h3, h4, h5, h6⟩ := h
  unfold moveErr at he
  unfold moveDo
  by_cases d1 : d = 1
  · rw [if_pos d1] at he ⊢
    by_cases hn : x.at_ = n
    · rw [if_pos hn] at he; omega
    · exact ⟨by simp; omega, by simp; omega, h3, h4, h5, h6⟩
  rw [if_neg d1] at he ⊢
  by_cases d2 : d = 2
  · rw [if_pos d2]
    refine ⟨h1, h2, h3, h4, by simpa using h5, fun v hv => ?_⟩
    rcases mem_set hv with hv | hv
    · exact h6 v hv
    · omega
  rw [if_neg d2] at he ⊢
  by_cases d3 : d = 3
  · rw [if_pos d3] at he ⊢
    by_cases hk : k < 0 ∨ (x.kept.length : Int) ≤ k
    · rw [if_pos hk] at he; omega
    rw [if_neg hk] at he
    have hlt : k.toNat < x.kept.length := by omega
    have hm : x.kept.getD k.toNat 0 ∈ x.kept := by rw [List.getD_eq_getElem?_getD, List.getElem?_eq_getElem hlt]; exact List.getElem_mem hlt
    have hv := h6 _ hm
    by_cases hneg : x.kept.getD k.toNat 0 < 0
    · rw [if_pos hneg] at he; omega
    · exact ⟨by simp only; omega, by simp only; omega, h3, h4, h5, h6⟩
  rw [if_neg d3] at he ⊢
  by_cases d4 : d = 4
  · rw [if_pos d4] at he
    by_cases ha : x.at_ = x.left - 1
    · exact ⟨h1, h2, by simp only; omega, by simp only; omega, h5, h6⟩
    · rw [if_neg ha] at he; omega
  · rw [if_neg d4] at he; omega
theorem plays_fine {n : Int} {s : Nat} : ∀ {l : List (Int × Int)} {x y : St}, x.fine n s → plays n x l = .ok y → y.fine n s
  | [], x, y, h, hr => by simp only [plays, Except.ok.injEq] at hr; subst hr; exact h
  | (d, k) :: l, x, y, h, hr => by
    simp only [plays] at hr
    by_cases hm : moveErr n x d k = 0
    · rw [if_pos hm] at hr; exact plays_fine (do_fine h hm) hr
    · rw [if_neg hm] at hr; cases hr

/-- What Play answers: the cost, the error. -/
def answer (n : Int) (s : Nat) (l : List (Int × Int)) : Int × Int :=
  match plays n (play0 n s) l with
  | .ok y => if y.left > 0 then (0, 13) else (y.cost, 0)
  | .error e => (0, e)
theorem err_ahead {n : Int} {x : St} {k : Int} (h : ¬ x.at_ = n) : moveErr n x 1 k = 0 := by unfold moveErr; rw [if_pos rfl, if_neg h]
theorem err_ahead' {n : Int} {x : St} {k : Int} (h : x.at_ = n) : moveErr n x 1 k = 13 := by unfold moveErr; rw [if_pos rfl, if_pos h]
theorem err_back {n : Int} {x : St} {k : Int} (h : x.at_ = x.left - 1) : moveErr n x 4 k = 0 := by unfold moveErr; simp [h]
theorem err_back' {n : Int} {x : St} {k : Int} (h : ¬ x.at_ = x.left - 1) : moveErr n x 4 k = 13 := by unfold moveErr; simp [h]
theorem err_keep {n : Int} {x : St} {k : Int} (h : ¬ (k < 0 ∨ (x.kept.length : Int) ≤ k)) : moveErr n x 2 k = 0 := by unfold moveErr; simp [h]
theorem err_keep' {n : Int} {x : St} {k : Int} (h : k < 0 ∨ (x.kept.length : Int) ≤ k) : moveErr n x 2 k = 4 := by unfold moveErr; simp [h]
theorem err_load {n : Int} {x : St} {k : Int} (h : ¬ (k < 0 ∨ (x.kept.length : Int) ≤ k)) (h2 : ¬ x.kept.getD k.toNat 0 < 0) : moveErr n x 3 k = 0 := by unfold moveErr; rw [if_neg (by omega), if_neg (by omega), if_pos rfl, if_neg h, if_neg h2]
theorem err_load9 {n : Int} {x : St} {k : Int} (h : ¬ (k < 0 ∨ (x.kept.length : Int) ≤ k)) (h2 : x.kept.getD k.toNat 0 < 0) : moveErr n x 3 k = 9 := by unfold moveErr; rw [if_neg (by omega), if_neg (by omega), if_pos rfl, if_neg h, if_pos h2]
theorem err_load' {n : Int} {x : St} {k : Int} (h : k < 0 ∨ (x.kept.length : Int) ≤ k) : moveErr n x 3 k = 4 := by unfold moveErr; rw [if_neg (by omega), if_neg (by omega), if_pos rfl, if_pos h]
theorem err_other {n : Int} {x : St} {d k : Int} (h1 : d ≠ 1) (h2 : d ≠ 2) (h3 : d ≠ 3) (h4 : d ≠ 4) : moveErr n x d k = 1 := by unfold moveErr; simp [h1, h2, h3, h4]
end Adj8
