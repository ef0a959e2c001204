/-
  Plain numbers, no program in sight: the least cost of going backward through n steps with s slots, as a sum; that sum is the least over all first splits; and it is Griewank's closed form. No condition.
-/
namespace Adj8

/-- In how many ways k of n can be taken. -/
def ch : Nat → Nat → Nat
  | _, 0 => 1
  | 0, _ + 1 => 0
  | n + 1, k + 1 => ch n k + ch n (k + 1)

theorem ch_zero (n : Nat) : ch n 0 = 1 := by cases n <;> rfl
theorem ch_succ (n k : Nat) : ch (n + 1) (k + 1) = ch n k + ch n (k + 1) := rfl
theorem ch_lt : ∀ (n k : Nat), n < k → ch n k = 0
  | n, 0, h => by omega
  | 0, k + 1, _ => rfl
  | n + 1, k + 1, h => by rw [ch_succ, ch_lt n k (by omega), ch_lt n (k + 1) (by omega)]
theorem ch_self : ∀ n : Nat, ch n n = 1
  | 0 => rfl
  | n + 1 => by rw [ch_succ, ch_self n, ch_lt n (n + 1) (by omega)]
theorem ch_pos : ∀ (n k : Nat), k ≤ n → 1 ≤ ch n k
  | n, 0, _ => by rw [ch_zero]; omega
  | 0, k + 1, h => by omega
  | n + 1, k + 1, h => by rw [ch_succ]; have := ch_pos n k (by omega); omega
theorem ch_mul : ∀ (n k : Nat), ch (n + 1) (k + 1) * (k + 1) = ch n k * (n + 1)
  | 0, 0 => rfl
  | 0, k + 1 => by rw [ch_lt 1 (k + 2) (by omega), ch_lt 0 (k + 1) (by omega)]; omega
  | n + 1, 0 => by
    have h := ch_mul n 0
    rw [ch_zero] at h
    rw [ch_succ (n + 1) 0, ch_zero]
    simp only [Nat.zero_add, Nat.mul_one, Nat.one_mul] at *
    omega
  | n + 1, k + 1 => by
    have h1 := ch_mul n k
    have h2 := ch_mul n (k + 1)
    rw [ch_succ (n + 1) (k + 1)]
    have e := ch_succ n k
    generalize ch (n + 1) (k + 1) = a at *
    generalize ch (n + 1) (k + 1 + 1) = b at *
    generalize ch n k = c at *
    generalize ch n (k + 1) = d at *
    subst e
    have x1 : (c + d + b) * (k + 1 + 1) = (c + d) * (k + 1) + (c + d) + b * (k + 1 + 1) := by
      rw [Nat.add_mul, Nat.mul_add (c + d) (k + 1) 1, Nat.mul_one]
    rw [x1, h1, h2, Nat.mul_add (c + d) (n + 1) 1, Nat.add_mul, Nat.mul_one]
    omega
theorem ch_mono (n k : Nat) : ch n k ≤ ch (n + 1) k := by
  cases k with
  | zero => rw [ch_zero, ch_zero]; omega
  | succ k => rw [ch_succ]; omega
theorem ch_diag (n k : Nat) : ch n k ≤ ch (n + 1) (k + 1) := by rw [ch_succ]; omega

/-- How many steps r more open, with s slots. -/
def c (s j : Nat) : Nat := ch (s + j) s
theorem c_zero (s : Nat) : c s 0 = 1 := ch_self s
theorem c_step (t j : Nat) : c (t + 1) (j + 1) = c t (j + 1) + c (t + 1) j := by
  show ch (t + 1 + (j + 1)) (t + 1) = ch (t + (j + 1)) t + ch (t + 1 + j) (t + 1)
  rw [show t + 1 + (j + 1) = (t + j + 1) + 1 from by omega, ch_succ, show t + (j + 1) = t + j + 1 from by omega, show t + 1 + j = t + j + 1 from by omega]
theorem c_null (j : Nat) : c 0 j = 1 := by show ch (0 + j) 0 = 1; exact ch_zero _
theorem c_pos (s j : Nat) : 1 ≤ c s j := ch_pos _ _ (by omega)
theorem c_mono (s j : Nat) : c s j ≤ c s (j + 1) := by
  have := ch_mono (s + j) s
  exact this
theorem c_le (s j i : Nat) : c s j ≤ c s (j + i) := by
  induction i with
  | zero => exact Nat.le_refl _
  | succ i ih => exact Nat.le_trans ih (c_mono s (j + i))
theorem c_le' (s : Nat) {j i : Nat} (h : j ≤ i) : c s j ≤ c s i := by
  obtain ⟨d, rfl⟩ := Nat.exists_eq_add_of_le h
  exact c_le s j d
theorem c_big (t j : Nat) : j + 1 ≤ c (t + 1) j := by
  induction j with
  | zero => exact c_pos _ _
  | succ j ih => rw [c_step]; have := c_pos t (j + 1); omega

/-- The first N terms of the cost. -/
def S : Nat → Nat → Nat → Nat
  | 0, _, _ => 0
  | N + 1, n, s => S N n s + (n - c s N)
/-- THE LEAST COST. -/
def T (n s : Nat) : Nat := S n n s

theorem S_more (N i n s : Nat) (h : n ≤ c s N) : S (N + i) n s = S N n s := by
  induction i with
  | zero => rfl
  | succ i ih =>
    rw [show N + (i + 1) = (N + i) + 1 from by omega, S, ih]
    have := c_le s N i
    omega
theorem S_eq (N M n s : Nat) (h : n ≤ c s N) (h' : n ≤ c s M) : S N n s = S M n s := by
  rcases Nat.le_total N M with hl | hl
  · obtain ⟨d, rfl⟩ := Nat.exists_eq_add_of_le hl
    exact (S_more N d n s h).symm
  · obtain ⟨d, rfl⟩ := Nat.exists_eq_add_of_le hl
    exact S_more M d n s h'
theorem S_one : ∀ (N s : Nat), S N 1 s = 0
  | 0, _ => rfl
  | N + 1, s => by rw [S, S_one N s]; have := c_pos s N; omega
theorem T_zero (s : Nat) : T 0 s = 0 := rfl
theorem T_one (s : Nat) : T 1 s = 0 := S_one 1 s
theorem T_at (N n t : Nat) (h : n ≤ c (t + 1) N) : T n (t + 1) = S N n (t + 1) := by
  refine S_eq n N n (t + 1) ?_ h
  have := c_big t n
  omega

theorem S_split (k l t : Nat) (hk : 1 ≤ k) (hl : 1 ≤ l) : ∀ N, S (N + 1) (k + l) (t + 1) ≤ k + S N k (t + 1) + S (N + 1) l t
  | 0 => by simp only [S, c_zero]; omega
  | N + 1 => by
    have ih := S_split k l t hk hl N
    have e := c_step t N
    show S (N + 1) (k + l) (t + 1) + (k + l - c (t + 1) (N + 1)) ≤ k + (S N k (t + 1) + (k - c (t + 1) N)) + (S (N + 1) l t + (l - c t (N + 1)))
    omega

theorem S_split_eq (k l t : Nat) (hk : 1 ≤ k) (hl : 1 ≤ l) :
    ∀ N, (∀ j, j < N → (c (t + 1) j ≤ k ∧ c t (j + 1) ≤ l) ∨ (k ≤ c (t + 1) j ∧ l ≤ c t (j + 1))) → S (N + 1) (k + l) (t + 1) = k + S N k (t + 1) + S (N + 1) l t
  | 0, _ => by simp only [S, c_zero]; omega
  | N + 1, h => by
    have ih := S_split_eq k l t hk hl N (fun j hj => h j (by omega))
    have e := c_step t N
    have hN := h N (by omega)
    show S (N + 1) (k + l) (t + 1) + (k + l - c (t + 1) (N + 1)) = k + (S N k (t + 1) + (k - c (t + 1) N)) + (S (N + 1) l t + (l - c t (N + 1)))
    omega

/-- NO FIRST SPLIT COSTS LESS. -/
theorem T_le (k l t : Nat) (hk : 1 ≤ k) (hl : 1 ≤ l) (h0 : t = 0 → l = 1) : T (k + l) (t + 1) ≤ k + T k (t + 1) + T l t := by
  rw [T_at (k + l + 1) (k + l) t (by have := c_big t (k + l + 1); omega), T_at (k + l) k t (by have := c_big t (k + l); omega)]
  have hs := S_split k l t hk hl (k + l)
  cases t with
  | zero =>
    have := h0 rfl
    subst this
    rw [S_one] at hs
    rw [T_one]
    exact hs
  | succ t =>
    rw [T_at (k + l + 1) l t (by have := c_big t (k + l + 1); omega)]
    exact hs

/-- WHERE n IS REACHED. -/
theorem reach (n t : Nat) : ∃ r, n ≤ c (t + 1) r ∧ r ≤ n ∧ ∀ j, j < r → c (t + 1) j < n := by
  have h : ∀ m, (∃ r, r ≤ m ∧ n ≤ c (t + 1) r ∧ ∀ j, j < r → c (t + 1) j < n) ∨ (∀ j, j ≤ m → c (t + 1) j < n) := by
    intro m
    induction m with
    | zero =>
      by_cases hc : n ≤ c (t + 1) 0
      · exact .inl ⟨0, Nat.le_refl _, hc, fun j hj => by omega⟩
      · refine .inr fun j hj => ?_
        have : j = 0 := by omega
        subst this
        omega
    | succ m ih =>
      rcases ih with ⟨r, h1, h2, h3⟩ | ih
      · exact .inl ⟨r, by omega, h2, h3⟩
      · by_cases hc : n ≤ c (t + 1) (m + 1)
        · exact .inl ⟨m + 1, Nat.le_refl _, hc, fun j hj => ih j (by omega)⟩
        · refine .inr fun j hj => ?_
          rcases Nat.lt_or_ge j (m + 1) with hj' | hj'
          · exact ih j (by omega)
          · have : j = m + 1 := by omega
            subst this
            omega
  rcases h n with ⟨r, h1, h2, h3⟩ | h
  · exact ⟨r, h2, h1, h3⟩
  · have := h n (Nat.le_refl _)
    have := c_big t n
    omega

/-- SOME FIRST SPLIT COSTS JUST THAT (two slots or more). -/
theorem T_ge (n t : Nat) (hn : 2 ≤ n) : ∃ k, 1 ≤ k ∧ k < n ∧ T n (t + 2) = k + T k (t + 2) + T (n - k) (t + 1) := by
  obtain ⟨r, hr, hrn, hlow⟩ := reach n (t + 1)
  have hr0 : r ≠ 0 := by
    intro h
    subst h
    rw [c_zero] at hr
    omega
  obtain ⟨r, rfl⟩ : ∃ q, r = q + 1 := ⟨r - 1, by omega⟩
  have h1 : c (t + 2) r < n := hlow r (by omega)
  have e1 : c (t + 2) (r + 1) = c (t + 1) (r + 1) + c (t + 2) r := c_step (t + 1) r
  have hr' : n ≤ c (t + 2) (r + 1) := hr
  -- k = min of c (t+2) r and n - c (t+1) r
  have key : ∀ k l, k + l = n → 1 ≤ k → 1 ≤ l → (∀ j, (c (t + 2) j ≤ k ∧ c (t + 1) (j + 1) ≤ l) ∨ (k ≤ c (t + 2) j ∧ l ≤ c (t + 1) (j + 1))) → T n (t + 2) = k + T k (t + 2) + T l (t + 1) := by
    intro k l hkl hk hl hj
    subst hkl
    rw [T_at (k + l + 1) (k + l) (t + 1) (by have := c_big (t + 1) (k + l + 1); omega), T_at (k + l) k (t + 1) (by have := c_big (t + 1) (k + l); omega),
      T_at (k + l + 1) l t (by have := c_big t (k + l + 1); omega)]
    exact S_split_eq k l (t + 1) hk hl (k + l) (fun j _ => hj j)
  cases r with
  | zero =>
    refine ⟨1, by omega, by omega, key 1 (n - 1) (by omega) (by omega) (by omega) ?_⟩
    intro j
    right
    have a := c_pos (t + 2) j
    have b := c_le' (t + 1) (show 1 ≤ j + 1 by omega)
    rw [c_zero] at e1
    simp only [Nat.zero_add] at *
    omega
  | succ r =>
    have h0 := hlow r (by omega)
    have e0 : c (t + 2) (r + 1) = c (t + 1) (r + 1) + c (t + 2) r := c_step (t + 1) r
    have p0 := c_pos (t + 2) r
    have p1 := c_pos (t + 1) (r + 1)
    have m1 := c_mono (t + 1) (r + 1)
    rcases Nat.le_total (c (t + 2) (r + 1)) (n - c (t + 1) (r + 1)) with hle | hle
    · refine ⟨c (t + 2) (r + 1), by omega, by omega, key _ (n - c (t + 2) (r + 1)) (by omega) (by omega) (by omega) ?_⟩
      intro j
      rcases Nat.lt_or_ge j (r + 1) with hj | hj
      · left
        have a := c_le' (t + 2) (show j ≤ r + 1 by omega)
        have b := c_le' (t + 1) (show j + 1 ≤ r + 1 by omega)
        omega
      · right
        have a := c_le' (t + 2) (show r + 1 ≤ j by omega)
        have b := c_le' (t + 1) (show r + 1 + 1 ≤ j + 1 by omega)
        omega
    · refine ⟨n - c (t + 1) (r + 1), by omega, by omega, ?_⟩
      have hl : n - (n - c (t + 1) (r + 1)) = c (t + 1) (r + 1) := by omega
      rw [hl]
      refine key _ _ (by omega) (by omega) (by omega) ?_
      intro j
      rcases Nat.lt_or_ge j (r + 1) with hj | hj
      · left
        have a := c_le' (t + 2) (show j ≤ r by omega)
        have b := c_le' (t + 1) (show j + 1 ≤ r + 1 by omega)
        omega
      · right
        have a := c_le' (t + 2) (show r + 1 ≤ j by omega)
        have b := c_le' (t + 1) (show r + 1 ≤ j + 1 by omega)
        omega

/-- With one slot. -/
theorem T_slot (n : Nat) (hn : 2 ≤ n) : T n 1 = n - 1 + T (n - 1) 1 := by
  obtain ⟨m, rfl⟩ : ∃ m, n = m + 1 := ⟨n - 1, by omega⟩
  rw [show m + 1 - 1 = m from rfl]
  rw [T_at (m + 1 + 1) (m + 1) 0 (by have := c_big 0 (m + 1 + 1); omega), T_at (m + 1) m 0 (by have := c_big 0 (m + 1); omega)]
  have := S_split_eq m 1 0 (by omega) (by omega) (m + 1) (fun j _ => by rw [c_null]; omega)
  rw [S_one] at this
  omega

/-- The hockey stick. -/
theorem stick (s r : Nat) : ch (s + (r + 1)) (s + 1) = ch (s + r) (s + 1) + c s r := by
  rw [show s + (r + 1) = (s + r) + 1 from by omega, ch_succ]; unfold c; omega

theorem S_closed (n s : Nat) : ∀ r, (∀ j, j < r → c s j < n) → S r n s + ch (s + r) (s + 1) = r * n
  | 0, _ => by rw [S, ch_lt _ _ (by omega)]; omega
  | r + 1, h => by
    have ih := S_closed n s r (fun j hj => h j (by omega))
    have e := stick s r
    have hr := h r (by omega)
    rw [S, e, Nat.add_mul]
    omega

/-- GRIEWANK: the closed form. -/
theorem T_closed (n t r : Nat) (h : n ≤ c (t + 1) r) (hlow : ∀ j, j < r → c (t + 1) j < n) : T n (t + 1) + ch (t + 1 + r) (t + 2) = r * n := by
  rw [T_at r n t h]
  exact S_closed n (t + 1) r hlow

end Adj8
