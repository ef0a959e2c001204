/-
  NOBODY COMES THROUGH WITH LESS, in plain Lean: whatever moves are played to the end, they cost at least what Least says. No program in sight. No condition.
-/
import Derived.Test.YtebekdnihncenaaLeastPlain
import Derived.Test.YtebekdnihncenaaPlayPlain
namespace Adj8
set_option linter.unusedVariables false

theorem c_slots (s j : Nat) : c s j ≤ c (s + 1) j := by
  cases j with
  | zero => rw [c_zero, c_zero]; omega
  | succ j => rw [c_step]; omega
theorem S_slots (n s : Nat) : ∀ N, S N n (s + 1) ≤ S N n s
  | 0 => Nat.le_refl _
  | N + 1 => by rw [S, S]; have := S_slots n s N; have := c_slots s N; omega
theorem T_slots (n s : Nat) : T n (s + 1) ≤ T n s := S_slots n s n
theorem T_small (n s : Nat) (h : n ≤ 1) : T n s = 0 := by
  rcases Nat.lt_or_ge n 1 with h1 | h1
  · obtain rfl : n = 0 := by omega
    exact T_zero s
  · obtain rfl : n = 1 := by omega
    exact T_one s

/-- The cost x suffices to go back from l to b, where b is at hand and o slots are free for it; A tells which states are at hand; q of them are used. -/
def Tail (A : Nat → Prop) (l : Nat) : Nat → Nat → Nat → Nat → Prop
  | 0, b, o, x => (2 ≤ l - b → 1 ≤ o) ∧ T (l - b) o ≤ x
  | q + 1, b, o, x => ∃ c b' o' x', A c ∧ b < c ∧ c ≤ b' ∧ b' < l ∧ o = o' + 1 ∧ Tail A l q b' o' x' ∧ T (b' - b) o + (b' - c) + x' ≤ x

theorem Tail.more {A : Nat → Prop} {l : Nat} : ∀ {q b o x y : Nat}, Tail A l q b o x → x ≤ y → Tail A l q b o y
  | 0, b, o, x, y, h, hxy => ⟨h.1, Nat.le_trans h.2 hxy⟩
  | q + 1, b, o, x, y, ⟨c, b', o', x', h1, h2, h3, h4, h5, h6, h7⟩, hxy => ⟨c, b', o', x', h1, h2, h3, h4, h5, h6, Nat.le_trans h7 hxy⟩
theorem Tail.slots {A : Nat → Prop} {l : Nat} : ∀ {q b o x : Nat}, Tail A l q b o x → Tail A l q b (o + 1) x
  | 0, b, o, x, h => ⟨fun _ => by omega, Nat.le_trans (T_slots _ _) h.2⟩
  | q + 1, b, o, x, ⟨c, b', o', x', h1, h2, h3, h4, h5, h6, h7⟩ =>
    ⟨c, b', o' + 1, x', h1, h2, h3, h4, by omega, h6.slots, by have := T_slots (b' - b) o; omega⟩
theorem Tail.sub {A A' : Nat → Prop} {l : Nat} : ∀ {q b o x : Nat}, Tail A' l q b o x → (∀ c, b < c → A' c → A c) → Tail A l q b o x
  | 0, _, _, _, h, _ => h
  | q + 1, b, o, x, ⟨c, b', o', x', h1, h2, h3, h4, h5, h6, h7⟩, hs =>
    ⟨c, b', o', x', hs c h2 h1, h2, h3, h4, h5, h6.sub (fun d hd => hs d (by omega)), h7⟩

/-- What begins further back costs no more than going there and beginning there. -/
theorem Tail.merge {A : Nat → Prop} {l : Nat} : ∀ {q b' o x : Nat} (b : Nat), Tail A l q b' o x → b < b' → b' < l → ∃ q', Tail A l q' b (o + 1) ((b' - b) + T (b' - b) (o + 1) + x)
  | 0, b', o, x, b, h, hb, hl => by
    refine ⟨0, fun _ => by omega, ?_⟩
    have := T_le (b' - b) (l - b') o (by omega) (by omega) (fun h0 => by subst h0; have := h.1; omega)
    rw [show b' - b + (l - b') = l - b from by omega] at this
    have := h.2
    omega
  | q + 1, b', o, x, b, ⟨c, b'', o', x', h1, h2, h3, h4, h5, h6, h7⟩, hb, hl => by
    subst h5
    refine ⟨q + 1, c, b'', o' + 1, x', h1, by omega, h3, h4, rfl, h6.slots, ?_⟩
    have := T_le (b' - b) (b'' - b') (o' + 1) (by omega) (by omega) (fun h0 => by omega)
    rw [show b' - b + (b'' - b') = b'' - b from by omega] at this
    omega

/-- One step ahead: a is at hand in the place of a + 1. -/
theorem Tail.ahead {A A' : Nat → Prop} {l a : Nat} (hA : ∀ c, A' c → c ≠ a + 1 → A c) (ha : A a) : ∀ {q b o x : Nat}, Tail A' l q b o x → ∃ q', Tail A l q' b o (x + 1)
  | 0, b, o, x, h => ⟨0, h.1, by have := h.2; omega⟩
  | q + 1, b, o, x, ⟨c, b', o', x', h1, h2, h3, h4, h5, h6, h7⟩ => by
    subst h5
    by_cases hc : c = a + 1
    · subst hc
      have h6' : Tail A l q b' o' x' := h6.sub (fun d hd hd' => hA d hd' (by omega))
      rcases Nat.lt_or_ge b a with hba | hba
      · exact ⟨q + 1, a, b', o', x', ha, hba, by omega, h4, rfl, h6', by omega⟩
      · obtain rfl : b = a := by omega
        obtain ⟨q', h⟩ := h6'.merge b (by omega) h4
        exact ⟨q', h.more (by omega)⟩
    · obtain ⟨q', h⟩ := Tail.ahead hA ha h6
      exact ⟨q' + 1, c, b', o', x' + 1, hA c h1 hc, h2, h3, h4, rfl, h, by omega⟩

/-- How many of a list lie above b. -/
def above (K : List Int) (b : Nat) : Nat := K.countP fun v => (b : Int) < v
theorem above_step {K : List Int} {b c b' : Nat} (h : (c : Int) ∈ K) (h1 : b < c) (h2 : c ≤ b') : above K b' + 1 ≤ above K b := by
  unfold above
  induction K with
  | nil => simp at h
  | cons v K ih =>
    have mono : ∀ L : List Int, L.countP (fun v => (b' : Int) < v) ≤ L.countP (fun v => (b : Int) < v) := fun L =>
      List.countP_mono_left fun x _ hx => by simp at hx ⊢; omega
    rcases List.mem_cons.1 h with hv | hv
    · subst hv
      rw [List.countP_cons_of_neg (by simp; omega), List.countP_cons_of_pos (by simp; omega)]
      have := mono K
      omega
    · have := ih hv
      by_cases h3 : (b' : Int) < v
      · rw [List.countP_cons_of_pos (by simpa using h3), List.countP_cons_of_pos (by simp; omega)]
        omega
      · rw [List.countP_cons_of_neg (by simpa using h3)]
        by_cases h4 : (b : Int) < v
        · rw [List.countP_cons_of_pos (by simpa using h4)]; omega
        · rw [List.countP_cons_of_neg (by simpa using h4)]; omega
theorem above_zero {K : List Int} (h : (0 : Int) ∈ K) : above K 0 + 1 ≤ K.length := by
  unfold above
  induction K with
  | nil => simp at h
  | cons v K ih =>
    rcases List.mem_cons.1 h with hv | hv
    · subst hv
      rw [List.countP_cons_of_neg (by simp)]
      have := List.countP_le_length (p := fun v => decide (((0 : Nat) : Int) < v)) (l := K)
      simp only [List.length_cons]
      omega
    · have := ih hv
      have h2 : (v :: K).countP (fun v => decide (((0 : Nat) : Int) < v)) ≤ K.countP (fun v => decide (((0 : Nat) : Int) < v)) + 1 := by
        rw [List.countP_cons]; split <;> omega
      simp only [List.length_cons]
      omega

/-- One step back: the last step, l, is done at once where l is at hand. -/
theorem Tail.back {A : Nat → Prop} {K : List Int} {l : Nat} (hK : ∀ c, A c → c < l → (c : Int) ∈ K) (ha : A l) : ∀ {q b o x : Nat}, b < l → above K b + 1 ≤ o → Tail A l q b o x → ∃ q', Tail A (l + 1) q' b o x
  | 0, b, o, x, hb, ho, h => by
    obtain ⟨o, rfl⟩ : ∃ p, o = p + 1 := ⟨o - 1, by omega⟩
    refine ⟨1, l, l, o, 0, ha, hb, Nat.le_refl _, by omega, rfl, ⟨fun _ => by omega, ?_⟩, ?_⟩
    · rw [T_small _ _ (by omega)]; omega
    · have := h.2; omega
  | q + 1, b, o, x, hb, ho, ⟨c, b', o', x', h1, h2, h3, h4, h5, h6, h7⟩ => by
    subst h5
    have hs := above_step (hK c h1 (by omega)) h2 h3
    obtain ⟨q', h⟩ := Tail.back hK ha h4 (by omega) h6
    exact ⟨q' + 1, c, b', o', x', h1, h2, h3, by omega, rfl, h, h7⟩

/-- Which states are at hand. -/
def hand (x : St) (c : Nat) : Prop := (c : Int) ∈ x.kept ∨ (c : Int) = x.at_
/-- The cost y suffices from x on. -/
def Can (s : Nat) (x : St) (y : Nat) : Prop := x.left ≤ 0 ∨ (hand x 0 ∧ ∃ q, Tail (hand x) x.left.toNat q 0 s y)

theorem can_step {n : Int} {s : Nat} {x : St} {d k : Int} {y : Nat} (hf : x.fine n s) (he : moveErr n x d k = 0) (h : Can s (moveDo x d k) y) : Can s x (y + (if d = 1 then 1 else 0)) := by
  obtain ⟨f1, f2, f3, f4, f5, f6⟩ := hf
  have hd : d = 1 ∨ d = 2 ∨ d = 3 ∨ d = 4 := by
    by_cases h1 : d = 1
    · exact .inl h1
    by_cases h2 : d = 2
    · exact .inr (.inl h2)
    by_cases h3 : d = 3
    · exact .inr (.inr (.inl h3))
    by_cases h4 : d = 4
    · exact .inr (.inr (.inr h4))
    · rw [err_other h1 h2 h3 h4] at he; omega
  obtain ⟨a, ha⟩ : ∃ a : Nat, x.at_ = a := ⟨x.at_.toNat, by omega⟩
  rcases hd with rfl | rfl | rfl | rfl
  · rw [if_pos rfl]
    rcases h with h | ⟨h0, q, h⟩
    · exact .inl h
    · refine .inr ⟨?_, ?_⟩
      · rcases h0 with h0 | h0
        · exact .inl h0
        · have h1 : ((0 : Nat) : Int) = x.at_ + 1 := h0
          omega
      · exact Tail.ahead (A := hand x) (a := a) (fun c hc hne => by
          rcases hc with hc | hc
          · exact .inl hc
          · have h1 : (c : Int) = x.at_ + 1 := hc
            omega) (.inr ha.symm) h
  · rw [if_neg (by omega), Nat.add_zero]
    have hsub : ∀ c, hand (moveDo x 2 k) c → hand x c := fun c hc => by
      rcases hc with hc | hc
      · have h1 : (c : Int) ∈ x.kept.set k.toNat x.at_ := hc
        rcases mem_set h1 with h2 | h2
        · exact .inl h2
        · exact .inr h2
      · exact .inr hc
    rcases h with h | ⟨h0, q, h⟩
    · exact .inl h
    · exact .inr ⟨hsub _ h0, q, h.sub (fun c _ => hsub c)⟩
  · rw [if_neg (by omega), Nat.add_zero]
    have hk : ¬ (k < 0 ∨ (x.kept.length : Int) ≤ k) := fun h => by rw [err_load' h] at he; omega
    have hsub : ∀ c, hand (moveDo x 3 k) c → hand x c := fun c hc => by
      rcases hc with hc | hc
      · exact .inl hc
      · have h1 : (c : Int) = x.kept.getD k.toNat 0 := hc
        have hlt : k.toNat < x.kept.length := by omega
        rw [List.getD_eq_getElem?_getD, List.getElem?_eq_getElem hlt] at h1
        exact .inl (by rw [h1]; exact List.getElem_mem hlt)
    rcases h with h | ⟨h0, q, h⟩
    · exact .inl h
    · exact .inr ⟨hsub _ h0, q, h.sub (fun c _ => hsub c)⟩
  · rw [if_neg (by omega), Nat.add_zero]
    have hat : x.at_ = x.left - 1 := by
      by_cases h : x.at_ = x.left - 1
      · exact h
      · rw [err_back' h] at he; omega
    have hl : x.left.toNat = a + 1 := by omega
    rcases h with h | ⟨h0, q, h⟩
    · have h1 : x.left - 1 ≤ 0 := h
      refine .inr ⟨.inr (by omega), 0, ?_, ?_⟩
      · omega
      · rw [T_small _ _ (by omega)]; omega
    · have h' : Tail (hand x) (x.left - 1).toNat q 0 s y := h
      have h0' : hand x 0 := h0
      rcases Nat.eq_zero_or_pos a with h1 | h1
      · refine .inr ⟨h0', 0, by omega, ?_⟩
        rw [T_small _ _ (by omega)]; omega
      · refine .inr ⟨h0', ?_⟩
        rw [show (x.left - 1).toNat = a from by omega] at h'
        rw [hl]
        have hk0 : (0 : Int) ∈ x.kept := by
          rcases h0' with h2 | h2
          · exact h2
          · omega
        refine Tail.back (K := x.kept) (fun c hc hlt => ?_) (.inr ha.symm) h1 (by have := above_zero hk0; omega) h'
        rcases hc with hc | hc
        · exact hc
        · omega

theorem cost_step (x : St) (d k : Int) : (moveDo x d k).cost = x.cost + (if d = 1 then 1 else 0) := by
  unfold moveDo
  (repeat' split) <;> simp_all

/-- From wherever a play comes to its end, what it still costs suffices. -/
theorem can_play {n : Int} {s : Nat} : ∀ {l : List (Int × Int)} {x y : St}, x.fine n s → plays n x l = .ok y → y.left ≤ 0 → ∃ z : Nat, y.cost = x.cost + (z : Int) ∧ Can s x z
  | [], x, y, hf, h, hl => by
    simp only [plays, Except.ok.injEq] at h
    subst h
    exact ⟨0, by omega, .inl hl⟩
  | (d, k) :: l, x, y, hf, h, hl => by
    simp only [plays] at h
    by_cases he : moveErr n x d k = 0
    · rw [if_pos he] at h
      obtain ⟨z, hz, hc⟩ := can_play (do_fine hf he) h hl
      refine ⟨z + (if d = 1 then 1 else 0), ?_, can_step hf he hc⟩
      rw [hz, cost_step]
      split <;> omega
    · rw [if_neg he] at h; cases h

theorem plays_err (n : Int) : ∀ (l : List (Int × Int)) (x : St), plays n x l ≠ .error 0
  | [], x => by simp [plays]
  | (d, k) :: l, x => by
    simp only [plays]
    by_cases he : moveErr n x d k = 0
    · rw [if_pos he]; exact plays_err n l _
    · rw [if_neg he]; intro h; injection h with h; exact he h

/-- NOBODY COMES THROUGH WITH LESS. -/
theorem no_less {n : Nat} {s : Nat} {L : List (Int × Int)} {cost : Int} (h : answer n s L = (cost, 0)) : (2 ≤ n → 1 ≤ s) ∧ ((T n s : Nat) : Int) ≤ cost := by
  unfold answer at h
  split at h
  · rename_i y hy
    by_cases hl : y.left > 0
    · rw [if_pos hl] at h
      injection h with _ h2
      omega
    · rw [if_neg hl] at h
      injection h with h1 _
      obtain ⟨z, hz, hc⟩ := can_play (play0_fine n s (by omega)) hy (by omega)
      have h0 : (play0 n s).cost = 0 := rfl
      have hl0 : (play0 n s).left = n := rfl
      rcases hc with hc | ⟨_, q, hc⟩
      · obtain rfl : n = 0 := by omega
        exact ⟨fun h => by omega, by rw [T_zero]; omega⟩
      · rw [hl0, Int.toNat_natCast] at hc
        cases q with
        | zero =>
          have h2 := hc.2
          exact ⟨fun h => hc.1 (by omega), by rw [Nat.sub_zero] at h2; omega⟩
        | succ q =>
          exfalso
          obtain ⟨c, _, _, _, hA, hpos, _⟩ := hc
          rcases hA with hA | hA
          · have hm : (c : Int) ∈ List.replicate s (-1) := hA
            have := List.eq_of_mem_replicate hm
            omega
          · have hm : (c : Int) = 0 := hA
            omega
  · rename_i e he
    injection h with h1 h2
    subst h2
    exact absurd he (plays_err _ _ _)
end Adj8
