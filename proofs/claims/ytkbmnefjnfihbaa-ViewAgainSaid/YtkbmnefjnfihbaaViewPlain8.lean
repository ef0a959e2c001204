/-
  Reform, in plain Lean: blocks as numbers of mixed radix, read from behind. No program in sight. No condition.
-/
import Derived.Test.YtkbmnefjnfihbaaViewPlain7
namespace AdjV
set_option linter.unusedVariables false
/-- What lies at place p, of dimensions and their steps, the last one ahead. -/
def rd : List (Int × Int) → Int → Int
  | [], _ => 0
  | (n, s) :: r, p => p % n * s + rd r (p / n)
theorem rd_zero : ∀ (l : List (Int × Int)), rd l 0 = 0
  | [] => rfl
  | (n, s) :: r => by simp [rd, rd_zero r]
def prodS : List (Int × Int) → Int
  | [] => 1
  | (n, _) :: r => n * prodS r
theorem prodS_pos : ∀ {l : List (Int × Int)}, (∀ x ∈ l, 1 ≤ x.1) → 1 ≤ prodS l
  | [], _ => by simp [prodS]
  | (n, s) :: r, h => by
    have h1 := h (n, s) (by simp)
    have h2 := prodS_pos (l := r) (fun x hx => h x (by simp [hx]))
    have := Int.mul_le_mul h1 h2 (by omega) (by omega)
    simpa [prodS] using this
theorem mod_mul {p d n : Int} (hd : 1 ≤ d) (hn : 1 ≤ n) : p % (d * n) = p % d + d * (p / d % n) := by
  have e1 := Int.mul_ediv_add_emod p d
  have e2 := Int.mul_ediv_add_emod (p / d) n
  have e3 := Int.mul_ediv_add_emod p (d * n)
  have e4 : p / (d * n) = p / d / n := by rw [Int.ediv_ediv_of_nonneg (by omega)]
  rw [e4] at e3
  have e5 : d * (p / d) = d * n * (p / d / n) + d * (p / d % n) := by
    rw [Int.mul_assoc, ← Int.mul_add, e2]
  omega
/-- Two dimensions of which one goes on behind the other are as one. -/
theorem rd_join {d n s p : Int} {r : List (Int × Int)} (hd : 1 ≤ d) (hn : 1 ≤ n) : rd ((d * n, s) :: r) p = rd ((d, s) :: (n, d * s) :: r) p := by
  simp only [rd]
  rw [mod_mul hd hn, Int.add_mul, Int.ediv_ediv_of_nonneg (by omega), Int.add_assoc, Int.mul_comm d (p / d % n), Int.mul_assoc]
theorem rd_one (s : Int) (r : List (Int × Int)) (p : Int) : rd ((1, s) :: r) p = rd r p := by simp [rd]
/-- One more dimension behind. -/
def push (st : List (Int × Int)) (x : Int × Int) : List (Int × Int) :=
  if x.1 = 1 then st else match st with
    | [] => [x]
    | y :: r => if y.2 = x.1 * x.2 then (y.1 * x.1, x.2) :: r else x :: y :: r
theorem rd_push {st : List (Int × Int)} {x : Int × Int} (hx : 1 ≤ x.1) (hst : ∀ y ∈ st, 1 ≤ y.1) (p : Int) : rd (push st x) p = rd (x :: st) p := by
  obtain ⟨d, s⟩ := x
  unfold push
  dsimp only at hx ⊢
  by_cases h : d = 1
  · subst h; rw [if_pos rfl, rd_one]
  · rw [if_neg h]
    cases st with
    | nil => rfl
    | cons y r =>
      obtain ⟨n, t⟩ := y
      dsimp only
      by_cases h2 : t = d * s
      · subst h2
        rw [if_pos rfl, Int.mul_comm n d]
        exact rd_join hx (hst (n, d * s) (by simp))
      · rw [if_neg h2]
theorem prodS_push {st : List (Int × Int)} {x : Int × Int} : prodS (push st x) = x.1 * prodS st := by
  obtain ⟨d, s⟩ := x
  unfold push
  dsimp only
  by_cases h : d = 1
  · subst h; simp
  · rw [if_neg h]
    cases st with
    | nil => rfl
    | cons y r =>
      dsimp only
      by_cases h2 : y.2 = d * s
      · rw [if_pos h2]; simp only [prodS]; rw [Int.mul_comm y.1 d, Int.mul_assoc]
      · rw [if_neg h2]; rfl
/-- No block goes on behind the next. -/
def canon : List (Int × Int) → Prop
  | (n, s) :: (m, t) :: r => t ≠ n * s ∧ canon ((m, t) :: r)
  | _ => True
theorem canon_tail {x : Int × Int} {r : List (Int × Int)} (h : canon (x :: r)) : canon r := by
  obtain ⟨n, s⟩ := x
  cases r with
  | nil => trivial
  | cons y r => obtain ⟨m, t⟩ := y; exact h.2
theorem canon_head {n s n' s' : Int} {r : List (Int × Int)} (h : canon ((n, s) :: r)) (e : n' * s' = n * s) : canon ((n', s') :: r) := by
  cases r with
  | nil => trivial
  | cons y r => obtain ⟨m, t⟩ := y; exact ⟨by rw [e]; exact h.1, h.2⟩
theorem canon_push {st : List (Int × Int)} {x : Int × Int} (h : canon st) : canon (push st x) := by
  obtain ⟨d, s⟩ := x
  unfold push
  dsimp only
  by_cases h1 : d = 1
  · rw [if_pos h1]; exact h
  · rw [if_neg h1]
    cases st with
    | nil => trivial
    | cons y r =>
      obtain ⟨n, t⟩ := y
      dsimp only
      by_cases h2 : t = d * s
      · rw [if_pos h2]; exact canon_head h (by rw [h2, Int.mul_assoc])
      · rw [if_neg h2]; exact ⟨h2, h⟩
/-- Sizes above 1, and what one block reaches is no great number. -/
def Small (M : Int) (st : List (Int × Int)) : Prop := ∀ y ∈ st, 2 ≤ y.1 ∧ y.1 ≤ 65536 ∧ -M ≤ y.2 ∧ y.2 ≤ M ∧ -M ≤ y.1 * y.2 ∧ y.1 * y.2 ≤ M
theorem Small.one {M : Int} {st : List (Int × Int)} (h : Small M st) : ∀ y ∈ st, 1 ≤ y.1 := fun y hy => by have := (h y hy).1; omega
theorem prodS_ge {st : List (Int × Int)} (h : ∀ y ∈ st, 1 ≤ y.1) : ∀ y ∈ st, y.1 ≤ prodS st := by
  induction st with
  | nil => simp
  | cons z r ih =>
    intro y hy
    have hp := prodS_pos (l := r) (fun x hx => h x (by simp [hx]))
    have hz := h z (by simp)
    simp only [prodS]
    rcases List.mem_cons.1 hy with rfl | hy
    · have := Int.mul_le_mul_of_nonneg_left hp (show 0 ≤ y.1 by omega)
      rw [Int.mul_one] at this
      exact this
    · have h1 := ih (fun x hx => h x (by simp [hx])) y hy
      have := Int.mul_le_mul_of_nonneg_right hz (show 0 ≤ prodS r by omega)
      rw [Int.one_mul] at this
      omega
/-- New steps, from behind: none, if a block is cut across. -/
def go : List Int → List (Int × Int) → Option (List Int)
  | [], _ => some []
  | d :: ds, st => if d = 1 then (go ds st).map (0 :: ·) else match st with
    | [] => none
    | (n, s) :: r => if n % d = 0 then (go ds (if n / d = 1 then r else (n / d, s * d) :: r)).map (s :: ·) else none
theorem div_ge {n d : Int} (hn : 2 ≤ n) (hd : 1 ≤ d) (h : n % d = 0) (h1 : n / d ≠ 1) : 2 ≤ n / d ∧ n = n / d * d ∧ n / d ≤ n := by
  have e := Int.mul_ediv_add_emod n d
  have h0 : 0 ≤ n / d := Int.ediv_nonneg (by omega) (by omega)
  have h2 : n / d ≠ 0 := fun e0 => by rw [e0, Int.mul_zero] at e; omega
  exact ⟨by omega, by rw [Int.mul_comm]; omega, Int.ediv_le_self _ (by omega)⟩
theorem go_next_small {M : Int} {n s d : Int} {r : List (Int × Int)} (h : Small M ((n, s) :: r)) (hd : 1 ≤ d) (hm : n % d = 0) : Small M (if n / d = 1 then r else (n / d, s * d) :: r) := by
  by_cases h1 : n / d = 1
  · rw [if_pos h1]; exact fun y hy => h y (by simp [hy])
  · rw [if_neg h1]
    intro y hy
    rcases List.mem_cons.1 hy with rfl | hy
    · obtain ⟨a1, a2, a3, a4, a5, a6⟩ := h (n, s) (by simp)
      dsimp only at a1 a2 a3 a4 a5 a6 ⊢
      obtain ⟨b1, b2, b3⟩ := div_ge a1 hd hm h1
      have e : n / d * (s * d) = n * s := by rw [Int.mul_comm s d, ← Int.mul_assoc, ← b2]
      have hn1 : 1 ≤ n / d := by omega
      refine ⟨b1, by omega, ?_, ?_, by omega, by omega⟩
      · rcases Int.le_total 0 (s * d) with h0 | h0
        · omega
        · have := Int.mul_le_mul_of_nonpos_right hn1 h0
          rw [Int.one_mul, e] at this
          omega
      · rcases Int.le_total 0 (s * d) with h0 | h0
        · have := Int.mul_le_mul_of_nonneg_right hn1 h0
          rw [Int.one_mul, e] at this
          omega
        · omega
    · exact h y (by simp [hy])
theorem go_next_prod {M : Int} {n s d : Int} {r : List (Int × Int)} (h : Small M ((n, s) :: r)) (hd : 1 ≤ d) (hm : n % d = 0) : prodS ((n, s) :: r) = d * prodS (if n / d = 1 then r else (n / d, s * d) :: r) := by
  have e := Int.mul_ediv_add_emod n d
  rw [hm, Int.add_zero] at e
  by_cases h1 : n / d = 1
  · rw [if_pos h1]; rw [h1, Int.mul_one] at e; simp only [prodS]; rw [e]
  · rw [if_neg h1]; simp only [prodS]; rw [← Int.mul_assoc, e]
theorem go_next_rd {M : Int} {n s d p : Int} {r : List (Int × Int)} (h : Small M ((n, s) :: r)) (hd : 1 ≤ d) (hm : n % d = 0) : rd ((n, s) :: r) p = p % d * s + rd (if n / d = 1 then r else (n / d, s * d) :: r) (p / d) := by
  have e := Int.mul_ediv_add_emod n d
  rw [hm, Int.add_zero] at e
  by_cases h1 : n / d = 1
  · rw [if_pos h1]; rw [h1, Int.mul_one] at e; rw [← e]; rfl
  · rw [if_neg h1]
    have hn := (h (n, s) (by simp)).1
    dsimp only at hn
    have h2 := div_ge hn hd hm h1
    have := rd_join (d := d) (n := n / d) (s := s) (p := p) (r := r) hd (by omega)
    rw [e] at this
    rw [this, Int.mul_comm s d]
    rfl
theorem go_next_canon {n s d : Int} {r : List (Int × Int)} (h : canon ((n, s) :: r)) (hm : n % d = 0) : canon (if n / d = 1 then r else (n / d, s * d) :: r) := by
  have e := Int.mul_ediv_add_emod n d
  rw [hm, Int.add_zero] at e
  by_cases h1 : n / d = 1
  · rw [if_pos h1]; exact canon_tail h
  · rw [if_neg h1]; exact canon_head h (by rw [Int.mul_comm s d, ← Int.mul_assoc, Int.mul_comm (n / d) d, e])
/-- What the new steps read is what the blocks read. -/
theorem go_sound {M : Int} : ∀ {ds : List Int} {st : List (Int × Int)} {ss : List Int}, (∀ d ∈ ds, 1 ≤ d) → Small M st → prodS st = prod ds → go ds st = some ss → ss.length = ds.length ∧ ∀ p, rd (ds.zip ss) p = rd st p
  | [], st, ss, _, hs, hp, hg => by
    simp only [go, Option.some.injEq] at hg
    subst hg
    refine ⟨rfl, fun p => ?_⟩
    cases st with
    | nil => rfl
    | cons y r =>
      have h1 := prodS_ge hs.one y (by simp)
      have h2 := (hs y (by simp)).1
      rw [hp] at h1
      simp [prod] at h1
      omega
  | d :: ds, st, ss, hd, hs, hp, hg => by
    have hd1 := hd d (by simp)
    have hds : ∀ x ∈ ds, 1 ≤ x := fun x hx => hd x (by simp [hx])
    simp only [go] at hg
    by_cases h1 : d = 1
    · subst h1
      rw [if_pos rfl] at hg
      cases hgo : go ds st with
      | none => rw [hgo] at hg; cases hg
      | some tt =>
        rw [hgo] at hg
        simp only [Option.map_some, Option.some.injEq] at hg
        subst hg
        obtain ⟨e1, e2⟩ := go_sound hds hs (by rw [hp]; simp [prod]) hgo
        refine ⟨by simp [e1], fun p => ?_⟩
        rw [List.zip_cons_cons, rd_one, e2]
    · rw [if_neg h1] at hg
      cases st with
      | nil => cases hg
      | cons y r =>
        obtain ⟨n, s⟩ := y
        dsimp only at hg
        by_cases hm : n % d = 0
        · rw [if_pos hm] at hg
          cases hgo : go ds (if n / d = 1 then r else (n / d, s * d) :: r) with
          | none => rw [hgo] at hg; cases hg
          | some tt =>
            rw [hgo] at hg
            simp only [Option.map_some, Option.some.injEq] at hg
            subst hg
            have hpp := go_next_prod hs hd1 hm
            rw [hp] at hpp
            simp only [prod] at hpp
            have hpp' := Int.eq_of_mul_eq_mul_left (by omega) hpp
            obtain ⟨e1, e2⟩ := go_sound hds (go_next_small hs hd1 hm) hpp'.symm hgo
            refine ⟨by simp [e1], fun p => ?_⟩
            rw [List.zip_cons_cons, go_next_rd hs hd1 hm, ← e2]
            rfl
        · rw [if_neg hm] at hg; cases hg
/-- The same but for whole turns of 2 ^ 64. -/
def like (a b : Int) : Prop := (18446744073709551616 : Int) ∣ a - b
theorem like.eq {a b : Int} (h : like a b) (h1 : a - b < 18446744073709551616) (h2 : -18446744073709551616 < a - b) : a = b := by
  obtain ⟨k, hk⟩ := h
  omega
theorem like.sub {a b c d : Int} (h : like a b) (h2 : like c d) : like (a - c) (b - d) := by
  obtain ⟨k, hk⟩ := h
  obtain ⟨m, hm⟩ := h2
  exact ⟨k - m, by omega⟩
/-- If steps of any kind read the same, no block is cut across. -/
theorem go_complete {M : Int} (hM : M ≤ 1152921504606846976) : ∀ {ds : List Int} {st : List (Int × Int)} {ts : List Int}, (∀ d ∈ ds, 1 ≤ d) → Small M st → canon st → prodS st = prod ds → ts.length = ds.length →
    (∀ p, 0 ≤ p → p < prod ds → like (rd (ds.zip ts) p) (rd st p)) → ∃ ss, go ds st = some ss
  | [], st, ts, _, _, _, _, _, _ => ⟨[], rfl⟩
  | d :: ds, st, ts, hd, hs, hc, hp, hl, hr => by
    have hd1 := hd d (by simp)
    have hds : ∀ x ∈ ds, 1 ≤ x := fun x hx => hd x (by simp [hx])
    have hpd := prod_pos ds hds
    obtain ⟨t, ts, rfl⟩ : ∃ t ts', ts = t :: ts' := by
      cases ts with
      | nil => simp at hl
      | cons t ts => exact ⟨t, ts, rfl⟩
    have hl' : ts.length = ds.length := by simpa using hl
    simp only [go]
    by_cases h1 : d = 1
    · subst h1
      obtain ⟨ss, h2⟩ := go_complete hM hds hs hc (by rw [hp]; simp [prod]) hl' (fun p h0 h1 => by
        have := hr p h0 (by simpa [prod] using h1)
        rwa [List.zip_cons_cons, rd_one] at this)
      exact ⟨0 :: ss, by rw [if_pos rfl, h2]; rfl⟩
    · rw [if_neg h1]
      have hd2 : 2 ≤ d := by omega
      have hpp : 2 ≤ prod (d :: ds) := by
        simp only [prod]
        have := Int.mul_le_mul_of_nonneg_left hpd (show 0 ≤ d by omega)
        rw [Int.mul_one] at this
        omega
      cases st with
      | nil => simp only [prodS] at hp; omega
      | cons y r =>
        obtain ⟨n, s⟩ := y
        dsimp only
        obtain ⟨a1, a2, a3, a4, a5, a6⟩ := hs (n, s) (by simp)
        dsimp only at a1 a2 a3 a4 a5 a6
        have hrp := prodS_pos (l := r) (fun x hx => by have := (hs x (by simp [hx])).1; omega)
        have hz : ∀ p, rd ((d :: ds).zip (t :: ts)) p = p % d * t + rd (ds.zip ts) (p / d) := fun p => rfl
        have ht : like t s := by
          have := hr 1 (by omega) (by omega)
          rw [hz] at this
          simp only [rd] at this
          rw [Int.emod_eq_of_lt (by omega) (show 1 < d by omega), Int.emod_eq_of_lt (by omega) (show 1 < n by omega), Int.ediv_eq_zero_of_lt (by omega) (show 1 < d by omega), Int.ediv_eq_zero_of_lt (by omega) (show 1 < n by omega), rd_zero, rd_zero] at this
          simpa using this
        by_cases hm : n % d = 0
        · rw [if_pos hm]
          have hpp2 := go_next_prod hs hd1 hm
          rw [hp] at hpp2
          simp only [prod] at hpp2
          have hpp' := Int.eq_of_mul_eq_mul_left (by omega) hpp2
          obtain ⟨ss, h2⟩ := go_complete hM hds (go_next_small hs hd1 hm) (go_next_canon hc hm) hpp'.symm hl' (fun p h0 h1 => by
            have hpl : p * d < prod (d :: ds) := by
              simp only [prod]
              rw [Int.mul_comm]
              exact Int.mul_lt_mul_of_pos_left h1 (by omega)
            have := hr (p * d) (Int.mul_nonneg h0 (by omega)) hpl
            rw [hz, go_next_rd hs hd1 hm, Int.mul_emod_left, Int.mul_ediv_cancel _ (show d ≠ 0 by omega)] at this
            simpa using this)
          exact ⟨s :: ss, by rw [h2]; rfl⟩
        · exfalso
          cases r with
          | nil =>
            simp only [prodS, prod, Int.mul_one] at hp
            exact hm (by rw [hp]; exact Int.mul_emod_right d (prod ds))
          | cons y r =>
            obtain ⟨m, u⟩ := y
            obtain ⟨b1, b2, b3, b4, b5, b6⟩ := hs (m, u) (by simp)
            dsimp only at b1 b2 b3 b4 b5 b6
            have hmp := prodS_ge (st := (m, u) :: r) (fun x hx => by have := (hs x (by simp only [List.mem_cons] at hx ⊢; exact .inr hx)).1; omega) (m, u) (by simp)
            dsimp only at hmp
            have hn2 : n < prod (d :: ds) := by
              rw [← hp]
              show n < n * prodS ((m, u) :: r)
              have := Int.mul_lt_mul_of_pos_left (show 1 < prodS ((m, u) :: r) by omega) (show 0 < n by omega)
              rw [Int.mul_one] at this
              exact this
            have e1 := Int.mul_ediv_add_emod n d
            have m1 := Int.emod_nonneg n (show d ≠ 0 by omega)
            have m2 := Int.emod_lt_of_pos n (show 0 < d by omega)
            have q1 : (n - 1) / d = n / d := by
              refine (Int.ediv_eq_iff_of_pos (by omega)).2 ⟨?_, ?_⟩
              · rw [Int.mul_comm]; omega
              · rw [Int.mul_comm (n / d) d]; omega
            have q2 : (n - 1) % d = n % d - 1 := by
              have e2 := Int.mul_ediv_add_emod (n - 1) d
              rw [q1] at e2
              omega
            have x1 := hr n (by omega) hn2
            have x2 := hr (n - 1) (by omega) (by omega)
            have x3 := x1.sub x2
            rw [hz, hz, q1, q2] at x3
            simp only [rd] at x3
            rw [Int.emod_self, Int.ediv_self (by omega), Int.emod_eq_of_lt (by omega) (show n - 1 < n by omega), Int.ediv_eq_zero_of_lt (by omega) (show n - 1 < n by omega), Int.emod_eq_of_lt (by omega) (show 1 < m by omega), Int.ediv_eq_zero_of_lt (by omega) (show 1 < m by omega)] at x3
            simp only [Int.zero_ediv, Int.zero_emod, rd_zero] at x3
            have x4 : like t (u - (n - 1) * s) := by
              obtain ⟨k, hk⟩ := x3
              refine ⟨k, ?_⟩
              rw [Int.sub_mul] at hk
              simp at hk
              omega
            have x5 := x4.sub ht
            have x6 : u - n * s = 0 := by
              obtain ⟨k, hk⟩ := x5
              rw [Int.sub_mul] at hk
              rw [Int.one_mul] at hk
              omega
            exact hc.1 (by omega)
end AdjV
