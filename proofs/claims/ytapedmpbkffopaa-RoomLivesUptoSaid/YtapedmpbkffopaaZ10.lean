/-
  Reform, in plain Lean: blocks as numbers of mixed radix, read from behind; Each entry has a place of its own, and each place is that of one entry: in plain Lean; Reform's answer, in plain Lean: by blocks; and by the places that are read; The blocks of a view, dimension by dimension; new steps, from behind, dimension by dimension; What is turned can be turned back; what is flipped twice is as it was; what lies whole can be read in all dimensions that fit: in plain Lean; Plain: which dimensions an operation makes (the document's rules); the dimensions of a graph's nodes; when what they are worth is needed. Conditions: where the theorems name them.
-/
import Derived.Test.YtapedmpbkffopaaZ01
import Derived.Test.YtapedmpbkffopaaZ08
section
namespace AdjV
set_option linter.unusedVariables false
def rd : List (Int × Int) → Int → Int
 | [], _ => 0
 | (n, s) :: r, p => p % n * s + rd r (p / n)
theorem rd_zero : ∀ (l : List (Int × Int)), rd l 0 = 0
 | [] => rfl
 | (n, s) :: r => by simp [rd, rd_zero r]
def prodS : List (Int × Int) → Int
 | [] => 1
 | (n, _) :: r => n * prodS r
theorem prodS_pos : ∀ {l : List (Int × Int)}, (∀ x ∈ l, 1 ≤ x.1) → 1 ≤ prodS l
 | [], _ => by simp [prodS]
 | (n, s) :: r, h => by
  have h1 := h (n, s) (by simp)
  have h2 := prodS_pos (l := r) (fun x hx => h x (by simp [hx]))
  have := Int.mul_le_mul h1 h2 (by omega) (by omega)
  simpa [prodS] using this
theorem mod_mul {p d n : Int} (hd : 1 ≤ d) (hn : 1 ≤ n) : p % (d * n) = p % d + d * (p / d % n) := by
 have e1 := Int.mul_ediv_add_emod p d
 have e2 := Int.mul_ediv_add_emod (p / d) n
 have e3 := Int.mul_ediv_add_emod p (d * n)
 have e4 : p / (d * n) = p / d / n := by rw [Int.ediv_ediv_of_nonneg (by omega)]
 rw [e4] at e3
 have e5 : d * (p / d) = d * n * (p / d / n) + d * (p / d % n) := by
  rw [Int.mul_assoc, ← Int.mul_add, e2]
 omega
theorem rd_join {d n s p : Int} {r : List (Int × Int)} (hd : 1 ≤ d) (hn : 1 ≤ n) : rd ((d * n, s) :: r) p = rd ((d, s) :: (n, d * s) :: r) p := by
 simp only [rd]
 rw [mod_mul hd hn, Int.add_mul, Int.ediv_ediv_of_nonneg (by omega), Int.add_assoc, Int.mul_comm d (p / d % n), Int.mul_assoc]
theorem rd_one (s : Int) (r : List (Int × Int)) (p : Int) : rd ((1, s) :: r) p = rd r p := by simp [rd]
def push (st : List (Int × Int)) (x : Int × Int) : List (Int × Int) :=
 if x.1 = 1 then st else match st with
  | [] => [x]
  | y :: r => if y.2 = x.1 * x.2 then (y.1 * x.1, x.2) :: r else x :: y :: r
theorem rd_push {st : List (Int × Int)} {x : Int × Int} (hx : 1 ≤ x.1) (hst : ∀ y ∈ st, 1 ≤ y.1) (p : Int) : rd (push st x) p = rd (x :: st) p := by
 obtain ⟨d, s⟩ := x
 unfold push
 dsimp only at hx ⊢
 by_cases h : d = 1
 ·subst h; rw [if_pos rfl, rd_one]
 ·rw [if_neg h]
  cases st with
  | nil => rfl
  | cons y r =>
   obtain ⟨n, t⟩ := y
   dsimp only
   by_cases h2 : t = d * s
   ·subst h2
    rw [if_pos rfl, Int.mul_comm n d]
    exact rd_join hx (hst (n, d * s) (by simp))
   ·rw [if_neg h2]
theorem prodS_push {st : List (Int × Int)} {x : Int × Int} : prodS (push st x) = x.1 * prodS st := by
 obtain ⟨d, s⟩ := x
 unfold push
 dsimp only
 by_cases h : d = 1
 ·subst h; simp
 ·rw [if_neg h]
  cases st with
  | nil => rfl
  | cons y r =>
   dsimp only
   by_cases h2 : y.2 = d * s
   ·rw [if_pos h2]; simp only [prodS]; rw [Int.mul_comm y.1 d, Int.mul_assoc]
   ·rw [if_neg h2]; rfl
def canon : List (Int × Int) → Prop
 | (n, s) :: (m, t) :: r => t ≠ n * s ∧ canon ((m, t) :: r)
 | _ => True
theorem canon_tail {x : Int × Int} {r : List (Int × Int)} (h : canon (x :: r)) : canon r := by
 obtain ⟨n, s⟩ := x
 cases r with
 | nil => trivial
 | cons y r => obtain ⟨m, t⟩ := y; exact h.2
theorem canon_head {n s n' s' : Int} {r : List (Int × Int)} (h : canon ((n, s) :: r)) (e : n' * s' = n * s) : canon ((n', s') :: r) := by
 cases r with
 | nil => trivial
 | cons y r => obtain ⟨m, t⟩ := y; exact ⟨by rw [e]; exact h.1, h.2⟩
theorem canon_push {st : List (Int × Int)} {x : Int × Int} (h : canon st) : canon (push st x) := by
 obtain ⟨d, s⟩ := x
 unfold push
 dsimp only
 by_cases h1 : d = 1
 ·rw [if_pos h1]; exact h
 ·rw [if_neg h1]
  cases st with
  | nil => trivial
  | cons y r =>
   obtain ⟨n, t⟩ := y
   dsimp only
   by_cases h2 : t = d * s
   ·rw [if_pos h2]; exact canon_head h (by rw [h2, Int.mul_assoc])
   ·rw [if_neg h2]; exact ⟨h2, h⟩
def Small (M : Int) (st : List (Int × Int)) : Prop := ∀ y ∈ st, 2 ≤ y.1 ∧ y.1 ≤ 65536 ∧ -M ≤ y.2 ∧ y.2 ≤ M ∧ -M ≤ y.1 * y.2 ∧ y.1 * y.2 ≤ M
theorem Small.one {M : Int} {st : List (Int × Int)} (h : Small M st) : ∀ y ∈ st, 1 ≤ y.1 := fun y hy => by have := (h y hy).1; omega
theorem prodS_ge {st : List (Int × Int)} (h : ∀ y ∈ st, 1 ≤ y.1) : ∀ y ∈ st, y.1 ≤ prodS st := by
 induction st with
 | nil => simp
 | cons z r ih =>
  intro y hy
  have hp := prodS_pos (l := r) (fun x hx => h x (by simp [hx]))
  have hz := h z (by simp)
  simp only [prodS]
  rcases List.mem_cons.1 hy with rfl | hy
  ·have := Int.mul_le_mul_of_nonneg_left hp (show 0 ≤ y.1 by omega)
   rw [Int.mul_one] at this
   exact this
  ·have h1 := ih (fun x hx => h x (by simp [hx])) y hy
   have := Int.mul_le_mul_of_nonneg_right hz (show 0 ≤ prodS r by omega)
   rw [Int.one_mul] at this
   omega
def go : List Int → List (Int × Int) → Option (List Int)
 | [], _ => some []
 | d :: ds, st => if d = 1 then (go ds st).map (0 :: ·) else match st with
  | [] => none
  | (n, s) :: r => if n % d = 0 then (go ds (if n / d = 1 then r else (n / d, s * d) :: r)).map (s :: ·) else none
theorem div_ge {n d : Int} (hn : 2 ≤ n) (hd : 1 ≤ d) (h : n % d = 0) (h1 : n / d ≠ 1) : 2 ≤ n / d ∧ n = n / d * d ∧ n / d ≤ n := by
 have e := Int.mul_ediv_add_emod n d
 have h0 : 0 ≤ n / d := Int.ediv_nonneg (by omega) (by omega)
 have h2 : n / d ≠ 0 := fun e0 => by rw [e0, Int.mul_zero] at e; omega
 exact ⟨by omega, by rw [Int.mul_comm]; omega, Int.ediv_le_self _ (by omega)⟩
theorem go_next_small {M : Int} {n s d : Int} {r : List (Int × Int)} (h : Small M ((n, s) :: r)) (hd : 1 ≤ d) (hm : n % d = 0) : Small M (if n / d = 1 then r else (n / d, s * d) :: r) := by
 by_cases h1 : n / d = 1
 ·rw [if_pos h1]; exact fun y hy => h y (by simp [hy])
 ·rw [if_neg h1]
  intro y hy
  rcases List.mem_cons.1 hy with rfl | hy
  ·obtain ⟨a1, a2, a3, a4, a5, a6⟩ := h (n, s) (by simp)
   dsimp only at a1 a2 a3 a4 a5 a6 ⊢
   obtain ⟨b1, b2, b3⟩ := div_ge a1 hd hm h1
   have e : n / d * (s * d) = n * s := by rw [Int.mul_comm s d, ← Int.mul_assoc, ← b2]
   have hn1 : 1 ≤ n / d := by omega
   refine ⟨b1, by omega, ?_, ?_, by omega, by omega⟩
   ·rcases Int.le_total 0 (s * d) with h0 | h0
    ·omega
    ·have := Int.mul_le_mul_of_nonpos_right hn1 h0
     rw [Int.one_mul, e] at this
     omega
   ·rcases Int.le_total 0 (s * d) with h0 | h0
    ·have := Int.mul_le_mul_of_nonneg_right hn1 h0
     rw [Int.one_mul, e] at this
     omega
    ·omega
  ·exact h y (by simp [hy])
theorem go_next_prod {M : Int} {n s d : Int} {r : List (Int × Int)} (h : Small M ((n, s) :: r)) (hd : 1 ≤ d) (hm : n % d = 0) : prodS ((n, s) :: r) = d * prodS (if n / d = 1 then r else (n / d, s * d) :: r) := by
 have e := Int.mul_ediv_add_emod n d
 rw [hm, Int.add_zero] at e
 by_cases h1 : n / d = 1
 ·rw [if_pos h1]; rw [h1, Int.mul_one] at e; simp only [prodS]; rw [e]
 ·rw [if_neg h1]; simp only [prodS]; rw [← Int.mul_assoc, e]
theorem go_next_rd {M : Int} {n s d p : Int} {r : List (Int × Int)} (h : Small M ((n, s) :: r)) (hd : 1 ≤ d) (hm : n % d = 0) : rd ((n, s) :: r) p = p % d * s + rd (if n / d = 1 then r else (n / d, s * d) :: r) (p / d) := by
 have e := Int.mul_ediv_add_emod n d
 rw [hm, Int.add_zero] at e
 by_cases h1 : n / d = 1
 ·rw [if_pos h1]; rw [h1, Int.mul_one] at e; rw [← e]; rfl
 ·rw [if_neg h1]
  have hn := (h (n, s) (by simp)).1
  dsimp only at hn
  have h2 := div_ge hn hd hm h1
  have := rd_join (d := d) (n := n / d) (s := s) (p := p) (r := r) hd (by omega)
  rw [e] at this
  rw [this, Int.mul_comm s d]
  rfl
theorem go_next_canon {n s d : Int} {r : List (Int × Int)} (h : canon ((n, s) :: r)) (hm : n % d = 0) : canon (if n / d = 1 then r else (n / d, s * d) :: r) := by
 have e := Int.mul_ediv_add_emod n d
 rw [hm, Int.add_zero] at e
 by_cases h1 : n / d = 1
 ·rw [if_pos h1]; exact canon_tail h
 ·rw [if_neg h1]; exact canon_head h (by rw [Int.mul_comm s d, ← Int.mul_assoc, Int.mul_comm (n / d) d, e])
theorem go_sound {M : Int} : ∀ {ds : List Int} {st : List (Int × Int)} {ss : List Int}, (∀ d ∈ ds, 1 ≤ d) → Small M st → prodS st = prod ds → go ds st = some ss → ss.length = ds.length ∧ ∀ p, rd (ds.zip ss) p = rd st p
 | [], st, ss, _, hs, hp, hg => by
  simp only [go, Option.some.injEq] at hg
  subst hg
  refine ⟨rfl, fun p => ?_⟩
  cases st with
  | nil => rfl
  | cons y r =>
   have h1 := prodS_ge hs.one y (by simp)
   have h2 := (hs y (by simp)).1
   rw [hp] at h1
   simp [prod] at h1
   omega
 | d :: ds, st, ss, hd, hs, hp, hg => by
  have hd1 := hd d (by simp)
  have hds : ∀ x ∈ ds, 1 ≤ x := fun x hx => hd x (by simp [hx])
  simp only [go] at hg
  by_cases h1 : d = 1
  ·subst h1
   rw [if_pos rfl] at hg
   cases hgo : go ds st with
   | none => rw [hgo] at hg; cases hg
   | some tt =>
    rw [hgo] at hg
    simp only [Option.map_some, Option.some.injEq] at hg
    subst hg
    obtain ⟨e1, e2⟩ := go_sound hds hs (by rw [hp]; simp [prod]) hgo
    refine ⟨by simp [e1], fun p => ?_⟩
    rw [List.zip_cons_cons, rd_one, e2]
  ·rw [if_neg h1] at hg
   cases st with
   | nil => cases hg
   | cons y r =>
    obtain ⟨n, s⟩ := y
    dsimp only at hg
    by_cases hm : n % d = 0
    ·rw [if_pos hm] at hg
     cases hgo : go ds (if n / d = 1 then r else (n / d, s * d) :: r) with
     | none => rw [hgo] at hg; cases hg
     | some tt =>
      rw [hgo] at hg
      simp only [Option.map_some, Option.some.injEq] at hg
      subst hg
      have hpp := go_next_prod hs hd1 hm
      rw [hp] at hpp
      simp only [prod] at hpp
      have hpp' := Int.eq_of_mul_eq_mul_left (by omega) hpp
      obtain ⟨e1, e2⟩ := go_sound hds (go_next_small hs hd1 hm) hpp'.symm hgo
      refine ⟨by simp [e1], fun p => ?_⟩
      rw [List.zip_cons_cons, go_next_rd hs hd1 hm, ← e2]
      rfl
    ·rw [if_neg hm] at hg; cases hg
def like (a b : Int) : Prop := (18446744073709551616 : Int) ∣ a - b
theorem like.sub {a b c d : Int} (h : like a b) (h2 : like c d) : like (a - c) (b - d) := by
 obtain ⟨k, hk⟩ := h
 obtain ⟨m, hm⟩ := h2
 exact ⟨k - m, by omega⟩
theorem go_complete {M : Int} (hM : M ≤ 1152921504606846976) : ∀ {ds : List Int} {st : List (Int × Int)} {ts : List Int}, (∀ d ∈ ds, 1 ≤ d) → Small M st → canon st → prodS st = prod ds → ts.length = ds.length →
    (∀ p, 0 ≤ p → p < prod ds → like (rd (ds.zip ts) p) (rd st p)) → ∃ ss, go ds st = some ss
 | [], st, ts, _, _, _, _, _, _ => ⟨[], rfl⟩
 | d :: ds, st, ts, hd, hs, hc, hp, hl, hr => by
  have hd1 := hd d (by simp)
  have hds : ∀ x ∈ ds, 1 ≤ x := fun x hx => hd x (by simp [hx])
  have hpd := prod_pos ds hds
  obtain ⟨t, ts, rfl⟩ : ∃ t ts', ts = t :: ts' := by
   cases ts with
   | nil => simp at hl
   | cons t ts => exact ⟨t, ts, rfl⟩
  have hl' : ts.length = ds.length := by simpa using hl
  simp only [go]
  by_cases h1 : d = 1
  ·subst h1
   obtain ⟨ss, h2⟩ := go_complete hM hds hs hc (by rw [hp]; simp [prod]) hl' (fun p h0 h1 => by
    have := hr p h0 (by simpa [prod] using h1)
    rwa [List.zip_cons_cons, rd_one] at this)
   exact ⟨0 :: ss, by rw [if_pos rfl, h2]; rfl⟩
  ·rw [if_neg h1]
   have hd2 : 2 ≤ d := by omega
   have hpp : 2 ≤ prod (d :: ds) := by
    simp only [prod]
    have := Int.mul_le_mul_of_nonneg_left hpd (show 0 ≤ d by omega)
    rw [Int.mul_one] at this
    omega
   cases st with
   | nil => simp only [prodS] at hp; omega
   | cons y r =>
    obtain ⟨n, s⟩ := y
    dsimp only
    obtain ⟨a1, a2, a3, a4, a5, a6⟩ := hs (n, s) (by simp)
    dsimp only at a1 a2 a3 a4 a5 a6
    have hrp := prodS_pos (l := r) (fun x hx => by have := (hs x (by simp [hx])).1; omega)
    have hz : ∀ p, rd ((d :: ds).zip (t :: ts)) p = p % d * t + rd (ds.zip ts) (p / d) := fun p => rfl
    have ht : like t s := by
     have := hr 1 (by omega) (by omega)
     rw [hz] at this
     simp only [rd] at this
     rw [Int.emod_eq_of_lt (by omega) (show 1 < d by omega), Int.emod_eq_of_lt (by omega) (show 1 < n by omega), Int.ediv_eq_zero_of_lt (by omega) (show 1 < d by omega), Int.ediv_eq_zero_of_lt (by omega) (show 1 < n by omega), rd_zero, rd_zero] at this
     simpa using this
    by_cases hm : n % d = 0
    ·rw [if_pos hm]
     have hpp2 := go_next_prod hs hd1 hm
     rw [hp] at hpp2
     simp only [prod] at hpp2
     have hpp' := Int.eq_of_mul_eq_mul_left (by omega) hpp2
     obtain ⟨ss, h2⟩ := go_complete hM hds (go_next_small hs hd1 hm) (go_next_canon hc hm) hpp'.symm hl' (fun p h0 h1 => by
      have hpl : p * d < prod (d :: ds) := by
       simp only [prod]
       rw [Int.mul_comm]
       exact Int.mul_lt_mul_of_pos_left h1 (by omega)
      have := hr (p * d) (Int.mul_nonneg h0 (by omega)) hpl
      rw [hz, go_next_rd hs hd1 hm, Int.mul_emod_left, Int.mul_ediv_cancel _ (show d ≠ 0 by omega)] at this
      simpa using this)
     exact ⟨s :: ss, by rw [h2]; rfl⟩
    ·exfalso
     cases r with
     | nil =>
      simp only [prodS, prod, Int.mul_one] at hp
      exact hm (by rw [hp]; exact Int.mul_emod_right d (prod ds))
     | cons y r =>
      obtain ⟨m, u⟩ := y
      obtain ⟨b1, b2, b3, b4, b5, b6⟩ := hs (m, u) (by simp)
      dsimp only at b1 b2 b3 b4 b5 b6
      have hmp := prodS_ge (st := (m, u) :: r) (fun x hx => by have := (hs x (by simp only [List.mem_cons] at hx ⊢; exact .inr hx)).1; omega) (m, u) (by simp)
      dsimp only at hmp
      have hn2 : n < prod (d :: ds) := by
       rw [← hp]
       show n < n * prodS ((m, u) :: r)
       have := Int.mul_lt_mul_of_pos_left (show 1 < prodS ((m, u) :: r) by omega) (show 0 < n by omega)
       rw [Int.mul_one] at this
       exact this
      have e1 := Int.mul_ediv_add_emod n d
      have m1 := Int.emod_nonneg n (show d ≠ 0 by omega)
      have m2 := Int.emod_lt_of_pos n (show 0 < d by omega)
      have q1 : (n - 1) / d = n / d := by
       refine (Int.ediv_eq_iff_of_pos (by omega)).2 ⟨?_, ?_⟩
       ·rw [Int.mul_comm]; omega
       ·rw [Int.mul_comm (n / d) d]; omega
      have q2 : (n - 1) % d = n % d - 1 := by
       have e2 := Int.mul_ediv_add_emod (n - 1) d
       rw [q1] at e2
       omega
      have x1 := hr n (by omega) hn2
      have x2 := hr (n - 1) (by omega) (by omega)
      have x3 := x1.sub x2
      rw [hz, hz, q1, q2] at x3
      simp only [rd] at x3
      rw [Int.emod_self, Int.ediv_self (by omega), Int.emod_eq_of_lt (by omega) (show n - 1 < n by omega), Int.ediv_eq_zero_of_lt (by omega) (show n - 1 < n by omega), Int.emod_eq_of_lt (by omega) (show 1 < m by omega), Int.ediv_eq_zero_of_lt (by omega) (show 1 < m by omega)] at x3
      simp only [Int.zero_ediv, Int.zero_emod, rd_zero] at x3
      have x4 : like t (u - (n - 1) * s) := by
       obtain ⟨k, hk⟩ := x3
       refine ⟨k, ?_⟩
       rw [Int.sub_mul] at hk
       simp at hk
       omega
      have x5 := x4.sub ht
      have x6 : u - n * s = 0 := by
       obtain ⟨k, hk⟩ := x5
       rw [Int.sub_mul] at hk
       rw [Int.one_mul] at hk
       omega
      exact hc.1 (by omega)
end AdjV
end
section
namespace AdjV
set_option linter.unusedVariables false
theorem idx_cons (d : Int) (l : List Int) (p : Int) : idx (d :: l) p = p / prod l % d :: idx l p := by
 unfold idx
 simp only [List.length_cons, List.range_succ_eq_map, List.map_cons, List.map_map]
 congr 1
theorem plc_idx : ∀ (l : List Int), (∀ d ∈ l, 1 ≤ d) → ∀ p : Int, 0 ≤ p → inside l (idx l p) = true ∧ plc l (idx l p) = p % prod l
 | [], _, p, _ => by simp [idx, inside, plc, prod]
 | d :: l, h, p, hp => by
  have hd := h d (by simp)
  have hl : ∀ x ∈ l, 1 ≤ x := fun x hx => h x (by simp [hx])
  have hP := prod_pos l hl
  obtain ⟨i1, i2⟩ := plc_idx l hl p hp
  rw [idx_cons]
  have a1 : 0 ≤ p / prod l % d := Int.emod_nonneg _ (by omega)
  have a2 : p / prod l % d < d := Int.emod_lt_of_pos _ (by omega)
  refine ⟨by simp only [inside, i1, Bool.and_true, Bool.and_eq_true, decide_eq_true_iff]; exact ⟨a1, a2⟩, ?_⟩
  simp only [plc, prod, i2]
  have e1 := Int.emod_add_mul_ediv p (prod l)
  have e2 := Int.emod_add_mul_ediv (p / prod l) d
  have r1 : 0 ≤ p % prod l := Int.emod_nonneg _ (by omega)
  have r2 : p % prod l < prod l := Int.emod_lt_of_pos _ (by omega)
  generalize p % prod l = r at *
  generalize p / prod l / d = q2 at *
  generalize hx : p / prod l % d = x at *
  generalize p / prod l = q at *
  have e3 : p = (x * prod l + r) + (d * prod l) * q2 := by
   rw [← e1, ← e2]
   rw [Int.mul_add, Int.mul_comm (prod l) x, ← Int.mul_assoc (prod l) d q2, Int.mul_comm (prod l) d]
   omega
  have b1 : 0 ≤ x * prod l := Int.mul_nonneg a1 (by omega)
  have b2 : (x + 1) * prod l ≤ d * prod l := Int.mul_le_mul_of_nonneg_right (by omega) (by omega)
  rw [Int.add_mul, Int.one_mul] at b2
  rw [e3, Int.add_mul_emod_self_left, Int.emod_eq_of_lt (by omega) (by omega)]
end AdjV
end
section
namespace AdjV
set_option linter.unusedVariables false
def w64 (n : Int) : Int := (n + 9223372036854775808) % 18446744073709551616 - 9223372036854775808
theorem w64_in {a : Int} (h : -9223372036854775808 ≤ a ∧ a ≤ 9223372036854775807) : w64 a = a := by unfold w64; omega
theorem w64_like (a : Int) : like (w64 a) a := by
 unfold w64 like
 refine ⟨-((a + 9223372036854775808) / 18446744073709551616), ?_⟩
 omega
theorem prod_reverse : ∀ (l : List Int), prod l.reverse = prod l
 | [] => rfl
 | d :: l => by rw [List.reverse_cons, prod_snoc, prod_reverse l]; simp only [prod]; rw [Int.mul_comm]
theorem idx_snoc {l : List Int} (hl : ∀ d ∈ l, 1 ≤ d) {d p : Int} (hd : 1 ≤ d) : idx (l ++ [d]) p = idx l (p / d) ++ [p % d] := by
 induction l with
 | nil => simp [idx, prod]
 | cons e l ih =>
  rw [List.cons_append, idx_cons, idx_cons, ih (fun x hx => hl x (by simp [hx])), prod_snoc, List.cons_append]
  rw [Int.ediv_ediv_of_nonneg (by omega), Int.mul_comm (prod l) d]
theorem rd_dot : ∀ (r : List (Int × Int)), (∀ x ∈ r, 1 ≤ x.1) → ∀ p, rd r p = dot (idx (r.reverse.map (·.1)) p) (r.reverse.map (·.2))
 | [], _, p => by simp [rd, dot, idx]
 | (n, s) :: r, h, p => by
  have hr : ∀ x ∈ r, 1 ≤ x.1 := fun x hx => h x (by simp [hx])
  have ih := rd_dot r hr (p / n)
  have hn := h (n, s) (by simp)
  rw [List.reverse_cons, List.map_append, List.map_append, List.map_singleton, List.map_singleton]
  rw [idx_snoc (fun d hd => by
   obtain ⟨x, hx, rfl⟩ := List.mem_map.1 hd
   exact hr x (List.mem_reverse.1 hx)) hn, dot_snoc _ _ _ _ (by rw [idx_length]; simp), ← ih]
  simp only [rd]
  omega
theorem rd_append {B B' : List (Int × Int)} (h : ∀ p, rd B p = rd B' p) : ∀ (A : List (Int × Int)) (p : Int), rd (A ++ B) p = rd (A ++ B') p
 | [], p => h p
 | (n, s) :: A, p => by simp only [List.cons_append, rd, rd_append h A]
theorem push_one {st : List (Int × Int)} {x : Int × Int} (hx : 1 ≤ x.1) (h : ∀ y ∈ st, 1 ≤ y.1) : ∀ y ∈ push st x, 1 ≤ y.1 := by
 unfold push
 by_cases h1 : x.1 = 1
 ·rw [if_pos h1]; exact h
 ·rw [if_neg h1]
  cases st with
  | nil => intro y hy; simp at hy; subst hy; exact hx
  | cons z r =>
   dsimp only
   by_cases h2 : z.2 = x.1 * x.2
   ·rw [if_pos h2]
    intro y hy
    rcases List.mem_cons.1 hy with rfl | hy
    ·have := Int.mul_le_mul (h z (by simp)) hx (by omega) (by have := h z (by simp); omega)
     simpa using this
    ·exact h y (by simp [hy])
   ·rw [if_neg h2]
    intro y hy
    rcases List.mem_cons.1 hy with rfl | hy
    ·exact hx
    ·exact h y hy
theorem rd_pushAll : ∀ (L acc : List (Int × Int)), (∀ x ∈ L, 1 ≤ x.1) → (∀ x ∈ acc, 1 ≤ x.1) → ∀ p, rd (L.foldl push acc) p = rd (L.reverse ++ acc) p
 | [], acc, _, _, p => by simp
 | x :: L, acc, h, ha, p => by
  have hx := h x (by simp)
  rw [List.foldl_cons, rd_pushAll L (push acc x) (fun y hy => h y (by simp [hy])) (push_one hx ha) p, List.reverse_cons, List.append_assoc]
  exact rd_append (fun q => rd_push hx ha q) L.reverse p
theorem prodS_pushAll : ∀ (L acc : List (Int × Int)), prodS (L.foldl push acc) = prod (L.map (·.1)) * prodS acc
 | [], acc => by simp [prod]
 | x :: L, acc => by
  rw [List.foldl_cons, prodS_pushAll L, prodS_push, List.map_cons]
  simp only [prod]
  rw [← Int.mul_assoc, Int.mul_comm (prod _) x.1]
def Near (st : List (Int × Int)) : Prop := ∀ y ∈ st, 2 ≤ y.1 ∧ -1099511627776 ≤ y.2 ∧ y.2 ≤ 1099511627776
theorem near_push {st : List (Int × Int)} {x : Int × Int} (h1 : 1 ≤ x.1) (h2 : -1099511627776 ≤ x.2 ∧ x.2 ≤ 1099511627776) (h : Near st) : Near (push st x) := by
 unfold push
 by_cases e : x.1 = 1
 ·rw [if_pos e]; exact h
 ·rw [if_neg e]
  cases st with
  | nil => intro y hy; simp at hy; subst hy; exact ⟨by omega, h2⟩
  | cons z r =>
   have hz := h z (by simp)
   dsimp only
   by_cases e2 : z.2 = x.1 * x.2
   ·rw [if_pos e2]
    intro y hy
    rcases List.mem_cons.1 hy with rfl | hy
    ·have := Int.mul_le_mul hz.1 h1 (by omega) (by omega)
     exact ⟨by simpa using this, h2⟩
    ·exact h y (by simp [hy])
   ·rw [if_neg e2]
    intro y hy
    rcases List.mem_cons.1 hy with rfl | hy
    ·exact ⟨by omega, h2⟩
    ·exact h y hy
theorem near_pushAll : ∀ (L acc : List (Int × Int)), (∀ x ∈ L, 1 ≤ x.1 ∧ -1099511627776 ≤ x.2 ∧ x.2 ≤ 1099511627776) → Near acc → Near (L.foldl push acc)
 | [], acc, _, h => h
 | x :: L, acc, hL, h => near_pushAll L _ (fun y hy => hL y (by simp [hy])) (near_push (hL x (by simp)).1 (hL x (by simp)).2 h)
theorem canon_pushAll : ∀ (L acc : List (Int × Int)), canon acc → canon (L.foldl push acc)
 | [], acc, h => h
 | x :: L, acc, h => canon_pushAll L _ (canon_push h)
theorem small_of_near {st : List (Int × Int)} (h : Near st) (hp : prodS st ≤ 65536) : Small 72057594037927936 st := by
 intro y hy
 obtain ⟨a, b, c⟩ := h y hy
 have h1 := prodS_ge (st := st) (fun z hz => by have := (h z hz).1; omega) y hy
 have := mul_abs (a := y.1) (b := y.2) (x := 65536) (y := 1099511627776) (by omega) (by omega) b c (by omega)
 exact ⟨a, by omega, by omega, by omega, by omega, by omega⟩
def blocks (v : V) : List (Int × Int) := (v.dims.zip v.steps).foldl push []
theorem zip_fst : ∀ {l m : List Int}, l.length = m.length → (l.zip m).map (·.1) = l
 | [], [], _ => rfl
 | d :: l, s :: m, h => by simp [zip_fst (l := l) (m := m) (by simpa using h)]
 | [], _ :: _, h => by simp at h
 | _ :: _, [], h => by simp at h
theorem zip_snd : ∀ {l m : List Int}, l.length = m.length → (l.zip m).map (·.2) = m
 | [], [], _ => rfl
 | d :: l, s :: m, h => by simp [zip_snd (l := l) (m := m) (by simpa using h)]
 | [], _ :: _, h => by simp at h
 | _ :: _, [], h => by simp at h
theorem blocks_fine {v : V} (h : wrong v = 0) (hp : 0 < prod v.dims) : (∀ p, rd (blocks v) p = dot (idx v.dims p) v.steps) ∧ prodS (blocks v) = prod v.dims ∧ canon (blocks v) ∧ Small 72057594037927936 (blocks v) := by
 obtain ⟨z1, z2, z3, z4⟩ := wrong_fine h
 have hpos := no_zero_of_pos z1 hp
 have hL : ∀ x ∈ v.dims.zip v.steps, 1 ≤ x.1 ∧ -1099511627776 ≤ x.2 ∧ x.2 ≤ 1099511627776 := fun x hx => by
  obtain ⟨a, b⟩ := x
  have := List.of_mem_zip hx
  exact ⟨hpos a this.1, z4 b this.2⟩
 have hps : prodS (blocks v) = prod v.dims := by
  unfold blocks
  rw [prodS_pushAll, zip_fst z2.symm]; simp [prodS]
 refine ⟨fun p => ?_, hps, canon_pushAll _ _ trivial, small_of_near (near_pushAll _ _ hL (fun y hy => by simp at hy)) (by rw [hps]; exact (size_fine z1).2.2.2.2)⟩
 unfold blocks
 rw [rd_pushAll _ _ (fun x hx => (hL x hx).1) (fun y hy => by simp at hy), List.append_nil, rd_dot _ (fun x hx => (hL x (List.mem_reverse.1 hx)).1), List.reverse_reverse, zip_fst z2.symm, zip_snd z2.symm]
def at_ (v : V) (p : Int) : Int := v.st + dot (idx v.dims p) v.steps
def offs (v : V) (dims : List Int) : List Int := (List.range dims.length).map fun k => if 1 < dims.getD k 0 then at_ v (prod (dims.drop (k + 1))) - at_ v 0 else 0
theorem offs_length (v : V) (dims : List Int) : (offs v dims).length = dims.length := by simp [offs]
theorem offs_at (v : V) (dims : List Int) (k : Nat) (h : k < (offs v dims).length) : (offs v dims)[k] = if 1 < dims.getD k 0 then at_ v (prod (dims.drop (k + 1))) - at_ v 0 else 0 := by simp [offs]
theorem rd_unit : ∀ (ds ss : List Int), (∀ d ∈ ds, 1 ≤ d) → ss.length = ds.length → ∀ (j : Nat) (h : j < ds.length) (h2 : j < ss.length), 1 < ds[j] → rd (ds.zip ss) (prod (ds.take j)) = ss[j]
 | d :: ds, s :: ss, hd, hl, 0, _, _, h1 => by
  simp only [List.getElem_cons_zero] at h1
  simp only [List.zip_cons_cons, List.take_zero, prod, rd, List.getElem_cons_zero]
  rw [Int.emod_eq_of_lt (by omega) h1, Int.ediv_eq_zero_of_lt (by omega) h1, rd_zero]; omega
 | d :: ds, s :: ss, hd, hl, j + 1, h, h2, h1 => by
  have hd1 := hd d (by simp)
  have ih := rd_unit ds ss (fun x hx => hd x (by simp [hx])) (by simpa using hl) j (by simpa using h) (by simpa using h2) (by simpa using h1)
  simp only [List.zip_cons_cons, List.take_succ_cons, prod, rd, List.getElem_cons_succ]
  rw [Int.mul_emod_right, Int.mul_ediv_cancel_left _ (show d ≠ 0 by omega), ih]; omega
 | [], _, _, _, _, h, _, _ => by simp at h
 | _ :: _, [], _, hl, _, _, _, _ => by simp at hl
theorem go_ones : ∀ {ds : List Int} {st : List (Int × Int)} {ss : List Int}, go ds st = some ss → ∀ (j : Nat) (h : j < ds.length) (h2 : j < ss.length), ds[j] = 1 → ss[j] = 0
 | [], _, _, _, _, h, _, _ => by simp at h
 | d :: ds, st, ss, hg, j, h, h2, h1 => by
  simp only [go] at hg
  by_cases e : d = 1
  ·rw [if_pos e] at hg
   cases hgo : go ds st with
   | none => rw [hgo] at hg; cases hg
   | some tt =>
    rw [hgo] at hg
    simp only [Option.map_some, Option.some.injEq] at hg
    subst hg
    cases j with
    | zero => rfl
    | succ j => simpa using go_ones hgo j (by simpa using h) (by simpa using h2) (by simpa using h1)
  ·rw [if_neg e] at hg
   cases st with
   | nil => cases hg
   | cons y r =>
    obtain ⟨n, s⟩ := y
    dsimp only at hg
    by_cases hm : n % d = 0
    ·rw [if_pos hm] at hg
     cases hgo : go ds (if n / d = 1 then r else (n / d, s * d) :: r) with
     | none => rw [hgo] at hg; cases hg
     | some tt =>
      rw [hgo] at hg
      simp only [Option.map_some, Option.some.injEq] at hg
      subst hg
      cases j with
      | zero => exact absurd (by simpa using h1) e
      | succ j => simpa using go_ones hgo j (by simpa using h) (by simpa using h2) (by simpa using h1)
    ·rw [if_neg hm] at hg; cases hg
def reform (v : V) (dims : List Int) : V × Int :=
 if wrong v ≠ 0 then (none_, wrong v) else if (size dims).2 ≠ 0 then (none_, (size dims).2) else if (size v.dims).1 ≠ (size dims).1 then (none_, 6)
 else if (size dims).1 = 0 then (⟨v.st, dims, List.replicate dims.length 0⟩, 0)
 else match go dims.reverse (blocks v) with
  | none => (none_, 9)
  | some ss => made ⟨v.st, dims, ss.reverse⟩
section
variable {v : V} {dims : List Int}
theorem reform_wrong (h : wrong v ≠ 0) : reform v dims = (none_, wrong v) := if_pos h
theorem reform_size (h : wrong v = 0) (h2 : (size dims).2 ≠ 0) : reform v dims = (none_, (size dims).2) := by unfold reform; rw [if_neg (by simp [h]), if_pos h2]
theorem reform_shape (h : wrong v = 0) (h2 : (size dims).2 = 0) (h3 : (size v.dims).1 ≠ (size dims).1) : reform v dims = (none_, 6) := by unfold reform; rw [if_neg (by simp [h]), if_neg (by simp [h2]), if_pos h3]
theorem reform_empty (h : wrong v = 0) (h2 : (size dims).2 = 0) (h3 : (size v.dims).1 = (size dims).1) (h4 : (size dims).1 = 0) : reform v dims = (⟨v.st, dims, List.replicate dims.length 0⟩, 0) := by
 unfold reform; rw [if_neg (by simp [h]), if_neg (by simp [h2]), if_neg (by simp [h3]), if_pos h4]
theorem reform_none (h : wrong v = 0) (h2 : (size dims).2 = 0) (h3 : (size v.dims).1 = (size dims).1) (h4 : (size dims).1 ≠ 0) (h5 : go dims.reverse (blocks v) = none) : reform v dims = (none_, 9) := by
 unfold reform; rw [if_neg (by simp [h]), if_neg (by simp [h2]), if_neg (by simp [h3]), if_neg h4, h5]
theorem reform_some {ss : List Int} (h : wrong v = 0) (h2 : (size dims).2 = 0) (h3 : (size v.dims).1 = (size dims).1) (h4 : (size dims).1 ≠ 0) (h5 : go dims.reverse (blocks v) = some ss) : reform v dims = made ⟨v.st, dims, ss.reverse⟩ := by
 unfold reform; rw [if_neg (by simp [h]), if_neg (by simp [h2]), if_neg (by simp [h3]), if_neg h4, h5]
theorem reform_fine (h : wrong v = 0) (h2 : (size dims).2 = 0) (h3 : (size v.dims).1 = (size dims).1) (h4 : (size dims).1 ≠ 0) : prod v.dims = prod dims ∧ 1 ≤ prod dims ∧ prod dims ≤ 65536 ∧ (∀ d ∈ v.dims, 1 ≤ d) ∧ ∀ d ∈ dims, 1 ≤ d := by
 obtain ⟨z1, z2, z3, z4⟩ := wrong_fine h
 obtain ⟨a1, a2, a3, a4, a5⟩ := size_fine z1
 obtain ⟨b1, b2, b3, b4, b5⟩ := size_fine h2
 exact ⟨by omega, by omega, by omega, no_zero_of_pos z1 (by omega), no_zero_of_pos h2 (by omega)⟩
theorem reverse_one (h : ∀ d ∈ dims, 1 ≤ d) : ∀ d ∈ dims.reverse, 1 ≤ d := fun d hd => h d (List.mem_reverse.1 hd)
theorem zip_rev : ∀ {l m : List Int}, l.length = m.length → l.reverse.zip m.reverse = (l.zip m).reverse
 | [], [], _ => rfl
 | d :: l, s :: m, h => by
  have hl : l.length = m.length := by simpa using h
  rw [List.reverse_cons, List.reverse_cons, List.zip_append (by simpa using hl), zip_rev hl]
  simp
 | [], _ :: _, h => by simp at h
 | _ :: _, [], h => by simp at h
theorem rd_offs {ts : List Int} (hl : ts.length = dims.length) (hd : ∀ d ∈ dims, 1 ≤ d) (p : Int) : rd (dims.reverse.zip ts.reverse) p = dot (idx dims p) ts := by
 have e : dims.reverse.zip ts.reverse = (dims.zip ts).reverse := zip_rev hl.symm
 rw [e, rd_dot _ (fun x hx => by
  obtain ⟨a, b⟩ := x
  have := List.of_mem_zip (List.mem_reverse.1 hx)
  exact hd a this.1), List.reverse_reverse, zip_fst hl.symm, zip_snd hl.symm]
theorem reform_yes {ss : List Int} (h : wrong v = 0) (h2 : (size dims).2 = 0) (h3 : (size v.dims).1 = (size dims).1) (h4 : (size dims).1 ≠ 0) (h5 : go dims.reverse (blocks v) = some ss) :
    offs v dims = ss.reverse ∧ ∀ p, v.st + dot (idx dims p) (offs v dims) = at_ v p := by
 obtain ⟨f1, f2, f3, f4, f5⟩ := reform_fine h h2 h3 h4
 obtain ⟨b1, b2, b3, b4⟩ := blocks_fine h (by omega)
 have hrev := reverse_one f5
 obtain ⟨g1, g2⟩ := go_sound hrev b4 (by rw [b2, prod_reverse, f1]) h5
 rw [List.length_reverse] at g1
 have e : offs v dims = ss.reverse := by
  apply List.ext_getElem
  ·rw [offs_length, List.length_reverse, g1]
  ·intro k k1 k2
   rw [offs_length] at k1
   have hk : dims.getD k 0 = dims[k] := getD_at dims k k1
   have hj : dims.length - 1 - k < dims.reverse.length := by rw [List.length_reverse]; omega
   have hj2 : dims.length - 1 - k < ss.length := by omega
   have hjd : dims.reverse[dims.length - 1 - k] = dims[k] := by
    rw [List.getElem_reverse]; congr 1; omega
   have hjs : ss.reverse[k]'k2 = ss[dims.length - 1 - k] := by
    rw [List.getElem_reverse]; congr 1; omega
   rw [hjs, offs_at, hk]
   by_cases h1 : 1 < dims[k]
   ·rw [if_pos h1]
    have hu := rd_unit dims.reverse ss hrev (by rw [List.length_reverse, g1]) _ hj hj2 (by rw [hjd]; exact h1)
    rw [g2, b1] at hu
    have ht : prod (dims.reverse.take (dims.length - 1 - k)) = prod (dims.drop (k + 1)) := by
     rw [List.take_reverse, prod_reverse]; congr 2; omega
    have hz := b1 0
    rw [rd_zero] at hz
    unfold at_
    rw [← ht, hu, ← hz]; omega
   ·rw [if_neg h1]
    have := f5 _ (List.getElem_mem k1)
    exact (go_ones h5 _ hj hj2 (by rw [hjd]; omega)).symm
 refine ⟨e, fun p => ?_⟩
 have hp := rd_offs (ts := offs v dims) (offs_length v dims) f5 p
 rw [e, List.reverse_reverse, g2, b1] at hp
 unfold at_
 rw [e]; omega
theorem reform_no (h : wrong v = 0) (h2 : (size dims).2 = 0) (h3 : (size v.dims).1 = (size dims).1) (h4 : (size dims).1 ≠ 0) (h5 : ∀ p, 0 ≤ p → p < prod dims → w64 (v.st + dot (idx dims p) (offs v dims)) = at_ v p) :
    ∃ ss, go dims.reverse (blocks v) = some ss := by
 obtain ⟨f1, f2, f3, f4, f5⟩ := reform_fine h h2 h3 h4
 obtain ⟨b1, b2, b3, b4⟩ := blocks_fine h (by omega)
 refine go_complete (by omega) (reverse_one f5) b4 b3 (by rw [b2, prod_reverse, f1]) (ts := (offs v dims).reverse) (by simp [offs_length]) (fun p p0 p1 => ?_)
 rw [prod_reverse] at p1
 rw [rd_offs (offs_length v dims) f5, b1]
 have e := h5 p p0 p1
 obtain ⟨k, hk⟩ := w64_like (v.st + dot (idx dims p) (offs v dims))
 rw [e] at hk
 unfold at_ at hk
 exact ⟨-k, by omega⟩
end
theorem step_less {dims : List Int} (hpos : ∀ d ∈ dims, 1 ≤ d) {k : Nat} (h : k < dims.length) (h1 : 1 < dims[k]) : 1 ≤ prod (dims.drop (k + 1)) ∧ prod (dims.drop (k + 1)) < prod dims := by
 have a1 := prod_pos (dims.drop (k + 1)) (fun d hd => hpos d (List.mem_of_mem_drop hd))
 have a2 := prod_pos (dims.take k) (fun d hd => hpos d (List.mem_of_mem_take hd))
 have e : prod dims = prod (dims.take k) * (dims[k] * prod (dims.drop (k + 1))) := by
  rw [show prod dims = prod (dims.take k ++ dims.drop k) by rw [List.take_append_drop], prod_append, List.drop_eq_getElem_cons h]; rfl
 have a3 : 2 * prod (dims.drop (k + 1)) ≤ dims[k] * prod (dims.drop (k + 1)) := Int.mul_le_mul_of_nonneg_right (by omega) (by omega)
 have a4 := Int.mul_le_mul_of_nonneg_right a2 (show 0 ≤ dims[k] * prod (dims.drop (k + 1)) by omega)
 rw [Int.one_mul, ← e] at a4
 exact ⟨a1, by omega⟩
theorem steps_pos {dims : List Int} (hpos : ∀ d ∈ dims, 1 ≤ d) {k : Nat} (h : k < dims.length) : (steps dims)[k]'(by rw [steps_length]; exact h) = prod (dims.drop (k + 1)) := by
 rw [steps_at, if_neg (fun hz => by have := hpos 0 hz; omega)]
theorem reform_made {v : V} {dims ss : List Int} (h2 : (size dims).2 = 0) (hl : ss.length = dims.length) : wrong ⟨v.st, dims, ss⟩ = 0 ∨ wrong ⟨v.st, dims, ss⟩ = 4 := wrong_two h2 hl
end AdjV
end
section
namespace AdjV
set_option linter.unusedVariables false
def blocksK (v : V) (k : Nat) : List (Int × Int) := ((v.dims.zip v.steps).take k).foldl push []
theorem blocksK_all {v : V} (h : v.steps.length = v.dims.length) : blocksK v v.dims.length = blocks v := by
 unfold blocksK blocks
 rw [List.take_of_length_le (by rw [List.length_zip]; omega)]
theorem blocksK_next {v : V} {k : Nat} (h : k < v.dims.length) (hs : k < v.steps.length) : blocksK v (k + 1) = push (blocksK v k) (v.dims[k], v.steps[k]) := by
 unfold blocksK
 rw [List.take_succ_eq_append_getElem (by rw [List.length_zip]; omega), List.foldl_append, List.getElem_zip]
 rfl
theorem blocksK_fine {v : V} (h : wrong v = 0) (hp : 0 < prod v.dims) (k : Nat) : ∀ y ∈ blocksK v k, 2 ≤ y.1 ∧ y.1 ≤ 65536 ∧ -1099511627776 ≤ y.2 ∧ y.2 ≤ 1099511627776 := by
 obtain ⟨z1, z2, z3, z4⟩ := wrong_fine h
 have hpos := no_zero_of_pos z1 hp
 have hL : ∀ x ∈ (v.dims.zip v.steps).take k, 1 ≤ x.1 ∧ -1099511627776 ≤ x.2 ∧ x.2 ≤ 1099511627776 := fun x hx => by
  obtain ⟨a, b⟩ := x
  have := List.of_mem_zip (List.mem_of_mem_take hx)
  exact ⟨hpos a this.1, z4 b this.2⟩
 have hn := near_pushAll _ [] hL (fun y hy => by simp at hy)
 have e : ((v.dims.zip v.steps).take k).map (·.1) = v.dims.take k := by rw [List.map_take, zip_fst z2.symm]
 have hps : prodS (blocksK v k) = prod (v.dims.take k) := by
  unfold blocksK
  rw [prodS_pushAll, e]; simp [prodS]
 have hle := prod_take_le v.dims k hpos
 have h5 := (size_fine z1).2.2.2.2
 intro y hy
 have h1 := hn y hy
 have h2 := prodS_ge (st := blocksK v k) (fun z hz => by have := (hn z hz).1; omega) y hy
 exact ⟨h1.1, by omega, h1.2⟩
theorem push_length (st : List (Int × Int)) (x : Int × Int) : (push st x).length ≤ st.length + 1 := by
 unfold push
 by_cases h : x.1 = 1
 ·rw [if_pos h]; omega
 ·rw [if_neg h]
  cases st with
  | nil => simp
  | cons y r =>
   dsimp only
   by_cases h2 : y.2 = x.1 * x.2
   ·rw [if_pos h2]; simp
   ·rw [if_neg h2]; simp
theorem pushAll_length : ∀ (L acc : List (Int × Int)), (L.foldl push acc).length ≤ acc.length + L.length
 | [], acc => by simp
 | x :: L, acc => by
  have h1 := pushAll_length L (push acc x)
  have h2 := push_length acc x
  rw [List.foldl_cons, List.length_cons]
  omega
theorem blocksK_length (v : V) (k : Nat) : (blocksK v k).length ≤ k := by
 have h := pushAll_length ((v.dims.zip v.steps).take k) []
 have h2 := List.length_take_le k (v.dims.zip v.steps)
 unfold blocksK
 simp at h ⊢
 omega
theorem push_skip {st : List (Int × Int)} {d s : Int} (h : d = 1) : push st (d, s) = st := by unfold push; rw [if_pos h]
theorem push_first {d s : Int} (h : d ≠ 1) : push [] (d, s) = [(d, s)] := by unfold push; rw [if_neg h]
theorem push_join {r : List (Int × Int)} {n t d s : Int} (h : d ≠ 1) (h2 : t = d * s) : push ((n, t) :: r) (d, s) = (n * d, s) :: r := by unfold push; rw [if_neg h]; simp [h2]
theorem push_more {r : List (Int × Int)} {n t d s : Int} (h : d ≠ 1) (h2 : t ≠ d * s) : push ((n, t) :: r) (d, s) = (d, s) :: (n, t) :: r := by unfold push; rw [if_neg h]; simp [h2]
def gstep (d : Int) (st : List (Int × Int)) : Option (Int × List (Int × Int)) :=
 if d = 1 then some (0, st) else match st with
  | [] => none
  | (n, s) :: r => if n % d = 0 then some (s, if n / d = 1 then r else (n / d, s * d) :: r) else none
def gnext (acc : Option (List Int × List (Int × Int))) (d : Int) : Option (List Int × List (Int × Int)) := acc.bind fun x => (gstep d x.2).map fun y => (x.1 ++ [y.1], y.2)
def grun (ds : List Int) (st : List (Int × Int)) : Option (List Int × List (Int × Int)) := ds.foldl gnext (some ([], st))
theorem grun_snoc (ds : List Int) (d : Int) (st : List (Int × Int)) : grun (ds ++ [d]) st = gnext (grun ds st) d := by simp [grun, List.foldl_append]
theorem gnext_none (ds : List Int) : ds.foldl gnext none = none := by
 induction ds with
 | nil => rfl
 | cons d ds ih => exact ih
theorem go_cons (d : Int) (ds : List Int) (st : List (Int × Int)) : go (d :: ds) st = (gstep d st).bind fun y => (go ds y.2).map (y.1 :: ·) := by
 simp only [go, gstep]
 by_cases h : d = 1
 ·rw [if_pos h, if_pos h]; rfl
 ·rw [if_neg h, if_neg h]
  cases st with
  | nil => rfl
  | cons y r =>
   obtain ⟨n, s⟩ := y
   dsimp only
   by_cases h2 : n % d = 0
   ·rw [if_pos h2, if_pos h2]; rfl
   ·rw [if_neg h2, if_neg h2]; rfl
theorem grun_from : ∀ (ds : List Int) (ss : List Int) (st : List (Int × Int)), (ds.foldl gnext (some (ss, st))).map (·.1) = (go ds st).map (ss ++ ·)
 | [], ss, st => by simp [go]
 | d :: ds, ss, st => by
  rw [List.foldl_cons, go_cons]
  cases h : gstep d st with
  | none => simp [gnext, h, gnext_none]
  | some y =>
   have e : gnext (some (ss, st)) d = some (ss ++ [y.1], y.2) := by simp [gnext, h]
   rw [e, grun_from ds]
   simp only [Option.bind_some, Option.map_map]
   congr 1
   funext x
   simp
theorem grun_go (ds : List Int) (st : List (Int × Int)) : (grun ds st).map (·.1) = go ds st := by
 unfold grun
 rw [grun_from]
 simp
theorem grun_bad {ds es : List Int} {st : List (Int × Int)} (h : grun ds st = none) : go (ds ++ es) st = none := by
 rw [← grun_go]
 unfold grun at *
 rw [List.foldl_append, h, gnext_none]
 rfl
theorem grun_fine {M : Int} : ∀ {ds es : List Int} {st st' : List (Int × Int)} {ss : List Int}, (∀ d ∈ ds, 1 ≤ d) → Small M st → prodS st = prod (ds ++ es) → grun ds st = some (ss, st') → Small M st' ∧ prodS st' = prod es ∧ ss.length = ds.length := by
 intro ds
 suffices H : ∀ (ds es ss0 : List Int) (st st' : List (Int × Int)) (ss : List Int), (∀ d ∈ ds, 1 ≤ d) → Small M st → prodS st = prod (ds ++ es) → ds.foldl gnext (some (ss0, st)) = some (ss, st') → Small M st' ∧ prodS st' = prod es ∧ ss.length = ss0.length + ds.length by
  intro es st st' ss h1 h2 h3 h4
  have := H ds es [] st st' ss h1 h2 h3 h4
  simpa using this
 intro ds
 induction ds with
 | nil =>
  intro es ss0 st st' ss _ h2 h3 h4
  simp only [List.foldl_nil, Option.some.injEq, Prod.mk.injEq] at h4
  obtain ⟨rfl, rfl⟩ := h4
  exact ⟨h2, h3, rfl⟩
 | cons d ds ih =>
  intro es ss0 st st' ss h1 h2 h3 h4
  have hd1 := h1 d (by simp)
  rw [List.foldl_cons] at h4
  cases h : gstep d st with
  | none => simp [gnext, h, gnext_none] at h4
  | some y =>
   have e : gnext (some (ss0, st)) d = some (ss0 ++ [y.1], y.2) := by simp [gnext, h]
   rw [e] at h4
   have hy : Small M y.2 ∧ prodS y.2 = prod (ds ++ es) := by
    unfold gstep at h
    by_cases hd : d = 1
    ·rw [if_pos hd] at h
     simp only [Option.some.injEq] at h
     subst h
     subst hd
     exact ⟨h2, by simpa [prod] using h3⟩
    ·rw [if_neg hd] at h
     cases st with
     | nil => cases h
     | cons z r =>
      obtain ⟨n, s⟩ := z
      dsimp only at h
      by_cases hm : n % d = 0
      ·rw [if_pos hm] at h
       simp only [Option.some.injEq] at h
       subst h
       refine ⟨go_next_small h2 hd1 hm, ?_⟩
       have hp := go_next_prod h2 hd1 hm
       rw [h3] at hp
       simp only [List.cons_append, prod] at hp
       exact (Int.eq_of_mul_eq_mul_left (by omega) hp).symm
      ·rw [if_neg hm] at h; cases h
   obtain ⟨a, b, c⟩ := ih es _ _ _ _ (fun x hx => h1 x (by simp [hx])) hy.1 hy.2 h4
   exact ⟨a, b, by rw [c]; simp; omega⟩
theorem gstep_skip {d : Int} {st : List (Int × Int)} (h : d = 1) : gstep d st = some (0, st) := if_pos h
theorem gstep_cut {d n s : Int} {r : List (Int × Int)} (h : d ≠ 1) (h2 : n % d ≠ 0) : gstep d ((n, s) :: r) = none := by unfold gstep; rw [if_neg h]; simp [h2]
theorem gstep_last {d n s : Int} {r : List (Int × Int)} (h : d ≠ 1) (h2 : n % d = 0) (h3 : n / d = 1) : gstep d ((n, s) :: r) = some (s, r) := by unfold gstep; rw [if_neg h]; simp [h2, h3]
theorem gstep_more {d n s : Int} {r : List (Int × Int)} (h : d ≠ 1) (h2 : n % d = 0) (h3 : n / d ≠ 1) : gstep d ((n, s) :: r) = some (s, (n / d, s * d) :: r) := by unfold gstep; rw [if_neg h]; simp [h2, h3]
theorem round_fine {v : V} {dims ss : List Int} {st : List (Int × Int)} {j : Nat} {d : Int} (h : wrong v = 0) (hp : 0 < prod v.dims) (he : prod v.dims = prod dims) (hpos : ∀ x ∈ dims, 1 ≤ x) (hj : j < dims.length) (hd : 1 ≤ d)
    (hrun : grun (dims.reverse.take j) (blocks v) = some (ss, st)) (hTK : dims.reverse.take (j + 1) = dims.reverse.take j ++ [d]) : Small 72057594037927936 st ∧ ss.length = j ∧ (d ≠ 1 → ∃ n s r, st = (n, s) :: r) := by
 obtain ⟨b1, b2, b3, b4⟩ := blocks_fine h hp
 have hrev := reverse_one hpos
 obtain ⟨c1, c2, c3⟩ := grun_fine (es := dims.reverse.drop j) (fun x hx => hrev x (List.mem_of_mem_take hx)) b4 (by rw [List.take_append_drop, prod_reverse, b2, he]) hrun
 refine ⟨c1, by rw [c3, List.length_take, List.length_reverse]; omega, fun hd1 => ?_⟩
 cases st with
 | cons y r => exact ⟨y.1, y.2, r, rfl⟩
 | nil =>
  exfalso
  have hjr : j < dims.reverse.length := by rw [List.length_reverse]; exact hj
  have e : dims.reverse[j] = d := by
   have h1 := take_next dims.reverse j hjr
   rw [hTK] at h1
   have := List.append_cancel_left h1
   simpa using this.symm
  rw [List.drop_eq_getElem_cons hjr, e] at c2
  have hr := prod_pos (dims.reverse.drop (j + 1)) (fun x hx => hrev x (List.mem_of_mem_drop hx))
  simp only [prodS, prod] at c2
  have := Int.mul_le_mul_of_nonneg_left hr (show 0 ≤ d by omega)
  rw [Int.mul_one] at this
  omega
theorem step_small {M n s d : Int} {r : List (Int × Int)} (h : Small M ((n, s) :: r)) (hd : 1 ≤ d) (hm : n % d = 0) : -M ≤ s * d ∧ s * d ≤ M := by
 obtain ⟨a1, a2, a3, a4, a5, a6⟩ := h (n, s) (by simp)
 dsimp only at a1 a2 a3 a4 a5 a6
 by_cases h1 : n / d = 1
 ·have e := Int.mul_ediv_add_emod n d
  rw [hm, h1, Int.add_zero, Int.mul_one] at e
  rw [e, Int.mul_comm]
  exact ⟨a5, a6⟩
 ·have := go_next_small h hd hm (n / d, s * d) (by rw [if_neg h1]; simp)
  exact ⟨this.2.2.1, this.2.2.2.1⟩
theorem round_skip {ds ss : List Int} {st b : List (Int × Int)} {d : Int} (h : grun ds b = some (ss, st)) (hd : d = 1) : grun (ds ++ [d]) b = some (ss ++ [0], st) := by
 rw [grun_snoc, h]; simp [gnext, gstep_skip hd]
theorem round_cut {ds ss : List Int} {r b : List (Int × Int)} {d n s : Int} (h : grun ds b = some (ss, (n, s) :: r)) (hd : d ≠ 1) (hm : n % d ≠ 0) : grun (ds ++ [d]) b = none := by
 rw [grun_snoc, h]; simp [gnext, gstep_cut hd hm]
theorem round_last {ds ss : List Int} {r b : List (Int × Int)} {d n s : Int} (h : grun ds b = some (ss, (n, s) :: r)) (hd : d ≠ 1) (hm : n % d = 0) (h1 : n / d = 1) : grun (ds ++ [d]) b = some (ss ++ [s], r) := by
 rw [grun_snoc, h]; simp [gnext, gstep_last hd hm h1]
theorem round_more {ds ss : List Int} {r b : List (Int × Int)} {d n s : Int} (h : grun ds b = some (ss, (n, s) :: r)) (hd : d ≠ 1) (hm : n % d = 0) (h1 : n / d ≠ 1) : grun (ds ++ [d]) b = some (ss ++ [s], (n / d, s * d) :: r) := by
 rw [grun_snoc, h]; simp [gnext, gstep_more hd hm h1]
theorem cut_go {dims : List Int} {b : List (Int × Int)} {j : Nat} (h : grun (dims.reverse.take j) b = none) : go dims.reverse b = none := by
 have := grun_bad (es := dims.reverse.drop j) h
 rwa [List.take_append_drop] at this
end AdjV
end
section
namespace AdjV
set_option linter.unusedVariables false
open List in
open List in
open List in
open List in
theorem dot_congr : ∀ {m s t : List Int}, s.length = t.length → (∀ k (k1 : k < m.length) (k2 : k < s.length) (k3 : k < t.length), m[k] * s[k] = m[k] * t[k]) → dot m s = dot m t
 | [], s, t, _, _ => by simp [dot]
 | a :: m, [], [], _, _ => rfl
 | a :: m, x :: s, y :: t, hl, h => by
  have h0 := h 0 (by simp) (by simp) (by simp)
  simp only [List.getElem_cons_zero] at h0
  have ih := dot_congr (m := m) (s := s) (t := t) (by simpa using hl) (fun k k1 k2 k3 => by have := h (k + 1) (by simpa using k1) (by simpa using k2) (by simpa using k3); simpa using this)
  simp only [dot, h0, ih]
 | _ :: _, [], _ :: _, h, _ => by simp at h
 | _ :: _, _ :: _, [], h, _ => by simp at h
def whole (l : List Int) : V × Int := if (size l).2 ≠ 0 then (none_, (size l).2) else (⟨0, l, steps l⟩, 0)
theorem steps_near {l : List Int} (h : (size l).2 = 0) : ∀ s ∈ steps l, 0 ≤ s ∧ s ≤ 65536 := by
 obtain ⟨z1, z2, z3, z4, z5⟩ := size_fine h
 intro s hs
 obtain ⟨k, hk, rfl⟩ := List.getElem_of_mem hs
 rw [steps_at]
 by_cases h0 : (0 : Int) ∈ l
 ·rw [if_pos h0]; omega
 ·rw [if_neg h0]
  have hpos : ∀ d ∈ l, 1 ≤ d := fun d hd => by
   have := z2 d hd
   have h1 : d ≠ 0 := fun e => h0 (e ▸ hd)
   omega
  have a1 := prod_pos (l.drop (k + 1)) (fun d hd => hpos d (List.mem_of_mem_drop hd))
  have a2 := prod_pos (l.take (k + 1)) (fun d hd => hpos d (List.mem_of_mem_take hd))
  have e : prod l = prod (l.take (k + 1)) * prod (l.drop (k + 1)) := by rw [← prod_append, List.take_append_drop]
  have a3 := Int.mul_le_mul_of_nonneg_right a2 (show 0 ≤ prod (l.drop (k + 1)) by omega)
  rw [Int.one_mul, ← e] at a3
  omega
theorem whole_right {l : List Int} (h : (size l).2 = 0) : wrong ⟨0, l, steps l⟩ = 0 := by
 refine wrong_no h (by simp [steps_length]) ?_
 simp only [Bool.and_eq_true, List.all_eq_true]
 exact ⟨by decide, fun s hs => near_true.2 (by have := steps_near h s hs; omega)⟩
theorem whole_at {l : List Int} (hpos : ∀ d ∈ l, 1 ≤ d) {p : Int} (h0 : 0 ≤ p) (h1 : p < prod l) : at_ ⟨0, l, steps l⟩ p = p := by
 unfold at_
 dsimp only
 rw [steps_plc (fun hz => by have := hpos 0 hz; omega) (idx_length l p).symm, (plc_idx l hpos p h0).2, Int.emod_eq_of_lt h0 h1]
 omega
theorem whole_reform {l dims : List Int} (h : (size l).2 = 0) : (reform ⟨0, l, steps l⟩ dims).2 = 0 ↔ ((size dims).2 = 0 ∧ (size l).1 = (size dims).1) := by
 have hw := whole_right h
 by_cases h2 : (size dims).2 = 0
 ·by_cases h3 : (size l).1 = (size dims).1
  ·refine ⟨fun _ => ⟨h2, h3⟩, fun _ => ?_⟩
   by_cases h4 : (size dims).1 = 0
   ·rw [reform_empty hw h2 h3 h4]
   ·obtain ⟨f1, f2, f3, f4, f5⟩ := reform_fine hw h2 h3 h4
    dsimp only at f1 f4
    have hat : ∀ q, 0 ≤ q → q < prod dims → at_ ⟨0, l, steps l⟩ q = q := fun q q0 q1 => whole_at f4 q0 (by omega)
    have hoff : ∀ k (hk : k < dims.length), (offs ⟨0, l, steps l⟩ dims)[k]'(by rw [offs_length]; exact hk) = if 1 < dims[k] then prod (dims.drop (k + 1)) else 0 := fun k hk => by
     rw [offs_at, getD_at dims k hk]
     by_cases h1 : 1 < dims[k]
     ·have hs := step_less f5 hk h1
      rw [if_pos h1, if_pos h1, hat _ (by omega) hs.2, hat 0 (by omega) (by omega)]; omega
     ·rw [if_neg h1, if_neg h1]
    have hdot : ∀ p, dot (idx dims p) (offs ⟨0, l, steps l⟩ dims) = dot (idx dims p) (steps dims) := fun p => by
     have hz : (0 : Int) ∉ dims := fun hz => by have := f5 0 hz; omega
     refine dot_congr (by rw [offs_length, steps_length]) fun k k1 k2 k3 => ?_
     rw [offs_length] at k2
     rw [hoff k k2, steps_at, if_neg hz]
     by_cases h1 : 1 < dims[k]
     ·rw [if_pos h1]
     ·rw [if_neg h1]
      have e : dims[k] = 1 := by have := f5 _ (List.getElem_mem k2); omega
      have e2 : (idx dims p)[k] = 0 := by
       have : (idx dims p)[k] = p / prod (dims.drop (k + 1)) % dims[k] := by simp [idx, List.getD_eq_getElem?_getD, k2]
       rw [this, e, Int.emod_one]
      rw [e2]; simp
    obtain ⟨ss, hss⟩ := reform_no hw h2 h3 h4 (fun p p0 p1 => by
     rw [hdot, steps_plc (fun hz => by have := f5 0 hz; omega) (idx_length dims p).symm, (plc_idx dims f5 p p0).2, Int.emod_eq_of_lt p0 p1, hat p p0 p1]
     show w64 (0 + p) = p
     rw [Int.zero_add]
     exact w64_in (by omega))
    rw [reform_some hw h2 h3 h4 hss, made, if_neg ?_]
    rw [← (reform_yes hw h2 h3 h4 hss).1]
    have : wrong ⟨0, dims, offs ⟨0, l, steps l⟩ dims⟩ = 0 := by
     refine wrong_no h2 (by simp [offs_length]) ?_
     simp only [Bool.and_eq_true, List.all_eq_true]
     refine ⟨by decide, fun s hs => near_true.2 ?_⟩
     obtain ⟨k, hk, rfl⟩ := List.getElem_of_mem hs
     rw [offs_length] at hk
     rw [hoff k hk]
     by_cases h1 : 1 < dims[k]
     ·rw [if_pos h1]; have := step_less f5 hk h1; omega
     ·rw [if_neg h1]; omega
    rw [this]; decide
  ·rw [reform_shape hw h2 h3]
   exact ⟨fun h => (by cases h), fun h => absurd h.2 h3⟩
 ·rw [reform_size hw h2]
  exact ⟨fun h => (absurd h h2), fun h => (absurd h.1 h2)⟩
end AdjV
end
section
namespace AdjD
set_option linter.unusedVariables false
open AdjV (size pick rangeZ)
structure Op where
 kind : Int
 dims : List Int
 at_ : List Int
 lo : List Int
 hi : List Int
 step : List Int
 value : Int
structure Node where
 op : Op
 args : List Int
structure Graph where
 nodes : List Node
 outs : List Int
def right (k : Int) (n : Nat) : Int :=
 if k = 2 then (if n = 0 then 0 else 2)
 else if k = 3 ∨ k = 4 ∨ k = 5 ∨ k = 6 ∨ k = 7 ∨ k = 16 ∨ k = 18 ∨ k = 19 then (if n = 2 then 0 else 2)
 else if k = 8 then (if n = 3 then 0 else 2)
 else if k = 9 ∨ k = 10 ∨ k = 11 ∨ k = 12 ∨ k = 13 ∨ k = 14 ∨ k = 15 then (if n = 1 then 0 else 2)
 else if k = 17 then (if n = 0 then 2 else 0)
 else 1
def sizes : List (List Int) → Int
 | [] => 0
 | d :: r => if (size d).2 ≠ 0 then (size d).2 else sizes r
def chosen (dims l : List Int) : List Int := l.map (pick dims)
def free (dims l : List Int) : List Int := (rangeZ dims.length).filter fun k => !decide (k ∈ l)
def onceB (l : List Int) (n : Nat) : Bool := l.all (fun k => decide (0 ≤ k) && decide (k < (n : Int))) && decide l.Nodup
def dotDims (op : Op) (a b : List Int) : List Int × Int :=
 if op.at_.length ≠ op.step.length ∨ op.lo.length ≠ op.hi.length then ([], 6)
 else if onceB (op.at_ ++ op.lo) a.length = false ∨ onceB (op.step ++ op.hi) b.length = false then ([], 6)
 else if chosen a op.at_ ≠ chosen b op.step ∨ chosen a op.lo ≠ chosen b op.hi then ([], 6)
 else (chosen a op.lo ++ chosen a (free a (op.at_ ++ op.lo)) ++ chosen b (free b (op.step ++ op.hi)), 0)
def fitJ (k : Nat) (out d : List Int) : Bool := decide (d.length = out.length) && (List.range out.length).all fun j => decide (j = k) || decide (d.getD j 0 = out.getD j 0)
def joinGo (k : Nat) : List Int → List (List Int) → List Int × Int
 | out, [] => (out, 0)
 | out, d :: r => if fitJ k out d then joinGo k (out.set k (out.getD k 0 + d.getD k 0)) r else ([], 6)
def joinDims (op : Op) (args : List (List Int)) : List Int × Int :=
 if op.at_.length ≠ 1 ∨ op.at_.getD 0 0 < 0 ∨ ((args.getD 0 []).length : Int) ≤ op.at_.getD 0 0 then ([], 6)
 else joinGo (op.at_.getD 0 0).toNat (args.getD 0 []) (args.drop 1)
def padB (lo hi st : Int) : Bool := decide (0 ≤ lo) && decide (lo ≤ 4096) && decide (0 ≤ hi) && decide (hi ≤ 4096) && decide (1 ≤ st) && decide (st ≤ 4096)
def padOne (d lo hi st : Int) : Int := lo + (if 0 < d then (d - 1) * st + 1 else 0) + hi
def padDims (op : Op) (d : List Int) : List Int × Int :=
 if op.lo.length ≠ d.length ∨ op.hi.length ≠ d.length ∨ op.step.length ≠ d.length then ([], 6)
 else if (List.range d.length).all (fun k => padB (op.lo.getD k 0) (op.hi.getD k 0) (op.step.getD k 0)) then ((List.range d.length).map fun k => padOne (d.getD k 0) (op.lo.getD k 0) (op.hi.getD k 0) (op.step.getD k 0), 0)
 else ([], 4)
def looked (op : Op) (d : List Int) : AdjV.V × Int :=
 if (size d).2 ≠ 0 then (AdjV.none_, (size d).2)
 else if op.kind = 9 then AdjV.spread (AdjV.whole d).1 op.dims op.at_
 else if op.kind = 11 then AdjV.turn (AdjV.whole d).1 op.at_
 else if op.kind = 13 then AdjV.cut (AdjV.whole d).1 op.lo op.hi op.step
 else AdjV.flip (AdjV.whole d).1 op.at_
def ruled (op : Op) (args : List (List Int)) : List Int × Int :=
 if op.kind = 2 then (op.dims, 0)
 else if op.kind = 3 ∨ op.kind = 4 ∨ op.kind = 5 ∨ op.kind = 6 ∨ op.kind = 7 ∨ op.kind = 8 then if args.all (fun d => decide (d = args.getD 0 [])) then (args.getD 0 [], 0) else ([], 6)
 else if op.kind = 10 then if AdjV.riseB (args.getD 0 []).length op.at_ then (chosen (args.getD 0 []) (free (args.getD 0 []) op.at_), 0) else ([], 6)
 else if op.kind = 12 then if (size op.dims).2 ≠ 0 then ([], (size op.dims).2) else if (size (args.getD 0 [])).1 ≠ (size op.dims).1 then ([], 6) else (op.dims, 0)
 else if op.kind = 14 then padDims op (args.getD 0 [])
 else if op.kind = 16 then dotDims op (args.getD 0 []) (args.getD 1 [])
 else if op.kind = 17 then joinDims op args
 else if op.kind = 18 then if (args.getD 0 []).length = 0 then ([], 6) else (args.getD 1 [] ++ (args.getD 0 []).drop 1, 0)
 else if op.kind = 19 then if op.dims.length ≠ 1 ∨ (args.getD 0 []).length < (args.getD 1 []).length ∨ (args.getD 0 []).take (args.getD 1 []).length ≠ args.getD 1 [] then ([], 6) else (op.dims ++ (args.getD 0 []).drop (args.getD 1 []).length, 0)
 else ((looked op (args.getD 0 [])).1.dims, (looked op (args.getD 0 [])).2)
def dims (op : Op) (args : List (List Int)) : List Int × Int :=
 if right op.kind args.length ≠ 0 then ([], right op.kind args.length)
 else if sizes args ≠ 0 then ([], sizes args)
 else if (ruled op args).2 ≠ 0 then ([], (ruled op args).2)
 else if (size (ruled op args).1).2 ≠ 0 then ([], (size (ruled op args).1).2)
 else ((ruled op args).1, 0)
def params (ns : List Node) : Nat := (ns.takeWhile fun x => x.op.kind == 1).length
def ahead (i : Nat) (l : List Int) : Bool := l.all fun a => decide (0 ≤ a) && decide (a < (i : Int))
def ofArgs (out : List (List Int)) (l : List Int) : List (List Int) := l.map fun a => out.getD a.toNat []
def nodeDims (x : Node) (i ps : Nat) (out : List (List Int)) : List Int × Int :=
 if ahead i x.args = false then ([], 10)
 else if x.op.kind ≠ 1 then dims x.op (ofArgs out x.args)
 else if ps ≤ i ∨ x.op.at_.length ≠ 1 ∨ x.op.at_.getD 0 0 ≠ (i : Int) then ([], 7)
 else if 0 < x.args.length then ([], 2)
 else if (size x.op.dims).2 ≠ 0 then ([], (size x.op.dims).2)
 else (x.op.dims, 0)
def lookGo (ps : Nat) : List Node → List (List Int) → List (List Int) × Int
 | [], out => (out, 0)
 | x :: r, out => if (nodeDims x out.length ps out).2 ≠ 0 then ([], (nodeDims x out.length ps out).2) else lookGo ps r (out ++ [(nodeDims x out.length ps out).1])
def look (g : Graph) : List (List Int) × Int :=
 if 4096 < g.nodes.length then ([], 5)
 else if (lookGo (params g.nodes) g.nodes []).2 ≠ 0 then ([], (lookGo (params g.nodes) g.nodes []).2)
 else if ahead g.nodes.length g.outs = false then ([], 4)
 else ((lookGo (params g.nodes) g.nodes []).1, 0)
end AdjD
end
