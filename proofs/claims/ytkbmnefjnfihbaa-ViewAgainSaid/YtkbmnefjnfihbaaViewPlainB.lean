/-
  What is turned can be turned back; what is flipped twice is as it was; what lies whole can be read in all dimensions that fit: in plain Lean. No program in sight. No condition.
-/
import Derived.Test.YtkbmnefjnfihbaaViewPlainA
namespace AdjV
set_option linter.unusedVariables false
open List in
theorem prod_perm {l m : List Int} (h : l ~ m) : prod l = prod m := by
  induction h with
  | nil => rfl
  | cons x _ ih => simp only [prod, ih]
  | swap x y l => simp only [prod]; rw [← Int.mul_assoc, ← Int.mul_assoc, Int.mul_comm x y]
  | trans _ _ ih1 ih2 => exact ih1.trans ih2
open List in
theorem size_perm {l m : List Int} (h : l ~ m) : size l = size m := by
  have h1 := h.length_eq
  have h2 : l.any bad = m.any bad := by
    rw [Bool.eq_iff_iff, List.any_eq_true, List.any_eq_true]
    exact ⟨fun ⟨x, hx, hb⟩ => ⟨x, h.mem_iff.1 hx, hb⟩, fun ⟨x, hx, hb⟩ => ⟨x, h.mem_iff.2 hx, hb⟩⟩
  have h3 : (0 : Int) ∈ l ↔ (0 : Int) ∈ m := h.mem_iff
  unfold size
  rw [h1, h2, prod_perm h]
  simp only [h3]
open List in
theorem perm_range {n : Nat} {p : List Int} (h : permOK n p = true) : p ~ rangeZ n := by
  obtain ⟨h1, h2, h3, h4⟩ := permOK_true h
  refine (perm_ext_iff_of_nodup h2 (rangeZ_nodup n)).2 fun a => ?_
  rw [rangeZ_mem]
  exact ⟨fun ha => h3 a ha, fun ha => h4 a ha.1 ha.2⟩
theorem range_pick (l : List Int) : (rangeZ l.length).map (pick l) = l := by
  apply List.ext_getElem
  · simp [rangeZ]
  · intro i h1 h2
    simp only [rangeZ, List.map_map, List.getElem_map, List.getElem_range, Function.comp]
    exact pick_nat l i h2
open List in
theorem turned_perm {l p : List Int} (h : permOK l.length p = true) : p.map (pick l) ~ l := by
  have := (perm_range h).map (pick l)
  rwa [range_pick] at this
theorem pick_mem {l : List Int} {k : Int} (h1 : 0 ≤ k) (h2 : k < l.length) : pick l k ∈ l := by
  obtain ⟨q, rfl⟩ : ∃ q : Nat, k = (q : Int) := ⟨k.toNat, by omega⟩
  rw [pick_nat l q (by omega)]
  exact List.getElem_mem _
theorem turned_right {v : V} {p : List Int} (h : wrong v = 0) (h2 : permOK v.dims.length p = true) : wrong ⟨v.st, p.map (pick v.dims), p.map (pick v.steps)⟩ = 0 := by
  obtain ⟨z1, z2, z3, z4⟩ := wrong_fine h
  refine wrong_no ?_ (by simp) ?_
  · show (size (p.map (pick v.dims))).2 = 0
    rw [size_perm (turned_perm h2)]; exact z1
  · simp only [Bool.and_eq_true, List.all_eq_true, List.mem_map]
    refine ⟨near_true.2 z3, ?_⟩
    rintro s ⟨k, hk, rfl⟩
    have := (permOK_true h2).2.2.1 k hk
    exact near_true.2 (z4 _ (pick_mem this.1 (by omega)))
/-- The way back, the first i laid. -/
def backK (p : List Int) : Nat → List Int
  | 0 => List.replicate p.length 0
  | i + 1 => (backK p i).set (p.getD i 0).toNat (i : Int)
theorem backK_length (p : List Int) : ∀ i, (backK p i).length = p.length
  | 0 => by simp [backK]
  | i + 1 => by simp [backK, backK_length p i]
theorem backK_next {p : List Int} {i q : Nat} (h : i < p.length) (hq : p[i] = (q : Int)) : backK p (i + 1) = (backK p i).set q (i : Int) := by
  simp only [backK]
  rw [getD_at p i h, hq, Int.toNat_natCast]
theorem backK_at {n : Nat} {p : List Int} (h : permOK n p = true) : ∀ (i : Nat), i ≤ p.length → ∀ (j q : Nat) (hj : j < i) (hjl : j < p.length) (hq : p[j] = (q : Int)) (hql : q < (backK p i).length), (backK p i)[q] = (j : Int)
  | 0, _, j, _, hj, _, _, _ => by omega
  | i + 1, hi, j, q, hj, hjl, hq, hql => by
    obtain ⟨h1, h2, h3, _⟩ := permOK_true h
    obtain ⟨r, hr⟩ : ∃ r : Nat, p[i] = (r : Int) := ⟨p[i].toNat, by have := h3 _ (List.getElem_mem (show i < p.length by omega)); omega⟩
    have e := backK_next (p := p) (show i < p.length by omega) hr
    have e2 : (backK p (i + 1))[q] = ((backK p i).set r (i : Int))[q]'(by rw [← e]; exact hql) := by congr 1
    rw [e2, List.getElem_set]
    by_cases hji : j = i
    · subst hji
      have : r = q := by rw [hq] at hr; omega
      rw [if_pos this]
    · have hne : r ≠ q := by
        intro e3
        subst e3
        exact hji ((List.getElem_inj h2).1 (hq.trans hr.symm))
      rw [if_neg hne]
      exact backK_at h i (by omega) j q (by omega) hjl hq _
theorem back_spec {n : Nat} {p : List Int} (h : permOK n p = true) {q : Nat} (hq : q < n) : ∃ (j : Nat) (hj : j < p.length), p[j] = (q : Int) ∧ (backK p p.length).getD q 0 = (j : Int) := by
  obtain ⟨h1, h2, h3, h4⟩ := permOK_true h
  obtain ⟨j, hj, e⟩ := List.getElem_of_mem (h4 (q : Int) (by omega) (by omega))
  refine ⟨j, hj, e, ?_⟩
  have hql : q < (backK p p.length).length := by rw [backK_length]; omega
  rw [getD_at _ q hql]
  exact backK_at h p.length (Nat.le_refl _) j q hj hj e hql
theorem back_perm {n : Nat} {p : List Int} (h : permOK n p = true) : permOK n (backK p p.length) = true := by
  obtain ⟨h1, h2, h3, h4⟩ := permOK_true h
  have hl : (backK p p.length).length = n := by rw [backK_length]; exact h1
  refine permOK_of hl ?_ ?_
  · rw [List.nodup_iff_pairwise_ne, List.pairwise_iff_getElem]
    intro a b ha hb hab e
    obtain ⟨j, hj, e1, e2⟩ := back_spec h (q := a) (by omega)
    obtain ⟨k, hk, e3, e4⟩ := back_spec h (q := b) (by omega)
    rw [getD_at _ a ha] at e2
    rw [getD_at _ b hb] at e4
    have : j = k := by omega
    subst this
    omega
  · intro x hx
    obtain ⟨a, ha, rfl⟩ := List.getElem_of_mem hx
    obtain ⟨j, hj, e1, e2⟩ := back_spec h (q := a) (by omega)
    rw [getD_at _ a ha] at e2
    omega
theorem back_map {l p : List Int} {n : Nat} (h : permOK n p = true) (hl : l.length = n) : (backK p p.length).map (pick (p.map (pick l))) = l := by
  obtain ⟨h1, h2, h3, h4⟩ := permOK_true h
  apply List.ext_getElem
  · rw [List.length_map, backK_length]; omega
  · intro q q1 q2
    rw [List.length_map, backK_length] at q1
    obtain ⟨j, hj, e1, e2⟩ := back_spec h (q := q) (by omega)
    rw [getD_at _ q (by rw [backK_length]; exact q1)] at e2
    rw [List.getElem_map, e2, pick_nat _ j (by rw [List.length_map]; exact hj), List.getElem_map, e1, pick_nat l q q2]
/-- What is turned can be turned back. -/
theorem turn_back {v : V} {p : List Int} (h : (turn v p).2 = 0) : turn (turn v p).1 (backK p p.length) = (v, 0) := by
  by_cases hw : wrong v = 0
  · by_cases hp : permOK v.dims.length p = true
    · obtain ⟨z1, z2, z3, z4⟩ := wrong_fine hw
      have hpl := (permOK_true hp).1
      rw [turn_ok hw hp]
      rw [turn_ok (v := ⟨v.st, p.map (pick v.dims), p.map (pick v.steps)⟩) (turned_right hw hp) (by simpa [hpl] using back_perm hp)]
      simp only [back_map hp rfl, back_map hp z2]
    · rw [turn_bad hw (by simpa using hp)] at h; cases h
  · rw [turn_wrong hw] at h; exact absurd h hw
theorem flip_again_st {v w : V} {l : List Int} (hd : w.dims = v.dims) (hl : v.steps.length = v.dims.length) (hs : w.steps = flSteps v l v.dims.length) : ∀ k, k ≤ v.dims.length → flSt w l k = w.st - (flSt v l k - v.st)
  | 0, _ => by simp [flSt]
  | k + 1, hk => by
    have ih := flip_again_st hd hl hs k (by omega)
    have hkw : k < w.dims.length := by rw [hd]; omega
    have hks : k < w.steps.length := by rw [hs, flSteps_length]; omega
    by_cases hm : (k : Int) ∈ l
    · rw [flSt_next hkw hks hm, flSt_next (v := v) (by omega) (by omega) hm, ih]
      have e1 : w.dims[k] = v.dims[k]'(by omega) := by simp [hd]
      have e2 : w.steps[k] = -(v.steps[k]'(by omega)) := by
        have : w.steps[k] = (flSteps v l v.dims.length)[k]'(by rw [flSteps_length]; omega) := by simp [hs]
        rw [this, flSteps_at, if_pos ⟨by omega, hm⟩, getD_at v.steps k (by omega)]
      rw [e1, e2]
      by_cases hp : 0 < v.dims[k]'(by omega)
      · rw [if_pos hp, if_pos hp, Int.mul_neg]; omega
      · rw [if_neg hp, if_neg hp]; omega
    · rw [flSt_same hm, flSt_same hm, ih]
theorem flip_again_steps {v w : V} {l : List Int} (hd : w.dims = v.dims) (hl : v.steps.length = v.dims.length) (hs : w.steps = flSteps v l v.dims.length) : flSteps w l v.dims.length = v.steps := by
  apply List.ext_getElem
  · rw [flSteps_length, hs, flSteps_length]
  · intro j j1 j2
    rw [flSteps_at, hs]
    have hj : j < (flSteps v l v.dims.length).length := by rw [flSteps_length]; exact j2
    rw [getD_at _ j hj, flSteps_at, getD_at v.steps j j2]
    by_cases hm : j < v.dims.length ∧ (j : Int) ∈ l
    · rw [if_pos hm, if_pos hm]; omega
    · rw [if_neg hm, if_neg hm]
/-- What is flipped twice is as it was. -/
theorem flip_back {v : V} {l : List Int} (h : (flip v l).2 = 0) : flip (flip v l).1 l = (v, 0) := by
  by_cases hw : wrong v = 0
  · by_cases hp : riseB v.dims.length l = true
    · obtain ⟨z1, z2, z3, z4⟩ := wrong_fine hw
      have hf := flip_ok hw hp
      have h2 := flip_two hw l (flSt v l v.dims.length) v.dims.length
      by_cases h4 : wrong ⟨flSt v l v.dims.length, v.dims, flSteps v l v.dims.length⟩ = 4
      · rw [hf, made, if_pos h4] at h; cases h
      · have h0 := h2.resolve_right h4
        rw [hf, made, if_neg h4]
        have e1 := flip_again_st (v := v) (w := ⟨flSt v l v.dims.length, v.dims, flSteps v l v.dims.length⟩) (l := l) rfl z2 rfl v.dims.length (Nat.le_refl _)
        have e2 := flip_again_steps (v := v) (w := ⟨flSt v l v.dims.length, v.dims, flSteps v l v.dims.length⟩) (l := l) rfl z2 rfl
        rw [flip_ok (v := ⟨flSt v l v.dims.length, v.dims, flSteps v l v.dims.length⟩) h0 hp]
        show made ⟨flSt ⟨flSt v l v.dims.length, v.dims, flSteps v l v.dims.length⟩ l v.dims.length, v.dims, flSteps ⟨flSt v l v.dims.length, v.dims, flSteps v l v.dims.length⟩ l v.dims.length⟩ = (v, 0)
        rw [e1, e2]
        have e3 : (⟨flSt v l v.dims.length - (flSt v l v.dims.length - v.st), v.dims, v.steps⟩ : V) = v := by
          cases v; simp; omega
        dsimp only
        rw [e3, made, if_neg (by rw [hw]; decide)]
    · rw [flip_bad hw (by simpa using hp)] at h; cases h
  · rw [flip_wrong hw] at h; exact absurd h hw
theorem dot_congr : ∀ {m s t : List Int}, s.length = t.length → (∀ k (k1 : k < m.length) (k2 : k < s.length) (k3 : k < t.length), m[k] * s[k] = m[k] * t[k]) → dot m s = dot m t
  | [], s, t, _, _ => by simp [dot]
  | a :: m, [], [], _, _ => rfl
  | a :: m, x :: s, y :: t, hl, h => by
    have h0 := h 0 (by simp) (by simp) (by simp)
    simp only [List.getElem_cons_zero] at h0
    have ih := dot_congr (m := m) (s := s) (t := t) (by simpa using hl) (fun k k1 k2 k3 => by have := h (k + 1) (by simpa using k1) (by simpa using k2) (by simpa using k3); simpa using this)
    simp only [dot, h0, ih]
  | _ :: _, [], _ :: _, h, _ => by simp at h
  | _ :: _, _ :: _, [], h, _ => by simp at h
/-- An array as it lies. -/
def whole (l : List Int) : V × Int := if (size l).2 ≠ 0 then (none_, (size l).2) else (⟨0, l, steps l⟩, 0)
theorem steps_near {l : List Int} (h : (size l).2 = 0) : ∀ s ∈ steps l, 0 ≤ s ∧ s ≤ 65536 := by
  obtain ⟨z1, z2, z3, z4, z5⟩ := size_fine h
  intro s hs
  obtain ⟨k, hk, rfl⟩ := List.getElem_of_mem hs
  rw [steps_at]
  by_cases h0 : (0 : Int) ∈ l
  · rw [if_pos h0]; omega
  · rw [if_neg h0]
    have hpos : ∀ d ∈ l, 1 ≤ d := fun d hd => by
      have := z2 d hd
      have h1 : d ≠ 0 := fun e => h0 (e ▸ hd)
      omega
    have a1 := prod_pos (l.drop (k + 1)) (fun d hd => hpos d (List.mem_of_mem_drop hd))
    have a2 := prod_pos (l.take (k + 1)) (fun d hd => hpos d (List.mem_of_mem_take hd))
    have e : prod l = prod (l.take (k + 1)) * prod (l.drop (k + 1)) := by rw [← prod_append, List.take_append_drop]
    have a3 := Int.mul_le_mul_of_nonneg_right a2 (show 0 ≤ prod (l.drop (k + 1)) by omega)
    rw [Int.one_mul, ← e] at a3
    omega
theorem whole_right {l : List Int} (h : (size l).2 = 0) : wrong ⟨0, l, steps l⟩ = 0 := by
  refine wrong_no h (by simp [steps_length]) ?_
  simp only [Bool.and_eq_true, List.all_eq_true]
  exact ⟨by decide, fun s hs => near_true.2 (by have := steps_near h s hs; omega)⟩
theorem whole_at {l : List Int} (hpos : ∀ d ∈ l, 1 ≤ d) {p : Int} (h0 : 0 ≤ p) (h1 : p < prod l) : at_ ⟨0, l, steps l⟩ p = p := by
  unfold at_
  dsimp only
  rw [steps_plc (fun hz => by have := hpos 0 hz; omega) (idx_length l p).symm, (plc_idx l hpos p h0).2, Int.emod_eq_of_lt h0 h1]
  omega
/-- What lies whole can be read in all dimensions that fit. -/
theorem whole_reform {l dims : List Int} (h : (size l).2 = 0) : (reform ⟨0, l, steps l⟩ dims).2 = 0 ↔ ((size dims).2 = 0 ∧ (size l).1 = (size dims).1) := by
  have hw := whole_right h
  by_cases h2 : (size dims).2 = 0
  · by_cases h3 : (size l).1 = (size dims).1
    · refine ⟨fun _ => ⟨h2, h3⟩, fun _ => ?_⟩
      by_cases h4 : (size dims).1 = 0
      · rw [reform_empty hw h2 h3 h4]
      · obtain ⟨f1, f2, f3, f4, f5⟩ := reform_fine hw h2 h3 h4
        dsimp only at f1 f4
        have hat : ∀ q, 0 ≤ q → q < prod dims → at_ ⟨0, l, steps l⟩ q = q := fun q q0 q1 => whole_at f4 q0 (by omega)
        have hoff : ∀ k (hk : k < dims.length), (offs ⟨0, l, steps l⟩ dims)[k]'(by rw [offs_length]; exact hk) = if 1 < dims[k] then prod (dims.drop (k + 1)) else 0 := fun k hk => by
          rw [offs_at, getD_at dims k hk]
          by_cases h1 : 1 < dims[k]
          · have hs := step_less f5 hk h1
            rw [if_pos h1, if_pos h1, hat _ (by omega) hs.2, hat 0 (by omega) (by omega)]; omega
          · rw [if_neg h1, if_neg h1]
        have hdot : ∀ p, dot (idx dims p) (offs ⟨0, l, steps l⟩ dims) = dot (idx dims p) (steps dims) := fun p => by
          have hz : (0 : Int) ∉ dims := fun hz => by have := f5 0 hz; omega
          refine dot_congr (by rw [offs_length, steps_length]) fun k k1 k2 k3 => ?_
          rw [offs_length] at k2
          rw [hoff k k2, steps_at, if_neg hz]
          by_cases h1 : 1 < dims[k]
          · rw [if_pos h1]
          · rw [if_neg h1]
            have e : dims[k] = 1 := by have := f5 _ (List.getElem_mem k2); omega
            have e2 : (idx dims p)[k] = 0 := by
              have : (idx dims p)[k] = p / prod (dims.drop (k + 1)) % dims[k] := by simp [idx, List.getD_eq_getElem?_getD, k2]
              rw [this, e, Int.emod_one]
            rw [e2]; simp
        obtain ⟨ss, hss⟩ := reform_no hw h2 h3 h4 (fun p p0 p1 => by
          rw [hdot, steps_plc (fun hz => by have := f5 0 hz; omega) (idx_length dims p).symm, (plc_idx dims f5 p p0).2, Int.emod_eq_of_lt p0 p1, hat p p0 p1]
          show w64 (0 + p) = p
          rw [Int.zero_add]
          exact w64_in (by omega))
        rw [reform_some hw h2 h3 h4 hss, made, if_neg ?_]
        rw [← (reform_yes hw h2 h3 h4 hss).1]
        have : wrong ⟨0, dims, offs ⟨0, l, steps l⟩ dims⟩ = 0 := by
          refine wrong_no h2 (by simp [offs_length]) ?_
          simp only [Bool.and_eq_true, List.all_eq_true]
          refine ⟨by decide, fun s hs => near_true.2 ?_⟩
          obtain ⟨k, hk, rfl⟩ := List.getElem_of_mem hs
          rw [offs_length] at hk
          rw [hoff k hk]
          by_cases h1 : 1 < dims[k]
          · rw [if_pos h1]; have := step_less f5 hk h1; omega
          · rw [if_neg h1]; omega
        rw [this]; decide
    · rw [reform_shape hw h2 h3]
      exact ⟨fun h => (by cases h), fun h => absurd h.2 h3⟩
  · rw [reform_size hw h2]
    exact ⟨fun h => (absurd h h2), fun h => (absurd h.1 h2)⟩
end AdjV
