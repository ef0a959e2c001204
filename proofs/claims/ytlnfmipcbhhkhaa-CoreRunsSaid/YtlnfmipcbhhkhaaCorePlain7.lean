/-
  Plain: the machine runs. No program in sight. No condition.
-/
import Derived.Test.YtlnfmipcbhhkhaaCorePlain6
namespace AdjC
set_option linter.unusedVariables false

theorem put_length (l : List Int) (k v : Int) : (put l k v).length = l.length := by simp [put]
theorem eachK_length (x : I) (old : List Int) : ∀ k, (eachK x old k).length = old.length
  | 0 => rfl
  | k + 1 => (put_length _ _ _).trans (eachK_length x old k)
theorem loadK_length (x : I) (pad mem : List Int) : ∀ k, (loadK x pad mem k).length = pad.length
  | 0 => rfl
  | k + 1 => (put_length _ _ _).trans (loadK_length x pad mem k)
theorem storeK_length (x : I) (pad mem : List Int) : ∀ k, (storeK x pad mem k).length = mem.length
  | 0 => rfl
  | k + 1 => (put_length _ _ _).trans (storeK_length x pad mem k)
/-- What holds of each state of a run. -/
structure Ok (c : Code) (s : St) : Prop where
  pad : (s.pad.length : Int) = c.pad
  mem : (s.mem.length : Int) = c.mem
  sems : s.sems.length = 16
  range : ∀ v ∈ s.sems, 0 ≤ v ∧ v ≤ s.i + s.j
  i : s.i ≤ c.mover.length
  j : s.j ≤ c.maker.length
theorem at_mem {l : List Int} {k : Int} (h : k.toNat < l.length) : at_ l k ∈ l := by
  unfold at_; rw [List.getD_eq_getElem?_getD, List.getElem?_eq_getElem h]; exact List.getElem_mem h
theorem put_mem {l : List Int} {k v u : Int} (h : u ∈ put l k v) : u ∈ l ∨ u = v := by
  unfold put at h; exact List.mem_or_eq_of_mem_set h
/-- What an instruction leaves as it is. -/
theorem doI_shape (x : I) (s : St) : (doI x s).pad.length = s.pad.length ∧ (doI x s).mem.length = s.mem.length ∧ (doI x s).sems.length = s.sems.length ∧ (doI x s).i = s.i ∧ (doI x s).j = s.j := by
  unfold doI
  repeat' split
  all_goals simp [put_length, loadK_length, storeK_length, eachK_length]
theorem doI_sems {x : I} {s : St} {m : Int} (ha : (x.d = 3 ∨ x.d = 4) → 0 ≤ x.a ∧ x.a < 16) (hl : s.sems.length = 16) (hr : ready x s = true) (h : ∀ v ∈ s.sems, 0 ≤ v ∧ v ≤ m) : ∀ v ∈ (doI x s).sems, 0 ≤ v ∧ v ≤ m + 1 := by
  intro v hv
  unfold doI at hv
  by_cases h1 : x.d = 1
  · rw [if_pos h1] at hv; have := h v hv; omega
  rw [if_neg h1] at hv
  by_cases h2 : x.d = 2
  · rw [if_pos h2] at hv; have := h v hv; omega
  rw [if_neg h2] at hv
  by_cases h3 : x.d = 3
  · rw [if_pos h3] at hv
    have hx := ha (.inl h3)
    have hm := h _ (at_mem (l := s.sems) (k := x.a) (by omega))
    rcases put_mem hv with hv | hv
    · have := h v hv; omega
    · omega
  rw [if_neg h3] at hv
  by_cases h4 : x.d = 4
  · rw [if_pos h4] at hv
    have hx := ha (.inr h4)
    have hm := h _ (at_mem (l := s.sems) (k := x.a) (by omega))
    have hp : 0 < at_ s.sems x.a := by
      simp [ready, h4] at hr; exact hr
    rcases put_mem hv with hv | hv
    · have := h v hv; omega
    · omega
  rw [if_neg h4] at hv
  by_cases h5 : x.d = 13
  · rw [if_pos h5] at hv; have := h v hv; omega
  · rw [if_neg h5] at hv; have := h v hv; omega
theorem right_sem {pad mem : Int} {mv : Bool} {x : I} (h : wrongI pad mem mv x = 0) (hd : x.d = 3 ∨ x.d = 4) : 0 ≤ x.a ∧ x.a < 16 := by
  obtain ⟨s, h1, h2⟩ := sem_range h hd; omega
theorem canA_at {c : Code} {s : St} (h : canA c s = true) : ∃ (hi : s.i < c.mover.length), ready c.mover[s.i] s = true := by
  unfold canA at h
  rcases Nat.lt_or_ge s.i c.mover.length with hi | hi
  · rw [List.getElem?_eq_getElem hi] at h; exact ⟨hi, h⟩
  · rw [List.getElem?_eq_none hi] at h; cases h
theorem canB_at {c : Code} {s : St} (h : canB c s = true) : ∃ (hj : s.j < c.maker.length), ready c.maker[s.j] s = true := by
  unfold canB at h
  rcases Nat.lt_or_ge s.j c.maker.length with hi | hi
  · rw [List.getElem?_eq_getElem hi] at h; exact ⟨hi, h⟩
  · rw [List.getElem?_eq_none hi] at h; cases h
theorem stepA_at {c : Code} {s : St} (hi : s.i < c.mover.length) : stepA c s = { doI c.mover[s.i] s with i := s.i + 1 } := by
  unfold stepA; rw [List.getElem?_eq_getElem hi]
theorem stepB_at {c : Code} {s : St} (hj : s.j < c.maker.length) : stepB c s = { doI c.maker[s.j] s with j := s.j + 1 } := by
  unfold stepB; rw [List.getElem?_eq_getElem hj]
theorem Ok.stepA {c : Code} {s : St} (h : Ok c s) (hw : wrong c = 0) (hc : canA c s = true) : Ok c (stepA c s) := by
  obtain ⟨hi, hr⟩ := canA_at hc
  have hx := (wrong_zero hw).2.2.1 _ (List.getElem_mem hi)
  obtain ⟨d1, d2, d3, d4, d5⟩ := doI_shape c.mover[s.i] s
  have hs := doI_sems (fun hd => right_sem hx hd) h.sems hr h.range
  rw [stepA_at hi]
  refine ⟨?_, ?_, ?_, ?_, ?_, ?_⟩
  · show ((doI c.mover[s.i] s).pad.length : Int) = c.pad; rw [d1]; exact h.pad
  · show ((doI c.mover[s.i] s).mem.length : Int) = c.mem; rw [d2]; exact h.mem
  · exact d3.trans h.sems
  · intro v hv
    have := hs v hv
    show 0 ≤ v ∧ v ≤ ((s.i + 1 : Nat) : Int) + ((doI c.mover[s.i] s).j : Int)
    rw [d5]; omega
  · exact hi
  · show (doI c.mover[s.i] s).j ≤ _; rw [d5]; exact h.j
theorem Ok.stepB {c : Code} {s : St} (h : Ok c s) (hw : wrong c = 0) (hc : canB c s = true) : Ok c (stepB c s) := by
  obtain ⟨hi, hr⟩ := canB_at hc
  have hx := (wrong_zero hw).2.2.2.1 _ (List.getElem_mem hi)
  obtain ⟨d1, d2, d3, d4, d5⟩ := doI_shape c.maker[s.j] s
  have hs := doI_sems (fun hd => right_sem hx hd) h.sems hr h.range
  rw [stepB_at hi]
  refine ⟨?_, ?_, ?_, ?_, ?_, ?_⟩
  · show ((doI c.maker[s.j] s).pad.length : Int) = c.pad; rw [d1]; exact h.pad
  · show ((doI c.maker[s.j] s).mem.length : Int) = c.mem; rw [d2]; exact h.mem
  · exact d3.trans h.sems
  · intro v hv
    have := hs v hv
    show 0 ≤ v ∧ v ≤ ((doI c.maker[s.j] s).i : Int) + ((s.j + 1 : Nat) : Int)
    rw [d4]; omega
  · show (doI c.maker[s.j] s).i ≤ _; rw [d4]; exact h.i
  · exact hi

/-- Which engine goes on; whether that was picked. -/
def next (c : Code) (picks : List Int) (p : St × Nat) : St × Nat :=
  if canA c p.1 = true then
    (if canB c p.1 = true then ((if picked picks p.2 = true then stepA c p.1 else stepB c p.1), p.2 + 1) else (stepA c p.1, p.2))
  else if canB c p.1 = true then (stepB c p.1, p.2) else p
def runN (c : Code) (picks : List Int) : Nat → St × Nat → St × Nat
  | 0, p => p
  | f + 1, p => runN c picks f (next c picks p)
def left (c : Code) (s : St) : Nat := (c.mover.length - s.i) + (c.maker.length - s.j)
theorem next_stops {c : Code} {picks : List Int} {p : St × Nat} (ha : canA c p.1 = false) (hb : canB c p.1 = false) : next c picks p = p := by
  unfold next; simp [ha, hb]
theorem runN_stops {c : Code} {picks : List Int} {p : St × Nat} (ha : canA c p.1 = false) (hb : canB c p.1 = false) : ∀ f, runN c picks f p = p
  | 0 => rfl
  | f + 1 => by show runN c picks f (next c picks p) = p; rw [next_stops ha hb]; exact runN_stops ha hb f
theorem left_stepA {c : Code} {s : St} (hc : canA c s = true) : left c s = left c (stepA c s) + 1 := by
  obtain ⟨hi, _⟩ := canA_at hc
  have h2 : (stepA c s).j = s.j := by rw [stepA_at hi]; exact (doI_shape c.mover[s.i] s).2.2.2.2
  have h1 : (stepA c s).i = s.i + 1 := by rw [stepA_at hi]
  unfold left; rw [h1, h2]; omega
theorem left_stepB {c : Code} {s : St} (hc : canB c s = true) : left c s = left c (stepB c s) + 1 := by
  obtain ⟨hi, _⟩ := canB_at hc
  have h2 : (stepB c s).i = s.i := by rw [stepB_at hi]; exact (doI_shape c.maker[s.j] s).2.2.2.1
  have h1 : (stepB c s).j = s.j + 1 := by rw [stepB_at hi]
  unfold left; rw [h1, h2]; omega
def start (c : Code) (mem : List Int) : St := ⟨List.replicate c.pad.toNat 0, mem, List.replicate 16 0, 0, 0⟩
def final (c : Code) (mem picks : List Int) : St := (runN c picks (left c (start c mem)) (start c mem, 0)).1
/-- A state that the run comes by. -/
def Comes (c : Code) (mem picks : List Int) (p : St × Nat) : Prop := runN c picks (left c p.1) p = runN c picks (left c (start c mem)) (start c mem, 0) ∧ Ok c p.1 ∧ p.2 ≤ p.1.i + p.1.j
theorem Comes.end_ {c : Code} {mem picks : List Int} {p : St × Nat} (h : Comes c mem picks p) (ha : canA c p.1 = false) (hb : canB c p.1 = false) : final c mem picks = p.1 := by
  unfold final; rw [← h.1, runN_stops ha hb]
theorem stepA_sum {c : Code} {s : St} (hc : canA c s = true) : (stepA c s).i + (stepA c s).j = s.i + s.j + 1 := by
  obtain ⟨hi, _⟩ := canA_at hc
  have h2 : (stepA c s).j = s.j := by rw [stepA_at hi]; exact (doI_shape c.mover[s.i] s).2.2.2.2
  have h1 : (stepA c s).i = s.i + 1 := by rw [stepA_at hi]
  omega
theorem stepB_sum {c : Code} {s : St} (hc : canB c s = true) : (stepB c s).i + (stepB c s).j = s.i + s.j + 1 := by
  obtain ⟨hi, _⟩ := canB_at hc
  have h2 : (stepB c s).i = s.i := by rw [stepB_at hi]; exact (doI_shape c.maker[s.j] s).2.2.2.1
  have h1 : (stepB c s).j = s.j + 1 := by rw [stepB_at hi]
  omega
theorem Comes.both {c : Code} {mem picks : List Int} {s : St} {t : Nat} (h : Comes c mem picks (s, t)) (hw : wrong c = 0) (ha : canA c s = true) (hb : canB c s = true) :
    Comes c mem picks ((if picked picks t = true then stepA c s else stepB c s), t + 1) := by
  have hn : next c picks (s, t) = ((if picked picks t = true then stepA c s else stepB c s), t + 1) := by unfold next; simp [ha, hb]
  obtain ⟨h1, h2, h3⟩ := h
  by_cases hp : picked picks t = true
  · rw [if_pos hp] at hn ⊢
    refine ⟨?_, h2.stepA hw ha, ?_⟩
    · rw [← h1, ← hn]
      show _ = runN c picks (left c s) (s, t)
      rw [left_stepA ha, hn]; show _ = runN c picks _ (next c picks (s, t)); rw [hn]
    · have := stepA_sum ha; simp only at h3 ⊢; omega
  · rw [if_neg hp] at hn ⊢
    refine ⟨?_, h2.stepB hw hb, ?_⟩
    · rw [← h1, ← hn]
      show _ = runN c picks (left c s) (s, t)
      rw [left_stepB hb, hn]; show _ = runN c picks _ (next c picks (s, t)); rw [hn]
    · have := stepB_sum hb; simp only at h3 ⊢; omega
theorem Comes.one {c : Code} {mem picks : List Int} {s : St} {t : Nat} (h : Comes c mem picks (s, t)) (hw : wrong c = 0) (ha : canA c s = true) (hb : canB c s = false) : Comes c mem picks (stepA c s, t) := by
  have hn : next c picks (s, t) = (stepA c s, t) := by unfold next; simp [ha, hb]
  obtain ⟨h1, h2, h3⟩ := h
  refine ⟨?_, h2.stepA hw ha, ?_⟩
  · rw [← h1, ← hn]
    show _ = runN c picks (left c s) (s, t)
    rw [left_stepA ha, hn]; show _ = runN c picks _ (next c picks (s, t)); rw [hn]
  · have := stepA_sum ha; simp only at h3 ⊢; omega
theorem Comes.two {c : Code} {mem picks : List Int} {s : St} {t : Nat} (h : Comes c mem picks (s, t)) (hw : wrong c = 0) (ha : canA c s = false) (hb : canB c s = true) : Comes c mem picks (stepB c s, t) := by
  have hn : next c picks (s, t) = (stepB c s, t) := by unfold next; simp [ha, hb]
  obtain ⟨h1, h2, h3⟩ := h
  refine ⟨?_, h2.stepB hw hb, ?_⟩
  · rw [← h1, ← hn]
    show _ = runN c picks (left c s) (s, t)
    rw [left_stepB hb, hn]; show _ = runN c picks _ (next c picks (s, t)); rw [hn]
  · have := stepB_sum hb; simp only at h3 ⊢; omega
theorem Comes.start {c : Code} {mem picks : List Int} (hw : wrong c = 0) (hm : (mem.length : Int) = c.mem) : Comes c mem picks (start c mem, 0) := by
  refine ⟨rfl, ⟨?_, hm, by simp [AdjC.start], ?_, Nat.zero_le _, Nat.zero_le _⟩, Nat.zero_le _⟩
  · have := (wrong_zero hw).1; simp only [AdjC.start, List.length_replicate]; omega
  · intro v hv
    simp only [AdjC.start, List.mem_replicate] at hv
    simp only [AdjC.start]; omega
/-- What Run answers: memory (nothing where it is no good), and what is wrong. -/
def run (c : Code) (mem picks : List Int) : List Int × Int :=
  if wrong c ≠ 0 then ([], wrong c) else if (mem.length : Int) ≠ c.mem then ([], 6)
  else if (final c mem picks).i < c.mover.length ∨ (final c mem picks).j < c.maker.length then ([], 12) else ((final c mem picks).mem, 0)
theorem run_wrong {c : Code} {mem picks : List Int} (h : wrong c ≠ 0) : run c mem picks = ([], wrong c) := if_pos h
theorem run_shape {c : Code} {mem picks : List Int} (h : wrong c = 0) (hm : (mem.length : Int) ≠ c.mem) : run c mem picks = ([], 6) := by unfold run; rw [if_neg (by simpa using h), if_pos hm]
theorem run_stuck {c : Code} {mem picks : List Int} {p : St × Nat} (h : wrong c = 0) (hm : (mem.length : Int) = c.mem) (hp : Comes c mem picks p) (ha : canA c p.1 = false) (hb : canB c p.1 = false) (hs : p.1.i < c.mover.length ∨ p.1.j < c.maker.length) : run c mem picks = ([], 12) := by
  unfold run; rw [if_neg (by simpa using h), if_neg (by simpa using hm), hp.end_ ha hb, if_pos hs]
theorem run_ends {c : Code} {mem picks : List Int} {p : St × Nat} (h : wrong c = 0) (hm : (mem.length : Int) = c.mem) (hp : Comes c mem picks p) (ha : canA c p.1 = false) (hb : canB c p.1 = false) (hs : ¬ (p.1.i < c.mover.length ∨ p.1.j < c.maker.length)) : run c mem picks = (p.1.mem, 0) := by
  unfold run; rw [if_neg (by simpa using h), if_neg (by simpa using hm), hp.end_ ha hb, if_neg hs]
end AdjC
