/-
  Plain: without a race there is one outcome. No program in sight. No condition.
-/
import Derived.Test.YtlnfmipcbhhkhaaCorePlain9
namespace AdjC
set_option linter.unusedVariables false

theorem postsFrom_append : ∀ (i : Int) (l m : List I) (s : Int), postsFrom i (l ++ m) s = postsFrom i l s ++ postsFrom (i + l.length) m s
  | i, [], m, s => by simp [postsFrom]
  | i, x :: l, m, s => by
    show (if x.d = 3 ∧ x.a = s then [i + 1] else []) ++ postsFrom (i + 1) (l ++ m) s = ((if x.d = 3 ∧ x.a = s then [i + 1] else []) ++ postsFrom (i + 1) l s) ++ _
    rw [postsFrom_append (i + 1) l m s, List.append_assoc, List.length_cons, show i + 1 + (l.length : Int) = i + ((l.length + 1 : Nat) : Int) by omega]
theorem posts_prefix (l : List I) (j : Nat) (s : Int) : ∃ r, posts l s = posts (l.take j) s ++ r := by
  refine ⟨postsFrom ((l.take j).length) (l.drop j) s, ?_⟩
  have := postsFrom_append 0 (l.take j) (l.drop j) s
  rw [List.take_append_drop, Int.zero_add] at this
  exact this
theorem posts_none {l : List I} {s : Int} (h : uses l 3 s = false) : posts l s = [] := by
  have g : ∀ (i : Int) (l : List I), uses l 3 s = false → postsFrom i l s = [] := by
    intro i l
    induction l generalizing i with
    | nil => intro _; rfl
    | cons x l ih =>
      intro h
      unfold uses at h
      rw [List.any_cons, Bool.or_eq_false_iff] at h
      show (if x.d = 3 ∧ x.a = s then [i + 1] else []) ++ postsFrom (i + 1) l s = []
      rw [ih (i + 1) h.2, if_neg]
      · rfl
      · intro e
        have := h.1
        simp [e.1, e.2] at this
  exact g 0 l h
theorem cnt_none {l : List I} {s : Int} (h : uses l 4 s = false) : cnt l s = 0 := by
  unfold cnt
  rw [List.length_eq_zero_iff, List.filter_eq_nil_iff]
  unfold uses at h
  rw [List.any_eq_false] at h
  intro x hx
  exact h x hx
theorem uses_take {l : List I} {d s : Int} (h : uses l d s = false) (j : Nat) : uses (l.take j) d s = false := by
  unfold uses at h ⊢
  rw [List.any_eq_false] at h ⊢
  exact fun x hx => h x (List.mem_of_mem_take hx)
theorem uses_mem {l : List I} {d s : Int} {x : I} (hx : x ∈ l) (h1 : x.d = d) (h2 : x.a = s) : uses l d s = true := by
  unfold uses
  rw [List.any_eq_true]
  exact ⟨x, hx, by simp [h1, h2]⟩
theorem take_next {l : List I} {i : Nat} (h : i < l.length) : l.take (i + 1) = l.take i ++ [l[i]] := List.take_succ_eq_append_getElem h
theorem cnt_mono (l : List I) (s : Int) {i j : Nat} (h : i ≤ j) : cnt (l.take i) s ≤ cnt (l.take j) s := by
  unfold cnt
  have : l.take i = (l.take j).take i := by rw [List.take_take, Nat.min_eq_left h]
  rw [this]
  exact ((List.take_sublist i (l.take j)).filter _).length_le

/-- What lies on each semaphore: posts less waits. -/
def Bal (c : Code) (s : St) : Prop := ∀ g : Int, 0 ≤ g → g < 16 →
  at_ s.sems g = ((posts (c.mover.take s.i) g).length : Int) + ((posts (c.maker.take s.j) g).length : Int) - (cnt (c.mover.take s.i) g : Int) - (cnt (c.maker.take s.j) g : Int)
theorem sems_doI {x : I} {s : St} (ha : (x.d = 3 ∨ x.d = 4) → 0 ≤ x.a ∧ x.a < 16) (hl : s.sems.length = 16) (g : Int) (h0 : 0 ≤ g) (h1 : g < 16) :
    at_ (doI x s).sems g = at_ s.sems g + (if x.d = 3 ∧ x.a = g then 1 else 0) - (if x.d = 4 ∧ x.a = g then 1 else 0) := by
  by_cases hd : x.d = 3 ∨ x.d = 4
  · rw [doI_sem hd]
    have hx := ha hd
    simp only
    rw [at_put (by omega) (by omega) g h0]
    by_cases e : g = x.a
    · rw [if_pos e, ← e]
      rcases hd with hd | hd
      · simp [hd]
      · simp [hd]; omega
    · rw [if_neg e, if_neg (by omega), if_neg (by omega)]; omega
  · rw [if_neg (by omega), if_neg (by omega)]
    have : (doI x s).sems = s.sems := by
      unfold doI
      repeat' split
      all_goals first | rfl | (exfalso; omega)
    rw [this]; omega
theorem posts_step {l : List I} {i : Nat} (h : i < l.length) (g : Int) : ((posts (l.take (i + 1)) g).length : Int) = (posts (l.take i) g).length + (if l[i].d = 3 ∧ l[i].a = g then 1 else 0) := by
  rw [take_next h, posts_snoc, List.length_append]
  by_cases e : l[i].d = 3 ∧ l[i].a = g
  · rw [if_pos e, if_pos e]; simp
  · rw [if_neg e, if_neg e]; simp
theorem cnt_step {l : List I} {i : Nat} (h : i < l.length) (g : Int) : (cnt (l.take (i + 1)) g : Int) = cnt (l.take i) g + (if l[i].d = 4 ∧ l[i].a = g then 1 else 0) := by
  rw [take_next h, cnt_snoc]
  by_cases e : l[i].d = 4 ∧ l[i].a = g
  · rw [if_pos e, if_pos e]; simp
  · rw [if_neg e, if_neg e]; simp
structure Good (c : Code) (s : St) : Prop where
  ok : Ok c s
  bal : Bal c s
theorem stepA_j {c : Code} {s : St} (hi : s.i < c.mover.length) : (stepA c s).j = s.j := by rw [stepA_at hi]; exact (doI_shape c.mover[s.i] s).2.2.2.2
theorem stepB_i {c : Code} {s : St} (hj : s.j < c.maker.length) : (stepB c s).i = s.i := by rw [stepB_at hj]; exact (doI_shape c.maker[s.j] s).2.2.2.1
theorem stepA_i {c : Code} {s : St} (hi : s.i < c.mover.length) : (stepA c s).i = s.i + 1 := by rw [stepA_at hi]
theorem stepB_j {c : Code} {s : St} (hj : s.j < c.maker.length) : (stepB c s).j = s.j + 1 := by rw [stepB_at hj]
theorem stepA_sems {c : Code} {s : St} (hi : s.i < c.mover.length) : (stepA c s).sems = (doI c.mover[s.i] s).sems := by rw [stepA_at hi]
theorem stepB_sems {c : Code} {s : St} (hj : s.j < c.maker.length) : (stepB c s).sems = (doI c.maker[s.j] s).sems := by rw [stepB_at hj]
section
variable {c : Code} {s : St}
theorem Good.stepA (h : Good c s) (hw : wrong c = 0) (hc : canA c s = true) : Good c (stepA c s) := by
  obtain ⟨hi, hr⟩ := canA_at hc
  have hx := (wrong_zero hw).2.2.1 _ (List.getElem_mem hi)
  refine ⟨h.ok.stepA hw hc, fun g h0 h1 => ?_⟩
  rw [stepA_sems hi, stepA_i hi, stepA_j hi, sems_doI (fun hd => right_sem hx hd) h.ok.sems g h0 h1, h.bal g h0 h1, posts_step hi, cnt_step hi]
  omega
theorem Good.stepB (h : Good c s) (hw : wrong c = 0) (hc : canB c s = true) : Good c (stepB c s) := by
  obtain ⟨hi, hr⟩ := canB_at hc
  have hx := (wrong_zero hw).2.2.2.1 _ (List.getElem_mem hi)
  refine ⟨h.ok.stepB hw hc, fun g h0 h1 => ?_⟩
  rw [stepB_sems hi, stepB_i hi, stepB_j hi, sems_doI (fun hd => right_sem hx hd) h.ok.sems g h0 h1, h.bal g h0 h1, posts_step hi, cnt_step hi]
  omega
theorem Good.start {mem : List Int} (hw : wrong c = 0) (hm : (mem.length : Int) = c.mem) : Good c (AdjC.start c mem) := by
  refine ⟨(Comes.start (picks := []) hw hm).2.1, fun g h0 h1 => ?_⟩
  have : at_ (AdjC.start c mem).sems g = 0 := by
    have := at_mem (l := (AdjC.start c mem).sems) (k := g) (by simp [AdjC.start]; omega)
    simp only [AdjC.start, List.mem_replicate] at this
    exact this.2
  rw [this]
  simp [AdjC.start, posts, postsFrom, cnt]
theorem untangled (hw : wrong c = 0) (g : Int) (h0 : 0 ≤ g) (h1 : g < 16) : tangled c g = false := by
  have h := (wrong_zero hw).2.2.2.2
  rw [List.any_eq_false] at h
  have := h g (by
    simp only [sems, List.mem_map, List.mem_range]
    exact ⟨g.toNat, by omega, by omega⟩)
  simpa using this
/-- On what the mover waits the maker alone posts, and no other waits. -/
theorem lone_mover (hw : wrong c = 0) {g : Int} (h0 : 0 ≤ g) (h1 : g < 16) (h : uses c.mover 4 g = true) : uses c.mover 3 g = false ∧ uses c.maker 4 g = false := by
  have := untangled hw g h0 h1
  unfold tangled at this
  simp only [h, Bool.and_true, Bool.true_and, Bool.or_eq_false_iff] at this
  exact ⟨this.2.2.1, this.2.1⟩
theorem lone_maker (hw : wrong c = 0) {g : Int} (h0 : 0 ≤ g) (h1 : g < 16) (h : uses c.maker 4 g = true) : uses c.maker 3 g = false ∧ uses c.mover 4 g = false := by
  have := untangled hw g h0 h1
  unfold tangled at this
  simp only [h, Bool.and_true, Bool.true_and, Bool.or_eq_false_iff] at this
  exact ⟨this.2.2.2, this.2.1⟩
/-- What must be done ahead is done. -/
theorem now_le (own other : List I) (j : Nat) : ∀ k : Nat, k ≤ own.length → (∀ (t : Nat) (ht : t < own.length), t < k → own[t].d = 4 → cnt (own.take t) own[t].a + 1 ≤ (posts (other.take j) own[t].a).length) → nowK own other k ≤ j
  | 0, _, _ => by simp only [nowK]; omega
  | k + 1, hk, h => by
    have ih := now_le own other j k (by omega) (fun t ht h1 h2 => h t ht (by omega) h2)
    rw [nowK_next (by omega) rfl]
    by_cases hd : own[k].d = 4
    · rw [if_pos hd]
      have hc := h k (by omega) (by omega) hd
      obtain ⟨r, hr⟩ := posts_prefix other j own[k].a
      have hlt : cnt (own.take k) own[k].a < (posts other own[k].a).length := by rw [hr, List.length_append]; omega
      rw [need_there rfl hlt]
      have he : (posts other own[k].a)[cnt (own.take k) own[k].a] = (posts (other.take j) own[k].a)[cnt (own.take k) own[k].a]'(by omega) := by
        simp only [hr]
        rw [List.getElem_append_left (by omega)]
      have hm := posts_range _ (List.getElem_mem (l := posts (other.take j) own[k].a) (n := cnt (own.take k) own[k].a) (by omega))
      rw [he]
      have hl : (other.take j).length ≤ j := by rw [List.length_take]; omega
      omega
    · rw [if_neg hd]; exact ih
theorem ahead_mover (hw : wrong c = 0) (h : Good c s) (hc : canA c s = true) : nowK c.mover c.maker (s.i + 1) ≤ s.j := by
  obtain ⟨hi, hr⟩ := canA_at hc
  refine now_le c.mover c.maker s.j (s.i + 1) hi (fun t ht h1 h2 => ?_)
  have hx := (wrong_zero hw).2.2.1 _ (List.getElem_mem ht)
  have hg := right_sem hx (.inr h2)
  obtain ⟨u1, u2⟩ := lone_mover hw hg.1 hg.2 (uses_mem (List.getElem_mem ht) h2 rfl)
  have hb := h.bal c.mover[t].a hg.1 hg.2
  rw [posts_none (uses_take u1 s.i), cnt_none (uses_take u2 s.j)] at hb
  have hge := h.ok.range _ (at_mem (l := s.sems) (k := c.mover[t].a) (by rw [h.ok.sems]; omega))
  simp only [List.length_nil] at hb
  by_cases e : t = s.i
  · subst e
    have : 0 < at_ s.sems c.mover[s.i].a := by
      unfold ready at hr
      simp [h2] at hr
      exact hr
    omega
  · have hs := cnt_step ht c.mover[t].a
    rw [if_pos ⟨h2, rfl⟩] at hs
    have := cnt_mono c.mover c.mover[t].a (show t + 1 ≤ s.i by omega)
    omega
theorem ahead_maker (hw : wrong c = 0) (h : Good c s) (hc : canB c s = true) : nowK c.maker c.mover (s.j + 1) ≤ s.i := by
  obtain ⟨hi, hr⟩ := canB_at hc
  refine now_le c.maker c.mover s.i (s.j + 1) hi (fun t ht h1 h2 => ?_)
  have hx := (wrong_zero hw).2.2.2.1 _ (List.getElem_mem ht)
  have hg := right_sem hx (.inr h2)
  obtain ⟨u1, u2⟩ := lone_maker hw hg.1 hg.2 (uses_mem (List.getElem_mem ht) h2 rfl)
  have hb := h.bal c.maker[t].a hg.1 hg.2
  rw [posts_none (uses_take u1 s.j), cnt_none (uses_take u2 s.i)] at hb
  have hge := h.ok.range _ (at_mem (l := s.sems) (k := c.maker[t].a) (by rw [h.ok.sems]; omega))
  simp only [List.length_nil] at hb
  by_cases e : t = s.j
  · subst e
    have : 0 < at_ s.sems c.maker[s.j].a := by
      unfold ready at hr
      simp [h2] at hr
      exact hr
    omega
  · have hs := cnt_step ht c.maker[t].a
    rw [if_pos ⟨h2, rfl⟩] at hs
    have := cnt_mono c.maker c.maker[t].a (show t + 1 ≤ s.j by omega)
    omega
theorem no_race (hr : race c = none) {i j : Nat} (hi : i < c.mover.length) (hj : j < c.maker.length) : raceB c i j = false := by
  unfold race at hr
  rw [List.findSome?_eq_none_iff] at hr
  have h1 := hr i (by simpa using hi)
  have h2 : raceOf c i = none := by simpa using h1
  unfold raceOf at h2
  rw [List.find?_eq_none] at h2
  simpa using h2 j (by simpa using hj)
theorem no_clash (hw : wrong c = 0) (hr : race c = none) (h : Good c s) (ha : canA c s = true) (hb : canB c s = true) {hi : s.i < c.mover.length} {hj : s.j < c.maker.length} : clash c.mover[s.i] c.maker[s.j] = false := by
  have h1 := ahead_mover hw h ha
  have h2 := ahead_maker hw h hb
  have h3 := no_race hr hi hj
  rw [raceB_at hi hj rfl rfl] at h3
  simpa [h1, h2] using h3
theorem doI_with_i (x : I) (s : St) (m : Nat) : doI x { s with i := m } = { doI x s with i := m } := by
  unfold doI
  repeat' split
  all_goals rfl
theorem doI_with_j (x : I) (s : St) (m : Nat) : doI x { s with j := m } = { doI x s with j := m } := by
  unfold doI
  repeat' split
  all_goals rfl
theorem commute (hw : wrong c = 0) (hr : race c = none) (h : Good c s) (ha : canA c s = true) (hb : canB c s = true) {hi : s.i < c.mover.length} {hj : s.j < c.maker.length} : doI c.maker[s.j] (doI c.mover[s.i] s) = doI c.mover[s.i] (doI c.maker[s.j] s) := by
  have hx := (wrong_zero hw).2.2.1 _ (List.getElem_mem hi)
  have hy := (wrong_zero hw).2.2.2.1 _ (List.getElem_mem hj)
  have hcl := no_clash hw hr h ha hb (hi := hi) (hj := hj)
  by_cases e1 : c.mover[s.i].d = 3 ∨ c.mover[s.i].d = 4
  · by_cases e2 : c.maker[s.j].d = 3 ∨ c.maker[s.j].d = 4
    · exact sem_commute e1 e2 (right_sem hx e1) (right_sem hy e2) h.ok.sems
    · exact sem_other e1 e2
  · by_cases e2 : c.maker[s.j].d = 3 ∨ c.maker[s.j].d = 4
    · exact (sem_other e2 e1).symm
    · exact moves_commute hx hy (by have := right_mover hx; omega) e2 h.ok.pad hcl
theorem still_B (hw : wrong c = 0) (h : Good c s) (ha : canA c s = true) (hb : canB c s = true) : canB c (stepA c s) = true := by
  obtain ⟨hi, hri⟩ := canA_at ha
  obtain ⟨hj, hrj⟩ := canB_at hb
  have hx := (wrong_zero hw).2.2.1 _ (List.getElem_mem hi)
  have hy := (wrong_zero hw).2.2.2.1 _ (List.getElem_mem hj)
  unfold canB
  rw [stepA_j hi, List.getElem?_eq_getElem hj]
  simp only
  unfold ready at hrj ⊢
  by_cases e : c.maker[s.j].d = 4
  · have hg := right_sem hy (.inr e)
    have hp : 0 < at_ s.sems c.maker[s.j].a := by simp [e] at hrj; exact hrj
    obtain ⟨u1, u2⟩ := lone_maker hw hg.1 hg.2 (uses_mem (List.getElem_mem hj) e rfl)
    have hne : ¬ (c.mover[s.i].d = 4 ∧ c.mover[s.i].a = c.maker[s.j].a) := fun hh => by
      have := uses_mem (List.getElem_mem hi) hh.1 hh.2
      rw [this] at u2; cases u2
    rw [stepA_sems hi, sems_doI (fun hd => right_sem hx hd) h.ok.sems _ hg.1 hg.2, if_neg hne]
    simp only [Bool.or_eq_true, decide_eq_true_eq]
    right
    split <;> omega
  · simp [e]
theorem still_A (hw : wrong c = 0) (h : Good c s) (ha : canA c s = true) (hb : canB c s = true) : canA c (stepB c s) = true := by
  obtain ⟨hi, hri⟩ := canA_at ha
  obtain ⟨hj, hrj⟩ := canB_at hb
  have hx := (wrong_zero hw).2.2.1 _ (List.getElem_mem hi)
  have hy := (wrong_zero hw).2.2.2.1 _ (List.getElem_mem hj)
  unfold canA
  rw [stepB_i hj, List.getElem?_eq_getElem hi]
  simp only
  unfold ready at hri ⊢
  by_cases e : c.mover[s.i].d = 4
  · have hg := right_sem hx (.inr e)
    have hp : 0 < at_ s.sems c.mover[s.i].a := by simp [e] at hri; exact hri
    obtain ⟨u1, u2⟩ := lone_mover hw hg.1 hg.2 (uses_mem (List.getElem_mem hi) e rfl)
    have hne : ¬ (c.maker[s.j].d = 4 ∧ c.maker[s.j].a = c.mover[s.i].a) := fun hh => by
      have := uses_mem (List.getElem_mem hj) hh.1 hh.2
      rw [this] at u2; cases u2
    rw [stepB_sems hj, sems_doI (fun hd => right_sem hy hd) h.ok.sems _ hg.1 hg.2, if_neg hne]
    simp only [Bool.or_eq_true, decide_eq_true_eq]
    right
    split <;> omega
  · simp [e]
theorem diamond (hw : wrong c = 0) (hr : race c = none) (h : Good c s) (ha : canA c s = true) (hb : canB c s = true) : stepB c (stepA c s) = stepA c (stepB c s) := by
  obtain ⟨hi, _⟩ := canA_at ha
  obtain ⟨hj, _⟩ := canB_at hb
  have hc := commute hw hr h ha hb (hi := hi) (hj := hj)
  have e1 : stepB c (stepA c s) = { doI c.maker[s.j] (doI c.mover[s.i] s) with i := s.i + 1, j := s.j + 1 } := by
    unfold stepB
    rw [stepA_j hi, List.getElem?_eq_getElem hj]
    simp only
    rw [stepA_at hi, doI_with_i]
  have e2 : stepA c (stepB c s) = { doI c.mover[s.i] (doI c.maker[s.j] s) with i := s.i + 1, j := s.j + 1 } := by
    unfold stepA
    rw [stepB_i hj, List.getElem?_eq_getElem hi]
    simp only
    rw [stepB_at hj, doI_with_j]
  rw [e1, e2, hc]
theorem run_A {picks : List Int} {t : Nat} (ha : canA c s = true) (hb : canB c s = false) : runN c picks (left c s) (s, t) = runN c picks (left c (stepA c s)) (stepA c s, t) := by
  rw [left_stepA ha]; show runN c picks _ (next c picks (s, t)) = _; unfold next; simp [ha, hb]
theorem run_B {picks : List Int} {t : Nat} (ha : canA c s = false) (hb : canB c s = true) : runN c picks (left c s) (s, t) = runN c picks (left c (stepB c s)) (stepB c s, t) := by
  rw [left_stepB hb]; show runN c picks _ (next c picks (s, t)) = _; unfold next; simp [ha, hb]
theorem run_bothA {picks : List Int} {t : Nat} (ha : canA c s = true) (hb : canB c s = true) (hp : picked picks t = true) : runN c picks (left c s) (s, t) = runN c picks (left c (stepA c s)) (stepA c s, t + 1) := by
  rw [left_stepA ha]; show runN c picks _ (next c picks (s, t)) = _; unfold next; simp [ha, hb, hp]
theorem run_bothB {picks : List Int} {t : Nat} (ha : canA c s = true) (hb : canB c s = true) (hp : picked picks t = false) : runN c picks (left c s) (s, t) = runN c picks (left c (stepB c s)) (stepB c s, t + 1) := by
  rw [left_stepB hb]; show runN c picks _ (next c picks (s, t)) = _; unfold next; simp [ha, hb, hp]
theorem picked_zero (t : Nat) : picked [0] t = true := by simp [picked, Nat.mod_one]
theorem picked_one (t : Nat) : picked [1] t = false := by simp [picked, Nat.mod_one]
/-- The maker first, where it can. -/
theorem via_B {t : Nat} (hb : canB c s = true) : ∃ t2, runN c [1] (left c s) (s, t) = runN c [1] (left c (stepB c s)) (stepB c s, t2) := by
  rcases Bool.eq_false_or_eq_true (canA c s) with ha | ha
  · exact ⟨_, run_bothB ha hb (picked_one t)⟩
  · exact ⟨_, run_B ha hb⟩
theorem via_A {t : Nat} (ha : canA c s = true) : ∃ t2, runN c [0] (left c s) (s, t) = runN c [0] (left c (stepA c s)) (stepA c s, t2) := by
  rcases Bool.eq_false_or_eq_true (canB c s) with hb | hb
  · exact ⟨_, run_bothA ha hb (picked_zero t)⟩
  · exact ⟨_, run_A ha hb⟩
end
/-- Without a race all runs come to one end. -/
theorem calm {c : Code} (hw : wrong c = 0) (hr : race c = none) : ∀ (n : Nat) (s : St), left c s = n → Good c s → ∀ (p q : List Int) (t u : Nat), (runN c p (left c s) (s, t)).1 = (runN c q (left c s) (s, u)).1 := by
  intro n
  induction n using Nat.strongRecOn with
  | ind n ih =>
    intro s hn h p q t u
    rcases Bool.eq_false_or_eq_true (canA c s) with ha | ha <;> rcases Bool.eq_false_or_eq_true (canB c s) with hb | hb
    · have hgA := h.stepA hw ha
      have hgB := h.stepB hw hb
      have lA := left_stepA ha
      have lB := left_stepB hb
      have hbA := still_B hw h ha hb
      have haB := still_A hw h ha hb
      have hd := diamond hw hr h ha hb
      have lAB := left_stepB hbA
      -- whichever is picked: the end that stepB (stepA s) comes to
      have toA : ∀ (p : List Int) (t : Nat), (runN c p (left c (stepA c s)) (stepA c s, t)).1 = (runN c [1] (left c (stepB c (stepA c s))) (stepB c (stepA c s), 0)).1 := fun p t => by
        rw [ih _ (by omega) (stepA c s) rfl hgA p [1] t 0]
        obtain ⟨t2, h2⟩ := via_B (t := 0) hbA
        rw [h2]
        exact ih _ (by omega) _ rfl (hgA.stepB hw hbA) [1] [1] t2 0
      have toB : ∀ (p : List Int) (t : Nat), (runN c p (left c (stepB c s)) (stepB c s, t)).1 = (runN c [1] (left c (stepB c (stepA c s))) (stepB c (stepA c s), 0)).1 := fun p t => by
        rw [ih _ (by omega) (stepB c s) rfl hgB p [0] t 0]
        obtain ⟨t2, h2⟩ := via_A (t := 0) haB
        rw [h2, ← hd]
        exact ih _ (by omega) _ rfl (hgA.stepB hw hbA) [0] [1] t2 0
      have any : ∀ (p : List Int) (t : Nat), (runN c p (left c s) (s, t)).1 = (runN c [1] (left c (stepB c (stepA c s))) (stepB c (stepA c s), 0)).1 := fun p t => by
        rcases Bool.eq_false_or_eq_true (picked p t) with hp | hp
        · rw [run_bothA ha hb hp]; exact toA p _
        · rw [run_bothB ha hb hp]; exact toB p _
      rw [any p t, any q u]
    · rw [run_A ha hb, run_A ha hb]
      have lA := left_stepA ha
      exact ih _ (by omega) _ rfl (h.stepA hw ha) p q t u
    · rw [run_B ha hb, run_B ha hb]
      have lB := left_stepB hb
      exact ih _ (by omega) _ rfl (h.stepB hw hb) p q t u
    · rw [runN_stops ha hb, runN_stops ha hb]
theorem run_calm {c : Code} (hw : wrong c = 0) (hr : race c = none) (mem p q : List Int) : run c mem p = run c mem q := by
  by_cases hm : (mem.length : Int) = c.mem
  · have h : final c mem p = final c mem q := calm hw hr _ _ rfl (Good.start hw hm) p q 0 0
    unfold run
    rw [h]
  · rw [run_shape hw hm, run_shape hw hm]
end AdjC
