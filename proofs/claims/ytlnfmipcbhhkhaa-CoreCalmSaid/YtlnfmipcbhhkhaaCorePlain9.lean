/-
  Plain: two right instructions that do not clash, one of each engine, may change places. No program in sight. No condition.
-/
import Derived.Test.YtlnfmipcbhhkhaaCorePlain8
namespace AdjC
set_option linter.unusedVariables false

theorem at_put {l : List Int} {k v : Int} (h0 : 0 ≤ k) (h1 : k < l.length) (m : Int) (hm : 0 ≤ m) : at_ (put l k v) m = if m = k then v else at_ l m := by
  unfold at_ put
  rw [List.getD_eq_getElem?_getD, List.getElem?_set]
  by_cases e : m = k
  · subst e
    rw [if_pos rfl, if_pos rfl, if_pos (by omega)]; rfl
  · rw [if_neg (by omega), if_neg e, List.getD_eq_getElem?_getD]
theorem ext_at {l l' : List Int} (hl : l.length = l'.length) (h : ∀ m : Int, 0 ≤ m → m < l.length → at_ l m = at_ l' m) : l = l' := by
  apply List.ext_getElem hl
  intro i h1 h2
  have := h (i : Int) (by omega) (by omega)
  unfold at_ at this
  rw [Int.toNat_natCast, List.getD_eq_getElem?_getD, List.getD_eq_getElem?_getD, List.getElem?_eq_getElem h1, List.getElem?_eq_getElem h2] at this
  exact this
theorem at_each (x : I) (old : List Int) : ∀ k : Nat, (0 < k → 0 ≤ x.a ∧ x.a + k ≤ old.length) → ∀ m : Int, 0 ≤ m → at_ (eachK x old k) m = if x.a ≤ m ∧ m < x.a + k then word x old (m - x.a) else at_ old m
  | 0, _, m, hm => by rw [if_neg (by omega)]; rfl
  | k + 1, h, m, hm => by
    have h' := h (by omega)
    show at_ (put (eachK x old k) (x.a + k) (word x old k)) m = _
    rw [at_put (by omega) (by rw [eachK_length]; omega) m hm]
    by_cases e : m = x.a + k
    · rw [if_pos e, if_pos (by omega), e, show x.a + (k : Int) - x.a = (k : Int) by omega]
    · rw [if_neg e, at_each x old k (fun _ => by omega) m hm]
      by_cases e2 : x.a ≤ m ∧ m < x.a + k
      · rw [if_pos e2, if_pos (by omega)]
      · rw [if_neg e2, if_neg (by omega)]
theorem at_load (x : I) (pad mem : List Int) : ∀ k : Nat, (0 < k → 0 ≤ x.a ∧ x.a + k ≤ pad.length) → ∀ m : Int, 0 ≤ m → at_ (loadK x pad mem k) m = if x.a ≤ m ∧ m < x.a + k then at_ mem (x.b + (m - x.a) * x.c) else at_ pad m
  | 0, _, m, hm => by rw [if_neg (by omega)]; rfl
  | k + 1, h, m, hm => by
    have h' := h (by omega)
    show at_ (put (loadK x pad mem k) (x.a + k) (at_ mem (x.b + k * x.c))) m = _
    rw [at_put (by omega) (by rw [loadK_length]; omega) m hm]
    by_cases e : m = x.a + k
    · rw [if_pos e, if_pos (by omega), e, show x.a + (k : Int) - x.a = (k : Int) by omega]
    · rw [if_neg e, at_load x pad mem k (fun _ => by omega) m hm]
      by_cases e2 : x.a ≤ m ∧ m < x.a + k
      · rw [if_pos e2, if_pos (by omega)]
      · rw [if_neg e2, if_neg (by omega)]
theorem store_congr (x : I) (pad pad' mem : List Int) : ∀ k : Nat, (∀ t : Int, 0 ≤ t → t < k → at_ pad (x.a + t) = at_ pad' (x.a + t)) → storeK x pad mem k = storeK x pad' mem k
  | 0, _ => rfl
  | k + 1, h => by
    show put (storeK x pad mem k) _ (at_ pad (x.a + k)) = put (storeK x pad' mem k) _ (at_ pad' (x.a + k))
    rw [store_congr x pad pad' mem k (fun t h0 h1 => h t h0 (by omega)), h k (by omega) (by omega)]
theorem sum_congr (x : I) (pad pad' : List Int) (ha : at_ pad x.a = at_ pad' x.a) : ∀ k : Nat, (∀ t : Int, 0 ≤ t → t < k → at_ pad (x.b + t) = at_ pad' (x.b + t) ∧ at_ pad (x.c + t) = at_ pad' (x.c + t)) → sumK x pad k = sumK x pad' k
  | 0, _ => ha
  | k + 1, h => by
    show w64 (sumK x pad k + w64 (at_ pad (x.b + k) * at_ pad (x.c + k))) = w64 (sumK x pad' k + w64 (at_ pad' (x.b + k) * at_ pad' (x.c + k)))
    rw [sum_congr x pad pad' ha k (fun t h0 h1 => h t h0 (by omega)), (h k (by omega) (by omega)).1, (h k (by omega) (by omega)).2]
/-- The words that an instruction reads are alike. -/
def Alike (y : I) (pad pad' : List Int) : Prop := ∀ s ∈ reads y, ∀ t : Int, 0 ≤ t → t < s.2 → at_ pad (s.1 + t) = at_ pad' (s.1 + t)
theorem word_congr {y : I} {old old' : List Int} (hd : 5 ≤ y.d ∧ y.d ≤ 14 ∧ y.d ≠ 13) (h : Alike y old old') {i : Int} (h0 : 0 ≤ i) (h1 : i < y.n) : word y old i = word y old' i := by
  obtain ⟨d, a, b, c, n, v⟩ := y
  simp only at hd h1
  have hk : d = 5 ∨ d = 6 ∨ d = 7 ∨ d = 8 ∨ d = 9 ∨ d = 10 ∨ d = 11 ∨ d = 12 ∨ d = 14 := by omega
  unfold word
  rcases hk with rfl | rfl | rfl | rfl | rfl | rfl | rfl | rfl | rfl
  · rfl
  · have e1 := h (b, n) (by simp [reads]) i h0 h1
    have e2 := h (c, n) (by simp [reads]) i h0 h1
    simp only at e1 e2 ⊢
    rw [e1, e2]; rfl
  · have e1 := h (b, n) (by simp [reads]) i h0 h1
    have e2 := h (c, n) (by simp [reads]) i h0 h1
    simp only at e1 e2 ⊢
    rw [e1, e2]; rfl
  · have e1 := h (b, n) (by simp [reads]) i h0 h1
    have e2 := h (c, n) (by simp [reads]) i h0 h1
    simp only at e1 e2 ⊢
    rw [e1, e2]; rfl
  · have e1 := h (b, n) (by simp [reads]) i h0 h1
    have e2 := h (c, n) (by simp [reads]) i h0 h1
    simp only at e1 e2 ⊢
    rw [e1, e2]; rfl
  · have e1 := h (b, n) (by simp [reads]) i h0 h1
    have e2 := h (c, n) (by simp [reads]) i h0 h1
    simp only at e1 e2 ⊢
    rw [e1, e2]; rfl
  · have e1 := h (b, n) (by simp [reads]) i h0 h1
    have e2 := h (c, n) (by simp [reads]) i h0 h1
    have e3 := h (a, n) (by simp [reads]) i h0 h1
    simp only at e1 e2 e3 ⊢
    rw [e1, e2, e3]
  · have e1 := h (b, n) (by simp [reads]) i h0 h1
    have e2 := h (c, n) (by simp [reads]) i h0 h1
    have e3 := h (a, n) (by simp [reads]) i h0 h1
    simp only at e1 e2 e3 ⊢
    rw [e1, e2, e3]
  · have e1 := h (b, n) (by simp [reads]) i h0 h1
    have e2 := h (a, n) (by simp [reads]) i h0 h1
    simp only at e1 e2 ⊢
    rw [e1, e2]; rfl
theorem meet_apart {s w : Int × Int} (h : meet s w = false) {m : Int} (h1 : s.1 ≤ m ∧ m < s.1 + s.2) (h2 : w.1 ≤ m ∧ m < w.1 + w.2) : False := by
  simp [meet] at h
  omega
theorem clash_parts {x y : I} (h : clash x y = false) : meet (write x) (write y) = false ∧ (∀ s ∈ reads y, meet s (write x) = false) ∧ ∀ s ∈ reads x, meet s (write y) = false := by
  unfold clash at h
  simp only [Bool.or_eq_false_iff, List.any_eq_false] at h
  obtain ⟨⟨h1, h2⟩, h3⟩ := h
  exact ⟨h1, fun s hs => by simpa using h2 s hs, fun s hs => by simpa using h3 s hs⟩
theorem write_load {x : I} (h : x.d = 1) : write x = (x.a, x.n) := by unfold write; rw [if_pos (.inl h)]
theorem reads_store {x : I} (h : x.d = 2) : reads x = [(x.a, x.n)] := by unfold reads; rw [if_neg (by omega), if_pos h]
theorem write_each {y : I} (hd : 5 ≤ y.d ∧ y.d ≤ 14 ∧ y.d ≠ 13) : write y = (y.a, y.n) := by
  unfold write
  repeat' split
  all_goals first | rfl | omega
theorem write_inner {y : I} (hd : y.d = 13) : write y = (y.a, 1) := by
  unfold write
  rw [if_neg (by omega), if_neg (by omega), if_neg (by omega), if_pos hd]
theorem reads_inner {y : I} (hd : y.d = 13) : reads y = [(y.a, 1), (y.b, y.n), (y.c, y.n)] := by
  unfold reads; rw [if_neg (by omega), if_neg (by omega), if_neg (by omega), if_pos hd]
theorem doI_load {x : I} (h : x.d = 1) (s : St) : doI x s = { s with pad := loadK x s.pad s.mem x.n.toNat } := by unfold doI; rw [if_pos h]
theorem doI_store {x : I} (h : x.d = 2) (s : St) : doI x s = { s with mem := storeK x s.pad s.mem x.n.toNat } := by unfold doI; rw [if_neg (by omega), if_pos h]
theorem doI_inner {x : I} (h : x.d = 13) (s : St) : doI x s = { s with pad := put s.pad x.a (sumK x s.pad x.n.toNat) } := by
  unfold doI; rw [if_neg (by omega), if_neg (by omega), if_neg (by omega), if_neg (by omega), if_pos h]
theorem doI_each {x : I} (h : 5 ≤ x.d ∧ x.d ≤ 14 ∧ x.d ≠ 13) (s : St) : doI x s = { s with pad := eachK x s.pad x.n.toNat } := by
  unfold doI; rw [if_neg (by omega), if_neg (by omega), if_neg (by omega), if_neg (by omega), if_neg (by omega)]
theorem doI_sem {x : I} (h : x.d = 3 ∨ x.d = 4) (s : St) : doI x s = { s with sems := put s.sems x.a (at_ s.sems x.a + if x.d = 3 then 1 else -1) } := by
  unfold doI
  rw [if_neg (by omega), if_neg (by omega)]
  rcases h with h | h
  · rw [if_pos h, if_pos h]
  · rw [if_neg (by omega), if_pos h, if_neg (by omega)]; rfl

section
variable {c : Code} {s : St} {x y : I}
/-- A pad on which one has written elsewhere reads alike. -/
theorem alike_load (hx : wrongI c.pad c.mem true x = 0) (hy : wrongI c.pad c.mem false y = 0) (hd : x.d = 1) (hy34 : ¬ (y.d = 3 ∨ y.d = 4)) (hl : (s.pad.length : Int) = c.pad) (hc : clash x y = false) : Alike y (loadK x s.pad s.mem x.n.toNat) s.pad := by
  intro q hq t h0 h1
  obtain ⟨hn, ha, _⟩ := right_moves hx (.inl hd)
  have hin := inside_pos (right_inside hy hy34 q (List.mem_append.2 (.inl hq))) (by omega)
  have hm := (clash_parts hc).2.1 q hq
  rw [write_load hd] at hm
  rw [at_load x s.pad s.mem _ (fun _ => by have := ha (by omega); omega) _ (by omega), if_neg]
  intro hcon
  exact meet_apart hm (m := q.1 + t) (by omega) (by simp only; omega)
theorem load_each (hx : wrongI c.pad c.mem true x = 0) (hy : wrongI c.pad c.mem false y = 0) (hd : x.d = 1) (hyd : 5 ≤ y.d ∧ y.d ≤ 14 ∧ y.d ≠ 13) (hl : (s.pad.length : Int) = c.pad) (hc : clash x y = false) :
    eachK y (loadK x s.pad s.mem x.n.toNat) y.n.toNat = loadK x (eachK y s.pad y.n.toNat) s.mem x.n.toNat := by
  obtain ⟨hn, ha, _⟩ := right_moves hx (.inl hd)
  obtain ⟨hyn, _, hya, _⟩ := right_each hy hyd
  have hal := alike_load hx hy hd (by omega) hl hc
  have hw := (clash_parts hc).1
  rw [write_load hd, write_each hyd] at hw
  refine ext_at (by simp [eachK_length, loadK_length]) (fun m h0 h1 => ?_)
  rw [at_each y _ _ (fun _ => by rw [loadK_length]; have := hya (by omega); omega) m h0, at_load x (eachK y s.pad y.n.toNat) _ _ (fun _ => by rw [eachK_length]; have := ha (by omega); omega) m h0]
  rw [at_load x s.pad _ _ (fun _ => by have := ha (by omega); omega) m h0, at_each y s.pad _ (fun _ => by have := hya (by omega); omega) m h0]
  by_cases e1 : y.a ≤ m ∧ m < y.a + (y.n.toNat : Int)
  · have e2 : ¬ (x.a ≤ m ∧ m < x.a + (x.n.toNat : Int)) := fun e2 => meet_apart hw (m := m) (by simp only; omega) (by simp only; omega)
    rw [if_pos e1, if_neg e2, if_pos e1, word_congr hyd hal (by omega) (by omega)]
  · rw [if_neg e1, if_neg e1]
theorem load_inner (hx : wrongI c.pad c.mem true x = 0) (hy : wrongI c.pad c.mem false y = 0) (hd : x.d = 1) (hyd : y.d = 13) (hl : (s.pad.length : Int) = c.pad) (hc : clash x y = false) :
    put (loadK x s.pad s.mem x.n.toNat) y.a (sumK y (loadK x s.pad s.mem x.n.toNat) y.n.toNat) = loadK x (put s.pad y.a (sumK y s.pad y.n.toNat)) s.mem x.n.toNat := by
  obtain ⟨hn, ha, _⟩ := right_moves hx (.inl hd)
  obtain ⟨hyn, hya, _⟩ := right_inner hy hyd
  have hal := alike_load hx hy hd (by omega) hl hc
  have hw := (clash_parts hc).1
  rw [write_load hd, write_inner hyd] at hw
  have hs : sumK y (loadK x s.pad s.mem x.n.toNat) y.n.toNat = sumK y s.pad y.n.toNat := by
    refine sum_congr y _ _ ?_ _ (fun t h0 h1 => ⟨?_, ?_⟩)
    · have := hal (y.a, 1) (by rw [reads_inner hyd]; simp) 0 (by omega) (by simp)
      simpa using this
    · exact hal (y.b, y.n) (by rw [reads_inner hyd]; simp) t h0 (by simp only; omega)
    · exact hal (y.c, y.n) (by rw [reads_inner hyd]; simp) t h0 (by simp only; omega)
  rw [hs]
  refine ext_at (by simp [put_length, loadK_length]) (fun m h0 h1 => ?_)
  rw [at_put (by omega) (by rw [loadK_length]; omega) m h0, at_load x _ _ _ (fun _ => by have := ha (by omega); omega) m h0, at_load x _ _ _ (fun _ => by rw [put_length]; have := ha (by omega); omega) m h0, at_put (by omega) (by omega) m h0]
  by_cases e1 : m = y.a
  · have e2 : ¬ (x.a ≤ m ∧ m < x.a + (x.n.toNat : Int)) := fun e2 => meet_apart hw (m := m) (by simp only; omega) (by simp only; omega)
    rw [if_pos e1, if_neg e2, if_pos e1]
  · rw [if_neg e1, if_neg e1]
theorem store_same {pad' : List Int} (hx : wrongI c.pad c.mem true x = 0) (hd : x.d = 2) (h : ∀ t : Int, 0 ≤ t → t < x.n → at_ s.pad (x.a + t) = at_ pad' (x.a + t)) : storeK x s.pad s.mem x.n.toNat = storeK x pad' s.mem x.n.toNat :=
  store_congr x _ _ _ _ (fun t h0 h1 => h t h0 (by omega))
/-- Two that do not clash may change places. -/
theorem moves_commute (hx : wrongI c.pad c.mem true x = 0) (hy : wrongI c.pad c.mem false y = 0) (hd : x.d = 1 ∨ x.d = 2) (hy34 : ¬ (y.d = 3 ∨ y.d = 4)) (hl : (s.pad.length : Int) = c.pad) (hc : clash x y = false) : doI y (doI x s) = doI x (doI y s) := by
  have hyk := right_maker hy
  have hyd : y.d = 13 ∨ (5 ≤ y.d ∧ y.d ≤ 14 ∧ y.d ≠ 13) := by omega
  obtain ⟨hn, ha, _⟩ := right_moves hx hd
  rcases hd with hd | hd
  · rcases hyd with hyd | hyd
    · rw [doI_load hd, doI_inner hyd, doI_inner hyd, doI_load hd]
      simp only
      rw [load_inner hx hy hd hyd hl hc]
    · rw [doI_load hd, doI_each hyd, doI_each hyd, doI_load hd]
      simp only
      rw [load_each hx hy hd hyd hl hc]
  · have hm := (clash_parts hc).2.2 (x.a, x.n) (by rw [reads_store hd]; simp)
    rcases hyd with hyd | hyd
    · obtain ⟨hyn, hya, _⟩ := right_inner hy hyd
      rw [write_inner hyd] at hm
      rw [doI_store hd, doI_inner hyd, doI_inner hyd, doI_store hd]
      simp only
      rw [store_same (pad' := put s.pad y.a (sumK y s.pad y.n.toNat)) hx hd (fun t h0 h1 => ?_)]
      have := ha (by omega)
      rw [at_put (by omega) (by omega) _ (by omega), if_neg]
      intro e
      exact meet_apart hm (m := y.a) (by simp only; omega) (by simp only; omega)
    · obtain ⟨hyn, _, hya, _⟩ := right_each hy hyd
      rw [write_each hyd] at hm
      rw [doI_store hd, doI_each hyd, doI_each hyd, doI_store hd]
      simp only
      rw [store_same (pad' := eachK y s.pad y.n.toNat) hx hd (fun t h0 h1 => ?_)]
      have := ha (by omega)
      rw [at_each y s.pad _ (fun _ => by have := hya (by omega); omega) _ (by omega), if_neg]
      intro e
      exact meet_apart hm (m := x.a + t) (by simp only; omega) (by simp only; omega)
theorem sem_commute (hx : x.d = 3 ∨ x.d = 4) (hy : y.d = 3 ∨ y.d = 4) (ax : 0 ≤ x.a ∧ x.a < 16) (ay : 0 ≤ y.a ∧ y.a < 16) (hl : s.sems.length = 16) : doI y (doI x s) = doI x (doI y s) := by
  rw [doI_sem hx, doI_sem hy, doI_sem hy, doI_sem hx]
  simp only
  congr 1
  refine ext_at (by simp [put_length]) (fun m h0 h1 => ?_)
  simp only [put_length] at h1
  rw [at_put (by omega) (by rw [put_length]; omega) m h0, at_put (by omega) (by omega) m h0, at_put (by omega) (by omega) y.a (by omega), at_put (by omega) (by rw [put_length]; omega) m h0, at_put (by omega) (by omega) m h0, at_put (by omega) (by omega) x.a (by omega)]
  by_cases e1 : m = y.a <;> by_cases e2 : m = x.a
  · subst e1; rw [if_pos rfl, if_pos e2, if_pos e2, if_pos e2.symm, ← e2]; omega
  · subst e1; rw [if_pos rfl, if_neg e2, if_neg e2, if_pos rfl]
  · subst e2; rw [if_neg e1, if_pos rfl, if_pos rfl, if_neg e1]
  · rw [if_neg e1, if_neg e2, if_neg e2, if_neg e1]
/-- One on a semaphore, one that is none. -/
theorem sem_other (hx : x.d = 3 ∨ x.d = 4) (hy : ¬ (y.d = 3 ∨ y.d = 4)) : doI y (doI x s) = doI x (doI y s) := by
  rw [doI_sem hx, doI_sem hx]
  unfold doI
  repeat' split
  all_goals first | rfl | (exfalso; omega)
end
end AdjC
