/-
  Sizes of arrays, in plain Lean. No program in sight. No condition.
-/
namespace AdjV
set_option linter.unusedVariables false
set_option linter.unusedVariables false

def prod : List Int → Int
  | [] => 1
  | d :: l => d * prod l
theorem prod_append : ∀ (l m : List Int), prod (l ++ m) = prod l * prod m
  | [], m => by simp [prod]
  | d :: l, m => by simp only [List.cons_append, prod, prod_append l m, Int.mul_assoc]
theorem prod_snoc (l : List Int) (d : Int) : prod (l ++ [d]) = prod l * d := by rw [prod_append]; simp [prod]
theorem prod_pos : ∀ (l : List Int), (∀ d ∈ l, 1 ≤ d) → 1 ≤ prod l
  | [], _ => by simp [prod]
  | d :: l, h => by
    have h1 := h d (by simp)
    have h2 := prod_pos l (fun x hx => h x (by simp [hx]))
    have h3 := Int.mul_le_mul h1 h2 (by omega) (by omega)
    simpa [prod] using h3
theorem prod_zero : ∀ (l : List Int), (0 : Int) ∈ l → prod l = 0
  | d :: l, h => by
    rcases List.mem_cons.1 h with h | h
    · subst h; simp [prod]
    · simp [prod, prod_zero l h]
theorem prod_take_le (l : List Int) (i : Nat) (h : ∀ d ∈ l, 1 ≤ d) : prod (l.take i) ≤ prod l := by
  have e : prod l = prod (l.take i) * prod (l.drop i) := by rw [← prod_append, List.take_append_drop]
  have h1 := prod_pos (l.take i) (fun d hd => h d (List.mem_of_mem_take hd))
  have h2 := prod_pos (l.drop i) (fun d hd => h d (List.mem_of_mem_drop hd))
  have h3 := Int.mul_le_mul_of_nonneg_left h2 (show 0 ≤ prod (l.take i) by omega)
  rw [Int.mul_one] at h3
  rw [e]
  exact h3
/-- A dimension that none may be. -/
def bad (d : Int) : Bool := decide (d < 0) || decide (4096 < d)
theorem bad_false {d : Int} : bad d = false ↔ 0 ≤ d ∧ d ≤ 4096 := by unfold bad; simp
/-- What Size says: how many, the error. -/
def size (l : List Int) : Int × Int :=
  if 6 < l.length then (0, 3) else if l.any bad then (0, 4) else if (0 : Int) ∈ l then (0, 0) else if 65536 < prod l then (0, 5) else (prod l, 0)
theorem size_rank {l : List Int} (h : 6 < l.length) : size l = (0, 3) := if_pos h
theorem size_range {l : List Int} (h : ¬ 6 < l.length) (h2 : l.any bad = true) : size l = (0, 4) := by unfold size; rw [if_neg h, if_pos h2]
theorem size_none {l : List Int} (h : ¬ 6 < l.length) (h2 : l.any bad = false) (h3 : (0 : Int) ∈ l) : size l = (0, 0) := by unfold size; rw [if_neg h, if_neg (by simp [h2]), if_pos h3]
theorem size_much {l : List Int} (h : ¬ 6 < l.length) (h2 : l.any bad = false) (h3 : (0 : Int) ∉ l) (h4 : 65536 < prod l) : size l = (0, 5) := by unfold size; rw [if_neg h, if_neg (by simp [h2]), if_neg h3, if_pos h4]
theorem size_ok {l : List Int} (h : ¬ 6 < l.length) (h2 : l.any bad = false) (h3 : (0 : Int) ∉ l) (h4 : ¬ 65536 < prod l) : size l = (prod l, 0) := by unfold size; rw [if_neg h, if_neg (by simp [h2]), if_neg h3, if_neg h4]
/-- Dimensions that are none the less right: at most six, each from 0 to 4096, at most 65536 entries. -/
theorem size_fine {l : List Int} (h : (size l).2 = 0) : l.length ≤ 6 ∧ (∀ d ∈ l, 0 ≤ d ∧ d ≤ 4096) ∧ (size l).1 = prod l ∧ 0 ≤ prod l ∧ prod l ≤ 65536 := by
  by_cases h1 : 6 < l.length
  · rw [size_rank h1] at h; simp at h
  by_cases h2 : l.any bad = true
  · rw [size_range h1 h2] at h; simp at h
  have h2' : l.any bad = false := by simpa using h2
  have hall : ∀ d ∈ l, 0 ≤ d ∧ d ≤ 4096 := fun d hd => bad_false.1 (by
    have := List.any_eq_false.1 h2' d hd
    simpa using this)
  by_cases h3 : (0 : Int) ∈ l
  · have := prod_zero l h3
    exact ⟨by omega, hall, by rw [size_none h1 h2' h3, this], by omega, by omega⟩
  have hpos : 1 ≤ prod l := prod_pos l (fun d hd => by
    have := hall d hd
    have h0 : d ≠ 0 := fun e => h3 (e ▸ hd)
    omega)
  by_cases h4 : 65536 < prod l
  · rw [size_much h1 h2' h3 h4] at h; simp at h
  · exact ⟨by omega, hall, by rw [size_ok h1 h2' h3 h4], by omega, by omega⟩
theorem take_next {α : Type} (L : List α) (i : Nat) (h : i < L.length) : L.take (i + 1) = L.take i ++ [L[i]] := by
  rw [List.take_succ_eq_append_getElem h]
theorem any_take_next {α : Type} (L : List α) (p : α → Bool) (i : Nat) (h : i < L.length) : (L.take (i + 1)).any p = ((L.take i).any p || p L[i]) := by
  rw [take_next L i h, List.any_append]; simp
theorem any_of_take {α : Type} {L : List α} {p : α → Bool} {i : Nat} (h : i < L.length) (hp : p L[i] = true) : L.any p = true :=
  List.any_eq_true.2 ⟨L[i], List.getElem_mem h, hp⟩
end AdjV
namespace AdjV
set_option linter.unusedVariables false
/-- Where the entry at an index lies. -/
def plc : List Int → List Int → Int
  | d :: l, a :: m => a * prod l + plc l m
  | _, _ => 0
/-- An index: as many numbers, each from 0 on below its dimension. -/
def inside : List Int → List Int → Bool
  | [], [] => true
  | d :: l, a :: m => decide (0 ≤ a) && decide (a < d) && inside l m
  | _, _ => false
theorem plc_snoc : ∀ (l m : List Int) (d a : Int), l.length = m.length → plc (l ++ [d]) (m ++ [a]) = plc l m * d + a
  | [], [], d, a, _ => by simp [plc, prod]
  | e :: l, b :: m, d, a, h => by
    have ih := plc_snoc l m d a (by simpa using h)
    simp only [List.cons_append, plc, prod_snoc, ih, Int.add_mul, Int.mul_assoc, Int.add_assoc]
  | [], _ :: _, _, _, h => by simp at h
  | _ :: _, [], _, _, h => by simp at h
theorem inside_snoc : ∀ (l m : List Int) (d a : Int), l.length = m.length → inside (l ++ [d]) (m ++ [a]) = (inside l m && (decide (0 ≤ a) && decide (a < d)))
  | [], [], d, a, _ => by simp [inside]
  | e :: l, b :: m, d, a, h => by
    have ih := inside_snoc l m d a (by simpa using h)
    simp only [List.cons_append, inside, ih, Bool.and_assoc]
  | [], _ :: _, _, _, h => by simp at h
  | _ :: _, [], _, _, h => by simp at h
theorem inside_length : ∀ {l m : List Int}, inside l m = true → l.length = m.length
  | [], [], _ => rfl
  | d :: l, a :: m, h => by
    simp only [inside, Bool.and_eq_true] at h
    simp [inside_length h.2]
  | [], _ :: _, h => by simp [inside] at h
  | _ :: _, [], h => by simp [inside] at h
theorem inside_at : ∀ {l m : List Int}, inside l m = true → ∀ (k : Nat) (h1 : k < l.length) (h2 : k < m.length), 0 ≤ m[k] ∧ m[k] < l[k]
  | d :: l, a :: m, h, 0, _, _ => by
    simp only [inside, Bool.and_eq_true, decide_eq_true_iff] at h
    exact h.1
  | d :: l, a :: m, h, k + 1, h1, h2 => by
    simp only [inside, Bool.and_eq_true, decide_eq_true_iff] at h
    exact inside_at h.2 k (by simpa using h1) (by simpa using h2)
theorem inside_take : ∀ {l m : List Int} (k : Nat), inside l m = true → inside (l.take k) (m.take k) = true
  | [], [], k, _ => by simp [inside]
  | d :: l, a :: m, 0, _ => by simp [inside]
  | d :: l, a :: m, k + 1, h => by
    simp only [inside, Bool.and_eq_true, List.take_succ_cons] at h ⊢
    exact ⟨h.1, inside_take k h.2⟩
  | [], _ :: _, _, h => by simp [inside] at h
  | _ :: _, [], _, h => by simp [inside] at h
theorem inside_bound : ∀ {l m : List Int}, inside l m = true → 0 ≤ plc l m ∧ plc l m < prod l
  | [], [], _ => by simp [plc, prod]
  | d :: l, a :: m, h => by
    simp only [inside, Bool.and_eq_true, decide_eq_true_iff] at h
    obtain ⟨⟨h1, h2⟩, h3⟩ := h
    have ih := inside_bound h3
    have hp : 0 ≤ prod l := by omega
    have e1 : 0 ≤ a * prod l := Int.mul_nonneg h1 hp
    have e2 : a * prod l + prod l ≤ d * prod l := by
      have := Int.mul_le_mul_of_nonneg_right (show a + 1 ≤ d by omega) hp
      rw [Int.add_mul, Int.one_mul] at this
      exact this
    simp only [plc, prod]
    omega
  | [], _ :: _, h => by simp [inside] at h
  | _ :: _, [], h => by simp [inside] at h
/-- What Place says. -/
def place (l m : List Int) : Int × Int :=
  if (size l).2 ≠ 0 then (0, (size l).2) else if m.length ≠ l.length then (0, 6) else if inside l m then (plc l m, 0) else (0, 4)
/-- How far apart the entries are along each dimension. -/
def steps (l : List Int) : List Int := (List.range l.length).map fun k => if (0 : Int) ∈ l then 0 else prod (l.drop (k + 1))
theorem steps_length (l : List Int) : (steps l).length = l.length := by simp [steps]
theorem steps_at (l : List Int) (k : Nat) (h : k < (steps l).length) : (steps l)[k] = if (0 : Int) ∈ l then 0 else prod (l.drop (k + 1)) := by simp [steps]
/-- The index whose place is p. -/
def idx (l : List Int) (p : Int) : List Int := (List.range l.length).map fun k => p / prod (l.drop (k + 1)) % l.getD k 0
theorem idx_length (l : List Int) (p : Int) : (idx l p).length = l.length := by simp [idx]
/-- What Index says. -/
def index (l : List Int) (p : Int) : List Int × Int :=
  if (size l).2 ≠ 0 then ([], (size l).2) else if p < 0 ∨ (size l).1 ≤ p then ([], 4) else (idx l p, 0)
end AdjV
namespace AdjV
set_option linter.unusedVariables false
theorem prod_pow : ∀ (l : List Int), (∀ d ∈ l, 0 ≤ d ∧ d ≤ 4096) → 0 ≤ prod l ∧ prod l ≤ 4096 ^ l.length
  | [], _ => by simp [prod]
  | d :: l, h => by
    have h1 := h d (by simp)
    have h2 := prod_pow l (fun x hx => h x (by simp [hx]))
    refine ⟨Int.mul_nonneg h1.1 h2.1, ?_⟩
    have h3 := Int.mul_le_mul h1.2 h2.2 h2.1 (by omega)
    rw [List.length_cons, Int.pow_succ, Int.mul_comm (4096 ^ l.length) 4096]
    exact h3
theorem pow_five (n : Nat) (h : n ≤ 5) : (4096 : Int) ^ n ≤ 1152921504606846976 := by
  have : n = 0 ∨ n = 1 ∨ n = 2 ∨ n = 3 ∨ n = 4 ∨ n = 5 := by omega
  rcases this with rfl | rfl | rfl | rfl | rfl | rfl <;> decide
/-- Of dimensions that are right: what the first ones have, if none of them is 0, is no great number. -/
theorem prod_take_small {l : List Int} (h : (size l).2 = 0) {k : Nat} (hk : ∀ d ∈ l.take k, 1 ≤ d) : prod (l.take k) ≤ 1152921504606846976 := by
  obtain ⟨z1, z2, z3, z4, z5⟩ := size_fine h
  rcases Nat.lt_or_ge (l.take k).length 6 with h6 | h6
  · have h1 := prod_pow (l.take k) (fun d hd => z2 d (List.mem_of_mem_take hd))
    have h2 := pow_five (l.take k).length (by omega)
    omega
  · have hall : l.take k = l := List.take_of_length_le (by have := List.length_take_le k l; omega)
    rw [hall]
    omega
theorem inside_pos {l m : List Int} (h : inside l m = true) : ∀ d ∈ l, 1 ≤ d := by
  intro d hd
  obtain ⟨i, hi, rfl⟩ := List.getElem_of_mem hd
  have := inside_at h i hi (by rw [← inside_length h]; exact hi)
  omega
/-- One step of Place: what must hold of the next number. -/
theorem place_next {l m : List Int} (hlen : m.length = l.length) {k : Nat} (h1 : k < l.length) (hin : inside (l.take k) (m.take k) = true) :
    inside (l.take (k + 1)) (m.take (k + 1)) = (decide (0 ≤ m[k]'(by omega)) && decide (m[k]'(by omega) < l[k])) ∧ plc (l.take (k + 1)) (m.take (k + 1)) = plc (l.take k) (m.take k) * l[k] + m[k]'(by omega) := by
  rw [take_next l k h1, take_next m k (by omega)]
  have hl : (l.take k).length = (m.take k).length := inside_length hin
  exact ⟨by rw [inside_snoc _ _ _ _ hl, hin]; simp, plc_snoc _ _ _ _ hl⟩
end AdjV
namespace AdjV
set_option linter.unusedVariables false
/-- Where the entry at an index lies, by the steps. -/
def dot : List Int → List Int → Int
  | a :: m, s :: l => a * s + dot m l
  | _, _ => 0
theorem dot_snoc : ∀ (m l : List Int) (a s : Int), m.length = l.length → dot (m ++ [a]) (l ++ [s]) = dot m l + a * s
  | [], [], a, s, _ => by simp [dot]
  | b :: m, t :: l, a, s, h => by
    have ih := dot_snoc m l a s (by simpa using h)
    simp only [List.cons_append, dot, ih, Int.add_assoc]
  | [], _ :: _, _, _, h => by simp at h
  | _ :: _, [], _, _, h => by simp at h
theorem dot_nil_right : ∀ (m : List Int), dot m [] = 0
  | [] => rfl
  | _ :: _ => rfl
theorem dot_take : ∀ (m l : List Int), m.length ≤ l.length → dot m (l.take m.length) = dot m l
  | [], _, _ => by simp [dot]
  | a :: m, [], h => by simp at h
  | a :: m, s :: l, h => by
    simp only [List.length_cons, List.take_succ_cons, dot, dot_take m l (by simpa using h)]
theorem dot_next {m l : List Int} {k : Nat} (h1 : k < m.length) (h2 : k < l.length) : dot (m.take (k + 1)) (l.take (k + 1)) = dot (m.take k) (l.take k) + m[k] * l[k] := by
  rw [take_next m k h1, take_next l k h2, dot_snoc]
  simp; omega
/-- What is reckoned on the way stays small where each product does. -/
theorem dot_bound {b : Int} (hb : 0 ≤ b) {m l : List Int} (h : ∀ i (h1 : i < m.length) (h2 : i < l.length), -b ≤ m[i] * l[i] ∧ m[i] * l[i] ≤ b) :
    ∀ k, k ≤ m.length → k ≤ l.length → -(b * k) ≤ dot (m.take k) (l.take k) ∧ dot (m.take k) (l.take k) ≤ b * k
  | 0, _, _ => by simp [dot]
  | k + 1, h1, h2 => by
    have ih := dot_bound hb h k (by omega) (by omega)
    have hk := h k (by omega) (by omega)
    rw [dot_next (by omega) (by omega)]
    have e : b * ((k + 1 : Nat) : Int) = b * (k : Int) + b := by rw [Int.natCast_add, Int.mul_add]; simp
    rw [e]
    omega
theorem plc_dot : ∀ (l m : List Int), (0 : Int) ∉ l → l.length = m.length → dot m ((List.range l.length).map fun k => prod (l.drop (k + 1))) = plc l m
  | [], [], _, _ => by simp [dot, plc]
  | d :: l, a :: m, h, hl => by
    have ih := plc_dot l m (fun hz => h (by simp [hz])) (by simpa using hl)
    simp only [List.length_cons, List.range_succ_eq_map, List.map_cons, List.map_map, dot, plc, List.drop_succ_cons, List.drop_zero]
    congr 1
  | [], _ :: _, _, h => by simp at h
  | _ :: _, [], _, h => by simp at h
theorem steps_plc {l m : List Int} (h : (0 : Int) ∉ l) (hl : l.length = m.length) : dot m (steps l) = plc l m := by
  rw [← plc_dot l m h hl]
  unfold steps
  congr 1
  apply List.map_congr_left
  intro k _
  rw [if_neg h]
theorem inside_no_zero {l m : List Int} (h : inside l m = true) : (0 : Int) ∉ l := fun hz => by have := inside_pos h 0 hz; omega
end AdjV
namespace AdjV
set_option linter.unusedVariables false
theorem plc_parts : ∀ {l m : List Int}, inside l m = true → prod l ≤ 65536 → ∀ (k : Nat) (h1 : k < m.length) (h2 : k < l.length), 0 ≤ m[k] * prod (l.drop (k + 1)) ∧ m[k] * prod (l.drop (k + 1)) ≤ 65536
  | d :: l, a :: m, h, hp, 0, _, _ => by
    have hb := inside_bound h
    simp only [inside, Bool.and_eq_true, decide_eq_true_iff] at h
    have hb2 := inside_bound h.2
    simp only [plc] at hb
    have := Int.mul_nonneg h.1.1 (show 0 ≤ prod l by omega)
    simp only [List.getElem_cons_zero, Nat.zero_add, List.drop_succ_cons, List.drop_zero]
    omega
  | d :: l, a :: m, h, hp, k + 1, h1, h2 => by
    simp only [inside, Bool.and_eq_true, decide_eq_true_iff] at h
    have hb2 := inside_bound h.2
    have hd : 1 ≤ d := by omega
    have hle : prod l ≤ d * prod l := by
      have := Int.mul_le_mul_of_nonneg_right hd (show 0 ≤ prod l by omega)
      omega
    simp only [prod] at hp
    have := plc_parts h.2 (by omega) k (by simpa using h1) (by simpa using h2)
    simpa using this
  | [], [], _, _, k, h, _ => by simp at h
  | [], _ :: _, h, _, _, _, _ => by simp [inside] at h
  | _ :: _, [], h, _, _, _, _ => by simp [inside] at h
theorem steps_parts {l m : List Int} (h : inside l m = true) (hp : prod l ≤ 65536) : ∀ k (h1 : k < m.length) (h2 : k < (steps l).length), -144115188075855872 ≤ m[k] * (steps l)[k] ∧ m[k] * (steps l)[k] ≤ 144115188075855872 := by
  intro k h1 h2
  rw [steps_at, if_neg (inside_no_zero h)]
  have := plc_parts h hp k h1 (by rw [steps_length] at h2; exact h2)
  omega
end AdjV
namespace AdjV
set_option linter.unusedVariables false
theorem no_zero_of_pos {l : List Int} (h : (size l).2 = 0) (hp : 0 < prod l) : ∀ d ∈ l, 1 ≤ d := by
  obtain ⟨z1, z2, z3, z4, z5⟩ := size_fine h
  intro d hd
  have h1 := z2 d hd
  have h0 : d ≠ 0 := fun e => by subst e; have := prod_zero l hd; omega
  omega
theorem index_ok {l : List Int} {p : Int} (h : (size l).2 = 0) (h1 : ¬ (p < 0 ∨ (size l).1 ≤ p)) : index l p = (idx l p, 0) ∧ 0 ≤ p ∧ p < 65536 ∧ (∀ d ∈ l, 1 ≤ d) := by
  obtain ⟨z1, z2, z3, z4, z5⟩ := size_fine h
  refine ⟨by unfold index; rw [if_neg (by simp [h]), if_neg h1], by omega, by omega, no_zero_of_pos h (by omega)⟩
/-- One entry of Index, by the steps. -/
theorem idx_at {l : List Int} {p : Int} (hp : 0 ≤ p) (hpos : ∀ d ∈ l, 1 ≤ d) (k : Nat) (h : k < l.length) :
    1 ≤ (steps l)[k]'(by rw [steps_length]; exact h) ∧ (idx l p)[k]'(by rw [idx_length]; exact h) = (p.tdiv ((steps l)[k]'(by rw [steps_length]; exact h))).tmod l[k] ∧ 0 ≤ p.tdiv ((steps l)[k]'(by rw [steps_length]; exact h)) ∧ p.tdiv ((steps l)[k]'(by rw [steps_length]; exact h)) ≤ p := by
  have h0 : (0 : Int) ∉ l := fun hz => by have := hpos 0 hz; omega
  have hs : (steps l)[k]'(by rw [steps_length]; exact h) = prod (l.drop (k + 1)) := by rw [steps_at, if_neg h0]
  have hs1 : 1 ≤ prod (l.drop (k + 1)) := prod_pos _ (fun d hd => hpos d (List.mem_of_mem_drop hd))
  have hq : p.tdiv (prod (l.drop (k + 1))) = p / prod (l.drop (k + 1)) := Int.tdiv_eq_ediv_of_nonneg hp
  have hq0 : 0 ≤ p / prod (l.drop (k + 1)) := Int.ediv_nonneg hp (by omega)
  have hd := hpos _ (List.getElem_mem h)
  rw [hs, hq]
  refine ⟨hs1, ?_, hq0, Int.ediv_le_self _ hp⟩
  rw [Int.tmod_eq_emod_of_nonneg hq0]
  simp [idx, List.getD_eq_getElem?_getD, h]
end AdjV
