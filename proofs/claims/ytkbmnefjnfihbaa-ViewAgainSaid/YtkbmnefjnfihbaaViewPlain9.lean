/-
  Reform's answer, in plain Lean: by blocks; and by the places that are read. No program in sight. No condition.
-/
import Derived.Test.YtkbmnefjnfihbaaViewPlain8
import Derived.Test.YtkbmnefjnfihbaaViewBackPlain
namespace AdjV
set_option linter.unusedVariables false
/-- The index behind one. -/
def nx : List Int → List Int → Option (List Int)
  | d :: l, a :: m => match nx l m with
    | some r => some (a :: r)
    | none => if a + 1 < d then some ((a + 1) :: List.replicate l.length 0) else none
  | _, _ => none
theorem inside_zeros : ∀ (l : List Int), (∀ d ∈ l, 1 ≤ d) → inside l (List.replicate l.length 0) = true ∧ plc l (List.replicate l.length 0) = 0
  | [], _ => by simp [inside, plc]
  | d :: l, h => by
    have ih := inside_zeros l (fun x hx => h x (by simp [hx]))
    have hd := h d (by simp)
    simp only [List.length_cons, List.replicate_succ, inside, plc, ih.1, ih.2, Bool.and_true, Bool.and_eq_true, decide_eq_true_iff, Int.zero_mul]
    omega
theorem nx_spec : ∀ {l m : List Int}, inside l m = true → (∀ r, nx l m = some r → inside l r = true ∧ plc l r = plc l m + 1) ∧ (nx l m = none → plc l m + 1 = prod l)
  | [], [], _ => by simp [nx, plc, prod]
  | d :: l, a :: m, h => by
    have hpos := inside_pos h
    simp only [inside, Bool.and_eq_true, decide_eq_true_iff] at h
    obtain ⟨i1, i2⟩ := nx_spec h.2
    cases hn : nx l m with
    | some r =>
      obtain ⟨j1, j2⟩ := i1 r hn
      refine ⟨fun r' hr => ?_, fun hr => by simp [nx, hn] at hr⟩
      simp only [nx, hn, Option.some.injEq] at hr
      subst hr
      simp only [inside, plc, j1, j2, Bool.and_true, Bool.and_eq_true, decide_eq_true_iff]
      exact ⟨h.1, by omega⟩
    | none =>
      have j := i2 hn
      have hz := inside_zeros l (fun x hx => hpos x (by simp [hx]))
      by_cases hlt : a + 1 < d
      · refine ⟨fun r' hr => ?_, fun hr => by simp [nx, hn, hlt] at hr⟩
        simp only [nx, hn, if_pos hlt, Option.some.injEq] at hr
        subst hr
        simp only [inside, plc, hz.1, hz.2, Bool.and_true, Bool.and_eq_true, decide_eq_true_iff, Int.add_mul, Int.one_mul]
        omega
      · refine ⟨fun r' hr => by simp [nx, hn, hlt] at hr, fun hr => ?_⟩
        have : d = a + 1 := by omega
        subst this
        simp only [plc, prod, Int.add_mul, Int.one_mul]
        omega
  | [], _ :: _, h => by simp [inside] at h
  | _ :: _, [], h => by simp [inside] at h
theorem nx_idx {l : List Int} (h : ∀ d ∈ l, 1 ≤ d) {p : Int} (h0 : 0 ≤ p) (h1 : p < prod l) : (∀ r, nx l (idx l p) = some r → r = idx l (p + 1) ∧ p + 1 < prod l) ∧ (nx l (idx l p) = none → p + 1 = prod l) := by
  obtain ⟨a1, a2⟩ := plc_idx l h p h0
  rw [Int.emod_eq_of_lt h0 h1] at a2
  obtain ⟨b1, b2⟩ := nx_spec a1
  refine ⟨fun r hr => ?_, fun hr => by rw [← a2]; exact b2 hr⟩
  obtain ⟨c1, c2⟩ := b1 r hr
  have := idx_plc l r c1 0 (by omega)
  rw [c2, a2] at this
  have hb := inside_bound c1
  exact ⟨by rw [← this]; simp, by omega⟩
/-- Next, from behind: what is ahead stays. -/
theorem nx_drop {l m : List Int} {r : List Int} : ∀ (k : Nat), k ≤ l.length → k ≤ m.length → nx (l.drop k) (m.drop k) = some r → nx l m = some (m.take k ++ r) := by
  induction l generalizing m with
  | nil => intro k h1 h2 h; have : k = 0 := by simpa using h1
           subst this; simpa using h
  | cons d l ih =>
    intro k h1 h2 h
    cases k with
    | zero => simpa using h
    | succ k =>
      cases m with
      | nil => simp at h2
      | cons a m =>
        simp only [List.drop_succ_cons] at h
        have := ih k (by simpa using h1) (by simpa using h2) h
        simp only [nx, this, List.take_succ_cons, List.cons_append]
theorem nx_step {l m : List Int} {k : Nat} (h1 : k < l.length) (h2 : k < m.length) (h : nx (l.drop (k + 1)) (m.drop (k + 1)) = none) :
    nx (l.drop k) (m.drop k) = if m[k] + 1 < l[k] then some ((m[k] + 1) :: List.replicate (l.length - (k + 1)) 0) else none := by
  rw [List.drop_eq_getElem_cons h1, List.drop_eq_getElem_cons h2]
  simp only [nx, h, List.length_drop]
theorem nx_end (l m : List Int) : nx (l.drop l.length) m = none := by simp [nx]
theorem idx_zero {l : List Int} (h : ∀ d ∈ l, 1 ≤ d) : idx l 0 = List.replicate l.length 0 := by
  have h1 := inside_zeros l h
  have := idx_plc l _ h1.1 0 (by omega)
  rw [h1.2] at this
  simpa using this

/-- What a number of 64 bits becomes. -/
def w64 (n : Int) : Int := (n + 9223372036854775808) % 18446744073709551616 - 9223372036854775808
theorem w64_add (a b : Int) : w64 (w64 a + w64 b) = w64 (a + b) := by unfold w64; omega
theorem w64_left (a b : Int) : w64 (w64 a + b) = w64 (a + b) := by unfold w64; omega
theorem w64_in {a : Int} (h : -9223372036854775808 ≤ a ∧ a ≤ 9223372036854775807) : w64 a = a := by unfold w64; omega
theorem w64_like (a : Int) : like (w64 a) a := by
  unfold w64 like
  refine ⟨-((a + 9223372036854775808) / 18446744073709551616), ?_⟩
  omega

theorem prod_reverse : ∀ (l : List Int), prod l.reverse = prod l
  | [] => rfl
  | d :: l => by rw [List.reverse_cons, prod_snoc, prod_reverse l]; simp only [prod]; rw [Int.mul_comm]
theorem idx_snoc {l : List Int} (hl : ∀ d ∈ l, 1 ≤ d) {d p : Int} (hd : 1 ≤ d) : idx (l ++ [d]) p = idx l (p / d) ++ [p % d] := by
  induction l with
  | nil => simp [idx, prod]
  | cons e l ih =>
    rw [List.cons_append, idx_cons, idx_cons, ih (fun x hx => hl x (by simp [hx])), prod_snoc, List.cons_append]
    rw [Int.ediv_ediv_of_nonneg (by omega), Int.mul_comm (prod l) d]
theorem rd_dot : ∀ (r : List (Int × Int)), (∀ x ∈ r, 1 ≤ x.1) → ∀ p, rd r p = dot (idx (r.reverse.map (·.1)) p) (r.reverse.map (·.2))
  | [], _, p => by simp [rd, dot, idx]
  | (n, s) :: r, h, p => by
    have hr : ∀ x ∈ r, 1 ≤ x.1 := fun x hx => h x (by simp [hx])
    have ih := rd_dot r hr (p / n)
    have hn := h (n, s) (by simp)
    rw [List.reverse_cons, List.map_append, List.map_append, List.map_singleton, List.map_singleton]
    rw [idx_snoc (fun d hd => by
      obtain ⟨x, hx, rfl⟩ := List.mem_map.1 hd
      exact hr x (List.mem_reverse.1 hx)) hn, dot_snoc _ _ _ _ (by rw [idx_length]; simp), ← ih]
    simp only [rd]
    omega
theorem rd_append {B B' : List (Int × Int)} (h : ∀ p, rd B p = rd B' p) : ∀ (A : List (Int × Int)) (p : Int), rd (A ++ B) p = rd (A ++ B') p
  | [], p => h p
  | (n, s) :: A, p => by simp only [List.cons_append, rd, rd_append h A]
theorem push_one {st : List (Int × Int)} {x : Int × Int} (hx : 1 ≤ x.1) (h : ∀ y ∈ st, 1 ≤ y.1) : ∀ y ∈ push st x, 1 ≤ y.1 := by
  unfold push
  by_cases h1 : x.1 = 1
  · rw [if_pos h1]; exact h
  · rw [if_neg h1]
    cases st with
    | nil => intro y hy; simp at hy; subst hy; exact hx
    | cons z r =>
      dsimp only
      by_cases h2 : z.2 = x.1 * x.2
      · rw [if_pos h2]
        intro y hy
        rcases List.mem_cons.1 hy with rfl | hy
        · have := Int.mul_le_mul (h z (by simp)) hx (by omega) (by have := h z (by simp); omega)
          simpa using this
        · exact h y (by simp [hy])
      · rw [if_neg h2]
        intro y hy
        rcases List.mem_cons.1 hy with rfl | hy
        · exact hx
        · exact h y hy
theorem rd_pushAll : ∀ (L acc : List (Int × Int)), (∀ x ∈ L, 1 ≤ x.1) → (∀ x ∈ acc, 1 ≤ x.1) → ∀ p, rd (L.foldl push acc) p = rd (L.reverse ++ acc) p
  | [], acc, _, _, p => by simp
  | x :: L, acc, h, ha, p => by
    have hx := h x (by simp)
    rw [List.foldl_cons, rd_pushAll L (push acc x) (fun y hy => h y (by simp [hy])) (push_one hx ha) p, List.reverse_cons, List.append_assoc]
    exact rd_append (fun q => rd_push hx ha q) L.reverse p
theorem prodS_pushAll : ∀ (L acc : List (Int × Int)), prodS (L.foldl push acc) = prod (L.map (·.1)) * prodS acc
  | [], acc => by simp [prod]
  | x :: L, acc => by
    rw [List.foldl_cons, prodS_pushAll L, prodS_push, List.map_cons]
    simp only [prod]
    rw [← Int.mul_assoc, Int.mul_comm (prod _) x.1]
/-- Sizes above 1, steps that are near. -/
def Near (st : List (Int × Int)) : Prop := ∀ y ∈ st, 2 ≤ y.1 ∧ -1099511627776 ≤ y.2 ∧ y.2 ≤ 1099511627776
theorem near_push {st : List (Int × Int)} {x : Int × Int} (h1 : 1 ≤ x.1) (h2 : -1099511627776 ≤ x.2 ∧ x.2 ≤ 1099511627776) (h : Near st) : Near (push st x) := by
  unfold push
  by_cases e : x.1 = 1
  · rw [if_pos e]; exact h
  · rw [if_neg e]
    cases st with
    | nil => intro y hy; simp at hy; subst hy; exact ⟨by omega, h2⟩
    | cons z r =>
      have hz := h z (by simp)
      dsimp only
      by_cases e2 : z.2 = x.1 * x.2
      · rw [if_pos e2]
        intro y hy
        rcases List.mem_cons.1 hy with rfl | hy
        · have := Int.mul_le_mul hz.1 h1 (by omega) (by omega)
          exact ⟨by simpa using this, h2⟩
        · exact h y (by simp [hy])
      · rw [if_neg e2]
        intro y hy
        rcases List.mem_cons.1 hy with rfl | hy
        · exact ⟨by omega, h2⟩
        · exact h y hy
theorem near_pushAll : ∀ (L acc : List (Int × Int)), (∀ x ∈ L, 1 ≤ x.1 ∧ -1099511627776 ≤ x.2 ∧ x.2 ≤ 1099511627776) → Near acc → Near (L.foldl push acc)
  | [], acc, _, h => h
  | x :: L, acc, hL, h => near_pushAll L _ (fun y hy => hL y (by simp [hy])) (near_push (hL x (by simp)).1 (hL x (by simp)).2 h)
theorem canon_pushAll : ∀ (L acc : List (Int × Int)), canon acc → canon (L.foldl push acc)
  | [], acc, h => h
  | x :: L, acc, h => canon_pushAll L _ (canon_push h)
theorem small_of_near {st : List (Int × Int)} (h : Near st) (hp : prodS st ≤ 65536) : Small 72057594037927936 st := by
  intro y hy
  obtain ⟨a, b, c⟩ := h y hy
  have h1 := prodS_ge (st := st) (fun z hz => by have := (h z hz).1; omega) y hy
  have := mul_abs (a := y.1) (b := y.2) (x := 65536) (y := 1099511627776) (by omega) (by omega) b c (by omega)
  exact ⟨a, by omega, by omega, by omega, by omega, by omega⟩
/-- A view's dimensions and steps, put together: the last one ahead. -/
def blocks (v : V) : List (Int × Int) := (v.dims.zip v.steps).foldl push []
theorem zip_fst : ∀ {l m : List Int}, l.length = m.length → (l.zip m).map (·.1) = l
  | [], [], _ => rfl
  | d :: l, s :: m, h => by simp [zip_fst (l := l) (m := m) (by simpa using h)]
  | [], _ :: _, h => by simp at h
  | _ :: _, [], h => by simp at h
theorem zip_snd : ∀ {l m : List Int}, l.length = m.length → (l.zip m).map (·.2) = m
  | [], [], _ => rfl
  | d :: l, s :: m, h => by simp [zip_snd (l := l) (m := m) (by simpa using h)]
  | [], _ :: _, h => by simp at h
  | _ :: _, [], h => by simp at h
/-- A right view with entries: its blocks. -/
theorem blocks_fine {v : V} (h : wrong v = 0) (hp : 0 < prod v.dims) : (∀ p, rd (blocks v) p = dot (idx v.dims p) v.steps) ∧ prodS (blocks v) = prod v.dims ∧ canon (blocks v) ∧ Small 72057594037927936 (blocks v) := by
  obtain ⟨z1, z2, z3, z4⟩ := wrong_fine h
  have hpos := no_zero_of_pos z1 hp
  have hL : ∀ x ∈ v.dims.zip v.steps, 1 ≤ x.1 ∧ -1099511627776 ≤ x.2 ∧ x.2 ≤ 1099511627776 := fun x hx => by
    obtain ⟨a, b⟩ := x
    have := List.of_mem_zip hx
    exact ⟨hpos a this.1, z4 b this.2⟩
  have hps : prodS (blocks v) = prod v.dims := by
    unfold blocks
    rw [prodS_pushAll, zip_fst z2.symm]; simp [prodS]
  refine ⟨fun p => ?_, hps, canon_pushAll _ _ trivial, small_of_near (near_pushAll _ _ hL (fun y hy => by simp at hy)) (by rw [hps]; exact (size_fine z1).2.2.2.2)⟩
  unfold blocks
  rw [rd_pushAll _ _ (fun x hx => (hL x hx).1) (fun y hy => by simp at hy), List.append_nil, rd_dot _ (fun x hx => (hL x (List.mem_reverse.1 hx)).1), List.reverse_reverse, zip_fst z2.symm, zip_snd z2.symm]
/-- Where the entry at place p lies. -/
def at_ (v : V) (p : Int) : Int := v.st + dot (idx v.dims p) v.steps
theorem dot_small {v : V} (h : wrong v = 0) (p : Int) (hpos : ∀ d ∈ v.dims, 1 ≤ d) : ∀ i (h1 : i < (idx v.dims p).length) (h2 : i < v.steps.length), -4503599627370496 ≤ (idx v.dims p)[i] * v.steps[i] ∧ (idx v.dims p)[i] * v.steps[i] ≤ 4503599627370496 := by
  intro i h1 h2
  obtain ⟨z1, z2, z3, z4⟩ := wrong_fine h
  rw [idx_length] at h1
  have hd := (size_fine z1).2.1 _ (List.getElem_mem h1)
  have hd1 := hpos _ (List.getElem_mem h1)
  have hs := z4 _ (List.getElem_mem h2)
  have hi : (idx v.dims p)[i]'(by rw [idx_length]; exact h1) = p / prod (v.dims.drop (i + 1)) % v.dims[i] := by simp [idx, List.getD_eq_getElem?_getD, h1]
  have a1 := Int.emod_nonneg (p / prod (v.dims.drop (i + 1))) (show v.dims[i] ≠ 0 by omega)
  have a2 := Int.emod_lt_of_pos (p / prod (v.dims.drop (i + 1))) (show 0 < v.dims[i] by omega)
  rw [hi]
  exact mul_small a1 (by omega) hs.1 hs.2
theorem at_small {v : V} (h : wrong v = 0) (p : Int) (hpos : ∀ d ∈ v.dims, 1 ≤ d) : -36028797018963968 ≤ at_ v p ∧ at_ v p ≤ 36028797018963968 := by
  obtain ⟨z1, z2, z3, z4⟩ := wrong_fine h
  have hb := dot_bound (b := 4503599627370496) (by omega) (dot_small h p hpos) v.dims.length (by rw [idx_length]; exact Nat.le_refl _) (by omega)
  rw [List.take_of_length_le (by rw [idx_length]; exact Nat.le_refl _), List.take_of_length_le (by omega)] at hb
  have h6 := (size_fine z1).1
  have : (4503599627370496 : Int) * v.dims.length ≤ 4503599627370496 * 6 := by omega
  unfold at_
  omega
/-- The steps, read off the places. -/
def offs (v : V) (dims : List Int) : List Int := (List.range dims.length).map fun k => if 1 < dims.getD k 0 then at_ v (prod (dims.drop (k + 1))) - at_ v 0 else 0
theorem offs_length (v : V) (dims : List Int) : (offs v dims).length = dims.length := by simp [offs]
theorem offs_at (v : V) (dims : List Int) (k : Nat) (h : k < (offs v dims).length) : (offs v dims)[k] = if 1 < dims.getD k 0 then at_ v (prod (dims.drop (k + 1))) - at_ v 0 else 0 := by simp [offs]
theorem rd_unit : ∀ (ds ss : List Int), (∀ d ∈ ds, 1 ≤ d) → ss.length = ds.length → ∀ (j : Nat) (h : j < ds.length) (h2 : j < ss.length), 1 < ds[j] → rd (ds.zip ss) (prod (ds.take j)) = ss[j]
  | d :: ds, s :: ss, hd, hl, 0, _, _, h1 => by
    simp only [List.getElem_cons_zero] at h1
    simp only [List.zip_cons_cons, List.take_zero, prod, rd, List.getElem_cons_zero]
    rw [Int.emod_eq_of_lt (by omega) h1, Int.ediv_eq_zero_of_lt (by omega) h1, rd_zero]; omega
  | d :: ds, s :: ss, hd, hl, j + 1, h, h2, h1 => by
    have hd1 := hd d (by simp)
    have ih := rd_unit ds ss (fun x hx => hd x (by simp [hx])) (by simpa using hl) j (by simpa using h) (by simpa using h2) (by simpa using h1)
    simp only [List.zip_cons_cons, List.take_succ_cons, prod, rd, List.getElem_cons_succ]
    rw [Int.mul_emod_right, Int.mul_ediv_cancel_left _ (show d ≠ 0 by omega), ih]; omega
  | [], _, _, _, _, h, _, _ => by simp at h
  | _ :: _, [], _, hl, _, _, _, _ => by simp at hl
theorem go_ones : ∀ {ds : List Int} {st : List (Int × Int)} {ss : List Int}, go ds st = some ss → ∀ (j : Nat) (h : j < ds.length) (h2 : j < ss.length), ds[j] = 1 → ss[j] = 0
  | [], _, _, _, _, h, _, _ => by simp at h
  | d :: ds, st, ss, hg, j, h, h2, h1 => by
    simp only [go] at hg
    by_cases e : d = 1
    · rw [if_pos e] at hg
      cases hgo : go ds st with
      | none => rw [hgo] at hg; cases hg
      | some tt =>
        rw [hgo] at hg
        simp only [Option.map_some, Option.some.injEq] at hg
        subst hg
        cases j with
        | zero => rfl
        | succ j => simpa using go_ones hgo j (by simpa using h) (by simpa using h2) (by simpa using h1)
    · rw [if_neg e] at hg
      cases st with
      | nil => cases hg
      | cons y r =>
        obtain ⟨n, s⟩ := y
        dsimp only at hg
        by_cases hm : n % d = 0
        · rw [if_pos hm] at hg
          cases hgo : go ds (if n / d = 1 then r else (n / d, s * d) :: r) with
          | none => rw [hgo] at hg; cases hg
          | some tt =>
            rw [hgo] at hg
            simp only [Option.map_some, Option.some.injEq] at hg
            subst hg
            cases j with
            | zero => exact absurd (by simpa using h1) e
            | succ j => simpa using go_ones hgo j (by simpa using h) (by simpa using h2) (by simpa using h1)
        · rw [if_neg hm] at hg; cases hg
/-- What Reform says. -/
def reform (v : V) (dims : List Int) : V × Int :=
  if wrong v ≠ 0 then (none_, wrong v) else if (size dims).2 ≠ 0 then (none_, (size dims).2) else if (size v.dims).1 ≠ (size dims).1 then (none_, 6)
  else if (size dims).1 = 0 then (⟨v.st, dims, List.replicate dims.length 0⟩, 0)
  else match go dims.reverse (blocks v) with
    | none => (none_, 9)
    | some ss => made ⟨v.st, dims, ss.reverse⟩
section
variable {v : V} {dims : List Int}
theorem reform_wrong (h : wrong v ≠ 0) : reform v dims = (none_, wrong v) := if_pos h
theorem reform_size (h : wrong v = 0) (h2 : (size dims).2 ≠ 0) : reform v dims = (none_, (size dims).2) := by unfold reform; rw [if_neg (by simp [h]), if_pos h2]
theorem reform_shape (h : wrong v = 0) (h2 : (size dims).2 = 0) (h3 : (size v.dims).1 ≠ (size dims).1) : reform v dims = (none_, 6) := by unfold reform; rw [if_neg (by simp [h]), if_neg (by simp [h2]), if_pos h3]
theorem reform_empty (h : wrong v = 0) (h2 : (size dims).2 = 0) (h3 : (size v.dims).1 = (size dims).1) (h4 : (size dims).1 = 0) : reform v dims = (⟨v.st, dims, List.replicate dims.length 0⟩, 0) := by
  unfold reform; rw [if_neg (by simp [h]), if_neg (by simp [h2]), if_neg (by simp [h3]), if_pos h4]
theorem reform_none (h : wrong v = 0) (h2 : (size dims).2 = 0) (h3 : (size v.dims).1 = (size dims).1) (h4 : (size dims).1 ≠ 0) (h5 : go dims.reverse (blocks v) = none) : reform v dims = (none_, 9) := by
  unfold reform; rw [if_neg (by simp [h]), if_neg (by simp [h2]), if_neg (by simp [h3]), if_neg h4, h5]
theorem reform_some {ss : List Int} (h : wrong v = 0) (h2 : (size dims).2 = 0) (h3 : (size v.dims).1 = (size dims).1) (h4 : (size dims).1 ≠ 0) (h5 : go dims.reverse (blocks v) = some ss) : reform v dims = made ⟨v.st, dims, ss.reverse⟩ := by
  unfold reform; rw [if_neg (by simp [h]), if_neg (by simp [h2]), if_neg (by simp [h3]), if_neg h4, h5]
/-- What is fine about both, where there is something. -/
theorem reform_fine (h : wrong v = 0) (h2 : (size dims).2 = 0) (h3 : (size v.dims).1 = (size dims).1) (h4 : (size dims).1 ≠ 0) : prod v.dims = prod dims ∧ 1 ≤ prod dims ∧ prod dims ≤ 65536 ∧ (∀ d ∈ v.dims, 1 ≤ d) ∧ ∀ d ∈ dims, 1 ≤ d := by
  obtain ⟨z1, z2, z3, z4⟩ := wrong_fine h
  obtain ⟨a1, a2, a3, a4, a5⟩ := size_fine z1
  obtain ⟨b1, b2, b3, b4, b5⟩ := size_fine h2
  exact ⟨by omega, by omega, by omega, no_zero_of_pos z1 (by omega), no_zero_of_pos h2 (by omega)⟩
theorem reverse_one (h : ∀ d ∈ dims, 1 ≤ d) : ∀ d ∈ dims.reverse, 1 ≤ d := fun d hd => h d (List.mem_reverse.1 hd)
theorem zip_rev : ∀ {l m : List Int}, l.length = m.length → l.reverse.zip m.reverse = (l.zip m).reverse
  | [], [], _ => rfl
  | d :: l, s :: m, h => by
    have hl : l.length = m.length := by simpa using h
    rw [List.reverse_cons, List.reverse_cons, List.zip_append (by simpa using hl), zip_rev hl]
    simp
  | [], _ :: _, h => by simp at h
  | _ :: _, [], h => by simp at h
theorem rd_offs {ts : List Int} (hl : ts.length = dims.length) (hd : ∀ d ∈ dims, 1 ≤ d) (p : Int) : rd (dims.reverse.zip ts.reverse) p = dot (idx dims p) ts := by
  have e : dims.reverse.zip ts.reverse = (dims.zip ts).reverse := zip_rev hl.symm
  rw [e, rd_dot _ (fun x hx => by
    obtain ⟨a, b⟩ := x
    have := List.of_mem_zip (List.mem_reverse.1 hx)
    exact hd a this.1), List.reverse_reverse, zip_fst hl.symm, zip_snd hl.symm]
/-- If no block is cut across: the steps are those that are read off, and all places come of them. -/
theorem reform_yes {ss : List Int} (h : wrong v = 0) (h2 : (size dims).2 = 0) (h3 : (size v.dims).1 = (size dims).1) (h4 : (size dims).1 ≠ 0) (h5 : go dims.reverse (blocks v) = some ss) :
    offs v dims = ss.reverse ∧ ∀ p, v.st + dot (idx dims p) (offs v dims) = at_ v p := by
  obtain ⟨f1, f2, f3, f4, f5⟩ := reform_fine h h2 h3 h4
  obtain ⟨b1, b2, b3, b4⟩ := blocks_fine h (by omega)
  have hrev := reverse_one f5
  obtain ⟨g1, g2⟩ := go_sound hrev b4 (by rw [b2, prod_reverse, f1]) h5
  rw [List.length_reverse] at g1
  have e : offs v dims = ss.reverse := by
    apply List.ext_getElem
    · rw [offs_length, List.length_reverse, g1]
    · intro k k1 k2
      rw [offs_length] at k1
      have hk : dims.getD k 0 = dims[k] := getD_at dims k k1
      have hj : dims.length - 1 - k < dims.reverse.length := by rw [List.length_reverse]; omega
      have hj2 : dims.length - 1 - k < ss.length := by omega
      have hjd : dims.reverse[dims.length - 1 - k] = dims[k] := by
        rw [List.getElem_reverse]; congr 1; omega
      have hjs : ss.reverse[k]'k2 = ss[dims.length - 1 - k] := by
        rw [List.getElem_reverse]; congr 1; omega
      rw [hjs, offs_at, hk]
      by_cases h1 : 1 < dims[k]
      · rw [if_pos h1]
        have hu := rd_unit dims.reverse ss hrev (by rw [List.length_reverse, g1]) _ hj hj2 (by rw [hjd]; exact h1)
        rw [g2, b1] at hu
        have ht : prod (dims.reverse.take (dims.length - 1 - k)) = prod (dims.drop (k + 1)) := by
          rw [List.take_reverse, prod_reverse]; congr 2; omega
        have hz := b1 0
        rw [rd_zero] at hz
        unfold at_
        rw [← ht, hu, ← hz]; omega
      · rw [if_neg h1]
        have := f5 _ (List.getElem_mem k1)
        exact (go_ones h5 _ hj hj2 (by rw [hjd]; omega)).symm
  refine ⟨e, fun p => ?_⟩
  have hp := rd_offs (ts := offs v dims) (offs_length v dims) f5 p
  rw [e, List.reverse_reverse, g2, b1] at hp
  unfold at_
  rw [e]; omega
/-- If a block is cut across, some place does not come of them. -/
theorem reform_no (h : wrong v = 0) (h2 : (size dims).2 = 0) (h3 : (size v.dims).1 = (size dims).1) (h4 : (size dims).1 ≠ 0) (h5 : ∀ p, 0 ≤ p → p < prod dims → w64 (v.st + dot (idx dims p) (offs v dims)) = at_ v p) :
    ∃ ss, go dims.reverse (blocks v) = some ss := by
  obtain ⟨f1, f2, f3, f4, f5⟩ := reform_fine h h2 h3 h4
  obtain ⟨b1, b2, b3, b4⟩ := blocks_fine h (by omega)
  refine go_complete (by omega) (reverse_one f5) b4 b3 (by rw [b2, prod_reverse, f1]) (ts := (offs v dims).reverse) (by simp [offs_length]) (fun p p0 p1 => ?_)
  rw [prod_reverse] at p1
  rw [rd_offs (offs_length v dims) f5, b1]
  have e := h5 p p0 p1
  obtain ⟨k, hk⟩ := w64_like (v.st + dot (idx dims p) (offs v dims))
  rw [e] at hk
  unfold at_ at hk
  exact ⟨-k, by omega⟩
end
/-- The steps, the first k of them read off. -/
def offK (v : V) (dims : List Int) (k : Nat) : List Int := (List.range dims.length).map fun j => if j < k ∧ 1 < dims.getD j 0 then at_ v (prod (dims.drop (j + 1))) - at_ v 0 else 0
theorem offK_length (v : V) (dims : List Int) (k : Nat) : (offK v dims k).length = dims.length := by simp [offK]
theorem offK_at (v : V) (dims : List Int) (k j : Nat) (h : j < (offK v dims k).length) : (offK v dims k)[j] = if j < k ∧ 1 < dims.getD j 0 then at_ v (prod (dims.drop (j + 1))) - at_ v 0 else 0 := by simp [offK]
theorem offK_zero (v : V) (dims : List Int) : offK v dims 0 = List.replicate dims.length 0 := by
  apply List.ext_getElem
  · simp [offK_length]
  · intro j h1 h2; rw [offK_at]; simp
theorem offK_all (v : V) (dims : List Int) : offK v dims dims.length = offs v dims := by
  apply List.ext_getElem
  · simp [offK_length, offs_length]
  · intro j h1 h2
    rw [offK_length] at h1
    rw [offK_at, offs_at]
    simp [h1]
theorem offK_set {v : V} {dims : List Int} {k : Nat} (h : k < dims.length) (h1 : 1 < dims[k]) : offK v dims (k + 1) = (offK v dims k).set k (at_ v (prod (dims.drop (k + 1))) - at_ v 0) := by
  apply List.ext_getElem
  · simp [offK_length]
  · intro j j1 j2
    rw [offK_length] at j1
    rw [List.getElem_set, offK_at, offK_at]
    by_cases e : k = j
    · subst e
      rw [if_pos rfl, if_pos ⟨by omega, by rw [getD_at dims k h]; exact h1⟩]
    · rw [if_neg e]
      by_cases e2 : j < k
      · simp [e2, show j < k + 1 by omega]
      · simp [e2, show ¬ j < k + 1 by omega]
theorem offK_skip {v : V} {dims : List Int} {k : Nat} (h : k < dims.length) (h1 : ¬ 1 < dims[k]) : offK v dims (k + 1) = offK v dims k := by
  apply List.ext_getElem
  · simp [offK_length]
  · intro j j1 j2
    rw [offK_length] at j1
    rw [offK_at, offK_at]
    by_cases e : k = j
    · subst e
      rw [if_neg (by rw [getD_at dims k h]; omega), if_neg (by omega)]
    · by_cases e2 : j < k
      · simp [e2, show j < k + 1 by omega]
      · simp [e2, show ¬ j < k + 1 by omega]
theorem step_less {dims : List Int} (hpos : ∀ d ∈ dims, 1 ≤ d) {k : Nat} (h : k < dims.length) (h1 : 1 < dims[k]) : 1 ≤ prod (dims.drop (k + 1)) ∧ prod (dims.drop (k + 1)) < prod dims := by
  have a1 := prod_pos (dims.drop (k + 1)) (fun d hd => hpos d (List.mem_of_mem_drop hd))
  have a2 := prod_pos (dims.take k) (fun d hd => hpos d (List.mem_of_mem_take hd))
  have e : prod dims = prod (dims.take k) * (dims[k] * prod (dims.drop (k + 1))) := by
    rw [show prod dims = prod (dims.take k ++ dims.drop k) by rw [List.take_append_drop], prod_append, List.drop_eq_getElem_cons h]; rfl
  have a3 : 2 * prod (dims.drop (k + 1)) ≤ dims[k] * prod (dims.drop (k + 1)) := Int.mul_le_mul_of_nonneg_right (by omega) (by omega)
  have a4 := Int.mul_le_mul_of_nonneg_right a2 (show 0 ≤ dims[k] * prod (dims.drop (k + 1)) by omega)
  rw [Int.one_mul, ← e] at a4
  exact ⟨a1, by omega⟩
theorem steps_pos {dims : List Int} (hpos : ∀ d ∈ dims, 1 ≤ d) {k : Nat} (h : k < dims.length) : (steps dims)[k]'(by rw [steps_length]; exact h) = prod (dims.drop (k + 1)) := by
  rw [steps_at, if_neg (fun hz => by have := hpos 0 hz; omega)]
theorem reform_made {v : V} {dims ss : List Int} (h2 : (size dims).2 = 0) (hl : ss.length = dims.length) : wrong ⟨v.st, dims, ss⟩ = 0 ∨ wrong ⟨v.st, dims, ss⟩ = 4 := wrong_two h2 hl
end AdjV
