/-
  The blocks of a view, dimension by dimension; new steps, from behind, dimension by dimension. No program in sight. No condition.
-/
import Derived.Test.YtkbmnefjnfihbaaViewPlain9
namespace AdjV
set_option linter.unusedVariables false
/-- The blocks of the first dimensions. -/
def blocksK (v : V) (k : Nat) : List (Int × Int) := ((v.dims.zip v.steps).take k).foldl push []
theorem blocksK_all {v : V} (h : v.steps.length = v.dims.length) : blocksK v v.dims.length = blocks v := by
  unfold blocksK blocks
  rw [List.take_of_length_le (by rw [List.length_zip]; omega)]
theorem blocksK_next {v : V} {k : Nat} (h : k < v.dims.length) (hs : k < v.steps.length) : blocksK v (k + 1) = push (blocksK v k) (v.dims[k], v.steps[k]) := by
  unfold blocksK
  rw [List.take_succ_eq_append_getElem (by rw [List.length_zip]; omega), List.foldl_append, List.getElem_zip]
  rfl
theorem blocksK_fine {v : V} (h : wrong v = 0) (hp : 0 < prod v.dims) (k : Nat) : ∀ y ∈ blocksK v k, 2 ≤ y.1 ∧ y.1 ≤ 65536 ∧ -1099511627776 ≤ y.2 ∧ y.2 ≤ 1099511627776 := by
  obtain ⟨z1, z2, z3, z4⟩ := wrong_fine h
  have hpos := no_zero_of_pos z1 hp
  have hL : ∀ x ∈ (v.dims.zip v.steps).take k, 1 ≤ x.1 ∧ -1099511627776 ≤ x.2 ∧ x.2 ≤ 1099511627776 := fun x hx => by
    obtain ⟨a, b⟩ := x
    have := List.of_mem_zip (List.mem_of_mem_take hx)
    exact ⟨hpos a this.1, z4 b this.2⟩
  have hn := near_pushAll _ [] hL (fun y hy => by simp at hy)
  have e : ((v.dims.zip v.steps).take k).map (·.1) = v.dims.take k := by rw [List.map_take, zip_fst z2.symm]
  have hps : prodS (blocksK v k) = prod (v.dims.take k) := by
    unfold blocksK
    rw [prodS_pushAll, e]; simp [prodS]
  have hle := prod_take_le v.dims k hpos
  have h5 := (size_fine z1).2.2.2.2
  intro y hy
  have h1 := hn y hy
  have h2 := prodS_ge (st := blocksK v k) (fun z hz => by have := (hn z hz).1; omega) y hy
  exact ⟨h1.1, by omega, h1.2⟩
theorem push_length (st : List (Int × Int)) (x : Int × Int) : (push st x).length ≤ st.length + 1 := by
  unfold push
  by_cases h : x.1 = 1
  · rw [if_pos h]; omega
  · rw [if_neg h]
    cases st with
    | nil => simp
    | cons y r =>
      dsimp only
      by_cases h2 : y.2 = x.1 * x.2
      · rw [if_pos h2]; simp
      · rw [if_neg h2]; simp
theorem pushAll_length : ∀ (L acc : List (Int × Int)), (L.foldl push acc).length ≤ acc.length + L.length
  | [], acc => by simp
  | x :: L, acc => by
    have h1 := pushAll_length L (push acc x)
    have h2 := push_length acc x
    rw [List.foldl_cons, List.length_cons]
    omega
theorem blocksK_length (v : V) (k : Nat) : (blocksK v k).length ≤ k := by
  have h := pushAll_length ((v.dims.zip v.steps).take k) []
  have h2 := List.length_take_le k (v.dims.zip v.steps)
  unfold blocksK
  simp at h ⊢
  omega
theorem push_skip {st : List (Int × Int)} {d s : Int} (h : d = 1) : push st (d, s) = st := by unfold push; rw [if_pos h]
theorem push_first {d s : Int} (h : d ≠ 1) : push [] (d, s) = [(d, s)] := by unfold push; rw [if_neg h]
theorem push_join {r : List (Int × Int)} {n t d s : Int} (h : d ≠ 1) (h2 : t = d * s) : push ((n, t) :: r) (d, s) = (n * d, s) :: r := by unfold push; rw [if_neg h]; simp [h2]
theorem push_more {r : List (Int × Int)} {n t d s : Int} (h : d ≠ 1) (h2 : t ≠ d * s) : push ((n, t) :: r) (d, s) = (d, s) :: (n, t) :: r := by unfold push; rw [if_neg h]; simp [h2]
/-- One dimension, from behind: its step, what is left of the blocks; none: a block is cut across. -/
def gstep (d : Int) (st : List (Int × Int)) : Option (Int × List (Int × Int)) :=
  if d = 1 then some (0, st) else match st with
    | [] => none
    | (n, s) :: r => if n % d = 0 then some (s, if n / d = 1 then r else (n / d, s * d) :: r) else none
def gnext (acc : Option (List Int × List (Int × Int))) (d : Int) : Option (List Int × List (Int × Int)) := acc.bind fun x => (gstep d x.2).map fun y => (x.1 ++ [y.1], y.2)
/-- Dimensions gone through one by one. -/
def grun (ds : List Int) (st : List (Int × Int)) : Option (List Int × List (Int × Int)) := ds.foldl gnext (some ([], st))
theorem grun_snoc (ds : List Int) (d : Int) (st : List (Int × Int)) : grun (ds ++ [d]) st = gnext (grun ds st) d := by simp [grun, List.foldl_append]
theorem gnext_none (ds : List Int) : ds.foldl gnext none = none := by
  induction ds with
  | nil => rfl
  | cons d ds ih => exact ih
theorem go_cons (d : Int) (ds : List Int) (st : List (Int × Int)) : go (d :: ds) st = (gstep d st).bind fun y => (go ds y.2).map (y.1 :: ·) := by
  simp only [go, gstep]
  by_cases h : d = 1
  · rw [if_pos h, if_pos h]; rfl
  · rw [if_neg h, if_neg h]
    cases st with
    | nil => rfl
    | cons y r =>
      obtain ⟨n, s⟩ := y
      dsimp only
      by_cases h2 : n % d = 0
      · rw [if_pos h2, if_pos h2]; rfl
      · rw [if_neg h2, if_neg h2]; rfl
theorem grun_from : ∀ (ds : List Int) (ss : List Int) (st : List (Int × Int)), (ds.foldl gnext (some (ss, st))).map (·.1) = (go ds st).map (ss ++ ·)
  | [], ss, st => by simp [go]
  | d :: ds, ss, st => by
    rw [List.foldl_cons, go_cons]
    cases h : gstep d st with
    | none => simp [gnext, h, gnext_none]
    | some y =>
      have e : gnext (some (ss, st)) d = some (ss ++ [y.1], y.2) := by simp [gnext, h]
      rw [e, grun_from ds]
      simp only [Option.bind_some, Option.map_map]
      congr 1
      funext x
      simp
theorem grun_go (ds : List Int) (st : List (Int × Int)) : (grun ds st).map (·.1) = go ds st := by
  unfold grun
  rw [grun_from]
  simp
theorem grun_bad {ds es : List Int} {st : List (Int × Int)} (h : grun ds st = none) : go (ds ++ es) st = none := by
  rw [← grun_go]
  unfold grun at *
  rw [List.foldl_append, h, gnext_none]
  rfl
/-- What holds of the blocks while dimensions are gone through. -/
theorem grun_fine {M : Int} : ∀ {ds es : List Int} {st st' : List (Int × Int)} {ss : List Int}, (∀ d ∈ ds, 1 ≤ d) → Small M st → prodS st = prod (ds ++ es) → grun ds st = some (ss, st') → Small M st' ∧ prodS st' = prod es ∧ ss.length = ds.length := by
  intro ds
  suffices H : ∀ (ds es ss0 : List Int) (st st' : List (Int × Int)) (ss : List Int), (∀ d ∈ ds, 1 ≤ d) → Small M st → prodS st = prod (ds ++ es) → ds.foldl gnext (some (ss0, st)) = some (ss, st') → Small M st' ∧ prodS st' = prod es ∧ ss.length = ss0.length + ds.length by
    intro es st st' ss h1 h2 h3 h4
    have := H ds es [] st st' ss h1 h2 h3 h4
    simpa using this
  intro ds
  induction ds with
  | nil =>
    intro es ss0 st st' ss _ h2 h3 h4
    simp only [List.foldl_nil, Option.some.injEq, Prod.mk.injEq] at h4
    obtain ⟨rfl, rfl⟩ := h4
    exact ⟨h2, h3, rfl⟩
  | cons d ds ih =>
    intro es ss0 st st' ss h1 h2 h3 h4
    have hd1 := h1 d (by simp)
    rw [List.foldl_cons] at h4
    cases h : gstep d st with
    | none => simp [gnext, h, gnext_none] at h4
    | some y =>
      have e : gnext (some (ss0, st)) d = some (ss0 ++ [y.1], y.2) := by simp [gnext, h]
      rw [e] at h4
      have hy : Small M y.2 ∧ prodS y.2 = prod (ds ++ es) := by
        unfold gstep at h
        by_cases hd : d = 1
        · rw [if_pos hd] at h
          simp only [Option.some.injEq] at h
          subst h
          subst hd
          exact ⟨h2, by simpa [prod] using h3⟩
        · rw [if_neg hd] at h
          cases st with
          | nil => cases h
          | cons z r =>
            obtain ⟨n, s⟩ := z
            dsimp only at h
            by_cases hm : n % d = 0
            · rw [if_pos hm] at h
              simp only [Option.some.injEq] at h
              subst h
              refine ⟨go_next_small h2 hd1 hm, ?_⟩
              have hp := go_next_prod h2 hd1 hm
              rw [h3] at hp
              simp only [List.cons_append, prod] at hp
              exact (Int.eq_of_mul_eq_mul_left (by omega) hp).symm
            · rw [if_neg hm] at h; cases h
      obtain ⟨a, b, c⟩ := ih es _ _ _ _ (fun x hx => h1 x (by simp [hx])) hy.1 hy.2 h4
      exact ⟨a, b, by rw [c]; simp; omega⟩
theorem gstep_skip {d : Int} {st : List (Int × Int)} (h : d = 1) : gstep d st = some (0, st) := if_pos h
theorem gstep_cut {d n s : Int} {r : List (Int × Int)} (h : d ≠ 1) (h2 : n % d ≠ 0) : gstep d ((n, s) :: r) = none := by unfold gstep; rw [if_neg h]; simp [h2]
theorem gstep_last {d n s : Int} {r : List (Int × Int)} (h : d ≠ 1) (h2 : n % d = 0) (h3 : n / d = 1) : gstep d ((n, s) :: r) = some (s, r) := by unfold gstep; rw [if_neg h]; simp [h2, h3]
theorem gstep_more {d n s : Int} {r : List (Int × Int)} (h : d ≠ 1) (h2 : n % d = 0) (h3 : n / d ≠ 1) : gstep d ((n, s) :: r) = some (s, (n / d, s * d) :: r) := by unfold gstep; rw [if_neg h]; simp [h2, h3]
/-- What is known when the j-th dimension from behind comes. -/
theorem round_fine {v : V} {dims ss : List Int} {st : List (Int × Int)} {j : Nat} {d : Int} (h : wrong v = 0) (hp : 0 < prod v.dims) (he : prod v.dims = prod dims) (hpos : ∀ x ∈ dims, 1 ≤ x) (hj : j < dims.length) (hd : 1 ≤ d)
    (hrun : grun (dims.reverse.take j) (blocks v) = some (ss, st)) (hTK : dims.reverse.take (j + 1) = dims.reverse.take j ++ [d]) : Small 72057594037927936 st ∧ ss.length = j ∧ (d ≠ 1 → ∃ n s r, st = (n, s) :: r) := by
  obtain ⟨b1, b2, b3, b4⟩ := blocks_fine h hp
  have hrev := reverse_one hpos
  obtain ⟨c1, c2, c3⟩ := grun_fine (es := dims.reverse.drop j) (fun x hx => hrev x (List.mem_of_mem_take hx)) b4 (by rw [List.take_append_drop, prod_reverse, b2, he]) hrun
  refine ⟨c1, by rw [c3, List.length_take, List.length_reverse]; omega, fun hd1 => ?_⟩
  cases st with
  | cons y r => exact ⟨y.1, y.2, r, rfl⟩
  | nil =>
    exfalso
    have hjr : j < dims.reverse.length := by rw [List.length_reverse]; exact hj
    have e : dims.reverse[j] = d := by
      have h1 := take_next dims.reverse j hjr
      rw [hTK] at h1
      have := List.append_cancel_left h1
      simpa using this.symm
    rw [List.drop_eq_getElem_cons hjr, e] at c2
    have hr := prod_pos (dims.reverse.drop (j + 1)) (fun x hx => hrev x (List.mem_of_mem_drop hx))
    simp only [prodS, prod] at c2
    have := Int.mul_le_mul_of_nonneg_left hr (show 0 ≤ d by omega)
    rw [Int.mul_one] at this
    omega
theorem step_small {M n s d : Int} {r : List (Int × Int)} (h : Small M ((n, s) :: r)) (hd : 1 ≤ d) (hm : n % d = 0) : -M ≤ s * d ∧ s * d ≤ M := by
  obtain ⟨a1, a2, a3, a4, a5, a6⟩ := h (n, s) (by simp)
  dsimp only at a1 a2 a3 a4 a5 a6
  by_cases h1 : n / d = 1
  · have e := Int.mul_ediv_add_emod n d
    rw [hm, h1, Int.add_zero, Int.mul_one] at e
    rw [e, Int.mul_comm]
    exact ⟨a5, a6⟩
  · have := go_next_small h hd hm (n / d, s * d) (by rw [if_neg h1]; simp)
    exact ⟨this.2.2.1, this.2.2.2.1⟩
theorem round_skip {ds ss : List Int} {st b : List (Int × Int)} {d : Int} (h : grun ds b = some (ss, st)) (hd : d = 1) : grun (ds ++ [d]) b = some (ss ++ [0], st) := by
  rw [grun_snoc, h]; simp [gnext, gstep_skip hd]
theorem round_cut {ds ss : List Int} {r b : List (Int × Int)} {d n s : Int} (h : grun ds b = some (ss, (n, s) :: r)) (hd : d ≠ 1) (hm : n % d ≠ 0) : grun (ds ++ [d]) b = none := by
  rw [grun_snoc, h]; simp [gnext, gstep_cut hd hm]
theorem round_last {ds ss : List Int} {r b : List (Int × Int)} {d n s : Int} (h : grun ds b = some (ss, (n, s) :: r)) (hd : d ≠ 1) (hm : n % d = 0) (h1 : n / d = 1) : grun (ds ++ [d]) b = some (ss ++ [s], r) := by
  rw [grun_snoc, h]; simp [gnext, gstep_last hd hm h1]
theorem round_more {ds ss : List Int} {r b : List (Int × Int)} {d n s : Int} (h : grun ds b = some (ss, (n, s) :: r)) (hd : d ≠ 1) (hm : n % d = 0) (h1 : n / d ≠ 1) : grun (ds ++ [d]) b = some (ss ++ [s], (n / d, s * d) :: r) := by
  rw [grun_snoc, h]; simp [gnext, gstep_more hd hm h1]
theorem cut_go {dims : List Int} {b : List (Int × Int)} {j : Nat} (h : grun (dims.reverse.take j) b = none) : go dims.reverse b = none := by
  have := grun_bad (es := dims.reverse.drop j) h
  rwa [List.take_append_drop] at this
end AdjV
