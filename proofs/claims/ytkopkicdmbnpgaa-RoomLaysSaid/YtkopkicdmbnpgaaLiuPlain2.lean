/-
  Plain: LIU: whoever makes each tree without anything in between, or all of one size, needs no less. No program in sight. Conditions: those each theorem names.
-/
import Derived.Test.YtkopkicdmbnpgaaLiuPlain
namespace AdjR
set_option linter.unusedVariables false

/-- Where a number stands first. -/
def pos : List Int → Int → Nat
  | [], _ => 0
  | x :: l, k => if x = k then 0 else pos l k + 1
theorem pos_take {k : Int} : ∀ {l : List Int} {t : Nat}, k ∈ l.take t ↔ k ∈ l ∧ pos l k < t
  | [], t => by simp
  | x :: l, 0 => by simp
  | x :: l, t + 1 => by
    have ih := pos_take (k := k) (l := l) (t := t)
    rw [List.take_succ_cons, List.mem_cons, List.mem_cons, ih]
    have hp : pos (x :: l) k = if x = k then 0 else pos l k + 1 := rfl
    rw [hp]
    by_cases e : k = x
    · subst e; simp
    · rw [if_neg (fun h => e h.symm)]
      constructor
      · rintro (h | ⟨h1, h2⟩)
        · exact absurd h e
        · exact ⟨.inr h1, by omega⟩
      · rintro ⟨h | h1, h2⟩
        · exact absurd h e
        · exact .inr ⟨h1, by omega⟩
theorem pos_get {k : Int} : ∀ {l : List Int}, k ∈ l → ∃ h : pos l k < l.length, l[pos l k] = k
  | x :: l, h => by
    unfold pos
    by_cases e : x = k
    · simp only [if_pos e]
      exact ⟨by simp, by simpa using e⟩
    · rcases List.mem_cons.1 h with h | h
      · exact absurd h.symm e
      · obtain ⟨h1, h2⟩ := pos_get h
        simp only [if_neg e]
        exact ⟨by simp only [List.length_cons]; omega, by simpa using h2⟩
def marks (M : List Bool) (l : List Int) : List Bool := l.foldl (fun M x => M.set x.toNat true) M
theorem marks_length : ∀ (l : List Int) (M : List Bool), (marks M l).length = M.length
  | [], _ => rfl
  | x :: l, M => by
    show (marks (M.set x.toNat true) l).length = _
    rw [marks_length l, List.length_set]
theorem marks_getD (k : Nat) : ∀ (l : List Int) (M : List Bool), (∀ x ∈ l, 0 ≤ x ∧ x < (M.length : Int)) → (marks M l).getD k false = (M.getD k false || decide ((k : Int) ∈ l))
  | [], M, _ => by simp [marks]
  | x :: l, M, h => by
    have hx := h x (List.mem_cons_self ..)
    show (marks (M.set x.toNat true) l).getD k false = _
    rw [marks_getD k l _ (fun y hy => by rw [List.length_set]; exact h y (List.mem_cons_of_mem _ hy)), getD_set M x.toNat k (by omega)]
    by_cases e : k = x.toNat
    · rw [if_pos e]
      have : (k : Int) ∈ x :: l := by rw [show (k : Int) = x by omega]; exact List.mem_cons_self ..
      simp [this]
    · rw [if_neg e]
      have : ((k : Int) ∈ x :: l) ↔ (k : Int) ∈ l := by
        rw [List.mem_cons]
        exact ⟨fun h => h.elim (fun h => by omega) id, .inr⟩
      simp [this]
theorem peakGo_facts (ab ws : List Int) : ∀ (od : List Int) (M : List Bool) (most m : Int), M.length = ab.length → peakGo ab ws od M most = (m, 0) →
    most ≤ m ∧ ∀ s x, od[s]? = some x → 0 ≤ x ∧ x < (ab.length : Int) ∧ (marks M (od.take s)).getD x.toNat false = false ∧ anyTo (lacks ab (marks M (od.take (s + 1))) x) ab.length = false ∧ sumTo (term ab ws (marks M (od.take (s + 1))) x) ab.length ≤ m
  | [], M, most, m, hM, h => by
    unfold peakGo at h
    injection h with h
    exact ⟨by omega, fun s x hs => by simp at hs⟩
  | i :: rest, M, most, m, hM, h => by
    unfold peakGo at h
    by_cases h1 : i < 0 ∨ (ab.length : Int) ≤ i ∨ M.getD i.toNat false = true
    · rw [if_pos h1] at h; injection h with _ h; omega
    · rw [if_neg h1] at h
      by_cases h2 : anyTo (lacks ab (M.set i.toNat true) i) ab.length = true
      · rw [if_pos h2] at h; injection h with _ h; omega
      · rw [if_neg h2] at h
        have ih := peakGo_facts ab ws rest _ _ m (by rw [List.length_set]; exact hM) h
        have hmi : M.getD i.toNat false = false := by
          cases hc : M.getD i.toNat false with
          | true => exact absurd (.inr (.inr hc)) h1
          | false => rfl
        have ha : anyTo (lacks ab (M.set i.toNat true) i) ab.length = false := by
          cases hc : anyTo (lacks ab (M.set i.toNat true) i) ab.length with
          | true => exact absurd hc h2
          | false => rfl
        refine ⟨by have := ih.1; split at this <;> omega, fun s x hs => ?_⟩
        cases s with
        | zero =>
          obtain rfl : i = x := by simpa using hs
          exact ⟨by omega, by omega, hmi, ha, by have := ih.1; show sumTo (term ab ws (M.set i.toNat true) i) ab.length ≤ m; split at this <;> omega⟩
        | succ s => exact ih.2 s x (by simpa using hs)
theorem sumTo_count : ∀ {l : List Int} {n : Nat}, (∀ x ∈ l, 0 ≤ x ∧ x < (n : Int)) → sumTo (fun k => ((l.count (k : Int) : Nat) : Int)) n = (l.length : Int)
  | [], n, _ => sumTo_none (fun k _ => rfl)
  | x :: l, n, h => by
    have ih := sumTo_count (l := l) (n := n) (fun y hy => h y (List.mem_cons_of_mem _ hy))
    have hx := h x (List.mem_cons_self ..)
    have h1 : sumTo (fun k => if k = x.toNat then (1 : Int) else 0) n = 1 := sumTo_one (by omega)
    rw [sumTo_split (g := fun k => ((l.count (k : Int) : Nat) : Int)) (h := fun k => if k = x.toNat then (1 : Int) else 0) (fun k hk => by
      rw [List.count_cons]
      by_cases e : k = x.toNat
      · rw [if_pos e, if_pos (by simp; omega)]; omega
      · rw [if_neg e, if_neg (by simp; omega)]; omega), ih, h1, List.length_cons]
    omega
theorem sumTo_mono {f g : Nat → Int} : ∀ {n : Nat}, (∀ k, k < n → f k ≤ g k) → sumTo f n ≤ sumTo g n
  | 0, _ => Int.le_refl _
  | n + 1, h => by
    have h1 := sumTo_mono (f := f) (g := g) (n := n) (fun k hk => h k (by omega))
    have h2 := h n (by omega)
    unfold sumTo; omega
theorem sumTo_const : ∀ n, sumTo (fun _ => (1 : Int)) n = (n : Int)
  | 0 => rfl
  | n + 1 => by
    have := sumTo_const n
    show sumTo _ n + 1 = _; omega
/-- A list of as many as there are, none twice, holds all. -/
theorem all_in {l : List Int} {n : Nat} (h : ∀ x ∈ l, 0 ≤ x ∧ x < (n : Int)) (hd : l.Nodup) (hl : l.length = n) {k : Nat} (hk : k < n) : (k : Int) ∈ l := by
  refine Decidable.byContradiction (fun hn => ?_)
  have h1 := sumTo_count h
  have h2 : sumTo (fun j => ((l.count (j : Int) : Nat) : Int) + (if j = k then 1 else 0)) n ≤ sumTo (fun _ => (1 : Int)) n := sumTo_mono (fun j hj => by
    have h3 := List.nodup_iff_count.1 hd (j : Int)
    by_cases e : j = k
    · subst e; rw [if_pos rfl, List.count_eq_zero_of_not_mem hn]; omega
    · rw [if_neg e]; omega)
  rw [sumTo_split (g := fun j => ((l.count (j : Int) : Nat) : Int)) (h := fun j => if j = k then (1 : Int) else 0) (fun _ _ => rfl), h1, sumTo_one hk, sumTo_const] at h2
  omega
/-- What is there at a step: what has been made, and whatever stands above has not been made before. -/
def there (ab ws : List Int) (p : Nat → Nat) (s k : Nat) : Int := if p k ≤ s ∧ (ab.getD k 0 < 0 ∨ s ≤ p (ab.getD k 0).toNat) then ws.getD k 0 else 0
structure Valid (ab ws od : List Int) (m : Int) : Prop where
  len : od.length = ab.length
  mem : ∀ x ∈ od, 0 ≤ x ∧ x < (ab.length : Int)
  nodup : od.Nodup
  all : ∀ k : Nat, k < ab.length → (k : Int) ∈ od
  up : ∀ k : Nat, k < ab.length → ∀ p : Nat, ab.getD k 0 = (p : Int) → pos od (k : Int) < pos od (p : Int)
  need : ∀ s, s < ab.length → sumTo (there ab ws (fun k => pos od (k : Int)) s) ab.length ≤ m
theorem valid_of {ab ws od : List Int} {m : Int} (hT : treeBad ab ws = 0) (h : peak ab ws od = (m, 0)) : Valid ab ws od m := by
  unfold peak at h
  rw [if_neg (by simp [hT])] at h
  by_cases h1 : (peakGo ab ws od (List.replicate ab.length false) 0).2 ≠ 0
  · rw [if_pos h1] at h; rw [h] at h1; exact absurd rfl h1
  · rw [if_neg h1] at h
    by_cases h2 : od.length ≠ ab.length
    · rw [if_pos h2] at h; injection h with _ h; omega
    · rw [if_neg h2] at h
      have hf := (peakGo_facts ab ws od _ 0 m (by simp) h).2
      have hlen : od.length = ab.length := by omega
      have hmem : ∀ x ∈ od, 0 ≤ x ∧ x < (ab.length : Int) := fun x hx => by
        obtain ⟨s, hs, e⟩ := List.getElem_of_mem hx
        have := hf s x (by rw [List.getElem?_eq_getElem hs, e])
        exact ⟨this.1, this.2.1⟩
      have hmk : ∀ t k, (marks (List.replicate ab.length false) (od.take t)).getD k false = decide ((k : Int) ∈ od.take t) := fun t k => by
        rw [marks_getD k _ _ (fun x hx => by rw [List.length_replicate]; exact hmem x (List.mem_of_mem_take hx)), List.getD_eq_getElem?_getD, List.getElem?_replicate]
        split <;> simp
      have hnew : ∀ s x, od[s]? = some x → x ∉ od.take s := fun s x hs hx => by
        have h3 := hf s x hs
        have h4 := h3.2.2.1
        rw [hmk, show ((x.toNat : Nat) : Int) = x by omega] at h4
        exact of_decide_eq_false h4 hx
      have hps : ∀ s x, od[s]? = some x → pos od x = s := fun s x hs => by
        have hm : x ∈ od := List.mem_of_getElem? hs
        have h3 := hnew s x hs
        have h4 : x ∈ od.take (s + 1) := by
          rw [List.take_add_one, hs]; simp
        rw [pos_take] at h3 h4
        by_cases e : pos od x < s
        · exact absurd ⟨hm, e⟩ h3
        · omega
      have hnd : od.Nodup := by
        unfold List.Nodup
        rw [List.pairwise_iff_getElem]
        intro i j hi hj hij e
        have h3 := hps i od[i] (List.getElem?_eq_getElem hi)
        have h4 := hps j od[j] (List.getElem?_eq_getElem hj)
        rw [e] at h3; omega
      have hall : ∀ k : Nat, k < ab.length → (k : Int) ∈ od := fun k hk => all_in hmem hnd hlen hk
      refine ⟨hlen, hmem, hnd, hall, fun k hk p hp => ?_, fun s hs => ?_⟩
      · have h5 := (treeOk hT).2.2 k hk
        have hpn : p < ab.length ∧ k < p := by
          by_cases e : k + 1 = ab.length
          · have := h5.1 e; omega
          · have := h5.2.1 (by omega); omega
        obtain ⟨g1, g2⟩ := pos_get (hall p hpn.1)
        have h3 := hf (pos od p) p (by rw [List.getElem?_eq_getElem g1, g2])
        have h4 := h3.2.2.2.1
        have h6 : lacks ab (marks (List.replicate ab.length false) (od.take (pos od p + 1))) p k = false := by
          cases hc : lacks ab (marks (List.replicate ab.length false) (od.take (pos od p + 1))) p k with
          | true => rw [anyTo_at hk hc] at h4; cases h4
          | false => rfl
        unfold lacks at h6
        rw [hp, hmk] at h6
        have h7 : (k : Int) ∈ od.take (pos od p + 1) := by simpa using h6
        have h8 := (pos_take.1 h7).2
        have h9 : pos od (k : Int) ≠ pos od (p : Int) := fun e => by
          obtain ⟨q1, q2⟩ := pos_get (hall k hk)
          have q3 : od[pos od (k : Int)]? = some (k : Int) := by rw [List.getElem?_eq_getElem q1, q2]
          have q4 : od[pos od (p : Int)]? = some (p : Int) := by rw [List.getElem?_eq_getElem g1, g2]
          rw [e, q4] at q3
          injection q3 with q3; omega
        omega
      · have hso : s < od.length := by omega
        have hx : od[s]? = some od[s] := List.getElem?_eq_getElem hso
        have h3 := hf s od[s] hx
        refine Int.le_trans (sumTo_mono (fun k hk => ?_)) h3.2.2.2.2
        unfold there term
        by_cases e : pos od (k : Int) ≤ s ∧ (ab.getD k 0 < 0 ∨ s ≤ pos od ((ab.getD k 0).toNat : Int))
        · have hc : (marks (List.replicate ab.length false) (od.take (s + 1))).getD k false = true ∧ ((k : Int) = od[s] ∨ ab.getD k 0 = od[s] ∨ ab.getD k 0 < 0 ∨ (marks (List.replicate ab.length false) (od.take (s + 1))).getD (ab.getD k 0).toNat false = false) := by
           refine ⟨by rw [hmk]; exact decide_eq_true (pos_take.2 ⟨hall k hk, by omega⟩), ?_⟩
           rcases e.2 with e2 | e2
           · exact .inr (.inr (.inl e2))
           · by_cases e3 : ab.getD k 0 < 0
             · exact .inr (.inr (.inl e3))
             · by_cases e4 : pos od ((ab.getD k 0).toNat : Int) = s
               · right; left
                 have h5 := (treeOk hT).2.2 k hk
                 have hpn : (ab.getD k 0).toNat < ab.length := by
                   by_cases e : k + 1 = ab.length
                   · have := h5.1 e; omega
                   · have := h5.2.1 (by omega); omega
                 obtain ⟨g1, g2⟩ := pos_get (hall _ hpn)
                 have q4 : od[pos od ((ab.getD k 0).toNat : Int)]? = some ((ab.getD k 0).toNat : Int) := by rw [List.getElem?_eq_getElem g1, g2]
                 rw [e4, hx] at q4
                 injection q4 with q4; omega
               · right; right; right
                 rw [hmk]
                 exact decide_eq_false (fun h => by have := (pos_take.1 h).2; omega)
          rw [if_pos e, if_pos hc]
          all_goals exact Int.le_refl _
        · rw [if_neg e]
          split
          · exact ((treeOk hT).2.2 k hk).2.2.1
          · exact Int.le_refl _
theorem peakOf_attain {pk ws : List Int} {own : Int} : ∀ {T : List Int} {h p : Int}, peakOf pk ws own T h p = p ∨ peakOf pk ws own T h p = h + sumL ws T + own ∨ ∃ T1 c T2, T = T1 ++ c :: T2 ∧ peakOf pk ws own T h p = h + sumL ws T1 + pk.getD c.toNat 0
  | [], h, p => by
    unfold peakOf
    have : sumL ws [] = 0 := rfl
    rw [this]
    omega
  | x :: T, h, p => by
    have hs : ∀ l, sumL ws (x :: l) = ws.getD x.toNat 0 + sumL ws l := fun l => by simp [sumL]
    show peakOf pk ws own T (h + ws.getD x.toNat 0) (max p (h + pk.getD x.toNat 0)) = p ∨ _ = _ ∨ _
    rcases peakOf_attain (pk := pk) (ws := ws) (own := own) (T := T) (h := h + ws.getD x.toNat 0) (p := max p (h + pk.getD x.toNat 0)) with e | e | ⟨T1, c, T2, e1, e2⟩
    · by_cases hm : p < h + pk.getD x.toNat 0
      · right; right
        refine ⟨[], x, T, rfl, ?_⟩
        show peakOf pk ws own T (h + ws.getD x.toNat 0) (max p (h + pk.getD x.toNat 0)) = _
        have : sumL ws [] = 0 := rfl
        rw [e, this]; omega
      · left; rw [e]; omega
    · right; left
      show peakOf pk ws own T (h + ws.getD x.toNat 0) (max p (h + pk.getD x.toNat 0)) = _
      rw [e, hs]; omega
    · right; right
      refine ⟨x :: T1, c, T2, by rw [e1]; rfl, ?_⟩
      show peakOf pk ws own T (h + ws.getD x.toNat 0) (max p (h + pk.getD x.toNat 0)) = _
      rw [e2, hs]; omega
theorem sum_bump {H : Nat → Int} {ws : List Int} {x : Int} {B : Int} : ∀ {L : List Int}, L.Nodup → x ∈ L → B ≤ H x.toNat → (∀ l ∈ L, l ≠ x → ws.getD l.toNat 0 ≤ H l.toNat) → B - ws.getD x.toNat 0 + sumL ws L ≤ vsum H L
  | y :: L, hn, hx, hB, h => by
    have hs : sumL ws (y :: L) = ws.getD y.toNat 0 + sumL ws L := by simp [sumL]
    rw [hs, vsum_cons]
    have hn2 := List.nodup_cons.1 hn
    by_cases e : y = x
    · subst e
      have h1 : sumL ws L ≤ vsum H L := vsum_le (f := fun k => ws.getD k 0) (fun l hl => h l (List.mem_cons_of_mem _ hl) (fun e => hn2.1 (e ▸ hl)))
      omega
    · have hx2 : x ∈ L := (List.mem_cons.1 hx).resolve_left (fun e2 => e e2.symm)
      have ih := sum_bump hn2.2 hx2 hB (fun l hl => h l (List.mem_cons_of_mem _ hl))
      have h1 := h y (List.mem_cons_self ..) e
      omega
theorem max_at (f : Int → Nat) : ∀ {L : List Int}, L ≠ [] → ∃ x ∈ L, ∀ l ∈ L, f l ≤ f x
  | [x], _ => ⟨x, List.mem_cons_self .., fun l hl => by rw [List.mem_singleton.1 hl]; exact Nat.le_refl _⟩
  | x :: y :: L, _ => by
    obtain ⟨z, hz, h⟩ := max_at f (L := y :: L) (by simp)
    by_cases e : f z ≤ f x
    · exact ⟨x, List.mem_cons_self .., fun l hl => by
        rcases List.mem_cons.1 hl with rfl | hl
        · exact Nat.le_refl _
        · exact Nat.le_trans (h l hl) e⟩
    · exact ⟨z, List.mem_cons_of_mem _ hz, fun l hl => by
        rcases List.mem_cons.1 hl with rfl | hl
        · omega
        · exact h l hl⟩
end AdjR
