/-
  Plain: lives; the most that is needed at one time, by a sweep and by the starts. No program in sight. Conditions: those each theorem names.
-/
namespace AdjL
set_option linter.unusedVariables false

/-- A life: from, to, words. -/
structure Life where
  f : Int
  t : Int
  w : Int
def three (x : Life) : List Int := [x.f, x.t, x.w]
def flat (l : List Life) : List Int := l.flatMap three
theorem three_length (x : Life) : (three x).length = 3 := rfl
theorem flat_length : ∀ l : List Life, (flat l).length = 3 * l.length
  | [] => rfl
  | x :: l => by simp only [flat, List.flatMap_cons, List.length_append, List.length_cons, three_length]; have := flat_length l; simp only [flat] at this; omega
theorem flat_at : ∀ (l : List Life) (i j : Nat) (hi : i < l.length) (hj : j < 3), (flat l)[i * 3 + j]? = (three l[i])[j]?
  | x :: l, 0, j, _, hj => by
    show (three x ++ flat l)[0 * 3 + j]? = _
    rw [List.getElem?_append_left (by rw [three_length]; omega), Nat.zero_mul, Nat.zero_add]; rfl
  | x :: l, i + 1, j, hi, hj => by
    show (three x ++ flat l)[(i + 1) * 3 + j]? = _
    rw [List.getElem?_append_right (by rw [three_length]; omega), three_length, show (i + 1) * 3 + j - 3 = i * 3 + j from by omega, flat_at l i j (by simpa using hi) hj]
    rfl
def bad (x : Life) : Prop := x.f < 0 ∨ x.t < x.f ∨ 1048576 < x.t ∨ x.w < 0 ∨ 1048576 < x.w
instance (x : Life) : Decidable (bad x) := by unfold bad; infer_instance
def anyBad : List Life → Bool
  | [] => false
  | x :: l => decide (bad x) || anyBad l
def wrong (l : List Life) : Int := if 4096 < l.length then 2 else if anyBad l then 4 else 0
theorem anyBad_no : ∀ {l : List Life}, anyBad l = false → ∀ x ∈ l, ¬ bad x
  | y :: l, h, x, hx => by
    unfold anyBad at h
    simp only [Bool.or_eq_false_iff, decide_eq_false_iff_not] at h
    rcases List.mem_cons.1 hx with rfl | hx
    · exact h.1
    · exact anyBad_no h.2 x hx
theorem anyBad_at : ∀ {l : List Life} {k : Nat} (hk : k < l.length), bad l[k] → anyBad l = true
  | y :: l, 0, _, h => by
    unfold anyBad
    rw [decide_eq_true (show bad y from h)]; rfl
  | y :: l, k + 1, hk, h => by
    unfold anyBad
    rw [anyBad_at (l := l) (k := k) (by simpa using hk) h]; simp
theorem anyBad_none : ∀ {l : List Life}, (∀ k (hk : k < l.length), ¬ bad l[k]) → anyBad l = false
  | [], _ => rfl
  | y :: l, h => by
    unfold anyBad
    rw [anyBad_none (fun k hk => h (k + 1) (by simpa using hk)), decide_eq_false (show ¬ bad y from h 0 (by simp))]; rfl
theorem wrong_ok {l : List Life} (h : wrong l = 0) : l.length ≤ 4096 ∧ ∀ x ∈ l, ¬ bad x := by
  unfold wrong at h
  by_cases e : 4096 < l.length
  · rw [if_pos e] at h; omega
  · rw [if_neg e] at h
    cases hb : anyBad l with
    | true => rw [hb] at h; simp at h
    | false => exact ⟨by omega, anyBad_no hb⟩
/-- Does it take no room at all? -/
def nothing (x : Life) : Bool := x.w == 0 || x.f == x.t
def change (x : Life) : List (Int × Int) := if nothing x then [] else [(x.f, x.w), (x.t, -x.w)]
def changes (l : List Life) : List (Int × Int) := l.flatMap change
def sumBy (d : List (Int × Int)) : Int := (d.map Prod.snd).sum
def sweep : List (Int × Int) → Int → Int → Int
  | [], _, most => most
  | c :: d, now, most => sweep d (now + c.2) (max most (now + c.2))
def loadAt (l : List Life) (t : Int) : Int := (l.map fun y => if y.f ≤ t ∧ t < y.t then y.w else 0).sum
def loadGo (l : List Life) : List Life → Int → Int
  | [], most => most
  | x :: r, most => loadGo l r (if most < loadAt l x.f then loadAt l x.f else most)
def load (l : List Life) : Int := loadGo l l 0
/-- By time; of one time by how much. -/
def Srt (d : List (Int × Int)) : Prop := d.Pairwise fun a b => a.1 < b.1 ∨ (a.1 = b.1 ∧ a.2 ≤ b.2)
def upTo (t : Int) (d : List (Int × Int)) : Int := (d.map fun c => if c.1 ≤ t then c.2 else 0).sum
theorem sum_perm {l m : List Int} (h : l.Perm m) : l.sum = m.sum := by
  induction h with
  | nil => rfl
  | cons x _ ih => simp [ih]
  | swap x y l => simp; omega
  | trans _ _ h1 h2 => rw [h1, h2]
theorem upTo_perm {t : Int} {d e : List (Int × Int)} (h : d.Perm e) : upTo t d = upTo t e := sum_perm (h.map _)
theorem upTo_append (t : Int) (a b : List (Int × Int)) : upTo t (a ++ b) = upTo t a + upTo t b := by simp [upTo]
theorem sumBy_append (a b : List (Int × Int)) : sumBy (a ++ b) = sumBy a + sumBy b := by simp [sumBy]
theorem upTo_changes {t : Int} : ∀ {l : List Life}, (∀ x ∈ l, ¬ bad x) → upTo t (changes l) = loadAt l t
  | [], _ => rfl
  | x :: l, h => by
    have ih := upTo_changes (t := t) (l := l) (fun y hy => h y (List.mem_cons_of_mem _ hy))
    have hx := h x (List.mem_cons_self ..)
    have e1 : upTo t (changes (x :: l)) = upTo t (change x) + upTo t (changes l) := by
      show upTo t (change x ++ changes l) = _
      exact upTo_append _ _ _
    have e2 : loadAt (x :: l) t = (if x.f ≤ t ∧ t < x.t then x.w else 0) + loadAt l t := by simp [loadAt]
    rw [e1, e2, ih]
    congr 1
    unfold bad at hx
    unfold change nothing
    by_cases e : x.w = 0
    · rw [if_pos (by simp [e])]
      show 0 = _
      split <;> omega
    · by_cases e3 : x.f = x.t
      · rw [if_pos (by simp [e3]), if_neg (by omega)]; rfl
      · rw [if_neg (by simp [e, e3])]
        show (if x.f ≤ t then x.w else 0) + ((if x.t ≤ t then -x.w else 0) + 0) = _
        by_cases h1 : x.f ≤ t
        · rw [if_pos h1]
          by_cases h2 : x.t ≤ t
          · rw [if_pos h2, if_neg (by omega)]; omega
          · rw [if_neg h2, if_pos (by omega)]; omega
        · rw [if_neg h1, if_neg (by omega), if_neg (by omega)]; omega
theorem sweep_ge : ∀ (d : List (Int × Int)) (now most : Int), most ≤ sweep d now most
  | [], _, _ => Int.le_refl _
  | c :: d, now, most => by
    have := sweep_ge d (now + c.2) (max most (now + c.2))
    show most ≤ sweep d _ _
    omega
theorem sweep_low {t : Int} : ∀ {d : List (Int × Int)} {now most : Int}, d.Pairwise (fun a b => a.1 ≤ b.1) → now ≤ most → now + upTo t d ≤ sweep d now most
  | [], now, most, _, h => by show now + 0 ≤ most; omega
  | c :: d, now, most, hs, h => by
    have hp := List.pairwise_cons.1 hs
    have hu : upTo t (c :: d) = (if c.1 ≤ t then c.2 else 0) + upTo t d := by simp [upTo]
    rw [hu]
    show _ ≤ sweep d (now + c.2) (max most (now + c.2))
    by_cases e : c.1 ≤ t
    · rw [if_pos e]
      have := sweep_low (t := t) (d := d) (now := now + c.2) (most := max most (now + c.2)) hp.2 (by omega)
      omega
    · have h0 : ∀ (d : List (Int × Int)), (∀ b ∈ d, c.1 ≤ b.1) → upTo t d = 0 := fun d => by
        induction d with
        | nil => intro _; rfl
        | cons b d ih =>
          intro hb
          have h1 := hb b (List.mem_cons_self ..)
          have h2 : upTo t (b :: d) = (if b.1 ≤ t then b.2 else 0) + upTo t d := by simp [upTo]
          rw [h2, if_neg (by omega), ih (fun x hx => hb x (List.mem_cons_of_mem _ hx))]; rfl
      rw [if_neg e, h0 d hp.1]
      have := sweep_ge d (now + c.2) (max most (now + c.2))
      omega
theorem sweep_top {M : Int} : ∀ {d : List (Int × Int)} {now most : Int}, most ≤ M → (∀ p r, d = p ++ r → p ≠ [] → now + sumBy p ≤ M) → sweep d now most ≤ M
  | [], _, _, h, _ => h
  | c :: d, now, most, h, hp => by
    have h1 := hp [c] d rfl (by simp)
    have h2 : sumBy [c] = c.2 := by simp [sumBy]
    show sweep d (now + c.2) (max most (now + c.2)) ≤ M
    refine sweep_top (by omega) (fun p r e hne => ?_)
    have h3 := hp (c :: p) r (by rw [e]; rfl) (by simp)
    have h4 : sumBy (c :: p) = c.2 + sumBy p := by simp [sumBy]
    omega
theorem loadGo_ge (l : List Life) : ∀ (r : List Life) (most : Int), most ≤ loadGo l r most ∧ ∀ x ∈ r, loadAt l x.f ≤ loadGo l r most
  | [], most => ⟨Int.le_refl _, fun x hx => by cases hx⟩
  | y :: r, most => by
    have ih := loadGo_ge l r (if most < loadAt l y.f then loadAt l y.f else most)
    have h1 := ih.1
    show most ≤ loadGo l r _ ∧ ∀ x ∈ y :: r, loadAt l x.f ≤ loadGo l r _
    refine ⟨by split at h1 <;> split <;> omega, fun x hx => ?_⟩
    rcases List.mem_cons.1 hx with rfl | hx
    · split at h1 <;> split <;> omega
    · exact ih.2 x hx
theorem loadGo_le {l : List Life} {M : Int} : ∀ {r : List Life} {most : Int}, most ≤ M → (∀ x ∈ r, loadAt l x.f ≤ M) → loadGo l r most ≤ M
  | [], _, h, _ => h
  | y :: r, most, h, hr => by
    show loadGo l r _ ≤ M
    refine loadGo_le ?_ (fun x hx => hr x (List.mem_cons_of_mem _ hx))
    have := hr y (List.mem_cons_self ..)
    split <;> omega
theorem changes_mem {l : List Life} {c : Int × Int} (h : c ∈ changes l) : ∃ x ∈ l, nothing x = false ∧ (c = (x.f, x.w) ∨ c = (x.t, -x.w)) := by
  obtain ⟨x, hx, hc⟩ := List.mem_flatMap.1 h
  refine ⟨x, hx, ?_⟩
  unfold change at hc
  cases hn : nothing x with
  | true => rw [hn] at hc; simp at hc
  | false => rw [hn] at hc; simp at hc; exact ⟨rfl, hc⟩
/-- The sweep finds what the starts find. -/
theorem sweep_load {l : List Life} {d : List (Int × Int)} (hl : ∀ x ∈ l, ¬ bad x) (hp : d.Perm (changes l)) (hs : Srt d) : sweep d 0 0 = load l := by
  have hs1 : d.Pairwise (fun a b => a.1 ≤ b.1) := hs.imp (fun h => by omega)
  have hM := loadGo_ge l l 0
  refine Int.le_antisymm (sweep_top hM.1 ?_) (loadGo_le (sweep_ge d 0 0) (fun x hx => ?_))
  · have key : ∀ (n : Nat) (p r : List (Int × Int)), p.length = n → d = p ++ r → sumBy p ≤ loadGo l l 0 := by
      intro n
      induction n with
      | zero =>
        intro p r hn _
        rw [List.length_eq_zero_iff.1 hn]
        exact hM.1
      | succ n ih =>
        intro p r hn he
        have hpn : p ≠ [] := fun e => by rw [e] at hn; simp at hn
        obtain ⟨q, c, rfl⟩ : ∃ q c, p = q ++ [c] := ⟨p.dropLast, p.getLast hpn, (List.dropLast_concat_getLast hpn).symm⟩
        have hq : q.length = n := by simpa using hn
        have h1 := ih q ([c] ++ r) hq (by rw [he]; simp)
        have h2 : sumBy (q ++ [c]) = sumBy q + c.2 := by rw [sumBy_append]; simp [sumBy]
        by_cases e : c.2 ≤ 0
        · omega
        · have hs2 := hs
          unfold Srt at hs2
          rw [he, List.append_assoc, List.pairwise_append] at hs2
          have hs3 := List.pairwise_cons.1 (show ([c] ++ r).Pairwise _ from hs2.2.1)
          have hcd : c ∈ d := by rw [he]; simp
          obtain ⟨x, hx, hnx, hc⟩ := changes_mem (hp.subset hcd)
          have hbx := hl x hx
          unfold bad at hbx
          have hcx : c.1 = x.f := by
            rcases hc with hc | hc
            · rw [hc]
            · rw [hc] at e; exfalso; apply e; show -x.w ≤ 0; omega
          have h3 : upTo c.1 d = loadAt l c.1 := by rw [upTo_perm hp, upTo_changes hl]
          have h4 : upTo c.1 d = sumBy (q ++ [c]) + upTo c.1 r := by
            rw [he, upTo_append]
            congr 1
            have hall : ∀ y ∈ q ++ [c], y.1 ≤ c.1 := fun y hy => by
              rcases List.mem_append.1 hy with hy | hy
              · have := hs2.2.2 y hy c (by simp); omega
              · rw [List.mem_singleton.1 hy]; omega
            have h5 : ∀ z : List (Int × Int), (∀ y ∈ z, y.1 ≤ c.1) → upTo c.1 z = sumBy z := fun z => by
              induction z with
              | nil => intro _; rfl
              | cons y z ihz =>
                intro hy
                have h6 : upTo c.1 (y :: z) = (if y.1 ≤ c.1 then y.2 else 0) + upTo c.1 z := by simp [upTo]
                have h7 : sumBy (y :: z) = y.2 + sumBy z := by simp [sumBy]
                rw [h6, h7, if_pos (hy y (List.mem_cons_self ..)), ihz (fun a ha => hy a (List.mem_cons_of_mem _ ha))]
            exact h5 _ hall
          have h5 : 0 ≤ upTo c.1 r := by
            have h6 : ∀ z : List (Int × Int), (∀ y ∈ z, c.1 < y.1 ∨ (c.1 = y.1 ∧ c.2 ≤ y.2)) → 0 ≤ upTo c.1 z := fun z => by
              induction z with
              | nil => intro _; exact Int.le_refl _
              | cons y z ihz =>
                intro hy
                have h7 : upTo c.1 (y :: z) = (if y.1 ≤ c.1 then y.2 else 0) + upTo c.1 z := by simp [upTo]
                have h8 := ihz (fun a ha => hy a (List.mem_cons_of_mem _ ha))
                have h9 := hy y (List.mem_cons_self ..)
                rw [h7]
                split <;> omega
            exact h6 r hs3.1
          have h6 := hM.2 x hx
          rw [← hcx] at h6
          omega
    intro p r he _
    rw [Int.zero_add]
    exact key _ p r rfl he
  · have h1 := sweep_low (t := x.f) (now := 0) (most := 0) hs1 (Int.le_refl _)
    rw [upTo_perm hp, upTo_changes hl] at h1
    omega
end AdjL
