/-
  Plain: who makes each tree without anything in between; the law RoomLeast. No program in sight. Conditions: those each theorem names.
-/
import Derived.Test.YtkopkicdmbnpgaaLiuPlain4
namespace AdjR
set_option linter.unusedVariables false

def climbUp (ab : List Int) (at_ : Int) : Nat → Int → Int
  | 0, b => b
  | d + 1, b => if 0 ≤ b ∧ b < at_ then climbUp ab at_ d (ab.getD b.toNat 0) else b
/-- The first at or above a number, from it upward. -/
def top (ab : List Int) (at_ : Nat) (b : Int) : Int := climbUp ab at_ (at_ + 1) b
def under (ab : List Int) (at_ : Nat) (k : Int) : Bool := top ab at_ k == (at_ : Int)
def span (q : Int → Bool) : List Int → Int → Int → Int → Int → Int × Int × Int
  | [], _, f, e, c => (f, e, c)
  | x :: l, j, f, e, c => if q x then span q l (j + 1) (if f < 0 then j else f) j (c + 1) else span q l (j + 1) f e c
def togAt (ab od : List Int) (a : Nat) : Bool := (span (under ab a) od 0 (-1) (-1) 0).2.1 - (span (under ab a) od 0 (-1) (-1) 0).1 + 1 == (span (under ab a) od 0 (-1) (-1) 0).2.2
def togTo (ab od : List Int) : Nat → Bool
  | 0 => true
  | a + 1 => togTo ab od a && togAt ab od a
def tog (ab od : List Int) : Bool := togTo ab od ab.length
theorem togTo_at {ab od : List Int} : ∀ {n : Nat}, togTo ab od n = true ↔ ∀ a, a < n → togAt ab od a = true
  | 0 => ⟨fun _ a h => by omega, fun _ => rfl⟩
  | n + 1 => by
    have ih := togTo_at (ab := ab) (od := od) (n := n)
    unfold togTo
    rw [Bool.and_eq_true, ih]
    constructor
    · rintro ⟨h1, h2⟩ a ha
      by_cases e : a = n
      · subst e; exact h2
      · exact h1 a (by omega)
    · intro h
      exact ⟨fun a ha => h a (by omega), h n (by omega)⟩
theorem span_append (q : Int → Bool) : ∀ (a b : List Int) (j f e c : Int), span q (a ++ b) j f e c = span q b (j + a.length) (span q a j f e c).1 (span q a j f e c).2.1 (span q a j f e c).2.2
  | [], b, j, f, e, c => by show span q b j f e c = span q b (j + 0) f e c; rw [Int.add_zero]
  | x :: a, b, j, f, e, c => by
    have hl : j + ((x :: a).length : Int) = (j + 1) + (a.length : Int) := by rw [List.length_cons]; omega
    show (if q x then _ else _ : Int × Int × Int) = span q b _ (if q x then _ else _ : Int × Int × Int).1 (if q x then _ else _ : Int × Int × Int).2.1 (if q x then _ else _ : Int × Int × Int).2.2
    rw [hl]
    split
    · exact span_append q a b _ _ _ _
    · exact span_append q a b _ _ _ _
theorem span_none {q : Int → Bool} : ∀ {l : List Int} {j f e c : Int}, (∀ x ∈ l, q x = false) → span q l j f e c = (f, e, c)
  | [], _, _, _, _, _ => rfl
  | x :: l, j, f, e, c, h => by
    show (if q x then _ else _ : Int × Int × Int) = _
    rw [if_neg (by rw [h x (List.mem_cons_self ..)]; simp)]
    exact span_none (fun y hy => h y (List.mem_cons_of_mem _ hy))
theorem span_all {q : Int → Bool} : ∀ {l : List Int} {j f e c : Int}, (∀ x ∈ l, q x = true) → 0 ≤ f → e = j - 1 → span q l j f e c = (f, j + l.length - 1, c + l.length)
  | [], j, f, e, c, _, _, he => by show (f, e, c) = (f, j + 0 - 1, c + 0); rw [he]; simp
  | x :: l, j, f, e, c, h, hf, he => by
    show (if q x then _ else _ : Int × Int × Int) = _
    rw [if_pos (h x (List.mem_cons_self ..)), if_neg (by omega), span_all (fun y hy => h y (List.mem_cons_of_mem _ hy)) hf (by omega), List.length_cons]
    refine Prod.ext rfl (Prod.ext ?_ ?_)
    · show j + 1 + (l.length : Int) - 1 = j + ((l.length + 1 : Nat) : Int) - 1; omega
    · show c + 1 + (l.length : Int) = c + ((l.length + 1 : Nat) : Int); omega
/-- What lies in one piece is found so. -/
theorem togAt_of {ab od : List Int} {a : Nat} {A V B : List Int} (h : od = A ++ (V ++ B)) (hv : V ≠ []) (hV : ∀ x ∈ V, under ab a x = true) (hA : ∀ x ∈ A, under ab a x = false) (hB : ∀ x ∈ B, under ab a x = false) : togAt ab od a = true := by
  unfold togAt
  rw [h, span_append, span_none hA, span_append]
  cases V with
  | nil => exact absurd rfl hv
  | cons x V =>
    have hx : span (under ab a) (x :: V) (0 + (A.length : Int)) (-1) (-1) 0 = ((A.length : Int), (A.length : Int) + 1 + (V.length : Int) - 1, 0 + 1 + (V.length : Int)) := by
      show (if under ab a x then _ else _ : Int × Int × Int) = _
      rw [if_pos (hV x (List.mem_cons_self ..)), if_pos (by omega), Int.zero_add]
      exact span_all (fun y hy => hV y (List.mem_cons_of_mem _ hy)) (by omega) (by omega)
    simp only [hx]
    rw [span_none hB]
    simp only [beq_iff_eq]
    omega
theorem span_first {q : Int → Bool} : ∀ {l : List Int} {j f e c : Int}, 0 ≤ j → (f < 0 ∧ c = 0 ∨ 0 ≤ f ∧ c ≤ j - f) → ((span q l j f e c).1 < 0 ∧ (span q l j f e c).2.2 = 0 ∨ 0 ≤ (span q l j f e c).1 ∧ (span q l j f e c).2.2 ≤ j + l.length - (span q l j f e c).1)
  | [], j, f, e, c, hj, h => by show f < 0 ∧ c = 0 ∨ 0 ≤ f ∧ c ≤ j + 0 - f; omega
  | x :: l, j, f, e, c, hj, h => by
    have hl : j + ((x :: l).length : Int) = (j + 1) + (l.length : Int) := by rw [List.length_cons]; omega
    rw [hl]
    show ((if q x then _ else _ : Int × Int × Int).1 < 0 ∧ (if q x then _ else _ : Int × Int × Int).2.2 = 0 ∨ 0 ≤ (if q x then _ else _ : Int × Int × Int).1 ∧ (if q x then _ else _ : Int × Int × Int).2.2 ≤ _ - (if q x then _ else _ : Int × Int × Int).1)
    split
    · exact span_first (by omega) (by split <;> omega)
    · exact span_first (by omega) (by omega)
theorem span_slack {q : Int → Bool} {t : Int} : ∀ {l : List Int} {j f e c : Int}, 0 ≤ f → c + t ≤ j - f → (span q l j f e c).1 = f ∧ (span q l j f e c).2.2 + t ≤ j + l.length - f
  | [], j, f, e, c, hf, h => ⟨rfl, by show c + t ≤ j + 0 - f; omega⟩
  | x :: l, j, f, e, c, hf, h => by
    have hl : j + ((x :: l).length : Int) = (j + 1) + (l.length : Int) := by rw [List.length_cons]; omega
    rw [hl]
    show (if q x then _ else _ : Int × Int × Int).1 = f ∧ (if q x then _ else _ : Int × Int × Int).2.2 + t ≤ _
    split
    · rw [if_neg (by omega)]; exact span_slack hf (by omega)
    · exact span_slack hf (by omega)
theorem span_end {q : Int → Bool} {t : Int} : ∀ {l : List Int} {j f e c : Int}, 0 ≤ f → e < j → c + t ≤ e + 1 - f → (span q l j f e c).1 = f ∧ (span q l j f e c).2.2 + t ≤ (span q l j f e c).2.1 + 1 - f
  | [], j, f, e, c, hf, he, h => ⟨rfl, h⟩
  | x :: l, j, f, e, c, hf, he, h => by
    show (if q x then _ else _ : Int × Int × Int).1 = f ∧ (if q x then _ else _ : Int × Int × Int).2.2 + t ≤ (if q x then _ else _ : Int × Int × Int).2.1 + 1 - f
    split
    · rw [if_neg (by omega)]; exact span_end hf (by omega) (by omega)
    · exact span_end hf (by omega) h
/-- Nothing else stands in between. -/
theorem togAt_only {ab od : List Int} {a : Nat} (h : togAt ab od a = true) {A B C D : List Int} {x y z : Int} (he : od = A ++ x :: (B ++ y :: (C ++ z :: D))) (hx : under ab a x = true) (hz : under ab a z = true) : under ab a y = true := by
  cases hy : under ab a y with
  | true => rfl
  | false =>
    exfalso
    unfold togAt at h
    rw [he, span_append] at h
    have h1 := span_first (q := under ab a) (l := A) (j := 0) (f := -1) (e := -1) (c := 0) (by omega) (by omega)
    generalize span (under ab a) A 0 (-1) (-1) 0 = s at h h1
    obtain ⟨f, e, c⟩ := s
    simp only at h h1
    have e1 : ∀ j f e c, span (under ab a) (x :: (B ++ y :: (C ++ z :: D))) j f e c = span (under ab a) (B ++ y :: (C ++ z :: D)) (j + 1) (if f < 0 then j else f) j (c + 1) := fun j f e c => by
      show (if under ab a x then _ else _ : Int × Int × Int) = _
      rw [if_pos hx]
    rw [e1, span_append] at h
    have hf2 : 0 ≤ (if f < 0 then 0 + (A.length : Int) else f) := by split <;> omega
    have h2 := span_slack (q := under ab a) (t := 0) (l := B) (j := 0 + (A.length : Int) + 1) (f := if f < 0 then 0 + (A.length : Int) else f) (e := 0 + (A.length : Int)) (c := c + 1) hf2 (by split <;> omega)
    generalize (if f < 0 then 0 + (A.length : Int) else f) = f2 at h h2 hf2
    generalize span (under ab a) B (0 + (A.length : Int) + 1) f2 (0 + (A.length : Int)) (c + 1) = s2 at h h2
    obtain ⟨f3, e3, c3⟩ := s2
    simp only at h h2
    obtain ⟨rfl, h3⟩ := h2
    generalize hj : 0 + (A.length : Int) + 1 + (B.length : Int) = j at h h3
    have e2 : ∀ f e c, span (under ab a) (y :: (C ++ z :: D)) j f e c = span (under ab a) (C ++ z :: D) (j + 1) f e c := fun f e c => by
      show (if under ab a y then _ else _ : Int × Int × Int) = _
      rw [if_neg (by rw [hy]; simp)]
    rw [e2, span_append] at h
    have h4 := span_slack (q := under ab a) (t := 1) (l := C) (j := j + 1) (f := f3) (e := e3) (c := c3) hf2 (by omega)
    generalize span (under ab a) C (j + 1) f3 e3 c3 = s3 at h h4
    obtain ⟨f4, e4, c4⟩ := s3
    simp only at h h4
    obtain ⟨rfl, h5⟩ := h4
    generalize hj2 : j + 1 + (C.length : Int) = j2 at h h5
    have e3' : span (under ab a) (z :: D) j2 f4 e4 c4 = span (under ab a) D (j2 + 1) f4 j2 (c4 + 1) := by
      show (if under ab a z then _ else _ : Int × Int × Int) = _
      rw [if_pos hz, if_neg (by omega)]
    rw [e3'] at h
    have h6 := span_end (q := under ab a) (t := 1) (l := D) (j := j2 + 1) (f := f4) (e := j2) (c := c4 + 1) hf2 (by omega) (by omega)
    generalize span (under ab a) D (j2 + 1) f4 j2 (c4 + 1) = s4 at h h6
    obtain ⟨f5, e5, c5⟩ := s4
    simp only [beq_iff_eq] at h h6
    omega
section
variable {ab ws : List Int} (hT : treeBad ab ws = 0)
include hT
theorem climbUp_more (a : Nat) (ha : a < ab.length) : ∀ (d e : Nat) (b : Int), (a : Int) - b ≤ d → (a : Int) - b ≤ e → climbUp ab a d b = climbUp ab a e b
  | 0, 0, b, _, _ => rfl
  | 0, e + 1, b, h1, h2 => by
    show b = (if 0 ≤ b ∧ b < (a : Int) then _ else b)
    rw [if_neg (by omega)]
  | d + 1, 0, b, h1, h2 => by
    show (if 0 ≤ b ∧ b < (a : Int) then _ else b) = b
    rw [if_neg (by omega)]
  | d + 1, e + 1, b, h1, h2 => by
    show (if 0 ≤ b ∧ b < (a : Int) then _ else b) = (if 0 ≤ b ∧ b < (a : Int) then _ else b)
    by_cases hb : 0 ≤ b ∧ b < (a : Int)
    · rw [if_pos hb, if_pos hb]
      rcases par_of hT (v := b.toNat) (by omega) with ⟨e1, _⟩ | ⟨p, e1, h3, _⟩
      · omega
      · exact climbUp_more a ha d e _ (by omega) (by omega)
    · rw [if_neg hb, if_neg hb]
theorem top_step {a : Nat} (ha : a < ab.length) {b : Int} (h0 : 0 ≤ b) (h1 : b < (a : Int)) : top ab a b = top ab a (ab.getD b.toNat 0) := by
  unfold top
  conv => lhs; unfold climbUp
  rw [if_pos ⟨h0, h1⟩]
  rcases par_of hT (v := b.toNat) (by omega) with ⟨e1, _⟩ | ⟨p, e1, h3, _⟩
  · omega
  · exact climbUp_more hT a ha _ _ _ (by omega) (by omega)
omit hT in
theorem top_stop {a : Nat} {b : Int} (h : ¬ (0 ≤ b ∧ b < (a : Int))) : top ab a b = b := by
  unfold top climbUp
  rw [if_neg h]
theorem under_visit {a : Nat} (ha : a < ab.length) : ∀ (d k : Nat), a - k ≤ d → k < ab.length → (under ab a (k : Int) = true ↔ (k : Int) ∈ visit (lows ab ws) a a) := by
  intro d
  induction d with
  | zero =>
    intro k hd hk
    unfold under
    rw [top_stop (by omega)]
    simp only [beq_iff_eq]
    constructor
    · intro h
      obtain rfl : k = a := by omega
      exact visit_self hT k
    · intro h
      have := visit_range hT a k h
      omega
  | succ d ih =>
    intro k hd hk
    by_cases e : k < a
    · rcases par_of hT hk with ⟨e1, _⟩ | ⟨p, e1, h3, h4⟩
      · omega
      · have h5 : under ab a (k : Int) = under ab a (p : Int) := by
          unfold under
          rw [top_step hT ha (b := (k : Int)) (by omega) (by omega), Int.toNat_natCast, e1]
        rw [h5, ih p (by omega) h4]
        constructor
        · exact visit_down hT a p k hk e1
        · intro h
          rcases visit_par hT a k h with e2 | ⟨q, e2, hq⟩
          · omega
          · obtain rfl : p = q := by omega
            exact hq
    · exact ih k (by omega) hk
theorem visit_piece : ∀ (d a : Nat), ab.length - a ≤ d → a < ab.length → ∃ A B, visit (lows ab ws) (ab.length - 1) (ab.length - 1) = A ++ (visit (lows ab ws) a a ++ B) := by
  intro d
  induction d with
  | zero => intro a h1 h2; omega
  | succ d ih =>
    intro a h1 ha
    rcases par_of hT ha with ⟨e1, _⟩ | ⟨p, e1, h3, h4⟩
    · obtain rfl : a = ab.length - 1 := by omega
      exact ⟨[], [], by simp⟩
    · obtain ⟨A, B, e⟩ := ih p (by omega) h4
      have hm : (a : Int) ∈ lows ab ws p := lows_mem.2 ⟨ha, e1⟩
      obtain ⟨T1, T2, e2⟩ := List.append_of_mem hm
      have h5 := visit_one (lows_lt hT) p
      rw [e2, List.map_append, List.flatten_append, List.map_cons, List.flatten_cons, Int.toNat_natCast] at h5
      rw [h5] at e
      refine ⟨A ++ (T1.map fun c => visit (lows ab ws) c.toNat c.toNat).flatten, (T2.map fun c => visit (lows ab ws) c.toNat c.toNat).flatten ++ [(p : Int)] ++ B, ?_⟩
      rw [e]
      simp [List.append_assoc]
/-- A visit makes each tree without anything in between. -/
theorem tog_visit (hn : 0 < ab.length) : tog ab (visit (lows ab ws) (ab.length - 1) (ab.length - 1)) = true := by
  unfold tog
  rw [togTo_at]
  intro a ha
  obtain ⟨A, B, e⟩ := visit_piece hT _ a (Nat.le_refl _) ha
  have hnd := visit_nodup hT (i := ab.length - 1) (by omega)
  have hr : ∀ x ∈ visit (lows ab ws) (ab.length - 1) (ab.length - 1), 0 ≤ x ∧ x < (ab.length : Int) := fun x hx => by
    have := visit_range hT _ x hx; omega
  rw [e] at hnd hr
  have hu : ∀ x, x ∈ A ++ (visit (lows ab ws) a a ++ B) → (under ab a x = true ↔ x ∈ visit (lows ab ws) a a) := fun x hx => by
    have h1 := hr x hx
    obtain ⟨k, rfl⟩ : ∃ k : Nat, x = (k : Int) := ⟨x.toNat, by omega⟩
    exact under_visit hT ha _ k (Nat.le_refl _) (by omega)
  have h2 := List.nodup_append.1 hnd
  have h3 := List.nodup_append.1 h2.2.1
  refine togAt_of e (fun h => by have := visit_self hT (ws := ws) a; rw [h] at this; cases this) (fun x hx => (hu x (by simp [hx])).2 hx) (fun x hx => ?_) (fun x hx => ?_)
  · cases hc : under ab a x with
    | false => rfl
    | true => exact absurd rfl (h2.2.2 x hx x (List.mem_append_left _ ((hu x (by simp [hx])).1 hc)))
  · cases hc : under ab a x with
    | false => rfl
    | true => exact absurd rfl (h3.2.2 x ((hu x (by simp [hx])).1 hc) x hx)
/-- The law RoomLeast: no order that makes each tree without anything in between, and if all are of one size no order at all, needs less. -/
theorem least {od : List Int} {m : Int} (hn : 0 < ab.length) (h : peak ab ws od = (m, 0)) (hc : (∀ k, k < ab.length → ws.getD k 0 = ws.getD 0 0) ∨ tog ab od = true) : (pks ab ws).getD (ab.length - 1) 0 ≤ m := by
  have hv := valid_of hT h
  have hpl : ∀ v : Nat, v < ab.length → pos od (v : Int) < ab.length := fun v hv' => by
    obtain ⟨g, _⟩ := pos_get (hv.all v hv')
    have := hv.len; omega
  refine liu_root hT hv.up hn (fun v hv' => hv.need _ (hpl v hv')) ?_
  rcases hc with h1 | h1
  · exact star_one hT h1
  · refine star_tog hT (fun c hc a b d ha hb hd hac hdc h2 h3 => ?_)
    unfold tog at h1
    rw [togTo_at] at h1
    have h4 := h1 c hc
    by_cases e1 : pos od (a : Int) = pos od (b : Int)
    · obtain ⟨g1, g2⟩ := pos_get (hv.all a ha)
      obtain ⟨g3, g4⟩ := pos_get (hv.all b hb)
      have : (a : Int) = b := by rw [← g2, ← g4]; congr 1
      rw [← this]; exact hac
    · by_cases e2 : pos od (b : Int) = pos od (d : Int)
      · obtain ⟨g1, g2⟩ := pos_get (hv.all d hd)
        obtain ⟨g3, g4⟩ := pos_get (hv.all b hb)
        have : (b : Int) = d := by rw [← g2, ← g4]; congr 1
        rw [this]; exact hdc
      · obtain ⟨g1, g2⟩ := pos_get (hv.all a ha)
        obtain ⟨g3, g4⟩ := pos_get (hv.all b hb)
        obtain ⟨g5, g6⟩ := pos_get (hv.all d hd)
        have cut : ∀ (l : List Int) (i j : Nat) (h1 : i < l.length) (h2 : j < l.length), i < j → ∃ B C, l = l.take i ++ l[i] :: (B ++ l[j] :: C) ∧ C = l.drop (j + 1) := fun l i j h1 h2 hij => by
          refine ⟨(l.drop (i + 1)).take (j - (i + 1)), l.drop (j + 1), ?_, rfl⟩
          conv => lhs; rw [← List.take_append_drop i l, List.drop_eq_getElem_cons h1]
          congr 2
          conv => lhs; rw [← List.take_append_drop (j - (i + 1)) (l.drop (i + 1)), List.drop_drop, show i + 1 + (j - (i + 1)) = j by omega, List.drop_eq_getElem_cons h2]
        obtain ⟨B, C, k1, k2⟩ := cut od _ _ g1 g3 (by omega)
        have k3 : C[pos od (d : Int) - (pos od (b : Int) + 1)]? = some (d : Int) := by
          rw [k2, List.getElem?_drop, show pos od (b : Int) + 1 + (pos od (d : Int) - (pos od (b : Int) + 1)) = pos od (d : Int) by omega, List.getElem?_eq_getElem g5, g6]
        have k4 : (d : Int) ∈ C := List.mem_of_getElem? k3
        obtain ⟨C1, D, k5⟩ := List.append_of_mem k4
        rw [g2, g4, k5] at k1
        have h5 := togAt_only h4 k1 ((under_visit hT hc _ a (Nat.le_refl _) ha).2 hac) ((under_visit hT hc _ d (Nat.le_refl _) hd).2 hdc)
        exact (under_visit hT hc _ b (Nat.le_refl _) hb).1 h5
end
end AdjR
