/-
  Plain: what Lay and the document's Lay reckon. No program in sight. Conditions: those each theorem names.
-/
import Derived.Test.YtkopkicdmbnpgaaLoadPlain
import Derived.Test.YtkopkicdmbnpgaaClimbPlain5
namespace AdjL
set_option linter.unusedVariables false

instance : Inhabited Life := ⟨⟨0, 0, 0⟩⟩
/-- Something that lies. -/
structure Laid where
  at_ : Int
  end_ : Int
  to : Int
def get (l : List Life) (k : Nat) : Life := l.getD k ⟨0, 0, 0⟩
/-- The lowest place with so much room. -/
def lowest : List Laid → Int → Int → Int
  | [], _, p => p
  | y :: r, w, p => if p + w ≤ y.at_ then p else lowest r w (max p y.end_)
/-- One behind the other. -/
def Apart (r : List Laid) : Prop := r.Pairwise (fun a b => a.end_ ≤ b.at_) ∧ ∀ y ∈ r, 0 ≤ y.at_ ∧ y.at_ < y.end_
def Free (r : List Laid) (w p : Int) : Prop := ∀ y ∈ r, p + w ≤ y.at_ ∨ y.end_ ≤ p
theorem lowest_spec {w : Int} (hw : 0 < w) : ∀ {r : List Laid} {p : Int}, Apart r → p ≤ lowest r w p ∧ (lowest r w p = p ∨ ∃ y ∈ r, lowest r w p = y.end_) ∧ Free r w (lowest r w p) ∧ ∀ q, p ≤ q → Free r w q → lowest r w p ≤ q
  | [], p, _ => ⟨Int.le_refl _, .inl rfl, (fun y hy => by cases hy), fun q h _ => h⟩
  | y :: r, p, ha => by
    have hp := List.pairwise_cons.1 ha.1
    have hy := ha.2 y (List.mem_cons_self ..)
    have hr : Apart r := ⟨hp.2, fun z hz => ha.2 z (List.mem_cons_of_mem _ hz)⟩
    unfold lowest
    by_cases e : p + w ≤ y.at_
    · rw [if_pos e]
      refine ⟨Int.le_refl _, .inl rfl, fun z hz => ?_, fun q h _ => h⟩
      rcases List.mem_cons.1 hz with rfl | hz
      · exact .inl e
      · have := hp.1 z hz
        exact .inl (by omega)
    · rw [if_neg e]
      obtain ⟨h1, h2, h3, h4⟩ := lowest_spec hw (r := r) (p := max p y.end_) hr
      refine ⟨by omega, ?_, fun z hz => ?_, fun q hq hf => ?_⟩
      · rcases h2 with h2 | ⟨z, hz, h2⟩
        · by_cases e2 : p ≤ y.end_
          · exact .inr ⟨y, List.mem_cons_self .., by omega⟩
          · exact .inl (by omega)
        · exact .inr ⟨z, List.mem_cons_of_mem _ hz, h2⟩
      · rcases List.mem_cons.1 hz with rfl | hz
        · exact .inr (by omega)
        · exact h3 z hz
      · have h5 := hf y (List.mem_cons_self ..)
        exact h4 q (by omega) (fun z hz => hf z (List.mem_cons_of_mem _ hz))
/-- How many lie below a place. -/
def under : List Laid → Int → Nat
  | [], _ => 0
  | y :: r, p => if y.at_ < p then under r p + 1 else 0
theorem under_le : ∀ (r : List Laid) (p : Int), under r p ≤ r.length
  | [], _ => Nat.le_refl _
  | y :: r, p => by
    have := under_le r p
    unfold under
    split <;> simp only [List.length_cons] <;> omega
def put (r : List Laid) (y : Laid) : List Laid := r.take (under r y.at_) ++ y :: r.drop (under r y.at_)
theorem put_mem {r : List Laid} {y z : Laid} : z ∈ put r y ↔ z = y ∨ z ∈ r := by
  unfold put
  rw [List.mem_append, List.mem_cons]
  constructor
  · rintro (h | h | h)
    · exact .inr (List.mem_of_mem_take h)
    · exact .inl h
    · exact .inr (List.mem_of_mem_drop h)
  · rintro (h | h)
    · exact .inr (.inl h)
    · rw [← List.take_append_drop (under r y.at_) r] at h
      rcases List.mem_append.1 h with h | h
      · exact .inl h
      · exact .inr (.inr h)
theorem put_cons (y z : Laid) (r : List Laid) : put (z :: r) y = if z.at_ < y.at_ then z :: put r y else y :: z :: r := by
  have hu : under (z :: r) y.at_ = if z.at_ < y.at_ then under r y.at_ + 1 else 0 := rfl
  unfold put
  rw [hu]
  split
  · simp
  · simp
theorem put_apart {y : Laid} (hy : 0 ≤ y.at_ ∧ y.at_ < y.end_) : ∀ {r : List Laid}, Apart r → (∀ z ∈ r, y.end_ ≤ z.at_ ∨ z.end_ ≤ y.at_) → Apart (put r y)
  | [], _, _ => ⟨List.pairwise_singleton _ _, fun z hz => by
      have : z = y := by simpa [put, under] using hz
      rw [this]; exact hy⟩
  | z :: r, ha, hf => by
    have hp := List.pairwise_cons.1 ha.1
    have hz := ha.2 z (List.mem_cons_self ..)
    have hr : Apart r := ⟨hp.2, fun x hx => ha.2 x (List.mem_cons_of_mem _ hx)⟩
    have hfz := hf z (List.mem_cons_self ..)
    rw [put_cons]
    by_cases e : z.at_ < y.at_
    · rw [if_pos e]
      have ih := put_apart hy hr (fun x hx => hf x (List.mem_cons_of_mem _ hx))
      refine ⟨List.pairwise_cons.2 ⟨fun x hx => ?_, ih.1⟩, fun x hx => ?_⟩
      · rcases put_mem.1 hx with rfl | hx
        · omega
        · exact hp.1 x hx
      · rcases List.mem_cons.1 hx with rfl | hx
        · exact hz
        · exact ih.2 x hx
    · rw [if_neg e]
      refine ⟨List.pairwise_cons.2 ⟨fun x hx => ?_, ha.1⟩, fun x hx => ?_⟩
      · rcases List.mem_cons.1 hx with rfl | hx
        · omega
        · have := hp.1 x hx; omega
      · rcases List.mem_cons.1 hx with rfl | hx
        · exact hy
        · exact ha.2 x hx
theorem filter_apart {r : List Laid} (h : Apart r) (q : Laid → Bool) : Apart (r.filter q) := ⟨h.1.filter q, fun y hy => h.2 y (List.mem_filter.1 hy).1⟩
/-- What Lay holds: where each lies, what lies now, how much that is. -/
structure St where
  out : List Int
  lies : List Laid
  all : Int
def now (x : Life) (r : List Laid) : List Laid := r.filter fun y => decide (x.f < y.to)
def step (l : List Life) (i : Nat) (s : St) : St :=
  if nothing (get l i) then s
  else ⟨s.out.set i (lowest (now (get l i) s.lies) (get l i).w 0), put (now (get l i) s.lies) ⟨lowest (now (get l i) s.lies) (get l i).w 0, lowest (now (get l i) s.lies) (get l i).w 0 + (get l i).w, (get l i).t⟩, max s.all (lowest (now (get l i) s.lies) (get l i).w 0 + (get l i).w)⟩
def layGo (l : List Life) : List Int → St → St
  | [], s => s
  | i :: T, s => layGo l T (step l i.toNat s)
def upToN : Nat → List Int
  | 0 => []
  | k + 1 => upToN k ++ [(k : Int)]
def fromOf (l : List Life) (x : Int) : Int := (get l x.toNat).f
def order (l : List Life) : List Int := AdjR.sortBy (fromOf l) (upToN l.length)
def laySt (l : List Life) : St := layGo l (order l) ⟨List.replicate l.length 0, [], 0⟩
def lay (l : List Life) : List Int × Int × Int := if wrong l ≠ 0 then ([], 0, wrong l) else if 1048576 < (laySt l).all then ([], 0, 5) else ((laySt l).out, (laySt l).all, 0)
theorem upToN_mem {n : Nat} {x : Int} : x ∈ upToN n ↔ 0 ≤ x ∧ x < (n : Int) := by
  induction n with
  | zero => simp [upToN] <;> omega
  | succ n ih => unfold upToN; rw [List.mem_append, ih, List.mem_singleton]; omega
theorem upToN_asc : ∀ n, (upToN n).Pairwise (· < ·)
  | 0 => List.Pairwise.nil
  | n + 1 => List.pairwise_append.2 ⟨upToN_asc n, List.pairwise_singleton _ _, fun x hx y hy => by
      have := upToN_mem.1 hx
      rw [List.mem_singleton.1 hy]; omega⟩
theorem upToN_length : ∀ n, (upToN n).length = n
  | 0 => rfl
  | n + 1 => by unfold upToN; rw [List.length_append, upToN_length n]; rfl
theorem upToN_nodup (n : Nat) : (upToN n).Nodup := (upToN_asc n).imp (fun h => by omega)
theorem order_perm (l : List Life) : (order l).Perm (upToN l.length) := AdjR.sortBy_perm _ _
theorem order_srt (l : List Life) : AdjS.Srt (fromOf l) (order l) := AdjR.sortBy_srt (upToN_nodup _)
theorem order_eq {l : List Life} {T : List Int} (h1 : T.Perm (upToN l.length)) (h2 : AdjS.Srt (fromOf l) T) : T = order l := AdjR.sortBy_eq (upToN_nodup _) h1 h2
/-- What holds while Lay goes on, T being left. -/
structure Ok (l : List Life) (T : List Int) (D : List Bool) (s : St) : Prop where
  fresh : ∀ j ∈ T, D.getD j.toNat false = false
  srt : AdjS.Srt (fromOf l) T
  rng : ∀ j ∈ T, 0 ≤ j ∧ j < (l.length : Int)
  outl : s.out.length = l.length
  dl : D.length = l.length
  some_ : ∀ k, k < l.length → D.getD k false = true → nothing (get l k) = false ∧ 0 ≤ s.out.getD k 0 ∧ s.out.getD k 0 + (get l k).w ≤ s.all ∧ ∀ j ∈ T, (get l k).f ≤ fromOf l j
  none_ : ∀ k, k < l.length → D.getD k false = false → s.out.getD k 0 = 0
  from_ : ∀ y ∈ s.lies, ∃ k, k < l.length ∧ D.getD k false = true ∧ y = ⟨s.out.getD k 0, s.out.getD k 0 + (get l k).w, (get l k).t⟩
  lie : ∀ k, k < l.length → D.getD k false = true → (∃ j ∈ T, fromOf l j < (get l k).t) → (⟨s.out.getD k 0, s.out.getD k 0 + (get l k).w, (get l k).t⟩ : Laid) ∈ s.lies
  apart : Apart s.lies
  all0 : 0 ≤ s.all
  two : ∀ k j, k < l.length → j < l.length → k ≠ j → D.getD k false = true → D.getD j false = true → (get l k).f < (get l j).t → (get l j).f < (get l k).t → s.out.getD k 0 + (get l k).w ≤ s.out.getD j 0 ∨ s.out.getD j 0 + (get l j).w ≤ s.out.getD k 0
theorem getD_set (l : List Int) (i k : Nat) (x : Int) (hi : i < l.length) : (l.set i x).getD k 0 = if k = i then x else l.getD k 0 := by
  rw [List.getD_eq_getElem?_getD, List.getElem?_set]
  by_cases e : i = k
  · subst e; simp [hi]
  · rw [if_neg e, if_neg (Ne.symm e), List.getD_eq_getElem?_getD]
theorem not_nothing {x : Life} (hb : ¬ bad x) (h : nothing x = false) : 0 < x.w ∧ x.f < x.t := by
  unfold nothing at h
  simp only [Bool.or_eq_false_iff, beq_eq_false_iff_ne] at h
  unfold bad at hb
  omega
theorem ok_start (l : List Life) : Ok l (order l) (List.replicate l.length false) ⟨List.replicate l.length 0, [], 0⟩ := by
  have hf : ∀ k, (List.replicate l.length false).getD k false = false := fun k => by
    rw [List.getD_eq_getElem?_getD, List.getElem?_replicate]; split <;> rfl
  have h0 : ∀ k, (List.replicate l.length (0 : Int)).getD k 0 = 0 := fun k => by
    rw [List.getD_eq_getElem?_getD, List.getElem?_replicate]; split <;> rfl
  refine ⟨fun j _ => hf _, order_srt l, fun j hj => upToN_mem.1 ((order_perm l).subset hj), by simp, by simp, fun k _ h => ?_, fun k _ _ => h0 k, (fun y hy => by cases hy), fun k _ h => ?_, ⟨List.Pairwise.nil, (fun y hy => by cases hy)⟩, Int.le_refl _, fun k j _ _ _ h => ?_⟩
  all_goals (rw [hf] at h; cases h)
end AdjL
