/-
  A region that draws its order, whose stores may turn what its loads read: the loads are taken first under two conditions on the world: S, that need hold only till number t0 has come, and R, that need hold only till number t1 has come. No program in sight. No condition.
-/
import Derived.OrdersHeld
import Derived.StillTail
import Derived.Deep.RegionHeld
namespace Adj
open Go
set_option linter.unusedVariables false

variable {P : Program} {ops : Array Oper} {Q : Exit → Act → World → Prop} {md : Region.Mode} {S R : World → Prop} {t0 t1 : Nat}

/-- What holds of the world when so many have come. -/
def Till (S : World → Prop) (t0 : Nat) (R : World → Prop) (t1 : Nat) (l : Array Bool) (w : World) : Prop := (l.getD t0 true = false → S w) ∧ (l.getD t1 true = false → R w)
theorem Till.same {i : Nat} (h0 : i ≠ t0) (h1 : i ≠ t1) {l : Array Bool} {w : World} : Till S t0 R t1 (l.setIfInBounds i true) w ↔ Till S t0 R t1 l w := by
  unfold Till
  rw [getD_set_ne true h0, getD_set_ne true h1]

/-- Whatever order is picked from here on, and D holds behind each operation. -/
def wpD (P : Program) (md : Region.Mode) (ops : Array Oper) (Q : Exit → Act → World → Prop) (D : Array Bool → World → Prop) : Nat → Array Bool → Act → World → Prop
  | 0, listed, a, w => Region.ready md ops listed = [] ∧ Q .normal a w
  | fuel + 1, listed, a, w =>
    (Region.ready md ops listed = [] → Q .normal a w) ∧
    ∀ i ∈ Region.ready md ops listed, wpOp P ops Q i (fun a' w' => D (listed.setIfInBounds i true) w' ∧ wpD P md ops Q D fuel (listed.setIfInBounds i true) a' w') a w
def wpT (P : Program) (md : Region.Mode) (ops : Array Oper) (Q : Exit → Act → World → Prop) (S : World → Prop) (t0 : Nat) (R : World → Prop) (t1 : Nat) : Nat → Array Bool → Act → World → Prop :=
  wpD P md ops Q (Till S t0 R t1)

theorem wpAny_of_D {D : Array Bool → World → Prop} : ∀ (fuel : Nat) (listed : Array Bool) (a : Act) (w : World), wpD P md ops Q D fuel listed a w → wpAny P md ops Q fuel listed a w
  | 0, _, _, _, h => h
  | fuel + 1, _, _, _, h => ⟨h.1, fun i hi => wpOp_mono (fun a' w' h' => wpAny_of_D fuel _ a' w' h'.2) (h.2 i hi)⟩

theorem waits_not_ready {t i : Nat} {listed : Array Bool} (hw : Region.waitsFor md ops t i = true) (hi : listed.getD i true = false) (hr : t ∈ Region.ready md ops listed) : False := by
  obtain ⟨ot, hot, e, he, hb, hon⟩ := Region.waitsFor_spec hw
  obtain ⟨_, ot', hot', hall⟩ := mem_ready.1 hr
  have : ot' = ot := Option.some.inj (hot'.symm.trans hot)
  subst this
  have h1 := hall e he hb
  rw [hon, getD_both hi] at h1
  cases h1

theorem wpD_first {D : Array Bool → World → Prop} {X : World → Prop} {G : Array Bool → Prop} {i : Nat} {oi : Oper} {v : Value} (hi : ops[i]? = some oi) (hsel : ∀ (j : Nat) (o : Oper) cs b, ops[j]? = some o → o.op ≠ .select cs b)
    (hQ : ∀ c a w, Q (.panic c) (a.put oi.dst v) w → Q (.panic c) a w) (hsame : ∀ l w, D (l.setIfInBounds i true) w ↔ D l w)
    (hG : ∀ l j, G l → l.getD i true = false → j ∈ Region.ready md ops l → j ≠ i → G (l.setIfInBounds j true)) (hX : ∀ l w, G l → D l w → X w) :
    ∀ (fuel : Nat) (listed : Array Bool) (a : Act) (w : World),
      (∀ j oj, ops[j]? = some oj → j ≠ i → listed.getD j true = false → (∀ e ∈ oj.after, Region.binds md e = true → e.on ≠ i) → oi.apart ops oj = true) →
      i ∈ Region.ready md ops listed → G listed → YieldsIf P ops X oi v a → D listed w →
      wpD P md ops Q D fuel (listed.setIfInBounds i true) (a.put oi.dst v) w → wpD P md ops Q D (fuel + 1) listed a w := by
  intro fuel
  induction fuel with
  | zero =>
    intro listed a w _ hr hg hy hD H
    refine ⟨fun h => (by rw [h] at hr; cases hr), fun j hj => ?_⟩
    by_cases hji : j = i
    · subst hji; exact hy.wpOp hi (hX _ _ hg hD) ⟨(hsame _ _).2 hD, H⟩
    · have := ready_mono hj hji
      rw [H.1] at this
      cases this
  | succ fuel ih =>
    intro listed a w hfree hr hg hy hD H
    refine ⟨fun h => (by rw [h] at hr; cases hr), fun j hj => ?_⟩
    by_cases hji : j = i
    · subst hji; exact hy.wpOp hi (hX _ _ hg hD) ⟨(hsame _ _).2 hD, H⟩
    · have h0 := (mem_ready.1 hr).1
      have h1 := H.2 j (ready_mono hj hji)
      obtain ⟨hjun, oj, hoj, hall⟩ := mem_ready.1 hj
      have hnot : ∀ e ∈ oj.after, Region.binds md e = true → e.on ≠ i := fun e he hb heq => by
        have h1 := hall e he hb
        rw [heq, getD_both h0] at h1
        cases h1
      have h2 := wpOp_putIf hoj (hfree j oj hoj hji hjun hnot) (fun cs b => hsel i oi cs b hi) (fun cs b => hsel j oj cs b hoj) hQ hy h1
      have hfree' : ∀ k ok, ops[k]? = some ok → k ≠ i → (listed.setIfInBounds j true).getD k true = false →
          (∀ e ∈ ok.after, Region.binds md e = true → e.on ≠ i) → oi.apart ops ok = true := fun k ok hk hki hun hno => by
        refine hfree k ok hk hki ?_ hno
        by_cases hjk : j = k
        · subst hjk; exact hjun
        · rw [getD_set_ne true hjk] at hun; exact hun
      have hg' := hG listed j hg h0 hj hji
      refine wpOp_mono (fun a' w' h3 => ?_) h2
      have hD' : D (listed.setIfInBounds j true) w' := (hsame _ _).1 (by rw [Array.setIfInBounds_comm _ _ hji]; exact h3.2.1)
      refine ⟨hD', ih (listed.setIfInBounds j true) a' w' hfree' (ready_mono hr (Ne.symm hji)) hg' h3.1 hD' ?_⟩
      rw [Array.setIfInBounds_comm _ _ hji]
      exact h3.2.2

/-- The checks that each take asks. -/
def takeB (md : Region.Mode) (ops : Array Oper) (t0 t1 i : Nat) (listed : Array Bool) : Bool :=
  Region.noSelect ops && Region.free md ops listed i && (Region.ready md ops listed).contains i && decide (i ≠ t0) && decide (i ≠ t1)
theorem takeB_spec {i : Nat} {listed : Array Bool} (h : takeB md ops t0 t1 i listed = true) : Region.noSelect ops = true ∧ Region.free md ops listed i = true ∧ (Region.ready md ops listed).contains i = true ∧ i ≠ t0 ∧ i ≠ t1 := by
  simp only [takeB, Bool.and_eq_true, decide_eq_true_iff] at h
  exact ⟨h.1.1.1.1, h.1.1.1.2, h.1.1.2, h.1.2, h.2⟩
theorem unlisted_stays {t i : Nat} (hw : Region.waitsFor md ops t i = true) (l : Array Bool) (j : Nat) (hg : l.getD t true = false) (h0 : l.getD i true = false) (hj : j ∈ Region.ready md ops l) (_ : j ≠ i) : (l.setIfInBounds j true).getD t true = false := by
  have hjt : j ≠ t := fun e => by subst e; exact waits_not_ready hw h0 hj
  rw [getD_set_ne true hjt]; exact hg

/-- Take number i first: it yields v wherever S holds, and t0 waits for it. -/
theorem wpT_take (i d : Nat) {oi : Oper} {v : Value} {fuel : Nat} {listed : Array Bool} {a : Act} {w : World} (hS : S w) (hR : R w) (hi : ops[i]? = some oi) (hd : oi.dst = some d)
    (hs : (takeB md ops t0 t1 i listed && Region.waitsFor md ops t0 i && !listed.getD t0 true) = true)
    (hQ : ∀ c a w, Q (.panic c) (a.put (some d) v) w → Q (.panic c) a w) (hg : oi.guard = none) (hy : ∀ w, S w → (execOp a.eval oi).run P w = .ok (.value v) w)
    (h : wpT P md ops Q S t0 R t1 fuel (listed.setIfInBounds i true) (a.put (some d) v) w) : wpT P md ops Q S t0 R t1 (fuel + 1) listed a w := by
  rw [← hd] at hQ h
  simp only [Bool.and_eq_true, Bool.not_eq_true'] at hs
  obtain ⟨⟨h1, h4⟩, h6⟩ := hs
  obtain ⟨b1, b2, b3, b4, b5⟩ := takeB_spec h1
  exact wpD_first (X := S) (G := fun l => l.getD t0 true = false) hi (Region.noSelect_spec b1) hQ (fun l w => Till.same b4 b5) (unlisted_stays h4) (fun l w hl hD => hD.1 hl) fuel listed a w (Region.free_spec hi b2) (by simpa using b3) h6 (.inl ⟨by simp [Region.wanted, hg], hy⟩) ⟨fun _ => hS, fun _ => hR⟩ h
/-- Take number i first: it yields v wherever R holds, and t1 waits for it. -/
theorem wpT_takeR (i d : Nat) {oi : Oper} {v : Value} {fuel : Nat} {listed : Array Bool} {a : Act} {w : World} (hD : Till S t0 R t1 listed w) (hi : ops[i]? = some oi) (hd : oi.dst = some d)
    (hs : (takeB md ops t0 t1 i listed && Region.waitsFor md ops t1 i && !listed.getD t1 true) = true)
    (hQ : ∀ c a w, Q (.panic c) (a.put (some d) v) w → Q (.panic c) a w) (hg : oi.guard = none) (hy : ∀ w, R w → (execOp a.eval oi).run P w = .ok (.value v) w)
    (h : wpT P md ops Q S t0 R t1 fuel (listed.setIfInBounds i true) (a.put (some d) v) w) : wpT P md ops Q S t0 R t1 (fuel + 1) listed a w := by
  rw [← hd] at hQ h
  simp only [Bool.and_eq_true, Bool.not_eq_true'] at hs
  obtain ⟨⟨h1, h4⟩, h6⟩ := hs
  obtain ⟨b1, b2, b3, b4, b5⟩ := takeB_spec h1
  exact wpD_first (X := R) (G := fun l => l.getD t1 true = false) hi (Region.noSelect_spec b1) hQ (fun l w => Till.same b4 b5) (unlisted_stays h4) (fun l w hl hD => hD.2 hl) fuel listed a w (Region.free_spec hi b2) (by simpa using b3) h6 (.inl ⟨by simp [Region.wanted, hg], hy⟩) hD h
/-- Take number i first: it yields v wherever. -/
theorem wpT_takeP (i d : Nat) {oi : Oper} {v : Value} {fuel : Nat} {listed : Array Bool} {a : Act} {w : World} (hD : Till S t0 R t1 listed w) (hi : ops[i]? = some oi) (hd : oi.dst = some d)
    (hs : takeB md ops t0 t1 i listed = true)
    (hQ : ∀ c a w, Q (.panic c) (a.put (some d) v) w → Q (.panic c) a w) (hg : oi.guard = none) (hy : ∀ w, (execOp a.eval oi).run P w = .ok (.value v) w)
    (h : wpT P md ops Q S t0 R t1 fuel (listed.setIfInBounds i true) (a.put (some d) v) w) : wpT P md ops Q S t0 R t1 (fuel + 1) listed a w := by
  rw [← hd] at hQ h
  obtain ⟨b1, b2, b3, b4, b5⟩ := takeB_spec hs
  exact wpD_first (X := fun _ => True) (G := fun _ => True) hi (Region.noSelect_spec b1) hQ (fun l w => Till.same b4 b5) (fun _ _ _ _ _ _ => trivial) (fun _ _ _ _ => trivial) fuel listed a w (Region.free_spec hi b2) (by simpa using b3) trivial (.inl ⟨by simp [Region.wanted, hg], fun w _ => hy w⟩) hD h

/-- A step: number i comes up. -/
def StepT (P : Program) (md : Region.Mode) (ops : Array Oper) (Q : Exit → Act → World → Prop) (S : World → Prop) (t0 : Nat) (R : World → Prop) (t1 fuel : Nat) (listed : Array Bool) (a : Act) (w : World) (i : Nat) : Prop :=
  wpOp P ops Q i (fun a' w' => Till S t0 R t1 (listed.setIfInBounds i true) w' ∧ wpT P md ops Q S t0 R t1 fuel (listed.setIfInBounds i true) a' w') a w
theorem stepT {fuel : Nat} {listed : Array Bool} {a : Act} {w : World} {i : Nat} {o : Oper} (ho : ops[i]? = some o) (hg : o.guard = none)
    (h : ∀ K : Act → World → Prop, Shut (∀ a w, Till S t0 R t1 (listed.setIfInBounds i true) w → wpT P md ops Q S t0 R t1 fuel (listed.setIfInBounds i true) a w → K a w) → Oper.wp P o a w K Q) : StepT P md ops Q S t0 R t1 fuel listed a w i := by
  unfold StepT wpOp
  rw [ho]
  have hw : Region.wanted o (yielded ops a.tmps) = true := by simp [Region.wanted, hg]
  simp only [hw, if_true]
  exact .inl (h _ (fun a w hD hW => ⟨hD, hW⟩))
/-- Before t0 has come: S and R are to be shown. -/
theorem stepT_early {fuel : Nat} {listed : Array Bool} {a : Act} {w : World} {i : Nat} {o : Oper} (ho : ops[i]? = some o) (hg : o.guard = none)
    (h : ∀ K : Act → World → Prop, Shut (∀ a w, S w ∧ R w → (S w ∧ R w → wpT P md ops Q S t0 R t1 fuel (listed.setIfInBounds i true) a w) → K a w) → Oper.wp P o a w K Q) : StepT P md ops Q S t0 R t1 fuel listed a w i :=
  stepT ho hg fun K hK => h K fun a w hSR hW => hK a w ⟨fun _ => hSR.1, fun _ => hSR.2⟩ (hW hSR)
/-- When t0 has come (now, or before): R is to be shown. -/
theorem stepT_late {fuel : Nat} {listed : Array Bool} {a : Act} {w : World} {i : Nat} {o : Oper} (ho : ops[i]? = some o) (hg : o.guard = none) (hl : (listed.setIfInBounds i true).getD t0 true = true)
    (h : ∀ K : Act → World → Prop, Shut (∀ a w, R w → (R w → wpT P md ops Q S t0 R t1 fuel (listed.setIfInBounds i true) a w) → K a w) → Oper.wp P o a w K Q) : StepT P md ops Q S t0 R t1 fuel listed a w i :=
  stepT ho hg fun K hK => h K fun a w hR hW => hK a w ⟨fun h => (by rw [hl] at h; cases h), fun _ => hR⟩ (hW hR)
theorem Till.late {listed : Array Bool} {w : World} (hl : listed.getD t0 true = true) (h : R w) : Till S t0 R t1 listed w := ⟨fun h => (by rw [hl] at h; cases h), fun _ => h⟩
theorem wpT_one (i : Nat) {fuel : Nat} {listed : Array Bool} {a : Act} {w : World} (hr : Region.ready md ops listed = [i]) (h : StepT P md ops Q S t0 R t1 fuel listed a w i) : wpT P md ops Q S t0 R t1 (fuel + 1) listed a w := by
  refine ⟨fun h0 => (by rw [hr] at h0; cases h0), fun j hj => ?_⟩
  rw [hr] at hj
  obtain rfl : j = i := by simpa using hj
  exact h
theorem wpT_two (i j : Nat) {fuel : Nat} {listed : Array Bool} {a : Act} {w : World} (hr : Region.ready md ops listed = [i, j]) (hi : StepT P md ops Q S t0 R t1 fuel listed a w i) (hj : StepT P md ops Q S t0 R t1 fuel listed a w j) :
    wpT P md ops Q S t0 R t1 (fuel + 1) listed a w := by
  refine ⟨fun h0 => (by rw [hr] at h0; cases h0), fun k hk => ?_⟩
  rw [hr] at hk
  have hk' : k = i ∨ k = j := by simpa using hk
  rcases hk' with rfl | rfl
  · exact hi
  · exact hj

/-- Those that are left come one behind the other. -/
def seqT (md : Region.Mode) (ops : Array Oper) : List Nat → Array Bool → Bool
  | [], listed => (Region.ready md ops listed).isEmpty
  | t :: ts, listed => decide (Region.ready md ops listed = [t]) && seqT md ops ts (listed.setIfInBounds t true)
theorem set_t0 {t0 : Nat} {listed : Array Bool} (h : listed.getD t0 true = true) (t : Nat) : (listed.setIfInBounds t true).getD t0 true = true := by
  by_cases e : t = t0
  · subst e
    rcases Nat.lt_or_ge t listed.size with h' | h'
    · simp [h']
    · simp
  · rw [getD_set_ne true e]; exact h
theorem Till.over {listed : Array Bool} {w : World} (h0 : listed.getD t0 true = true) (h1 : listed.getD t1 true = true) : Till S t0 R t1 listed w := ⟨fun h => (by rw [h0] at h; cases h), fun h => (by rw [h1] at h; cases h)⟩
theorem wpT_rest : ∀ (ts : List Nat) (l : List Oper) (fuel : Nat) (listed : Array Bool) (a : Act) (w : World), ts.map (fun t => ops[t]?) = l.map some → ts.length ≤ fuel → seqT md ops ts listed = true →
    (∀ t, ts.head? = some t → (listed.setIfInBounds t true).getD t0 true = true ∧ (listed.setIfInBounds t true).getD t1 true = true) →
    wpList P ops Q l a w → wpT P md ops Q S t0 R t1 fuel listed a w
  | [], l, fuel, listed, a, w, hl, _, hB, _, h => by
    obtain rfl : l = [] := by cases l with | nil => rfl | cons _ _ => simp at hl
    have hr : Region.ready md ops listed = [] := by simpa [seqT] using hB
    cases fuel with
    | zero => exact ⟨hr, h⟩
    | succ f => exact ⟨fun _ => h, by rw [hr]; simp⟩
  | t :: ts, l, fuel, listed, a, w, hl, hf, hB, ht, h => by
    cases l with
    | nil => simp at hl
    | cons o l =>
      simp only [List.map_cons, List.cons.injEq] at hl
      simp only [seqT, Bool.and_eq_true, decide_eq_true_iff] at hB
      cases fuel with
      | zero => simp at hf
      | succ f =>
        refine ⟨fun h0 => (by rw [hB.1] at h0; cases h0), fun j hj => ?_⟩
        rw [hB.1] at hj
        obtain rfl : j = t := by simpa using hj
        obtain ⟨s0, s1⟩ := ht j rfl
        have hw : wpOp P ops Q j (wpList P ops Q l) a w := by unfold wpOp; rw [hl.1]; exact h
        exact wpOp_mono (fun a' w' h' => ⟨Till.over s0 s1, wpT_rest ts l f _ a' w' hl.2 (by simpa using hf) hB.2 (fun u _ => ⟨set_t0 s0 u, set_t0 s1 u⟩) h'⟩) hw
/-- The last ones, in their order; with the first of them both t0 and t1 have come. -/
theorem wpT_tail (l : List Oper) (t : Nat) (ts : List Nat) {fuel : Nat} {listed : Array Bool} {a : Act} {w : World} (hl : (t :: ts).map (fun t => ops[t]?) = l.map some)
    (hB : (decide ((t :: ts).length ≤ fuel) && seqT md ops (t :: ts) listed && (listed.setIfInBounds t true).getD t0 true && (listed.setIfInBounds t true).getD t1 true) = true) (h : wpList P ops Q l a w) : wpT P md ops Q S t0 R t1 fuel listed a w := by
  simp only [Bool.and_eq_true, decide_eq_true_iff] at hB
  obtain ⟨⟨⟨hf, hB⟩, h0⟩, h1⟩ := hB
  exact wpT_rest (t :: ts) l fuel listed a w hl hf hB (fun u hu => by cases hu; exact ⟨h0, h1⟩) h

/-- The beginning: S and R are shown of the world behind the draw; n: how many operations. -/
theorem wp_region_T {id : Nat} {a : Act} {w : World} (S : World → Prop) (t0 : Nat) (R : World → Prop) (t1 n : Nat) (hn : ops.size = n) (hm : P.follows .mixedOrders = true) (hS : S w.drew ∧ R w.drew)
    (h : S w.drew ∧ R w.drew → wpT P .any ops Q S t0 R t1 n (List.replicate n false).toArray a w.drew) : (Code.region id ops true).wp P Q a w := by
  subst hn
  refine wp_region_any hm (wpAny_of_D (D := Till S t0 R t1) _ _ _ _ ?_)
  have h2 := h hS
  rw [List.toArray_replicate] at h2
  exact h2
end Adj
