/-
  Plain: the law RoomTight: things of one size take just what is needed at one time. No program in sight. Conditions: those each theorem names.
-/
import Derived.Test.YtkopkicdmbnpgaaLayPlain3
namespace AdjL
set_option linter.unusedVariables false
open AdjR (sumTo sumTo_split sumTo_none sumTo_one sumTo_mono sumTo_const sumTo_same sumTo_nonneg)

theorem low_mul {W : Int} (hW : 0 < W) : ∀ {r : List Laid} {p : Int}, (∀ y ∈ r, (∃ q : Int, y.at_ = q * W) ∧ y.end_ = y.at_ + W) → (∃ q : Int, p = q * W) → (∃ q : Int, lowest r W p = q * W) ∧ lowest r W p ≤ p + W * (r.length : Int)
  | [], p, _, h => ⟨h, by show p ≤ p + W * 0; omega⟩
  | y :: r, p, hr, h => by
    obtain ⟨⟨q1, e1⟩, e2⟩ := hr y (List.mem_cons_self ..)
    obtain ⟨q2, e3⟩ := h
    have hlen : W * (((y :: r).length : Nat) : Int) = W * (r.length : Int) + W := by rw [List.length_cons, Int.natCast_add, Int.mul_add]; simp
    have h0 : 0 ≤ W * (r.length : Int) := Int.mul_nonneg (by omega) (by omega)
    rw [hlen]
    unfold lowest
    by_cases e : p + W ≤ y.at_
    · rw [if_pos e]
      exact ⟨⟨q2, e3⟩, by omega⟩
    · rw [if_neg e]
      have hle : y.at_ ≤ p := by
        refine Decidable.byContradiction (fun hn => ?_)
        have hq : q2 + 1 ≤ q1 := by
          refine Decidable.byContradiction (fun hq => ?_)
          have := Int.mul_le_mul_of_nonneg_right (show q1 ≤ q2 by omega) (show 0 ≤ W by omega)
          omega
        have h1 := Int.mul_le_mul_of_nonneg_right hq (show 0 ≤ W by omega)
        rw [Int.add_mul, Int.one_mul] at h1
        omega
      have hm : ∃ q : Int, max p y.end_ = q * W := by
        by_cases e4 : p ≤ y.end_
        · exact ⟨q1 + 1, by rw [Int.add_mul, Int.one_mul]; omega⟩
        · exact ⟨q2, by omega⟩
      have ih := low_mul hW (r := r) (p := max p y.end_) (fun z hz => hr z (List.mem_cons_of_mem _ hz)) hm
      exact ⟨ih.1, by have := ih.2; omega⟩
theorem put_count (q : Laid → Bool) (r : List Laid) (y : Laid) : ((put r y).filter q).length = (r.filter q).length + (if q y then 1 else 0) := by
  have h : (r.filter q).length = ((r.take (under r y.at_)).filter q).length + ((r.drop (under r y.at_)).filter q).length := by
    conv => lhs; rw [← List.take_append_drop (under r y.at_) r]
    rw [List.filter_append, List.length_append]
  unfold put
  rw [List.filter_append, List.length_append, List.filter_cons, h]
  split
  · rw [List.length_cons]; omega
  · omega
def live (l : List Life) (D : List Bool) (c : Int) (k : Nat) : Int := if D.getD k false = true ∧ c < (get l k).t then 1 else 0
/-- What holds besides, if all are of one size. -/
structure Even (l : List Life) (W M : Int) (T : List Int) (D : List Bool) (s : St) : Prop where
  cnt : ∀ j ∈ T, (((s.lies.filter fun y => decide (fromOf l j < y.to)).length : Nat) : Int) = sumTo (live l D (fromOf l j)) l.length
  mul : ∀ k, k < l.length → D.getD k false = true → ∃ q : Int, s.out.getD k 0 = q * W
  top : s.all ≤ M
section
variable {l : List Life} (hl : ∀ x ∈ l, ¬ bad x) {W : Int} (hW : ∀ k, k < l.length → (get l k).w = W) (hp : 0 < W)
include hl hW hp
theorem even_step {i : Nat} {T : List Int} {D : List Bool} {s : St} (h : Ok l ((i : Int) :: T) D s) (he : Even l W (load l) ((i : Int) :: T) D s) : Even l W (load l) T (if nothing (get l i) then D else D.set i true) (step l i s) := by
  have hi := ok_i h
  have hsub : ∀ j ∈ T, j ∈ (i : Int) :: T := fun j hj => List.mem_cons_of_mem _ hj
  have hfi : D.getD i false = false := by
    have := h.fresh _ (List.mem_cons_self ..)
    rwa [Int.toNat_natCast] at this
  cases hn : nothing (get l i) with
  | true =>
    rw [if_pos rfl]
    unfold step
    rw [if_pos hn]
    exact ⟨fun j hj => he.cnt j (hsub j hj), he.mul, he.top⟩
  | false =>
    rw [if_neg (by decide)]
    have hpi := ok_pos hl h hn
    have hfrom : fromOf l (i : Int) = (get l i).f := by unfold fromOf; rw [Int.toNat_natCast]
    have hc := he.cnt _ (List.mem_cons_self ..)
    rw [hfrom] at hc
    have hr : ∀ y ∈ now (get l i) s.lies, (∃ q : Int, y.at_ = q * W) ∧ y.end_ = y.at_ + W := fun y hy => by
      obtain ⟨k, hk, hD, rfl⟩ := h.from_ y (List.mem_filter.1 hy).1
      exact ⟨he.mul k hk hD, by show s.out.getD k 0 + (get l k).w = s.out.getD k 0 + W; rw [hW k hk]⟩
    have hlow := low_mul hp (r := now (get l i) s.lies) (p := 0) hr ⟨0, by simp⟩
    have hcl : (((now (get l i) s.lies).length : Nat) : Int) = sumTo (live l D (get l i).f) l.length := hc
    rw [hcl] at hlow
    have hload : W * sumTo (live l D (get l i).f) l.length + W ≤ loadAt l (get l i).f := by
      rw [loadAt_sum, ← sumTo_scale]
      have h1 : sumTo (fun k => W * live l D (get l i).f k + (if k = i then W else 0)) l.length ≤ sumTo (fun k => if (get l k).f ≤ (get l i).f ∧ (get l i).f < (get l k).t then (get l k).w else 0) l.length := sumTo_mono (fun k hk => by
        unfold live
        by_cases e : k = i
        · subst e
          rw [if_neg (by rw [hfi]; simp), if_pos rfl, if_pos ⟨Int.le_refl _, hpi.2⟩, hW k hk]; omega
        · rw [if_neg e]
          by_cases e2 : D.getD k false = true ∧ (get l i).f < (get l k).t
          · have h2 := (h.some_ k hk e2.1).2.2.2 (i : Int) (List.mem_cons_self ..)
            rw [hfrom] at h2
            rw [if_pos e2, if_pos ⟨h2, e2.2⟩, hW k hk]; omega
          · rw [if_neg e2]
            split
            · rw [hW k hk]; omega
            · omega)
      rw [sumTo_split (g := fun k => W * live l D (get l i).f k) (h := fun k => if k = i then W else 0) (fun _ _ => rfl), sumTo_one hi] at h1
      exact h1
    have hM := (loadGo_ge l l 0).2 _ (get_mem hi)
    have hM2 : loadAt l (get l i).f ≤ load l := hM
    unfold step
    rw [if_neg (by rw [hn]; decide), hW i hi]
    generalize hpp : lowest (now (get l i) s.lies) W 0 = p at hlow
    have hset : ∀ k, k < l.length → (D.set i true).getD k false = if k = i then true else D.getD k false := fun k hk => AdjR.getD_set D i k (by rw [h.dl]; exact hi)
    have hout : ∀ k, (s.out.set i p).getD k 0 = if k = i then p else s.out.getD k 0 := fun k => getD_set s.out i k p (by rw [h.outl]; exact hi)
    refine ⟨fun j hj => ?_, fun k hk hD => ?_, ?_⟩
    · have h1 := (srt_first h hj).1
      have h2 := he.cnt j (hsub j hj)
      show ((((put (now (get l i) s.lies) ⟨p, p + W, (get l i).t⟩).filter fun y => decide (fromOf l j < y.to)).length : Nat) : Int) = _
      have h3 : ((now (get l i) s.lies).filter fun y => decide (fromOf l j < y.to)) = s.lies.filter fun y => decide (fromOf l j < y.to) := by
        unfold now
        rw [List.filter_filter]
        refine List.filter_congr (fun y _ => ?_)
        by_cases e : fromOf l j < y.to
        · rw [decide_eq_true e, decide_eq_true (show (get l i).f < y.to by omega)]; rfl
        · rw [decide_eq_false e]; rfl
      rw [put_count, h3]
      have h4 : sumTo (live l (D.set i true) (fromOf l j)) l.length = sumTo (live l D (fromOf l j)) l.length + sumTo (fun k => if k = i then (if fromOf l j < (get l i).t then (1 : Int) else 0) else 0) l.length := sumTo_split (fun k hk => by
        unfold live
        rw [hset k hk]
        by_cases e : k = i
        · subst e
          rw [if_pos rfl, if_pos rfl, hfi]
          by_cases e2 : fromOf l j < (get l k).t
          · rw [if_pos ⟨rfl, e2⟩, if_neg (by simp), if_pos e2]; omega
          · rw [if_neg (fun hh => e2 hh.2), if_neg (by simp), if_neg e2]; omega
        · rw [if_neg e, if_neg e]; omega)
      rw [h4, sumTo_one hi, ← h2]
      by_cases e : fromOf l j < (get l i).t
      · rw [if_pos (by simpa using e), if_pos e]; omega
      · rw [if_neg (by simpa using e), if_neg e]; omega
    · show ∃ q : Int, (s.out.set i p).getD k 0 = q * W
      rw [hset k hk] at hD
      rw [hout k]
      by_cases e : k = i
      · rw [if_pos e]; exact hlow.1
      · rw [if_neg e] at hD ⊢
        exact he.mul k hk hD
    · have := he.top
      show max s.all (p + W) ≤ load l
      have := hlow.2
      omega
theorem even_run : ∀ (T : List Int) (D : List Bool) (s : St), Ok l T D s → Even l W (load l) T D s → (layGo l T s).all ≤ load l
  | [], D, s, h, he => he.top
  | i :: T, D, s, h, he => by
    have hr := h.rng i (List.mem_cons_self ..)
    obtain ⟨z, rfl⟩ : ∃ z : Nat, i = (z : Int) := ⟨i.toNat, by omega⟩
    show (layGo l T (step l ((z : Int)).toNat s)).all ≤ _
    rw [Int.toNat_natCast]
    exact even_run T _ _ (ok_step hl h) (even_step hl hW hp h he)
theorem tight_pos : (laySt l).all = load l := by
  refine Int.le_antisymm (even_run hl hW hp _ _ _ (ok_start l) ⟨fun j hj => ?_, fun k hk hD => ?_, (loadGo_ge l l 0).1⟩) (load_le hl)
  · have hf : ∀ k, (List.replicate l.length false).getD k false = false := fun k => by
      rw [List.getD_eq_getElem?_getD, List.getElem?_replicate]; split <;> rfl
    exact (sumTo_none (fun k _ => by unfold live; rw [if_neg (by rw [hf]; simp)])).symm
  · rw [List.getD_eq_getElem?_getD, List.getElem?_replicate] at hD
    split at hD <;> simp at hD
end
/-- RoomTight. -/
theorem tight {l : List Life} (hl : ∀ x ∈ l, ¬ bad x) {W : Int} (hW : ∀ k, k < l.length → (get l k).w = W) : (laySt l).all = load l := by
  by_cases hp : 0 < W
  · exact tight_pos hl hW hp
  · have h0 : ∀ x ∈ l, nothing x = true ∧ x.w ≤ 0 := fun x hx => by
      obtain ⟨k, hk, e⟩ := List.getElem_of_mem hx
      have h1 := hW k hk
      have hg : get l k = x := by unfold get; rw [List.getD_eq_getElem?_getD, List.getElem?_eq_getElem hk]; exact e
      rw [hg] at h1
      have h2 := hl x hx
      unfold bad at h2
      have : x.w = 0 := by omega
      unfold nothing
      rw [this]
      exact ⟨rfl, Int.le_refl _⟩
    have h1 : ∀ (T : List Int) (s : St), (∀ j ∈ T, 0 ≤ j ∧ j < (l.length : Int)) → layGo l T s = s := fun T => by
      induction T with
      | nil => intro s _; rfl
      | cons i T ih =>
        intro s hj
        have hr := hj i (List.mem_cons_self ..)
        have h2 : step l i.toNat s = s := by
          unfold step
          rw [if_pos (h0 _ (get_mem (by omega))).1]
        show layGo l T (step l i.toNat s) = s
        rw [h2]
        exact ih s (fun j hj2 => hj j (List.mem_cons_of_mem _ hj2))
    have h2 : (laySt l).all = 0 := by
      unfold laySt
      rw [h1 _ _ (fun j hj => upToN_mem.1 ((order_perm l).subset hj))]
    rw [h2]
    refine Int.le_antisymm (loadGo_ge l l 0).1 ?_
    have h3 := load_le hl
    omega
end AdjL
