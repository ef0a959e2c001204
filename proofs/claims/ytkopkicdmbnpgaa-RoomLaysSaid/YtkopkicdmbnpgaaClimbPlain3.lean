/-
  Plain: what Climb reckons. No program in sight. Conditions: those each theorem names.
-/
import Derived.Test.YtkopkicdmbnpgaaSortPlain
import Derived.Test.YtkopkicdmbnpgaaClimbPlain2
namespace AdjR
set_option linter.unusedVariables false

instance (k : Int → Int) (x y : Int) : Decidable (AdjS.lt k x y) := by unfold AdjS.lt; infer_instance
/-- Put in where it belongs. -/
def ins (k : Int → Int) (x : Int) : List Int → List Int
  | [] => [x]
  | y :: l => if AdjS.lt k x y then x :: y :: l else y :: ins k x l
def sortBy (k : Int → Int) : List Int → List Int
  | [] => []
  | x :: l => ins k x (sortBy k l)
theorem ins_perm (k : Int → Int) (x : Int) : ∀ l, (ins k x l).Perm (x :: l)
  | [] => List.Perm.refl _
  | y :: l => by
    unfold ins
    split
    · exact List.Perm.refl _
    · exact ((List.perm_cons y).2 (ins_perm k x l)).trans (List.Perm.swap x y l)
theorem sortBy_perm (k : Int → Int) : ∀ l, (sortBy k l).Perm l
  | [] => List.Perm.refl _
  | x :: l => (ins_perm k x _).trans ((List.perm_cons x).2 (sortBy_perm k l))
theorem ins_srt {k : Int → Int} {x : Int} : ∀ {l : List Int}, AdjS.Srt k l → x ∉ l → AdjS.Srt k (ins k x l)
  | [], _, _ => List.pairwise_singleton _ _
  | y :: l, h, hx => by
    have h2 := List.pairwise_cons.1 h
    unfold ins
    split
    · rename_i hxy
      refine List.pairwise_cons.2 ⟨fun z hz => ?_, h⟩
      rcases List.mem_cons.1 hz with rfl | hz
      · exact hxy
      · exact AdjS.lt_trans hxy (h2.1 z hz)
    · rename_i hxy
      have hne : x ≠ y := fun e => hx (by rw [e]; exact List.mem_cons_self ..)
      refine List.pairwise_cons.2 ⟨fun z hz => ?_, ins_srt h2.2 (fun hm => hx (List.mem_cons_of_mem _ hm))⟩
      rcases List.mem_cons.1 ((ins_perm k x l).subset hz) with rfl | hz
      · exact AdjS.lt_total hne hxy
      · exact h2.1 z hz
theorem sortBy_srt {k : Int → Int} : ∀ {l : List Int}, l.Nodup → AdjS.Srt k (sortBy k l)
  | [], _ => List.Pairwise.nil
  | x :: l, h => by
    have h2 := List.nodup_cons.1 h
    exact ins_srt (sortBy_srt h2.2) (fun hm => h2.1 ((sortBy_perm k l).subset hm))
/-- Whatever is in order and holds the same is what is sorted. -/
theorem sortBy_eq {k : Int → Int} {l T : List Int} (h : l.Nodup) (hp : T.Perm l) (hs : AdjS.Srt k T) : T = sortBy k l :=
  AdjS.srt_unique hs (sortBy_srt h) (hp.trans (sortBy_perm k l).symm)
theorem belowTo_nodup (ab : List Int) (k s : Nat) : (belowTo ab k s).Nodup := (belowTo_asc ab k s).imp (fun h => by omega)
/-- What is needed for a node, those below it in an order. -/
def peakOf (pk ws : List Int) (own : Int) : List Int → Int → Int → Int
  | [], held, p => max p (held + own)
  | k :: T, held, p => peakOf pk ws own T (held + ws.getD k.toNat 0) (max p (held + pk.getD k.toNat 0))
def keyOf (pk ws : List Int) (x : Int) : Int := -(pk.getD x.toNat 0 - ws.getD x.toNat 0)
/-- What Climb has reckoned of the first i: their peaks, and the lists below. -/
def climbTo (ab ws : List Int) : Nat → List Int × (Nat → List Int)
  | 0 => (List.replicate ab.length 0, fun s => belowTo ab ab.length s)
  | i + 1 =>
    let pk := (climbTo ab ws i).1
    let F := (climbTo ab ws i).2
    let T := sortBy (keyOf pk ws) (F i)
    (pk.set i (peakOf pk ws (ws.getD i 0) T 0 0), fun s => if s = i then T else F s)
theorem climbTo_length (ab ws : List Int) : ∀ i, (climbTo ab ws i).1.length = ab.length
  | 0 => by simp [climbTo]
  | i + 1 => by simp [climbTo, climbTo_length ab ws i]
theorem climbTo_perm (ab ws : List Int) : ∀ i s, ((climbTo ab ws i).2 s).Perm (belowTo ab ab.length s)
  | 0, s => List.Perm.refl _
  | i + 1, s => by
    show (if s = i then _ else _ : List Int).Perm _
    split
    · rename_i e
      subst e
      exact (sortBy_perm _ _).trans (climbTo_perm ab ws s s)
    · exact climbTo_perm ab ws i s
theorem climbTo_later (ab ws : List Int) : ∀ i s, i ≤ s → (climbTo ab ws i).2 s = belowTo ab ab.length s
  | 0, s, _ => rfl
  | i + 1, s, h => by
    show (if s = i then _ else _ : List Int) = _
    rw [if_neg (by omega)]
    exact climbTo_later ab ws i s (by omega)
end AdjR
namespace AdjR
/-- The order in which a node and all below it are made. -/
def visit (F : Nat → List Int) : Nat → Nat → List Int
  | 0, i => [(i : Int)]
  | d + 1, i => ((F i).map (fun x => visit F d x.toNat)).flatten ++ [(i : Int)]
/-- More room than is needed changes nothing. -/
theorem visit_more {F : Nat → List Int} (h : ∀ i x, x ∈ F i → 0 ≤ x ∧ x < (i : Int)) : ∀ (d e i : Nat), i ≤ d → i ≤ e → visit F d i = visit F e i
  | 0, e, i, hd, he => by
    obtain rfl : i = 0 := by omega
    cases e with
    | zero => rfl
    | succ e =>
      have h0 : F 0 = [] := by
        rw [List.eq_nil_iff_forall_not_mem]
        intro x hx
        have := h 0 x hx
        omega
      unfold visit
      rw [h0]; rfl
  | d + 1, 0, i, hd, he => by
    obtain rfl : i = 0 := by omega
    have h0 : F 0 = [] := by
      rw [List.eq_nil_iff_forall_not_mem]
      intro x hx
      have := h 0 x hx
      omega
    unfold visit
    rw [h0]; rfl
  | d + 1, e + 1, i, hd, he => by
    unfold visit
    congr 2
    refine List.map_congr_left (fun x hx => ?_)
    have h1 := h i x hx
    exact visit_more h d e x.toNat (by omega) (by omega)
theorem visit_one {F : Nat → List Int} (h : ∀ i x, x ∈ F i → 0 ≤ x ∧ x < (i : Int)) (i : Nat) : visit F i i = ((F i).map (fun x => visit F x.toNat x.toNat)).flatten ++ [(i : Int)] := by
  rw [visit_more h i (i + 1) i (Nat.le_refl _) (by omega)]
  conv => lhs; unfold visit
  congr 2
  refine List.map_congr_left (fun x hx => ?_)
  have h1 := h i x hx
  exact visit_more h i x.toNat x.toNat (by omega) (Nat.le_refl _)
end AdjR
namespace AdjR
theorem peakOf_bound {pk ws : List Int} {own B X : Int} (hw : 0 ≤ own) (hB : 0 ≤ B) : ∀ {T : List Int} {held p : Int}, (∀ x ∈ T, 0 ≤ pk.getD x.toNat 0 ∧ pk.getD x.toNat 0 ≤ B ∧ 0 ≤ ws.getD x.toNat 0 ∧ ws.getD x.toNat 0 ≤ 1048576) → 0 ≤ held → 0 ≤ p → p ≤ X → held + (T.length : Int) * 1048576 + B + own ≤ X → 0 ≤ peakOf pk ws own T held p ∧ peakOf pk ws own T held p ≤ X
  | [], held, p, _, h0, h1, h2, h3 => by
    unfold peakOf
    simp only [List.length_nil] at h3
    omega
  | x :: T, held, p, ht, h0, h1, h2, h3 => by
    unfold peakOf
    have hx := ht x (List.mem_cons_self ..)
    simp only [List.length_cons] at h3
    exact peakOf_bound hw hB (fun y hy => ht y (List.mem_cons_of_mem _ hy)) (by omega) (by omega) (by omega) (by omega)
end AdjR
namespace AdjR
theorem climbTo_zero (ab ws : List Int) : ∀ i s, i ≤ s → (climbTo ab ws i).1.getD s 0 = 0
  | 0, s, _ => by
    show (List.replicate ab.length (0 : Int)).getD s 0 = 0
    rw [List.getD_eq_getElem?_getD, List.getElem?_replicate]
    split <;> rfl
  | i + 1, s, h => by
    show ((climbTo ab ws i).1.set i _).getD s 0 = 0
    rw [List.getD_eq_getElem?_getD, List.getElem?_set, if_neg (by omega), ← List.getD_eq_getElem?_getD]
    exact climbTo_zero ab ws i s (by omega)
/-- Peaks are small. -/
theorem climbTo_bound {ab ws : List Int} (h : treeBad ab ws = 0) : ∀ i, i ≤ ab.length → ∀ s, s < ab.length → 0 ≤ (climbTo ab ws i).1.getD s 0 ∧ (climbTo ab ws i).1.getD s 0 ≤ (i : Int) * 8589934592
  | 0, _, s, _ => by rw [climbTo_zero ab ws 0 s (by omega)]; omega
  | i + 1, hi, s, hs => by
    have ih := climbTo_bound h i (by omega)
    show 0 ≤ ((climbTo ab ws i).1.set i _).getD s 0 ∧ ((climbTo ab ws i).1.set i _).getD s 0 ≤ _
    rw [List.getD_eq_getElem?_getD, List.getElem?_set]
    by_cases e : i = s
    · subst e
      rw [if_pos rfl, if_pos (by rw [climbTo_length]; omega)]
      have hw := (treeOk h).2.2 i (by omega)
      have hl := (treeOk h).2.1
      have hp := climbTo_perm ab ws i i
      have hsp := sortBy_perm (keyOf (climbTo ab ws i).1 ws) ((climbTo ab ws i).2 i)
      have hlen : (sortBy (keyOf (climbTo ab ws i).1 ws) ((climbTo ab ws i).2 i)).length ≤ ab.length := by
        rw [hsp.length_eq, hp.length_eq]; exact belowTo_length _ _ _
      have hb := peakOf_bound (pk := (climbTo ab ws i).1) (ws := ws) (own := ws.getD i 0) (B := (i : Int) * 8589934592) (X := ((i + 1 : Nat) : Int) * 8589934592) (T := sortBy (keyOf (climbTo ab ws i).1 ws) ((climbTo ab ws i).2 i)) (held := 0) (p := 0) (by omega) (by omega) (fun x hx => by
        obtain ⟨z, rfl, hz, _⟩ := belowTo_mem.1 (hp.subset (hsp.subset hx))
        rw [Int.toNat_natCast]
        have h1 := ih z hz
        have h2 := (treeOk h).2.2 z hz
        exact ⟨h1.1, h1.2, h2.2.2.1, h2.2.2.2⟩) (Int.le_refl _) (Int.le_refl _) (by omega) (by omega)
      exact hb
    · rw [if_neg e, ← List.getD_eq_getElem?_getD]
      have h1 := ih s hs
      omega
end AdjR
