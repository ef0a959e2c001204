/-
  Plain: what Climb has reckoned at last, node by node; what Best picks. No program in sight. Conditions: those each theorem names.
-/
import Derived.Test.YtkopkicdmbnpgaaClimbPlain4
namespace AdjR
set_option linter.unusedVariables false

theorem srt_congr {k k' : Int → Int} {T : List Int} (h : ∀ x ∈ T, k x = k' x) (hs : AdjS.Srt k T) : AdjS.Srt k' T := by
  unfold AdjS.Srt at hs ⊢
  refine List.Pairwise.imp_of_mem (fun {a b} ha hb hab => ?_) hs
  unfold AdjS.lt at hab ⊢
  rw [← h a ha, ← h b hb]; exact hab
theorem sortBy_congr {k k' : Int → Int} {l : List Int} (hn : l.Nodup) (h : ∀ x ∈ l, k x = k' x) : sortBy k l = sortBy k' l :=
  sortBy_eq hn (sortBy_perm k l) (srt_congr (fun x hx => h x ((sortBy_perm k l).subset hx)) (sortBy_srt hn))
theorem peakOf_congr {pk pk' ws : List Int} {own : Int} : ∀ {T : List Int} {h p : Int}, (∀ x ∈ T, pk.getD x.toNat 0 = pk'.getD x.toNat 0) → peakOf pk ws own T h p = peakOf pk' ws own T h p
  | [], _, _, _ => rfl
  | x :: T, h, p, hx => by
    unfold peakOf
    rw [hx x (List.mem_cons_self ..)]
    exact peakOf_congr (fun y hy => hx y (List.mem_cons_of_mem _ hy))
theorem climb_keep (ab ws : List Int) (s : Nat) : ∀ j, s < j → j ≤ ab.length → (climbTo ab ws j).1.getD s 0 = (climbTo ab ws (s + 1)).1.getD s 0 ∧ (climbTo ab ws j).2 s = (climbTo ab ws (s + 1)).2 s := by
  intro j
  induction j with
  | zero => intro h; omega
  | succ j ih =>
    intro h1 h2
    by_cases e : s = j
    · subst e; exact ⟨rfl, rfl⟩
    · have h := ih (by omega) (by omega)
      refine ⟨?_, ?_⟩
      · rw [← h.1]
        show ((climbTo ab ws j).1.set j _).getD s 0 = _
        rw [List.getD_eq_getElem?_getD, List.getElem?_set, if_neg (by omega), ← List.getD_eq_getElem?_getD]
      · rw [← h.2]
        show (if s = j then _ else _ : List Int) = _
        rw [if_neg e]
section
variable {ab ws : List Int} (hT : treeBad ab ws = 0)
include hT
/-- The peaks and the lists at last. -/
def pks (ab ws : List Int) : List Int := (climbTo ab ws ab.length).1
def lows (ab ws : List Int) : Nat → List Int := (climbTo ab ws ab.length).2
omit hT in
theorem pks_before {i j : Nat} (hi : i < ab.length) (hj : j < i) : (climbTo ab ws i).1.getD j 0 = (pks ab ws).getD j 0 := by
  unfold pks
  rw [(climb_keep ab ws j i hj (by omega)).1, (climb_keep ab ws j ab.length (by omega) (Nat.le_refl _)).1]
theorem lows_eq {i : Nat} (hi : i < ab.length) : lows ab ws i = sortBy (keyOf (pks ab ws) ws) (belowTo ab ab.length i) := by
  have h1 : lows ab ws i = sortBy (keyOf (climbTo ab ws i).1 ws) ((climbTo ab ws i).2 i) := by
    unfold lows
    rw [(climb_keep ab ws i ab.length hi (Nat.le_refl _)).2]
    show (if i = i then _ else _ : List Int) = _
    rw [if_pos rfl]
  rw [h1, climbTo_later ab ws i i (Nat.le_refl _)]
  refine sortBy_congr (belowTo_nodup _ _ _) (fun x hx => ?_)
  have h2 := below_lt hT hi hx
  unfold keyOf
  rw [pks_before hi (j := x.toNat) (by omega)]
theorem pks_eq {i : Nat} (hi : i < ab.length) : (pks ab ws).getD i 0 = peakOf (pks ab ws) ws (ws.getD i 0) (lows ab ws i) 0 0 := by
  have h0 : lows ab ws i = sortBy (keyOf (climbTo ab ws i).1 ws) ((climbTo ab ws i).2 i) := by
    unfold lows
    rw [(climb_keep ab ws i ab.length hi (Nat.le_refl _)).2]
    show (if i = i then _ else _ : List Int) = _
    rw [if_pos rfl]
  have h1 : (pks ab ws).getD i 0 = peakOf (climbTo ab ws i).1 ws (ws.getD i 0) (lows ab ws i) 0 0 := by
    unfold pks
    rw [(climb_keep ab ws i ab.length hi (Nat.le_refl _)).1]
    show ((climbTo ab ws i).1.set i _).getD i 0 = _
    rw [List.getD_eq_getElem?_getD, List.getElem?_set, if_pos rfl, if_pos (by rw [climbTo_length]; exact hi), h0]
    rfl
  rw [h1]
  refine peakOf_congr (fun x hx => ?_)
  have h2 := climb_lt hT ab.length i x hx
  exact pks_before hi (by omega)
omit hT in
theorem lows_perm (i : Nat) : (lows ab ws i).Perm (belowTo ab ab.length i) := climbTo_perm ab ws ab.length i
theorem lows_srt {i : Nat} (hi : i < ab.length) : AdjS.Srt (keyOf (pks ab ws) ws) (lows ab ws i) := by
  rw [lows_eq hT hi]; exact sortBy_srt (belowTo_nodup _ _ _)
theorem lows_lt : ∀ i x, x ∈ lows ab ws i → 0 ≤ x ∧ x < (i : Int) := climb_lt hT ab.length
theorem pks_range {i : Nat} (hi : i < ab.length) : 0 ≤ (pks ab ws).getD i 0 ∧ (pks ab ws).getD i 0 ≤ 35184372088832 := by
  have h := climbTo_bound hT ab.length (Nat.le_refl _) i hi
  have h2 := (treeOk hT).2.1
  unfold pks
  omega
theorem lows_visit {i : Nat} (hi : i < ab.length) : (visit (lows ab ws) i i).length ≤ i + 1 := visit_length' hT (climbTo_perm ab ws ab.length) (lows_lt hT) (fun _ _ => rfl) hi
end
/-- What Best picks: whatever goes ahead of all that have not been taken is the next one. -/
theorem pick_eq {k : Int → Int} {D T : List Int} {r : Nat} {x : Int} (hp : T.Perm D) (hs : AdjS.Srt k T) (hr : r < T.length) (hx : x ∈ D) (hn : x ∉ T.take r) (hm : ∀ y ∈ D, y ∉ T.take r → y = x ∨ AdjS.lt k x y) : T[r] = x := by
  have hd : T.drop r = T[r] :: T.drop (r + 1) := List.drop_eq_getElem_cons hr
  have hsp : T = T.take r ++ T[r] :: T.drop (r + 1) := by rw [← hd, List.take_append_drop]
  have hs2 := hs
  unfold AdjS.Srt at hs2
  rw [hsp, List.pairwise_append] at hs2
  have h1 : T[r] ∉ T.take r := fun h => by
    have h3 := hs2.2.2 T[r] h T[r] (List.mem_cons_self ..)
    unfold AdjS.lt at h3; omega
  have h2 : x ∈ T[r] :: T.drop (r + 1) := by
    have h3 := hp.symm.subset hx
    rw [hsp] at h3
    rcases List.mem_append.1 h3 with h | h
    · exact absurd h hn
    · exact h
  rcases List.mem_cons.1 h2 with h | h
  · exact h.symm
  · have h3 := (List.pairwise_cons.1 hs2.2.1).1 x h
    rcases hm T[r] (hp.subset (List.getElem_mem hr)) h1 with e | h4
    · exact e
    · unfold AdjS.lt at h3 h4; omega
/-- Something has not been taken. -/
theorem left_over {D T : List Int} {r : Nat} (hp : T.Perm D) (hn : D.Nodup) (hr : r < T.length) : T[r] ∈ D ∧ T[r] ∉ T.take r := by
  refine ⟨hp.subset (List.getElem_mem hr), fun h => ?_⟩
  have hnt : T.Nodup := hp.symm.nodup hn
  have hsp : T = T.take r ++ T[r] :: T.drop (r + 1) := by rw [← List.drop_eq_getElem_cons hr, List.take_append_drop]
  rw [hsp, List.nodup_append] at hnt
  exact hnt.2.2 T[r] h T[r] (List.mem_cons_self ..) rfl
theorem taken_next {T : List Int} {r : Nat} (hr : r < T.length) (y : Int) : (y ∈ T.take (r + 1)) ↔ (y ∈ T.take r ∨ y = T[r]) := by
  rw [List.take_succ_eq_append_getElem hr, List.mem_append, List.mem_singleton]
end AdjR
