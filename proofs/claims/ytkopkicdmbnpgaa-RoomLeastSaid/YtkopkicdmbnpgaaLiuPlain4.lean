/-
  Plain: what a visit needs is what Climb says. No program in sight. Conditions: those each theorem names.
-/
import Derived.Test.YtkopkicdmbnpgaaLiuPlain3
namespace AdjR
set_option linter.unusedVariables false

def mostGo (P ws : List Int) : List Int → Int → Int → Int
  | [], _, most => most
  | c :: T, h, most => mostGo P ws T (h + ws.getD c.toNat 0) (max most (h + P.getD c.toNat 0))
theorem mostGo_ge (P ws : List Int) : ∀ (T : List Int) (h most : Int), most ≤ mostGo P ws T h most
  | [], _, _ => Int.le_refl _
  | c :: T, h, most => by
    have := mostGo_ge P ws T (h + ws.getD c.toNat 0) (max most (h + P.getD c.toNat 0))
    show most ≤ mostGo P ws T _ _
    omega
theorem peakOf_ge (P ws : List Int) (own : Int) : ∀ (T : List Int) (h p : Int), p ≤ peakOf P ws own T h p
  | [], h, p => by unfold peakOf; omega
  | c :: T, h, p => by
    have := peakOf_ge P ws own T (h + ws.getD c.toNat 0) (max p (h + P.getD c.toNat 0))
    show p ≤ peakOf P ws own T _ _
    omega
theorem mostGo_peak (P ws : List Int) (own h0 : Int) : ∀ (T : List Int) (hh p most : Int), max (max (mostGo P ws T (h0 + hh) most) (h0 + hh + sumL ws T + own)) (h0 + p) = max most (h0 + peakOf P ws own T hh p)
  | [], hh, p, most => by
    have : sumL ws [] = 0 := rfl
    unfold mostGo peakOf
    rw [this]; omega
  | c :: T, hh, p, most => by
    have ih := mostGo_peak P ws own h0 T (hh + ws.getD c.toNat 0) (max p (hh + P.getD c.toNat 0)) (max most (h0 + hh + P.getD c.toNat 0))
    have hs : sumL ws (c :: T) = ws.getD c.toNat 0 + sumL ws T := by simp [sumL]
    have h1 := mostGo_ge P ws T (h0 + (hh + ws.getD c.toNat 0)) (max most (h0 + hh + P.getD c.toNat 0))
    have h2 := peakOf_ge P ws own T (hh + ws.getD c.toNat 0) (max p (hh + P.getD c.toNat 0))
    show max (max (mostGo P ws T (h0 + hh + ws.getD c.toNat 0) (max most (h0 + hh + P.getD c.toNat 0))) _) _ = max most (h0 + peakOf P ws own T (hh + ws.getD c.toNat 0) (max p (hh + P.getD c.toNat 0)))
    rw [hs, show h0 + hh + ws.getD c.toNat 0 = h0 + (hh + ws.getD c.toNat 0) by omega]
    omega
theorem marks_append (M : List Bool) (a b : List Int) : marks M (a ++ b) = marks (marks M a) b := by unfold marks; rw [List.foldl_append]
section
variable {ab ws : List Int} (hT : treeBad ab ws = 0)
include hT
theorem marks_range {i : Nat} (hi : i < ab.length) {M : List Bool} (hM : M.length = ab.length) : ∀ x ∈ visit (lows ab ws) i i, 0 ≤ x ∧ x < (M.length : Int) := fun x hx => by
  have := visit_range hT i x hx
  omega
/-- What a visit does, and what it needs. -/
theorem sim : ∀ i : Nat, i < ab.length → ∀ (rest : List Int) (M : List Bool) (most : Int), M.length = ab.length → Inv ab M → (∀ x ∈ visit (lows ab ws) i i, M.getD x.toNat false = false) →
    peakGo ab ws (visit (lows ab ws) i i ++ rest) M most = peakGo ab ws rest (marks M (visit (lows ab ws) i i)) (max most (sumTo (held ab ws M) ab.length + (pks ab ws).getD i 0)) ∧
      Inv ab (marks M (visit (lows ab ws) i i)) ∧ sumTo (held ab ws (marks M (visit (lows ab ws) i i))) ab.length = sumTo (held ab ws M) ab.length + ws.getD i 0 := by
  intro i
  induction i using Nat.strongRecOn with
  | ind i ih =>
  intro hi rest M most hM hI hfr
  have hlt := lows_lt hT i
  have inner : ∀ (T : List Int), (∀ c ∈ T, c ∈ lows ab ws i) → T.Nodup → ∀ (rest : List Int) (M : List Bool) (most : Int), M.length = ab.length → Inv ab M → (∀ x ∈ (T.map fun c => visit (lows ab ws) c.toNat c.toNat).flatten, M.getD x.toNat false = false) →
      peakGo ab ws ((T.map fun c => visit (lows ab ws) c.toNat c.toNat).flatten ++ rest) M most = peakGo ab ws rest (marks M (T.map fun c => visit (lows ab ws) c.toNat c.toNat).flatten) (mostGo (pks ab ws) ws T (sumTo (held ab ws M) ab.length) most) ∧
        Inv ab (marks M (T.map fun c => visit (lows ab ws) c.toNat c.toNat).flatten) ∧ sumTo (held ab ws (marks M (T.map fun c => visit (lows ab ws) c.toNat c.toNat).flatten)) ab.length = sumTo (held ab ws M) ab.length + sumL ws T := by
    intro T
    induction T with
    | nil =>
      intro _ _ rest M most hM hI _
      have : sumL ws [] = 0 := rfl
      exact ⟨rfl, hI, by rw [this]; show _ = _ + 0; rw [Int.add_zero]; rfl⟩
    | cons c T ihT =>
      intro hc hnd rest M most hM hI hfr
      have hs : sumL ws (c :: T) = ws.getD c.toNat 0 + sumL ws T := by simp [sumL]
      have hcc := hlt c (hc c (List.mem_cons_self ..))
      have hnd2 := List.nodup_cons.1 hnd
      rw [List.map_cons, List.flatten_cons] at hfr ⊢
      obtain ⟨a1, a2, a3⟩ := ih c.toNat (by omega) (by omega) ((T.map fun c => visit (lows ab ws) c.toNat c.toNat).flatten ++ rest) M most hM hI (fun x hx => hfr x (List.mem_append_left _ hx))
      have hM2 : (marks M (visit (lows ab ws) c.toNat c.toNat)).length = ab.length := by rw [marks_length, hM]
      obtain ⟨b1, b2, b3⟩ := ihT (fun d hd => hc d (List.mem_cons_of_mem _ hd)) hnd2.2 rest (marks M (visit (lows ab ws) c.toNat c.toNat)) (max most (sumTo (held ab ws M) ab.length + (pks ab ws).getD c.toNat 0)) hM2 a2 (fun x hx => by
        obtain ⟨l, hl, hxl⟩ := List.mem_flatten.1 hx
        obtain ⟨d, hd, rfl⟩ := List.mem_map.1 hl
        have hdd := hlt d (hc d (List.mem_cons_of_mem _ hd))
        have hxr := visit_range hT d.toNat x hxl
        rw [marks_getD x.toNat _ _ (marks_range hT (by omega) hM), hfr x (List.mem_append_right _ hx)]
        have hne : d ≠ c := fun e => hnd2.1 (e ▸ hd)
        have := visit_apart hT hi (hc d (List.mem_cons_of_mem _ hd)) (hc c (List.mem_cons_self ..)) hne x hxl
        rw [show ((x.toNat : Nat) : Int) = x by omega]
        simp [this])
      rw [List.append_assoc, a1, b1, marks_append]
      refine ⟨?_, b2, by rw [b3, a3, hs]; omega⟩
      rw [a3]; rfl
  have hnd : (lows ab ws i).Nodup := (lows_perm i).symm.nodup (belowTo_nodup _ _ _)
  have hv := visit_one (lows_lt hT) i
  obtain ⟨a1, a2, a3⟩ := inner (lows ab ws i) (fun c hc => hc) hnd ([(i : Int)] ++ rest) M most hM hI (fun x hx => hfr x (by rw [hv]; exact List.mem_append_left _ hx))
  have hsum : sumL ws (lows ab ws i) = sumTo (own ab ws i) ab.length := by
    rw [← sumL_below]
    exact vsum_perm (f := fun k => ws.getD k 0) (lows_perm i)
  have hvn := visit_nodup hT hi
  have hin : (i : Int) ∉ ((lows ab ws i).map fun c => visit (lows ab ws) c.toNat c.toNat).flatten := fun h => by
    obtain ⟨l, hl, hxl⟩ := List.mem_flatten.1 h
    obtain ⟨d, hd, rfl⟩ := List.mem_map.1 hl
    have h1 := visit_range hT d.toNat _ hxl
    have h2 := hlt d hd
    omega
  have hfl : ∀ x ∈ ((lows ab ws i).map fun c => visit (lows ab ws) c.toNat c.toNat).flatten, 0 ≤ x ∧ x < (M.length : Int) := fun x hx => by
    have := visit_range hT i x (by rw [hv]; exact List.mem_append_left _ hx)
    omega
  have hMi : M.getD i false = false := by
    have := hfr (i : Int) (visit_self hT i)
    rwa [Int.toNat_natCast] at this
  rw [hv] at hfr ⊢
  rw [List.append_assoc, a1, marks_append]
  generalize hFL : ((lows ab ws i).map fun c => visit (lows ab ws) c.toNat c.toNat).flatten = FL at *
  have hM1 : (marks M FL).length = ab.length := by rw [marks_length, hM]
  have hmi : (marks M FL).getD i false = false := by
    rw [marks_getD i _ _ hfl, hMi]
    simp [hin]
  have hall : ∀ k, k < ab.length → ab.getD k 0 = (i : Int) → (marks M FL).getD k false = true := fun k hk e => by
    rw [marks_getD k _ _ hfl]
    have : (k : Int) ∈ FL := by
      rw [← hFL]
      exact List.mem_flatten.2 ⟨_, List.mem_map.2 ⟨(k : Int), lows_mem.2 ⟨hk, e⟩, rfl⟩, by rw [Int.toNat_natCast]; exact visit_self hT k⟩
    simp [this]
  have hneed := need_eq hT hM1 hi hmi hall
  have hnext := held_next hT hM1 hi hmi a2 hall
  have hinv := inv_next hM1 hi a2 hall
  have hany : anyTo (lacks ab ((marks M FL).set i true) (i : Int)) ab.length = false := by
    rw [any_eq hT hM1 hi hmi]
    rw [List.any_eq_false]
    intro x hx
    obtain ⟨k, rfl, hk, e⟩ := belowTo_mem.1 hx
    rw [Int.toNat_natCast, hall k hk e]; simp
  have hstep : ∀ most1, peakGo ab ws ([(i : Int)] ++ rest) (marks M FL) most1 = peakGo ab ws rest ((marks M FL).set i true) (max most1 (sumTo (held ab ws (marks M FL)) ab.length + ws.getD i 0)) := fun most1 => by
    show peakGo ab ws ((i : Int) :: rest) (marks M FL) most1 = _
    conv => lhs; unfold peakGo
    rw [if_neg (by rw [Int.toNat_natCast, hmi]; simp; omega), Int.toNat_natCast, if_neg (by rw [hany]; simp), hneed]
    congr 1
    split <;> omega
  have hmk : marks (marks M FL) [(i : Int)] = (marks M FL).set i true := rfl
  have hw := ((treeOk hT).2.2 i hi).2.2
  have hpk := pks_eq hT hi
  have hmp := mostGo_peak (pks ab ws) ws (ws.getD i 0) (sumTo (held ab ws M) ab.length) (lows ab ws i) 0 0 most
  rw [Int.add_zero] at hmp
  have hsn : 0 ≤ sumL ws (lows ab ws i) := vsum_nonneg (f := fun k => ws.getD k 0) (fun c hc => by
    have := hlt c hc
    exact ((treeOk hT).2.2 c.toNat (by omega)).2.2.1)
  rw [hstep, hmk]
  refine ⟨?_, hinv, by omega⟩
  congr 1
  rw [a3, hpk]
  omega
/-- The order that Climb gives needs what Climb says. -/
theorem peak_visit (hn : 0 < ab.length) : peak ab ws (visit (lows ab ws) (ab.length - 1) (ab.length - 1)) = ((pks ab ws).getD (ab.length - 1) 0, 0) := by
  have h := (sim hT (ab.length - 1) (by omega) [] (List.replicate ab.length false) 0 (by simp) (inv_zero _ _) (fun x hx => by
    rw [List.getD_eq_getElem?_getD, List.getElem?_replicate]; split <;> rfl)).1
  rw [List.append_nil, held_zero] at h
  have h2 := (pks_range hT (i := ab.length - 1) (by omega)).1
  have h3 := peak_len hT h rfl
  rw [visit_len_root hT hn, if_neg (by simp)] at h3
  rw [h3]
  exact Prod.ext (by show max 0 (0 + _) = _; omega) rfl
end
end AdjR
