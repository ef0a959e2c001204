/-
  Plain: LIU: whoever makes each tree without anything in between, or all of one size, needs no less than Climb says. No program in sight. Conditions: those each theorem names.
-/
import Derived.Test.YtkopkicdmbnpgaaLiuPlain2
namespace AdjR
set_option linter.unusedVariables false

section
variable {ab ws : List Int} (hT : treeBad ab ws = 0)
include hT
theorem par_of {v : Nat} (hv : v < ab.length) : (v + 1 = ab.length ∧ ab.getD v 0 = -1) ∨ ∃ p : Nat, ab.getD v 0 = (p : Int) ∧ v < p ∧ p < ab.length := by
  have h5 := (treeOk hT).2.2 v hv
  by_cases e : v + 1 = ab.length
  · exact .inl ⟨e, h5.1 e⟩
  · have h6 := h5.2.1 (by omega)
    exact .inr ⟨(ab.getD v 0).toNat, by omega, by omega, by omega⟩
section
variable {p : Nat → Nat} (hup : ∀ k : Nat, k < ab.length → ∀ q : Nat, ab.getD k 0 = (q : Int) → p k < p q)
include hup
theorem up_all {a : Nat} (ha : a < ab.length) : ∀ (d v : Nat), a - v ≤ d → (v : Int) ∈ visit (lows ab ws) a a → p v ≤ p a
  | 0, v, hd, hv => by
    have h1 := visit_range hT a v hv
    obtain rfl : v = a := by omega
    exact Nat.le_refl _
  | d + 1, v, hd, hv => by
    have h1 := visit_range hT a v hv
    rcases visit_par hT a v hv with e | ⟨q, e, hq⟩
    · subst e; exact Nat.le_refl _
    · have h2 := hup v (by omega) q e
      have h3 := visit_range hT a q hq
      rcases par_of hT (v := v) (by omega) with ⟨_, e2⟩ | ⟨q2, e2, h4, h5⟩
      · omega
      · have := up_all ha d q (by omega) hq
        omega
omit hup in
theorem there_nonneg (s k : Nat) (hk : k < ab.length) : 0 ≤ there ab ws p s k := by
  unfold there
  split
  · exact ((treeOk hT).2.2 k hk).2.2.1
  · exact Int.le_refl _
omit hT hup in
theorem there_yes {s k q : Nat} (h1 : p k ≤ s) (hq : ab.getD k 0 = (q : Int)) (h2 : s ≤ p q) : there ab ws p s k = ws.getD k 0 := by
  unfold there
  rw [if_pos ⟨h1, .inr (by rw [hq, Int.toNat_natCast]; exact h2)⟩]
/-- LIU: somewhere on the way to a node as much is needed as Climb says. -/
theorem liu (star : ∀ c q : Nat, c < ab.length → ab.getD c 0 = (q : Int) → ∀ v u : Nat, (v : Int) ∈ visit (lows ab ws) c c → u < ab.length → (u : Int) ∉ visit (lows ab ws) c c → p v ≤ p u → p u ≤ p q → ws.getD c 0 ≤ vsum (there ab ws p (p u)) (visit (lows ab ws) c c)) :
    ∀ k : Nat, k < ab.length → ∃ v : Nat, (v : Int) ∈ visit (lows ab ws) k k ∧ (pks ab ws).getD k 0 ≤ vsum (there ab ws p (p v)) (visit (lows ab ws) k k) := by
  intro k
  induction k using Nat.strongRecOn with
  | ind k ih =>
  intro hk
  have hlt := lows_lt hT k
  have hmemr : ∀ {a : Nat} {x : Int}, a < ab.length → x ∈ visit (lows ab ws) a a → x.toNat < ab.length := fun {a} {x} ha hx => by have := visit_range hT a x hx; omega
  have hnn : ∀ s (a : Nat), a < ab.length → 0 ≤ vsum (there ab ws p s) (visit (lows ab ws) a a) := fun s a ha => vsum_nonneg (fun x hx => there_nonneg hT s _ (hmemr ha hx))
  have hH : ∀ s, vsum (there ab ws p s) (visit (lows ab ws) k k) = vsum (fun c => vsum (there ab ws p s) (visit (lows ab ws) c c)) (lows ab ws k) + there ab ws p s k := fun s => by
    rw [visit_one (lows_lt hT) k, vsum_append, vsum_flat]
    show _ + ((there ab ws p s ((k : Int)).toNat) + 0) = _
    rw [Int.toNat_natCast, Int.add_zero]; rfl
  have hpk := pks_eq hT hk
  have hkk := there_nonneg hT (p := p)
  have hch : ∃ f : Int → Nat, ∀ c, c ∈ lows ab ws k → ((f c : Nat) : Int) ∈ visit (lows ab ws) c.toNat c.toNat ∧ (pks ab ws).getD c.toNat 0 ≤ vsum (there ab ws p (p (f c))) (visit (lows ab ws) c.toNat c.toNat) := by
    refine ⟨fun c => if h : c ∈ lows ab ws k then Classical.choose (ih c.toNat (by have := hlt c h; omega) (by have := hlt c h; omega)) else 0, fun c hc => ?_⟩
    simp only [dif_pos hc]
    exact Classical.choose_spec (ih c.toNat (by have := hlt c hc; omega) (by have := hlt c hc; omega))
  obtain ⟨f, hf⟩ := hch
  rcases peakOf_attain (pk := pks ab ws) (ws := ws) (own := ws.getD k 0) (T := lows ab ws k) (h := 0) (p := 0) with e | e | ⟨T1, c, T2, e1, e2⟩
  · exact ⟨k, visit_self hT k, by rw [hpk, e]; exact hnn _ k hk⟩
  · refine ⟨k, visit_self hT k, ?_⟩
    rw [hpk, e, hH]
    have h1 : sumL ws (lows ab ws k) ≤ vsum (fun c => vsum (there ab ws p (p k)) (visit (lows ab ws) c c)) (lows ab ws k) := vsum_le (f := fun k => ws.getD k 0) (fun c hc => by
      have h2 := hlt c hc
      obtain ⟨z, rfl⟩ : ∃ z : Nat, c = (z : Int) := ⟨c.toNat, by omega⟩
      rw [Int.toNat_natCast]
      have h3 := (lows_mem.1 hc).2
      have h4 := hup z (by omega) k h3
      have h5 := there_yes (ws := ws) (p := p) (s := p k) (by omega) h3 (Nat.le_refl _)
      have h6 := vsum_mem (f := there ab ws p (p k)) (visit_self hT z) (fun y hy => there_nonneg hT _ _ (hmemr (by omega) hy))
      rw [Int.toNat_natCast] at h6
      show ws.getD z 0 ≤ _
      omega)
    have h2 : there ab ws p (p k) k = ws.getD k 0 := by
      rcases par_of hT hk with ⟨_, e3⟩ | ⟨q, e3, _, _⟩
      · unfold there; rw [if_pos ⟨Nat.le_refl _, .inl (by omega)⟩]
      · exact there_yes (Nat.le_refl _) e3 (Nat.le_of_lt (hup k hk q e3))
    omega
  · have hL : ∀ l, l ∈ T1 ++ [c] → l ∈ lows ab ws k := fun l hl => by
      rw [e1]
      rcases List.mem_append.1 hl with h | h
      · exact List.mem_append_left _ h
      · rw [List.mem_singleton.1 h]; simp
    obtain ⟨x, hx, hmax⟩ := max_at (fun l => p (f l)) (L := T1 ++ [c]) (by simp)
    have hxl := hL x hx
    have hfx := hf x hxl
    have hxr := hlt x hxl
    refine ⟨f x, visit_child hT hxl hfx.1, ?_⟩
    have hnd : (lows ab ws k).Nodup := (lows_perm k).symm.nodup (belowTo_nodup _ _ _)
    have hnd2 : (T1 ++ [c]).Nodup := by
      rw [e1, show T1 ++ c :: T2 = (T1 ++ [c]) ++ T2 by simp] at hnd
      exact (List.nodup_append.1 hnd).1
    have hfr := visit_range hT x.toNat _ hfx.1
    have hb := sum_bump (H := fun c => vsum (there ab ws p (p (f x))) (visit (lows ab ws) c c)) (ws := ws) (x := x) (B := (pks ab ws).getD x.toNat 0) hnd2 hx hfx.2 (fun l hl hne => by
      have hll := hL l hl
      have hlr := hlt l hll
      obtain ⟨z, rfl⟩ : ∃ z : Nat, l = (z : Int) := ⟨l.toNat, by omega⟩
      have hfl := hf z hll
      rw [Int.toNat_natCast] at hfl ⊢
      refine star z k (by omega) (lows_mem.1 hll).2 (f z) (f x) hfl.1 (by omega) ?_ (hmax _ hl) ?_
      · have h1 := visit_apart hT hk hxl hll (Ne.symm hne) _ hfx.1
        rwa [Int.toNat_natCast] at h1
      · exact up_all hT hup hk k (f x) (by omega) (visit_child hT hxl hfx.1))
    have hkey : (pks ab ws).getD c.toNat 0 - ws.getD c.toNat 0 ≤ (pks ab ws).getD x.toNat 0 - ws.getD x.toNat 0 := by
      by_cases e3 : x = c
      · subst e3; exact Int.le_refl _
      · have hx1 : x ∈ T1 := (List.mem_append.1 hx).resolve_right (fun h => e3 (List.mem_singleton.1 h))
        have hs := lows_srt hT hk
        rw [e1] at hs
        have h1 := (List.pairwise_append.1 hs).2.2 x hx1 c (List.mem_cons_self ..)
        unfold AdjS.lt keyOf at h1
        omega
    have hsum : sumL ws (T1 ++ [c]) = sumL ws T1 + ws.getD c.toNat 0 := sumL_snoc ws T1 c
    have hsp : vsum (fun c => vsum (there ab ws p (p (f x))) (visit (lows ab ws) c c)) (lows ab ws k) = vsum (fun c => vsum (there ab ws p (p (f x))) (visit (lows ab ws) c c)) (T1 ++ [c]) + vsum (fun c => vsum (there ab ws p (p (f x))) (visit (lows ab ws) c c)) T2 := by
      rw [e1, ← vsum_append]; simp
    have h2 : 0 ≤ vsum (fun c => vsum (there ab ws p (p (f x))) (visit (lows ab ws) c c)) T2 := vsum_nonneg (fun l hl => hnn _ _ (by have := hlt l (by rw [e1]; simp [hl]); omega))
    have h3 := hkk (p (f x)) k hk
    rw [hpk, e2, hH]
    omega
/-- What is needed is no less, for whoever keeps to 'star'. -/
theorem liu_root (hn : 0 < ab.length) {m : Int} (hneed : ∀ v : Nat, v < ab.length → sumTo (there ab ws p (p v)) ab.length ≤ m)
    (star : ∀ c q : Nat, c < ab.length → ab.getD c 0 = (q : Int) → ∀ v u : Nat, (v : Int) ∈ visit (lows ab ws) c c → u < ab.length → (u : Int) ∉ visit (lows ab ws) c c → p v ≤ p u → p u ≤ p q → ws.getD c 0 ≤ vsum (there ab ws p (p u)) (visit (lows ab ws) c c)) :
    (pks ab ws).getD (ab.length - 1) 0 ≤ m := by
  obtain ⟨v, hv, h⟩ := liu hT hup star (ab.length - 1) (by omega)
  rw [vsum_root hT _ hn] at h
  have h1 := visit_range hT _ _ hv
  exact Int.le_trans h (hneed v (by omega))
omit hup in
/-- All of one size keep to it. -/
theorem star_one {w0 : Int} (hone : ∀ k, k < ab.length → ws.getD k 0 = w0) : ∀ c q : Nat, c < ab.length → ab.getD c 0 = (q : Int) → ∀ v u : Nat, (v : Int) ∈ visit (lows ab ws) c c → u < ab.length → (u : Int) ∉ visit (lows ab ws) c c → p v ≤ p u → p u ≤ p q → ws.getD c 0 ≤ vsum (there ab ws p (p u)) (visit (lows ab ws) c c) := by
  intro c q hc hq v u hv hu _ h1 h2
  have key : ∀ (d v : Nat), c - v ≤ d → (v : Int) ∈ visit (lows ab ws) c c → p v ≤ p u → ∃ z r : Nat, (z : Int) ∈ visit (lows ab ws) c c ∧ ab.getD z 0 = (r : Int) ∧ p z ≤ p u ∧ p u ≤ p r := by
    intro d
    induction d with
    | zero =>
      intro v hd hv h1
      have h3 := visit_range hT c v hv
      obtain rfl : v = c := by omega
      exact ⟨v, q, hv, hq, h1, h2⟩
    | succ d ih =>
      intro v hd hv h1
      rcases visit_par hT c v hv with e | ⟨r, e, hr⟩
      · subst e; exact ⟨v, q, hv, hq, h1, h2⟩
      · by_cases h4 : p u ≤ p r
        · exact ⟨v, r, hv, e, h1, h4⟩
        · have h5 := visit_range hT c v hv
          have h6 : v < r := by
            rcases par_of hT (v := v) (by omega) with ⟨_, e2⟩ | ⟨q2, e2, h7, h8⟩ <;> omega
          exact ih r (by omega) hr (by omega)
  obtain ⟨z, r, hz, hr, h3, h4⟩ := key c v (by omega) hv h1
  have h5 := visit_range hT c z hz
  have h6 := vsum_mem (f := there ab ws p (p u)) hz (fun y hy => there_nonneg hT _ _ (by have := visit_range hT c y hy; omega))
  rw [Int.toNat_natCast, there_yes h3 hr h4, hone z (by omega)] at h6
  rw [hone c hc]
  exact h6
omit hup in
/-- So do those that make each tree without anything in between. -/
theorem star_tog (htog : ∀ c : Nat, c < ab.length → ∀ a b d : Nat, a < ab.length → b < ab.length → d < ab.length → (a : Int) ∈ visit (lows ab ws) c c → (d : Int) ∈ visit (lows ab ws) c c → p a ≤ p b → p b ≤ p d → (b : Int) ∈ visit (lows ab ws) c c) : ∀ c q : Nat, c < ab.length → ab.getD c 0 = (q : Int) → ∀ v u : Nat, (v : Int) ∈ visit (lows ab ws) c c → u < ab.length → (u : Int) ∉ visit (lows ab ws) c c → p v ≤ p u → p u ≤ p q → ws.getD c 0 ≤ vsum (there ab ws p (p u)) (visit (lows ab ws) c c) := by
  intro c q hc hq v u hv hu hnu h1 h2
  have h3 : p c ≤ p u := by
    by_cases e : p u ≤ p c
    · exact absurd (htog c hc v u c (by have := visit_range hT c v hv; omega) hu hc hv (visit_self hT c) h1 e) hnu
    · omega
  have h6 := vsum_mem (f := there ab ws p (p u)) (visit_self hT c) (fun y hy => there_nonneg hT _ _ (by have := visit_range hT c y hy; omega))
  rwa [Int.toNat_natCast, there_yes h3 hq h2] at h6
end
end
end AdjR
