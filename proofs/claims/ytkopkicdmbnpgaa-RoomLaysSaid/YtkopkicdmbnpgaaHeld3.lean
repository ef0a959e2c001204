/-
  A region that draws its order: three operations may come next. No program in sight. No condition.
-/
import Derived.Test.YtkopkicdmbnpgaaHeld
namespace Adj
open Go
variable {P : Program} {ops : Array Oper} {Q : Exit → Act → World → Prop} {md : Region.Mode} {S R : World → Prop} {t0 t1 : Nat}
theorem wpT_three (i j k : Nat) {fuel : Nat} {listed : Array Bool} {a : Act} {w : World} (hr : Region.ready md ops listed = [i, j, k]) (hi : StepT P md ops Q S t0 R t1 fuel listed a w i) (hj : StepT P md ops Q S t0 R t1 fuel listed a w j) (hk : StepT P md ops Q S t0 R t1 fuel listed a w k) :
    wpT P md ops Q S t0 R t1 (fuel + 1) listed a w := by
  refine ⟨fun h0 => (by rw [hr] at h0; cases h0), fun m hm => ?_⟩
  rw [hr] at hm
  have hm' : m = i ∨ m = j ∨ m = k := by simpa using hm
  rcases hm' with rfl | rfl | rfl
  · exact hi
  · exact hj
  · exact hk

/-- A chain of waits: i, then each of ms, then t0: each waits for the one ahead of it; none of them has come. -/
def chainB (md : Region.Mode) (ops : Array Oper) (listed : Array Bool) : Nat → List Nat → Bool
  | _, [] => true
  | i, m :: ms => Region.waitsFor md ops m i && !listed.getD m true && chainB md ops listed m ms
theorem chain_stays : ∀ (ms : List Nat) (i : Nat) (l : Array Bool), (∀ k (p m : Nat), (i :: ms)[k]? = some p → (i :: ms)[k + 1]? = some m → Region.waitsFor md ops m p = true) → l.getD i true = false → (∀ m ∈ ms, l.getD m true = false) →
    ∀ j ∈ Region.ready md ops l, j ∉ ms
  | [], _, _, _, _, _, _, _, h => by cases h
  | m :: ms, i, l, hw, hi, hm, j, hj, hin => by
    rcases List.mem_cons.1 hin with rfl | h
    · exact waits_not_ready (hw 0 i j rfl rfl) hi hj
    · exact chain_stays ms m l (fun k p q h1 h2 => hw (k + 1) p q h1 h2) (hm m (List.mem_cons_self ..)) (fun q hq => hm q (List.mem_cons_of_mem _ hq)) j hj h
theorem chainB_spec : ∀ (ms : List Nat) (i : Nat) {l : Array Bool}, chainB md ops l i ms = true → (∀ k (p m : Nat), (i :: ms)[k]? = some p → (i :: ms)[k + 1]? = some m → Region.waitsFor md ops m p = true) ∧ ∀ m ∈ ms, l.getD m true = false
  | [], i, l, _ => ⟨fun k p m h1 h2 => by simp at h2, fun m h => by cases h⟩
  | m :: ms, i, l, h => by
    simp only [chainB, Bool.and_eq_true, Bool.not_eq_true'] at h
    obtain ⟨⟨h1, h2⟩, h3⟩ := h
    obtain ⟨g1, g2⟩ := chainB_spec ms m h3
    refine ⟨fun k p q e1 e2 => ?_, fun q hq => ?_⟩
    · cases k with
      | zero => simp at e1 e2; subst e1 e2; exact h1
      | succ k => exact g1 k p q e1 e2
    · rcases List.mem_cons.1 hq with rfl | hq
      · exact h2
      · exact g2 q hq
/-- Take number i first, wanted or not: it yields v wherever S holds, and t0 waits for it, through others. -/
theorem wpT_takeC (ms : List Nat) (i d : Nat) {oi : Oper} {v : Value} {fuel : Nat} {listed : Array Bool} {a : Act} {w : World} (hS : S w) (hR : R w) (hi : ops[i]? = some oi) (hd : oi.dst = some d)
    (hs : (takeB md ops t0 t1 i listed && chainB md ops listed i (ms ++ [t0])) = true)
    (hQ : ∀ c a w, Q (.panic c) (a.put (some d) v) w → Q (.panic c) a w) (hy : YieldsIf P ops S oi v a)
    (h : wpT P md ops Q S t0 R t1 fuel (listed.setIfInBounds i true) (a.put (some d) v) w) : wpT P md ops Q S t0 R t1 (fuel + 1) listed a w := by
  rw [← hd] at hQ h
  simp only [Bool.and_eq_true] at hs
  obtain ⟨h1, h2⟩ := hs
  obtain ⟨b1, b2, b3, b4, b5⟩ := takeB_spec h1
  obtain ⟨c1, c2⟩ := chainB_spec _ _ h2
  refine wpD_first (X := S) (G := fun l => ∀ m ∈ ms ++ [t0], l.getD m true = false) hi (Region.noSelect_spec b1) hQ (fun l w => Till.same b4 b5) ?_ (fun l w hl hD => hD.1 (hl t0 (by simp))) fuel listed a w (Region.free_spec hi b2) (by simpa using b3) c2 hy ⟨fun _ => hS, fun _ => hR⟩ h
  intro l j hg h0 hj hji m hm
  have hjm : j ≠ m := fun e => chain_stays _ i l c1 h0 hg j hj (by rw [e]; exact hm)
  rw [getD_set_ne true hjm]
  exact hg m hm
/-- What is not wanted yields nothing. -/
theorem yields_not {o : Oper} {a : Act} (h : Region.wanted o (yielded ops a.tmps) = false) : YieldsIf P ops S o undef a := .inr ⟨h, rfl⟩
theorem yields_yes {o : Oper} {v : Value} {a : Act} (h : Region.wanted o (yielded ops a.tmps) = true) (hy : ∀ w, S w → (execOp a.eval o).run P w = .ok (.value v) w) : YieldsIf P ops S o v a := .inl ⟨h, hy⟩
end Adj
