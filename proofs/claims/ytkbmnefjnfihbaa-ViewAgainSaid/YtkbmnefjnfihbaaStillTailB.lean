/-
  A region that draws its order inside a fence, of operations that neither call nor put off a call: more of them. No program in sight. No condition.
-/
import Derived.Test.YtkbmnefjnfihbaaStillTailIn
namespace Adj
open Go
set_option linter.unusedVariables false
/-- Operations that neither call nor put off a call. -/
def plainOp2 : Op → Bool
  | .move _ | .assign _ | .load _ _ | .store _ _ _ | .indexAddr _ _ _ | .binOp _ _ _ _ _ | .fieldAddr _ _ _ | .nilCheck _ | .build _ _ => true
  | _ => false
theorem nil_panics {P : Program} {w : World} {nx : Next} {w' : World} (h : (runtimePanic (α := Next) .nilDeref).run P w = .ok nx w') : False := by
  unfold runtimePanic at h
  simp [goPanic, go_sem] at h
theorem nilCheck_runs {P : Program} {ρ : Operand → Value} {o : Oper} {x : Operand} (ho : o.op = .nilCheck x) {w : World} {nx : Next} {w' : World} (h : (execOp ρ o).run P w = .ok nx w') : ∃ v, nx = .value v := by
  unfold execOp at h
  rw [ho] at h
  dsimp only at h
  split at h
  · exact (nil_panics h).elim
  · exact (nil_panics h).elim
  · exact (nil_panics h).elim
  · split at h
    · exact (nil_panics h).elim
    · simp only [Sem.run_bind] at h
      rename_i t w0 _
      cases hp0 : program.run P w with
      | halt _ _ => rw [hp0] at h; cases h
      | ok p0 w1 =>
        rw [hp0, Result.andThen_ok] at h
        cases hq : (nilAhead (p0.types.size + Made.depth) t w0 _).run P w1 with
        | halt _ _ => rw [hq] at h; cases h
        | ok b w2 =>
          rw [hq, Result.andThen_ok] at h
          split at h
          · simp [unsupported, go_sem] at h
          · simp only [Sem.run_pure] at h; cases h; exact ⟨_, rfl⟩
    · simp only [Sem.run_pure] at h; cases h; exact ⟨_, rfl⟩
  · simp only [Sem.run_pure] at h; cases h; exact ⟨_, rfl⟩
theorem plain2_runs {P : Program} {ρ : Operand → Value} {o : Oper} (hp : plainOp2 o.op = true) {w : World} {nx : Next} {w' : World} (h : (execOp ρ o).run P w = .ok nx w') : (∃ v, nx = .value v) ∨ nx = .skip := by
  by_cases hn : ∃ x, o.op = .nilCheck x
  · obtain ⟨x, hx⟩ := hn
    exact .inl (nilCheck_runs hx h)
  unfold execOp at h
  cases ho : o.op <;> rw [ho] at hp h <;> first
    | (exfalso; revert hp; simp [plainOp2]; done)
    | exact (hn ⟨_, ho⟩).elim
    | (simp only [Sem.run_pure] at h; cases h; exact .inl ⟨_, rfl⟩)
    | (simp only [Sem.run_bind, Sem.run_pure] at h; exact .inl (andThen_value h))
    | (simp only [Sem.run_bind, Sem.run_pure] at h; exact .inr (andThen_skip h))
variable {F : Fence} {n : Nat} {P : Program} {ops : Array Oper} {Q : Exit → Act → World → Prop}
theorem wpOpIn_of_plain2 (hops : ∀ (i : Nat) o, ops[i]? = some o → plainOp2 o.op = true) {i : Nat} {K Kq : Act → World → Prop} {a : Act} {w : World} (h : wpOp P ops (only Kq) i K a w) : wpOpIn F n P ops Q i K a w := by
  unfold wpOp at h
  unfold wpOpIn
  cases ho : ops[i]? with
  | none => rw [ho] at h; exact h
  | some o =>
    rw [ho] at h
    have hp := hops i o ho
    have hab : ∀ ρ, o.about P w ρ = none := fun ρ => by
      unfold Oper.about
      cases hop : o.op <;> first | rfl | (rw [hop] at hp; exact absurd hp (by simp [plainOp2]))
    dsimp only at h ⊢
    by_cases hw : Region.wanted o (yielded ops a.tmps) = true
    · rw [if_pos hw] at h ⊢
      rcases h with h | ⟨_, a', w', hl⟩
      · refine ⟨fun f hf => (by rw [hab] at hf; cases hf), ?_⟩
        rw [Oper.semAt_eq _ _ _ (fun c hc => by rw [hc] at hp; exact absurd hp (by simp [plainOp2]))]
        unfold Oper.wp at h
        cases hr : (execOp a.eval o).run P w with
        | ok nx w' =>
          rw [hr] at h
          rcases plain2_runs hp hr with ⟨v, rfl⟩ | rfl
          · exact h
          · exact h
        | halt hh w' =>
          rw [hr] at h
          cases hh <;> exact h.elim
      · exact hl.elim
    · rw [if_neg hw] at h ⊢
      exact ⟨fun f hf => (by rw [hab] at hf; cases hf), h⟩
theorem wpAnyIn_of_plain2 {md : Region.Mode} (hops : ∀ (i : Nat) o, ops[i]? = some o → plainOp2 o.op = true) {K : Act → World → Prop} (hK : ∀ a w, K a w → Q .normal a w) : ∀ (fuel : Nat) (listed : Array Bool) (a : Act) (w : World),
    wpAny P md ops (only K) fuel listed a w → wpAnyIn F n P md ops Q fuel listed a w
  | 0, listed, a, w, h => ⟨h.1, hK _ _ h.2⟩
  | fuel + 1, listed, a, w, h => ⟨fun h0 => hK _ _ (h.1 h0), fun i hi => wpOpIn_mono (fun a' w' h' => wpAnyIn_of_plain2 hops hK fuel _ a' w' h') (wpOpIn_of_plain2 hops (h.2 i hi))⟩
/-- Reads, and then the operations from the n-th on, which must come in their order. -/
theorem wpIn_region_still_tail2 {id : Nat} {a : Act} {w : World} {l : List Oper} (k : Nat) (hm : P.follows .mixedOrders = true) (hp : (l.all fun o => plainOp2 o.op) = true) (hB : Region.lexTailB .any l.toArray k = true)
    (h : wpStill P l.toArray { w with drawn := w.drawn + 1 } (fun a' => wpList P l.toArray (only (Q .normal)) (l.drop k) a' { w with drawn := w.drawn + 1 }) (l.take k) a) : (Code.region id l.toArray true).wpIn F n P Q a w := by
  simp only [Region.lexTailB, Bool.and_eq_true, decide_eq_true_eq] at hB
  obtain ⟨⟨⟨⟨hsel, hn⟩, hs⟩, hc⟩, hlex⟩ := hB
  have hn' : k < l.length := by simpa using hn
  have htl : (l.take k).length = k := by simp; omega
  have hdl : (l.drop k).length = l.toArray.size - k := by simp
  have inv0 : HeadInv .any l.toArray k (Array.replicate l.toArray.size false) :=
    ⟨by simp, fun j oj _ hl => (by rw [getD_replicate_false] at hl; cases hl), fun t _ ht => getD_in (by simpa using ht) (getD_replicate_false _ _)⟩
  have H := wpAnyL_lex (md := .any) (g := l.toArray.size - k) hsel hs hc hn (l.take k) 0 _ a (fun j hj => by
    have hj' : j < k := by rw [htl] at hj; exact hj
    simp [hj']) (by simpa using htl) inv0 (by rw [htl]; exact hlex) h
  refine wpIn_region_any hm (wpAnyIn_of_plain2 (K := Q .normal) (fun i o ho => ?_) (fun _ _ h => h) _ _ _ _ ?_)
  · rw [List.all_eq_true] at hp
    have hm' : o ∈ l := by
      rw [List.getElem?_toArray] at ho
      exact List.mem_of_getElem? ho
    exact hp o hm'
  · have := wpAny_of_head (Q' := only (Q .normal)) (g := l.toArray.size - k) (fun listed a' hL => by
      have := wpAny_of_seq (md := .any) (Q' := only (Q .normal)) (l.drop k) k listed a' { w with drawn := w.drawn + 1 } (fun j => by simp [List.getElem?_drop]) (by rw [hdl]; exact hL.1) hL.2
      rwa [hdl] at this) _ _ _ H
    rw [htl, show k + (l.toArray.size - k) = l.toArray.size by omega] at this
    exact this
end Adj
