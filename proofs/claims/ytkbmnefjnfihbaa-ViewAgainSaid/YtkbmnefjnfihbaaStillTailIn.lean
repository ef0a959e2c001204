/-
  A region that draws its order, and whose operations are of the plain kinds (no call, no defer), inside a fence: what holds of it outside a fence holds of it inside. No program in sight. No condition.
-/
import Derived.StillTail
import Derived.StillTailTactics
import Derived.OrdersIn
import Derived.TacticsIn
import Derived.TacticsInMore
import Derived.Laws.Sem
namespace Adj
open Go
set_option linter.unusedVariables false

/-- Operations that neither call nor put off a call. -/
def plainOp : Op → Bool
  | .move _ | .assign _ | .load _ _ | .store _ _ _ | .indexAddr _ _ _ | .binOp _ _ _ _ _ => true
  | _ => false

theorem andThen_value {r : Result Value} {nx : Next} {w' : World} (h : r.andThen (fun v w => .ok (.value v) w) = .ok nx w') : ∃ v, nx = .value v := by
  cases r with
  | ok v w => rw [Result.andThen_ok] at h; cases h; exact ⟨v, rfl⟩
  | halt h' w => rw [Result.andThen_halt] at h; cases h
theorem andThen_skip {r : Result Unit} {nx : Next} {w' : World} (h : r.andThen (fun _ w => .ok .skip w) = .ok nx w') : nx = .skip := by
  cases r with
  | ok v w => rw [Result.andThen_ok] at h; cases h; rfl
  | halt h' w => rw [Result.andThen_halt] at h; cases h

theorem plain_runs {P : Program} {ρ : Operand → Value} {o : Oper} (hp : plainOp o.op = true) {w : World} {nx : Next} {w' : World} (h : (execOp ρ o).run P w = .ok nx w') : (∃ v, nx = .value v) ∨ nx = .skip := by
  unfold execOp at h
  cases ho : o.op <;> rw [ho] at hp h <;> first
    | (exfalso; revert hp; simp [plainOp]; done)
    | (simp only [Sem.run_pure] at h; cases h; exact .inl ⟨_, rfl⟩)
    | (simp only [Sem.run_bind, Sem.run_pure] at h; exact .inl (andThen_value h))
    | (simp only [Sem.run_bind, Sem.run_pure] at h; exact .inr (andThen_skip h))

/-- Only what goes on. -/
def only (K : Act → World → Prop) : Exit → Act → World → Prop
  | .normal, a, w => K a w
  | _, _, _ => False

variable {F : Fence} {n : Nat} {P : Program} {ops : Array Oper} {Q : Exit → Act → World → Prop}

theorem wpOpIn_of_plain (hops : ∀ (i : Nat) o, ops[i]? = some o → plainOp o.op = true) {i : Nat} {K Kq : Act → World → Prop} {a : Act} {w : World} (h : wpOp P ops (only Kq) i K a w) : wpOpIn F n P ops Q i K a w := by
  unfold wpOp at h
  unfold wpOpIn
  cases ho : ops[i]? with
  | none => rw [ho] at h; exact h
  | some o =>
    rw [ho] at h
    have hp := hops i o ho
    have hab : ∀ ρ, o.about P w ρ = none := fun ρ => by
      unfold Oper.about
      cases hop : o.op <;> first | rfl | (rw [hop] at hp; exact absurd hp (by simp [plainOp]))
    dsimp only at h ⊢
    by_cases hw : Region.wanted o (yielded ops a.tmps) = true
    · rw [if_pos hw] at h ⊢
      rcases h with h | ⟨_, a', w', hl⟩
      · refine ⟨fun f hf => (by rw [hab] at hf; cases hf), ?_⟩
        rw [Oper.semAt_eq _ _ _ (fun c hc => by rw [hc] at hp; exact absurd hp (by simp [plainOp]))]
        unfold Oper.wp at h
        cases hr : (execOp a.eval o).run P w with
        | ok nx w' =>
          rw [hr] at h
          rcases plain_runs hp hr with ⟨v, rfl⟩ | rfl
          · exact h
          · exact h
        | halt hh w' =>
          rw [hr] at h
          cases hh <;> exact h.elim
      · exact hl.elim
    · rw [if_neg hw] at h ⊢
      exact ⟨fun f hf => (by rw [hab] at hf; cases hf), h⟩

theorem wpAnyIn_of_plain {md : Region.Mode} (hops : ∀ (i : Nat) o, ops[i]? = some o → plainOp o.op = true) {K : Act → World → Prop} (hK : ∀ a w, K a w → Q .normal a w) : ∀ (fuel : Nat) (listed : Array Bool) (a : Act) (w : World),
    wpAny P md ops (only K) fuel listed a w → wpAnyIn F n P md ops Q fuel listed a w
  | 0, listed, a, w, h => ⟨h.1, hK _ _ h.2⟩
  | fuel + 1, listed, a, w, h => ⟨fun h0 => hK _ _ (h.1 h0), fun i hi => wpOpIn_mono (fun a' w' h' => wpAnyIn_of_plain hops hK fuel _ a' w' h') (wpOpIn_of_plain hops (h.2 i hi))⟩

/-- Reads, and then the operations from the n-th on, which must come in their order. -/
theorem wpIn_region_still_tail {id : Nat} {a : Act} {w : World} {l : List Oper} (k : Nat) (hm : P.follows .mixedOrders = true) (hp : (l.all fun o => plainOp o.op) = true) (hB : Region.lexTailB .any l.toArray k = true)
    (h : wpStill P l.toArray { w with drawn := w.drawn + 1 } (fun a' => wpList P l.toArray (only (Q .normal)) (l.drop k) a' { w with drawn := w.drawn + 1 }) (l.take k) a) : (Code.region id l.toArray true).wpIn F n P Q a w := by
  simp only [Region.lexTailB, Bool.and_eq_true, decide_eq_true_eq] at hB
  obtain ⟨⟨⟨⟨hsel, hn⟩, hs⟩, hc⟩, hlex⟩ := hB
  have hn' : k < l.length := by simpa using hn
  have htl : (l.take k).length = k := by simp; omega
  have hdl : (l.drop k).length = l.toArray.size - k := by simp
  have inv0 : HeadInv .any l.toArray k (Array.replicate l.toArray.size false) :=
    ⟨by simp, fun j oj _ hl => (by rw [getD_replicate_false] at hl; cases hl), fun t _ ht => getD_in (by simpa using ht) (getD_replicate_false _ _)⟩
  have H := wpAnyL_lex (md := .any) (g := l.toArray.size - k) hsel hs hc hn (l.take k) 0 _ a (fun j hj => by
    have hj' : j < k := by rw [htl] at hj; exact hj
    simp [hj']) (by simpa using htl) inv0 (by rw [htl]; exact hlex) h
  refine wpIn_region_any hm (wpAnyIn_of_plain (K := Q .normal) (fun i o ho => ?_) (fun _ _ h => h) _ _ _ _ ?_)
  · rw [List.all_eq_true] at hp
    have hm' : o ∈ l := by
      rw [List.getElem?_toArray] at ho
      exact List.mem_of_getElem? ho
    exact hp o hm'
  · have := wpAny_of_head (Q' := only (Q .normal)) (g := l.toArray.size - k) (fun listed a' hL => by
      have := wpAny_of_seq (md := .any) (Q' := only (Q .normal)) (l.drop k) k listed a' { w with drawn := w.drawn + 1 } (fun j => by simp [List.getElem?_drop]) (by rw [hdl]; exact hL.1) hL.2
      rwa [hdl] at this) _ _ _ H
    rw [htl, show k + (l.toArray.size - k) = l.toArray.size by omega] at this
    exact this

end Adj
