/-
  slices.Backward at ints, where a round is known from what has come before; the walk of the program's Reform; A region that draws its order inside a fence, of operations that neither call nor put off a call: more of them; What lies while the program's Reform goes through the new dimensions from behind. Conditions: where the theorems name them.
-/
import Derived.Test.YtapedmpbkffopaaZ01
import Derived.Test.YtapedmpbkffopaaZ13
section
namespace Go.Proofs.Ytapedmpbkffopaa
set_option linter.unusedVariables false
open Go.RowKit Go.Shelf Adj
attribute [local go_sem] Oper.semAt_some
set_option maxRecDepth 100000 in
set_option maxHeartbeats 2000000 in
theorem back1_ord (F : Fence) (n : Nat) (h7 : F.fn 79) (hro : F.round = none) (hn : 1 ≤ n) (y Bs b off cap : Nat) (l : List Int) (hlen : l.length ≤ 9223372036854775807) (J Jx : List (Vw.Spot l) → World → Prop)
    (hY : ∀ pre (x : Vw.Spot l) W, J pre W → pre.length < l.length → x.1 = Vw.down l.length pre.length → YieldAt F (n - 1) Try.prog y (Vw.told x) W fun e W' =>
     (e = .returned (.bool true) ∧ J (pre ++ [x]) W' ∧ Vw.Keeps Bs b W W') ∨ (e = .returned (.bool false) ∧ Jx (pre ++ [x]) W'))
    (W : World) (hBs : W.cell? ⟨Bs, 0, none⟩ = some (.slice (some ⟨b, off, none⟩) l.length cap)) (hc : ∀ j (h : j < l.length), W.cell? ⟨b, off + j, none⟩ = some (.int .i64 l[j])) (h0 : J [] W) :
    CallsIn F n Try.prog 79 #[.func (.yield y) #[] #[], .pointer (some ⟨Bs, 0, none⟩)] W fun e W' => (∃ v, e = .returned v) ∧
     ((∃ ys, ys.map (·.1) = Vw.upto (Vw.down l.length) l.length ∧ J ys W') ∨ (∃ pre, True ∧ Jx pre W')) := by
 refine callsIn_of_wp Try.func79 rfl h7 ?_ hro
 simp only [Try.ntmps79, List.size_toArray, List.length_cons, List.length_nil, Nat.reduceAdd, Nat.reduceSub, Array.replicate_succ, Array.replicate_zero, List.push_toArray, List.append_toArray, List.nil_append, List.cons_append]
 gi_wp2
 gi_loopw [3] (fun i wr => ∃ (k : Nat) (pre : List (Vw.Spot l)), k ≤ l.length ∧ i = .int .i64 ((l.length : Int) - 1 - k) ∧ pre.map (·.1) = Vw.upto (Vw.down l.length) k ∧ J pre wr ∧ Vw.Keeps Bs b W wr)
  (fun i _ => (intOf i + 1).toNat)
 case atStart => exact ⟨0, [], Nat.zero_le _, by go_num, rfl, h0, Vw.Keeps.refl _ _ _⟩
 case round =>
  obtain ⟨k, pre, hk, rfl, hpre, hJs, hnx⟩ := hrel
  have hbs' : wr.cell? ⟨Bs, 0, none⟩ = some (.slice (some ⟨b, off, none⟩) l.length cap) := (hnx ⟨Bs, 0, none⟩ (.inl rfl)).trans hBs
  have hpl : pre.length = k := by have := congrArg List.length hpre; rwa [List.length_map, Vw.upto_length] at this
  have HPRE := Lib.hid hpre
  clear hpre
  by_cases hlt : k < l.length
  ·obtain ⟨q, hq⟩ : ∃ q, l.length = k + 1 + q := ⟨l.length - (k + 1), by omega⟩
   have hqi : (l.length : Int) - 1 - k = (q : Int) := by omega
   have hql : q < l.length := by omega
   have hcx : wr.cell? ⟨b, off + q, none⟩ = some (.int .i64 l[q]) := (hnx ⟨b, off + q, none⟩ (.inr rfl)).trans (hc q hql)
   have hdn : Vw.down l.length k = q := by unfold Vw.down; omega
   have hi1 : (0 : Int) ≤ (q : Int) := by omega
   have hi2 : (q : Int) < (l.length : Int) := by omega
   rw [hqi]
   have HQ := Lib.hid hq
   have HDN := Lib.hid hdn
   clear hq hqi hdn
   obtain ⟨fn, tmps, assign, body, hy, hR⟩ := hY pre ⟨q, hql⟩ wr hJs (by omega) (by rw [hpl]; exact HDN.out.symm)
   unfold Vw.told at hy
   dsimp only at hy
   generalize l[q] = x at hcx hy
   gi_wp2
   refine hR.mono ?_
   rintro e W3 (⟨rfl, hJ3, hk3⟩ | ⟨rfl, hJx3⟩)
   ·gi_wp2
    go_roundw
    case rel => exact ⟨k + 1, pre ++ [⟨q, hql⟩], by omega, by have := HQ.out; congr 1; omega, by rw [Vw.upto_succ, HDN.out, List.map_append, HPRE.out]; rfl, hJ3, hnx.trans hk3⟩
    case measure => (simp [intOf] <;> omega)
   ·gi_wp2
    refine bodyPost_ret (results_none rfl _ _ _) rfl ?_
    exact ⟨⟨_, rfl⟩, .inr ⟨_, trivial, hJx3⟩⟩
  ·obtain rfl : k = l.length := by omega
   have hi0 : (l.length : Int) - 1 - (l.length : Int) = -1 := by omega
   rw [hi0]
   gi_wp2
   go_end0
   exact ⟨⟨_, rfl⟩, .inl ⟨_, HPRE.out, hJs⟩⟩
theorem back_ord (F : Fence) (n : Nat) (h8 : F.fn 79) (hro : F.round = none) (hn : 1 ≤ n) (Bs : Nat) (A : Option Addr) (cap B : Nat) (l : List Int) (hlen : l.length ≤ 9223372036854775807) (w : World) (hBs : Bs < w.heap.size) (hB : B ≤ w.heap.size)
    (hc : w.cell? ⟨Bs, 0, none⟩ = some (.slice A l.length cap)) (hI : Vw.IntsAt w B A l) :
    ∃ b, (b = Bs ∨ b < B) ∧ SeqOrd F n Try.prog 79 #[.pointer (some ⟨Bs, 0, none⟩)] (fun x : Vw.Spot l => Vw.told x) (Vw.Keeps Bs b) (fun pre x => x.1 = Vw.down l.length pre.length) (fun ys => ys.map (·.1) = Vw.upto (Vw.down l.length) l.length)
     (fun _ => True) l.length w := by
 by_cases h : 0 < l.length
 ·obtain ⟨b, off, rfl, hb, hcs⟩ := hI h
  refine ⟨b, .inr hb, fun y J Jx W hW _ _ hY h0 => ?_⟩
  have hc' := (hW.cell (p := ⟨Bs, 0, none⟩) hBs).trans hc
  exact back1_ord F n h8 hro hn y Bs b off cap l hlen J Jx hY W hc' (fun i hi => (hW.cell (p := ⟨b, off + i, none⟩) (Nat.lt_of_lt_of_le hb hB)).trans (hcs i hi)) h0
 ·obtain rfl : l = [] := List.length_eq_zero_iff.1 (by omega)
  exact ⟨Bs, .inl rfl, fun y J Jx W hW _ _ hY h0 => (back1_nil_in F n h8 hro y Bs A cap J W ((hW.cell (p := ⟨Bs, 0, none⟩) hBs).trans hc) h0).mono fun e W' ⟨he, hj⟩ => ⟨he, .inl ⟨[], rfl, hj⟩⟩⟩
end Go.Proofs.Ytapedmpbkffopaa
end
section
namespace Adj
open Go
set_option linter.unusedVariables false
def plainOp2 : Op → Bool
 | .move _ | .assign _ | .load _ _ | .store _ _ _ | .indexAddr _ _ _ | .binOp _ _ _ _ _ | .fieldAddr _ _ _ | .nilCheck _ | .build _ _ => true
 | _ => false
theorem nil_panics {P : Program} {w : World} {nx : Next} {w' : World} (h : (runtimePanic (α := Next) .nilDeref).run P w = .ok nx w') : False := by
 unfold runtimePanic at h
 simp [goPanic, go_sem] at h
theorem nilCheck_runs {P : Program} {ρ : Operand → Value} {o : Oper} {x : Operand} (ho : o.op = .nilCheck x) {w : World} {nx : Next} {w' : World} (h : (execOp ρ o).run P w = .ok nx w') : ∃ v, nx = .value v := by
 unfold execOp at h
 rw [ho] at h
 dsimp only at h
 split at h
 ·exact (nil_panics h).elim
 ·exact (nil_panics h).elim
 ·exact (nil_panics h).elim
 ·split at h
  ·exact (nil_panics h).elim
  ·simp only [Sem.run_bind] at h
   rename_i t w0 _
   cases hp0 : program.run P w with
   | halt _ _ => rw [hp0] at h; cases h
   | ok p0 w1 =>
    rw [hp0, Result.andThen_ok] at h
    cases hq : (nilAhead (p0.types.size + Made.depth) t w0 _).run P w1 with
    | halt _ _ => rw [hq] at h; cases h
    | ok b w2 =>
     rw [hq, Result.andThen_ok] at h
     split at h
     ·simp [unsupported, go_sem] at h
     ·simp only [Sem.run_pure] at h; cases h; exact ⟨_, rfl⟩
  ·simp only [Sem.run_pure] at h; cases h; exact ⟨_, rfl⟩
 ·simp only [Sem.run_pure] at h; cases h; exact ⟨_, rfl⟩
theorem plain2_runs {P : Program} {ρ : Operand → Value} {o : Oper} (hp : plainOp2 o.op = true) {w : World} {nx : Next} {w' : World} (h : (execOp ρ o).run P w = .ok nx w') : (∃ v, nx = .value v) ∨ nx = .skip := by
 by_cases hn : ∃ x, o.op = .nilCheck x
 ·obtain ⟨x, hx⟩ := hn
  exact .inl (nilCheck_runs hx h)
 unfold execOp at h
 cases ho : o.op <;> rw [ho] at hp h <;> first
  | (exfalso; revert hp; simp [plainOp2]; done)
  | exact (hn ⟨_, ho⟩).elim
  | (simp only [Sem.run_pure] at h; cases h; exact .inl ⟨_, rfl⟩)
  | (simp only [Sem.run_bind, Sem.run_pure] at h; exact .inl (andThen_value h))
  | (simp only [Sem.run_bind, Sem.run_pure] at h; exact .inr (andThen_skip h))
variable {F : Fence} {n : Nat} {P : Program} {ops : Array Oper} {Q : Exit → Act → World → Prop}
theorem wpOpIn_of_plain2 (hops : ∀ (i : Nat) o, ops[i]? = some o → plainOp2 o.op = true) {i : Nat} {K Kq : Act → World → Prop} {a : Act} {w : World} (h : wpOp P ops (only Kq) i K a w) : wpOpIn F n P ops Q i K a w := by
 unfold wpOp at h
 unfold wpOpIn
 cases ho : ops[i]? with
 | none => rw [ho] at h; exact h
 | some o =>
  rw [ho] at h
  have hp := hops i o ho
  have hab : ∀ ρ, o.about P w ρ = none := fun ρ => by
   unfold Oper.about
   cases hop : o.op <;> first | rfl | (rw [hop] at hp; exact absurd hp (by simp [plainOp2]))
  dsimp only at h ⊢
  by_cases hw : Region.wanted o (yielded ops a.tmps) = true
  ·rw [if_pos hw] at h ⊢
   rcases h with h | ⟨_, a', w', hl⟩
   ·refine ⟨fun f hf => (by rw [hab] at hf; cases hf), ?_⟩
    rw [Oper.semAt_eq _ _ _ (fun c hc => by rw [hc] at hp; exact absurd hp (by simp [plainOp2]))]
    unfold Oper.wp at h
    cases hr : (execOp a.eval o).run P w with
    | ok nx w' =>
     rw [hr] at h
     rcases plain2_runs hp hr with ⟨v, rfl⟩ | rfl
     ·exact h
     ·exact h
    | halt hh w' =>
     rw [hr] at h
     cases hh <;> exact h.elim
   ·exact hl.elim
  ·rw [if_neg hw] at h ⊢
   exact ⟨fun f hf => (by rw [hab] at hf; cases hf), h⟩
theorem wpAnyIn_of_plain2 {md : Region.Mode} (hops : ∀ (i : Nat) o, ops[i]? = some o → plainOp2 o.op = true) {K : Act → World → Prop} (hK : ∀ a w, K a w → Q .normal a w) : ∀ (fuel : Nat) (listed : Array Bool) (a : Act) (w : World),
    wpAny P md ops (only K) fuel listed a w → wpAnyIn F n P md ops Q fuel listed a w
 | 0, listed, a, w, h => ⟨h.1, hK _ _ h.2⟩
 | fuel + 1, listed, a, w, h => ⟨fun h0 => hK _ _ (h.1 h0), fun i hi => wpOpIn_mono (fun a' w' h' => wpAnyIn_of_plain2 hops hK fuel _ a' w' h') (wpOpIn_of_plain2 hops (h.2 i hi))⟩
theorem wpIn_region_still_tail2 {id : Nat} {a : Act} {w : World} {l : List Oper} (k : Nat) (hm : P.follows .mixedOrders = true) (hp : (l.all fun o => plainOp2 o.op) = true) (hB : Region.lexTailB .any l.toArray k = true)
    (h : wpStill P l.toArray { w with drawn := w.drawn + 1 } (fun a' => wpList P l.toArray (only (Q .normal)) (l.drop k) a' { w with drawn := w.drawn + 1 }) (l.take k) a) : (Code.region id l.toArray true).wpIn F n P Q a w := by
 simp only [Region.lexTailB, Bool.and_eq_true, decide_eq_true_eq] at hB
 obtain ⟨⟨⟨⟨hsel, hn⟩, hs⟩, hc⟩, hlex⟩ := hB
 have hn' : k < l.length := by simpa using hn
 have htl : (l.take k).length = k := by simp; omega
 have hdl : (l.drop k).length = l.toArray.size - k := by simp
 have inv0 : HeadInv .any l.toArray k (Array.replicate l.toArray.size false) :=
  ⟨by simp, fun j oj _ hl => (by rw [getD_replicate_false] at hl; cases hl), fun t _ ht => getD_in (by simpa using ht) (getD_replicate_false _ _)⟩
 have H := wpAnyL_lex (md := .any) (g := l.toArray.size - k) hsel hs hc hn (l.take k) 0 _ a (fun j hj => by
  have hj' : j < k := by rw [htl] at hj; exact hj
  simp [hj']) (by simpa using htl) inv0 (by rw [htl]; exact hlex) h
 refine wpIn_region_any hm (wpAnyIn_of_plain2 (K := Q .normal) (fun i o ho => ?_) (fun _ _ h => h) _ _ _ _ ?_)
 ·rw [List.all_eq_true] at hp
  have hm' : o ∈ l := by
   rw [List.getElem?_toArray] at ho
   exact List.mem_of_getElem? ho
  exact hp o hm'
 ·have := wpAny_of_head (Q' := only (Q .normal)) (g := l.toArray.size - k) (fun listed a' hL => by
    have := wpAny_of_seq (md := .any) (Q' := only (Q .normal)) (l.drop k) k listed a' { w with drawn := w.drawn + 1 } (fun j => by simp [List.getElem?_drop]) (by rw [hdl]; exact hL.1) hL.2
    rwa [hdl] at this) _ _ _ H
  rw [htl, show k + (l.toArray.size - k) = l.toArray.size by omega] at this
  exact this
end Adj
end
section
namespace Go.Proofs.Ytapedmpbkffopaa
set_option linter.unusedVariables false
open Go.RowKit Go.Shelf Adj
namespace Vw
theorem own_block {w w' : World} {base size : Nat} {e : TypeId} {v : Value} {n : Nat} {xs : List Value} (h : w.ownsRow base e size v n xs) (hs : ∀ b, v.ownBlock = some b → w'.heap[b]? = w.heap[b]?) : w'.ownsRow base e size v n xs := by
 refine ⟨h.1, ?_⟩
 rcases h.2 with h2 | ⟨g, cap, cur, h1, h2, hg, h3⟩
 ·exact .inl h2
 ·exact .inr ⟨g, cap, cur, h1, h2, (hs g (by rw [h1]; rfl)).trans hg, h3⟩
section
variable {NL B N bw bl : Nat} {W0 W W' : World} {st0 : Int} {A1 : Option Addr} {c1 : Nat} {v2 : Value} {xs ys : List Int}
theorem Fs.to (h : Fs B N bw W0 st0 A1 c1 v2 xs ys W) (hb : Below NL W W') (hbw : bw < NL) (hv : ∀ b, v2.ownBlock = some b → b < NL) (hi : IntsAt W NL A1 xs) (hN : N ≤ NL) (hs : NL ≤ W'.heap.size) : Fs B N bw W0 st0 A1 c1 v2 xs ys W' :=
 ⟨h.blk.below hb hbw, (hi.below hb).up hs, h.g1, h.l1, h.l2, own_block h.own2 (fun b e => hb.block b (hv b e)), h.n2, h.below.trans (hb.mono hN), h.low⟩
theorem Fs.far (h : Fs B N bw W0 st0 A1 c1 v2 xs ys W) {g : Nat} (hg : g ≠ bw) (hv : v2.ownBlock ≠ some g) (hA : ∀ b off, A1 = some ⟨b, off, none⟩ → 0 < xs.length → b ≠ g) (hN : N ≤ g) (j : Nat) (x : Value) : Fs B N bw W0 st0 A1 c1 v2 xs ys (W.setCell ⟨g, j, none⟩ x) :=
 ⟨h.blk.far (p := ⟨g, j, none⟩) (Ne.symm hg) x, (h.i1.set hA j x).up (by simp), h.g1, h.l1, h.l2, own_block h.own2 (fun b e => Below.heap_setCell W ⟨g, j, none⟩ x b (fun e2 => hv (by rw [e, e2]))), h.n2, h.below.setCell (p := ⟨g, j, none⟩) hN x, h.low⟩
structure Lays (NL C N bw bl : Nat) (A1 : Option Addr) (v2 : Value) (AB : Option Addr) (xs : List Int) : Prop where
 bw_ : bw < C
 v2_ : ∀ b, v2.ownBlock = some b → b < C
 a1_ : ∀ b off, A1 = some ⟨b, off, none⟩ → 0 < xs.length → b < C
 ab_ : ∀ b off, AB = some ⟨b, off, none⟩ → C ≤ b ∧ b < bl
 bl_ : C ≤ bl ∧ bl < NL
 n_ : N ≤ C
structure RfM (NL B C N bw bl : Nat) (W0 : World) (st0 : Int) (A1 : Option Addr) (c1 : Nat) (v2 : Value) (AB : Option Addr) (cap : Nat) (xs ys : List Int) (st : List (Int × Int)) (W : World) : Prop where
 size : NL ≤ W.heap.size
 i1 : IntsAt W NL A1 xs
 lvar : Blk W bl 86 #[.slice AB st.length cap]
 row : W.ownsRow C 93 2 (.slice AB st.length cap) st.length (bcells st.reverse)
 fs : Fs B N bw W0 st0 A1 c1 v2 xs ys W
variable {C cap : Nat} {AB : Option Addr} {st : List (Int × Int)}
theorem RfM.to (L : Lays NL C N bw bl A1 v2 AB xs) (h : RfM NL B C N bw bl W0 st0 A1 c1 v2 AB cap xs ys st W) (hb : Below NL W W') : RfM NL B C N bw bl W0 st0 A1 c1 v2 AB cap xs ys st W' := by
 have h1 := L.bl_
 have hs : NL ≤ W'.heap.size := Nat.le_trans h.size hb.size
 refine ⟨hs, h.i1.below hb, h.lvar.below hb h1.2, own_block h.row (fun b e => hb.block b ?_), h.fs.to hb (by have := L.bw_; omega) (fun b e => by have := L.v2_ b e; omega) h.i1 (by have := L.n_; omega) hs⟩
 cases AB with
 | none => simp [Value.ownBlock] at e
 | some a =>
  obtain ⟨g, off, sp⟩ := a
  have e' : g = b := by simpa [Value.ownBlock] using e
  subst e'
  rcases h.row.2 with ⟨h2, _⟩ | ⟨g', cap', cur, h2, _⟩
  ·cases h2
  ·simp only [Value.slice.injEq, Option.some.injEq, Addr.mk.injEq] at h2
   obtain ⟨⟨rfl, rfl, rfl⟩, _, _⟩ := h2
   have := L.ab_ _ _ rfl
   omega
theorem RfM.drew (h : RfM NL B C N bw bl W0 st0 A1 c1 v2 AB cap xs ys st W) : RfM NL B C N bw bl W0 st0 A1 c1 v2 AB cap xs ys st W.drew := ⟨h.size, h.i1, h.lvar, h.row, h.fs.drew⟩
theorem RfM.store {g n cv : Nat} (L : Lays NL C N bw bl A1 (.slice (some ⟨g, 0, none⟩) n cv) AB xs) (h : RfM NL B C N bw bl W0 st0 A1 c1 (.slice (some ⟨g, 0, none⟩) n cv) AB cap xs ys st W) (hn : ys.length = n) (j : Nat) (x : Int) :
    RfM NL B C N bw bl W0 st0 A1 c1 (.slice (some ⟨g, 0, none⟩) n cv) AB cap xs (ys.set j x) st (W.setCell ⟨g, j, none⟩ (.int .i64 x)) := by
 have hg := L.v2_ g rfl
 have hbl := L.bl_
 refine ⟨by simpa using h.size, h.i1.set (fun b off e hp e2 => (h.fs.g1 b off e hp).2.2 (by simp [Value.ownBlock, e2])) j _, h.lvar.far (p := ⟨g, j, none⟩) (by simp; omega) _, own_block h.row (fun b e => Below.heap_setCell W ⟨g, j, none⟩ _ b ?_), h.fs.store2' hn j x⟩
 have := (h.row.lt b e).1
 simp; omega
theorem RfM.top {n s n' s' : Int} {gB mN : Nat} {r : List (Int × Int)} (L : Lays NL C N bw bl A1 v2 (some ⟨gB, 0, none⟩) xs) (h : RfM NL B C N bw bl W0 st0 A1 c1 v2 (some ⟨gB, 0, none⟩) cap xs ys ((n, s) :: r) W) (hm : r.length = mN) :
    RfM NL B C N bw bl W0 st0 A1 c1 v2 (some ⟨gB, 0, none⟩) cap xs ys ((n', s') :: r) ((W.setCell ⟨gB, mN * 2, none⟩ (.int .i64 n')).setCell ⟨gB, mN * 2 + 1, none⟩ (.int .i64 s')) := by
 subst hm
 have hab := L.ab_ _ _ rfl
 have hbl := L.bl_
 have hbw := L.bw_
 have hN := L.n_
 have h1 := h.row.stored (r.length * 2) (.int .i64 n')
 have h2 := h1.1.stored (r.length * 2 + 1) (.int .i64 s')
 rw [List.reverse_cons, bcells_set] at h2
 have hA : ∀ b off, A1 = some ⟨b, off, none⟩ → 0 < xs.length → b ≠ gB := fun b off e hp => by have := L.a1_ b off e hp; omega
 have hv : v2.ownBlock ≠ some gB := fun e => by have := L.v2_ _ e; omega
 refine ⟨by simpa using h.size, (h.i1.set hA _ _).set hA _ _, (h.lvar.far (p := ⟨gB, _, none⟩) (by simp; omega) _).far (p := ⟨gB, _, none⟩) (by simp; omega) _, ?_, (h.fs.far (by omega) hv hA (by omega) _ _).far (by omega) hv hA (by omega) _ _⟩
 rw [List.reverse_cons, List.length_cons]
 exact h2.1
theorem RfM.pop {gB : Nat} {y : Int × Int} {r : List (Int × Int)} (L : Lays NL C N bw bl A1 v2 (some ⟨gB, 0, none⟩) xs) (h : RfM NL B C N bw bl W0 st0 A1 c1 v2 (some ⟨gB, 0, none⟩) cap xs ys (y :: r) W) :
    RfM NL B C N bw bl W0 st0 A1 c1 v2 (some ⟨gB, 0, none⟩) cap xs ys r (W.setCell ⟨bl, 0, none⟩ (.slice (some ⟨gB, 0, none⟩) r.length cap)) := by
 have hab := L.ab_ _ _ rfl
 have hbl := L.bl_
 have hbw := L.bw_
 have hN := L.n_
 have hA : ∀ b off, A1 = some ⟨b, off, none⟩ → 0 < xs.length → b ≠ bl := fun b off e hp => by have := L.a1_ b off e hp; omega
 have hv : v2.ownBlock ≠ some bl := fun e => by have := L.v2_ _ e; omega
 refine ⟨by simpa using h.size, h.i1.set hA _ _, h.lvar.set_ 0 _, ?_, h.fs.far (by omega) hv hA (by omega) _ _⟩
 have hk := own_block (w' := W.setCell ⟨bl, 0, none⟩ (.slice (some ⟨gB, 0, none⟩) r.length cap)) h.row (fun b e => Below.heap_setCell W ⟨bl, 0, none⟩ _ b (by
  have e' : gB = b := by simpa [Value.ownBlock] using e
  simp; omega))
 rw [List.reverse_cons, bcells_append] at hk
 obtain ⟨hl, hf⟩ := hk
 rcases hf with ⟨h2, _⟩ | ⟨g', cap', cur, h2, hb, hg, hnc, hcm, hcs, htk⟩
 ·cases h2
 ·simp only [Value.slice.injEq, Option.some.injEq, Addr.mk.injEq] at h2
  obtain ⟨⟨rfl, _, _⟩, _, rfl⟩ := h2
  refine ⟨by rw [bcells_length, List.length_reverse], .inr ⟨gB, cap, cur, rfl, hb, hg, by simp at hnc; omega, hcm, hcs, ?_⟩⟩
  have := congrArg (List.take (r.length * 2)) htk
  rw [List.take_take, Nat.min_eq_left (by simp; omega), List.take_append_of_le_length (by rw [bcells_length, List.length_reverse]; exact Nat.le_refl _)] at this
  rw [this, List.take_of_length_le (by rw [bcells_length, List.length_reverse]; exact Nat.le_refl _)]
structure RfI (NL B C N bw bl : Nat) (W0 : World) (v : AdjV.V) (A1 : Option Addr) (c1 : Nat) (v2 : Value) (AB : Option Addr) (cap : Nat) (dims : List Int) (pre : List (Spot dims)) (W : World) : Prop where
 len : pre.length ≤ dims.length
 order : pre.map (·.1) = upto (down dims.length) pre.length
 run : ∃ ss st, AdjV.grun (dims.reverse.take pre.length) (AdjV.blocks v) = some (ss, st) ∧ RfM NL B C N bw bl W0 v.st A1 c1 v2 AB cap dims (List.replicate (dims.length - pre.length) 0 ++ ss.reverse) st W
theorem RfI.own {v : AdjV.V} {dims : List Int} (L : Lays NL C N bw bl A1 v2 AB dims) : OwnFrom NL (RfI NL B C N bw bl W0 v A1 c1 v2 AB cap dims) :=
 own_from_below (N := NL) (Nat.le_refl _) (fun s X Y h hb => ⟨h.len, h.order, by obtain ⟨ss, st, h1, h2⟩ := h.run; exact ⟨ss, st, h1, h2.to L hb⟩⟩) (fun s X h => by obtain ⟨ss, st, h1, h2⟩ := h.run; exact h2.size)
end
theorem RfI.next {NL B C N bw bl c1 cap : Nat} {W0 W' : World} {v : AdjV.V} {A1 AB : Option Addr} {v2 : Value} {dims : List Int} {pre : List (Spot dims)} {x : Spot dims} {ss : List Int} {st : List (Int × Int)} (hlt : pre.length < dims.length)
    (ho : (pre ++ [x]).map (·.1) = upto (down dims.length) (pre ++ [x]).length) (hr : AdjV.grun (dims.reverse.take (pre.length + 1)) (AdjV.blocks v) = some (ss, st))
    (hM : RfM NL B C N bw bl W0 v.st A1 c1 v2 AB cap dims (List.replicate (dims.length - (pre.length + 1)) 0 ++ ss.reverse) st W') : RfI NL B C N bw bl W0 v A1 c1 v2 AB cap dims (pre ++ [x]) W' :=
 ⟨by rw [List.length_append, List.length_singleton]; exact hlt, ho, ss, st, by rw [List.length_append, List.length_singleton]; exact hr, by rw [List.length_append, List.length_singleton]; exact hM⟩
theorem keeps_set {Bs b NL : Nat} {W : World} {g j : Nat} {x : Value} (h1 : Bs ≠ g) (h2 : b ≠ g) : Keeps Bs b W (W.setCell ⟨g, j, none⟩ x) := fun p hp =>
 World.cell?_of_block (Below.heap_setCell W ⟨g, j, none⟩ x p.block (by rcases hp with e | e <;> rw [e] <;> assumption))
theorem Keeps.drew {Bs b : Nat} {W W' : World} (h : Keeps Bs b W W') : Keeps Bs b W W'.drew := h
theorem from_set {NL : Nat} (W : World) (p : Addr) (x : Value) : KeepsFrom NL W (W.setCell p x) := (KeepsOthers.setCell _ _ _).from _
theorem from_drew {NL : Nat} (W : World) : KeepsFrom NL W W.drew := (KeepsOthers.drew _).from _
structure RfX (NL : Nat) (w : World) (v : AdjV.V) (dims : List Int) (c : Code) (pre : List (Spot dims)) (W : World) : Prop where
 ret : c = .ret
 no : AdjV.go dims.reverse (AdjV.blocks v) = none
 size : NL ≤ W.heap.size
 view : Blk W (w.heap.size + 1) 68 #[.int .i64 0, .slice none 0 0, .slice none 0 0]
 err : Blk W (w.heap.size + 1 + 1) 27 #[.int .i64 9]
 below : Below w.heap.size w W
theorem RfX.own {NL : Nat} {w : World} {v : AdjV.V} {dims : List Int} {c : Code} (hN : w.heap.size + 1 + 1 < NL) : OwnFrom NL (RfX NL w v dims c) :=
 own_from_below (N := NL) (Nat.le_refl _) (fun s X Y h hb => ⟨h.ret, h.no, Nat.le_trans h.size hb.size, h.view.below hb (by omega), h.err.below hb hN, h.below.trans (hb.mono (by omega))⟩) (fun s X h => h.size)
theorem stopped {NL : Nat} {w W : World} {v : AdjV.V} {dims : List Int} {pre : List (Spot dims)} (hno : AdjV.go dims.reverse (AdjV.blocks v) = none) (hs : NL ≤ W.heap.size) (hv : Blk W (w.heap.size + 1) 68 #[.int .i64 0, .slice none 0 0, .slice none 0 0])
    (he : Blk W (w.heap.size + 1 + 1) 27 #[.int .i64 0]) (hb : Below w.heap.size w W) :
    let W' := (((W.setCell ⟨w.heap.size + 1, 0, none⟩ (.int .i64 0)).setCell ⟨w.heap.size + 1, 1, none⟩ (.slice none 0 0)).setCell ⟨w.heap.size + 1, 2, none⟩ (.slice none 0 0)).setCell ⟨w.heap.size + 1 + 1, 0, none⟩ (.int .i64 9)
    KeepsFrom NL W W' ∧ RfX NL w v dims .ret pre W' := by
 intro W'
 refine ⟨(((from_set _ _ _).trans (from_set _ _ _)).trans (from_set _ _ _)).trans (from_set _ _ _), rfl, hno, by simpa [W'] using hs, ?_, ?_, ?_⟩
 ·exact (((hv.set_ 0 _).set_ 1 _).set_ 2 _).far (p := ⟨w.heap.size + 1 + 1, 0, none⟩) (by simp) _
 ·exact (((he.far (p := ⟨w.heap.size + 1, 0, none⟩) (by simp) _).far (p := ⟨w.heap.size + 1, 1, none⟩) (by simp) _).far (p := ⟨w.heap.size + 1, 2, none⟩) (by simp) _).set_ 0 _
 ·exact (((hb.setCell (p := ⟨w.heap.size + 1, 0, none⟩) (by simp) _).setCell (p := ⟨w.heap.size + 1, 1, none⟩) (by simp) _).setCell (p := ⟨w.heap.size + 1, 2, none⟩) (by simp) _).setCell (p := ⟨w.heap.size + 1 + 1, 0, none⟩) (by simp; omega) _
theorem IntsAt.same {w w' : World} {B B' : Nat} {A : Option Addr} {l : List Int} (h : IntsAt w B A l) (hB : B ≤ B') (hs : ∀ b off, A = some ⟨b, off, none⟩ → 0 < l.length → w'.heap[b]? = w.heap[b]?) : IntsAt w' B' A l := fun hp => by
 obtain ⟨b, off, hA, hlt, hc⟩ := h hp
 exact ⟨b, off, hA, by omega, fun i hi => (World.cell?_of_block (hs b off hA hp)).trans (hc i hi)⟩
structure Last (w w8 : World) (D : Nat) (x y z e : Value) (WF : World) : Prop where
 eq : ((((w8.setCell ⟨w.heap.size + 1, 0, none⟩ x).setCell ⟨w.heap.size + 1, 1, none⟩ y).setCell ⟨w.heap.size + 1, 2, none⟩ z).setCell ⟨w.heap.size + 1 + 1, 0, none⟩ e).putObj D (.deferred none) = WF
theorem Last.same {w w8 WF : World} {D : Nat} {x y z e : Value} (h : Last w w8 D x y z e WF) (b : Nat) (h1 : b ≠ w.heap.size + 1) (h2 : b ≠ w.heap.size + 1 + 1) (h3 : b ≠ D) : WF.heap[b]? = w8.heap[b]? := by
 rw [← h.eq, World.putObj_heap_other h3]
 exact (Below.heap_setCell _ ⟨w.heap.size + 1 + 1, 0, none⟩ e b h2).trans ((Below.heap_setCell _ ⟨w.heap.size + 1, 2, none⟩ z b h1).trans ((Below.heap_setCell _ ⟨w.heap.size + 1, 1, none⟩ y b h1).trans (Below.heap_setCell _ ⟨w.heap.size + 1, 0, none⟩ x b h1)))
theorem Last.size {w w8 WF : World} {D : Nat} {x y z e : Value} (h : Last w w8 D x y z e WF) : WF.heap.size = w8.heap.size := by
 rw [← h.eq]; simp [World.putObj]
theorem Last.cells {w w8 WF : World} {D : Nat} {x y z e a b c d : Value} (h : Last w w8 D x y z e WF) (hv : Blk w8 (w.heap.size + 1) 68 #[a, b, c]) (he : Blk w8 (w.heap.size + 1 + 1) 27 #[d]) (hD : w.heap.size + 1 + 1 < D) :
    Blk WF (w.heap.size + 1) 68 #[x, y, z] ∧ Blk WF (w.heap.size + 1 + 1) 27 #[e] := by
 have h1 := (((hv.set_ 0 x).set_ 1 y).set_ 2 z).far (p := ⟨w.heap.size + 1 + 1, 0, none⟩) (by simp) e
 have h2 := (((he.far (p := ⟨w.heap.size + 1, 0, none⟩) (by simp) x).far (p := ⟨w.heap.size + 1, 1, none⟩) (by simp) y).far (p := ⟨w.heap.size + 1, 2, none⟩) (by simp) z).set_ 0 e
 rw [← h.eq]
 exact ⟨(World.putObj_heap_other (by omega)).trans h1, (World.putObj_heap_other (by omega)).trans h2⟩
theorem Last.below {w w8 WF : World} {D : Nat} {x y z e : Value} (h : Last w w8 D x y z e WF) (hb : Below w.heap.size w w8) (hD : w.heap.size ≤ D) (hD2 : D < w8.heap.size) : Below w.heap.size w WF := by
 rw [← h.eq]
 refine ((((hb.setCell (p := ⟨w.heap.size + 1, 0, none⟩) (by simp) x).setCell (p := ⟨w.heap.size + 1, 1, none⟩) (by simp) y).setCell (p := ⟨w.heap.size + 1, 2, none⟩) (by simp) z).setCell (p := ⟨w.heap.size + 1 + 1, 0, none⟩) (by simp; omega) e).grown (grownBy_putObj' _ D (.deferred none)) (by have := hb.size; simp; omega) (fun k e => by cases e; exact hD)
theorem deferred_still {w w8 : World} {D : Nat} {x y z e : Value} (h : w8.heap[D]? = some (.deferred (some []))) (hD : w.heap.size + 1 + 1 < D) :
    ((((w8.setCell ⟨w.heap.size + 1, 0, none⟩ x).setCell ⟨w.heap.size + 1, 1, none⟩ y).setCell ⟨w.heap.size + 1, 2, none⟩ z).setCell ⟨w.heap.size + 1 + 1, 0, none⟩ e).heap[D]? = some (.deferred (some [])) :=
 (Below.heap_setCell _ ⟨w.heap.size + 1 + 1, 0, none⟩ e D (by simp; omega)).trans ((Below.heap_setCell _ ⟨w.heap.size + 1, 2, none⟩ z D (by simp; omega)).trans ((Below.heap_setCell _ ⟨w.heap.size + 1, 1, none⟩ y D (by simp; omega)).trans ((Below.heap_setCell _ ⟨w.heap.size + 1, 0, none⟩ x D (by simp; omega)).trans h)))
theorem steps_put {n j q : Nat} {ss : List Int} (hs : ss.length = j) (hj : j < n) (hq : q = n - 1 - j) (s : Int) : (List.replicate (n - j) 0 ++ ss.reverse).set q s = List.replicate (n - (j + 1)) 0 ++ (ss ++ [s]).reverse := by
 subst hq
 rw [List.set_append_left _ _ (by rw [List.length_replicate]; omega)]
 rw [show n - j = (n - (j + 1)) + 1 by omega, List.replicate_succ', List.set_append_right _ _ (by rw [List.length_replicate]; omega), List.length_replicate, show n - 1 - j - (n - (j + 1)) = 0 by omega]
 simp
theorem steps_zero {n j : Nat} {ss : List Int} (hj : j < n) : List.replicate (n - j) 0 ++ ss.reverse = List.replicate (n - (j + 1)) (0 : Int) ++ (ss ++ [0]).reverse := by
 rw [show n - j = (n - (j + 1)) + 1 by omega, List.replicate_succ']
 simp
theorem order_next {dims : List Int} {pre : List (Spot dims)} {q : Nat} {hq : q < dims.length} (h : pre.map (·.1) = upto (down dims.length) pre.length) (hR : q = down dims.length pre.length) :
    (pre ++ [(⟨q, hq⟩ : Spot dims)]).map (·.1) = upto (down dims.length) (pre ++ [(⟨q, hq⟩ : Spot dims)]).length := by
 rw [List.map_append, List.map_singleton, h, List.length_append, List.length_singleton, upto_succ, ← hR]
theorem rev_at {dims : List Int} {j q : Nat} (hq : q < dims.length) (h : q = down dims.length j) (hj : j < dims.length) : dims.reverse.take (j + 1) = dims.reverse.take j ++ [dims[q]] := by
 rw [AdjV.take_next dims.reverse j (by rw [List.length_reverse]; exact hj), List.getElem_reverse]
 congr 3
 unfold down at h
 omega
end Vw
end Go.Proofs.Ytapedmpbkffopaa
end
