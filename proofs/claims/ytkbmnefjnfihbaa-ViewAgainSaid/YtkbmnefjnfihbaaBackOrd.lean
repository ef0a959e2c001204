/-
  slices.Backward at ints, where a round is known from what has come before; the walk of the program's Reform. Conditions: the view and the list can be read.
-/
import Derived.Test.YtkbmnefjnfihbaaViewF
import Derived.Test.YtkbmnefjnfihbaaViewG
import Derived.Test.YtkbmnefjnfihbaaOrdered
namespace Go.Proofs.Ytkbmnefjnfihbaa
set_option linter.unusedVariables false
open Go.RowKit Go.Shelf Adj
attribute [local go_sem] Oper.semAt_some

set_option maxRecDepth 100000 in
set_option maxHeartbeats 2000000 in
theorem back1_ord (F : Fence) (n : Nat) (h7 : F.fn 58) (hro : F.round = none) (hn : 1 ≤ n) (y Bs b off cap : Nat) (l : List Int) (hlen : l.length ≤ 9223372036854775807) (J Jx : List (Vw.Spot l) → World → Prop)
    (hY : ∀ pre (x : Vw.Spot l) W, J pre W → pre.length < l.length → x.1 = Vw.down l.length pre.length → YieldAt F (n - 1) Try.prog y (Vw.told x) W fun e W' =>
      (e = .returned (.bool true) ∧ J (pre ++ [x]) W' ∧ Vw.Keeps Bs b W W') ∨ (e = .returned (.bool false) ∧ Jx (pre ++ [x]) W'))
    (W : World) (hBs : W.cell? ⟨Bs, 0, none⟩ = some (.slice (some ⟨b, off, none⟩) l.length cap)) (hc : ∀ j (h : j < l.length), W.cell? ⟨b, off + j, none⟩ = some (.int .i64 l[j])) (h0 : J [] W) :
    CallsIn F n Try.prog 58 #[.func (.yield y) #[] #[], .pointer (some ⟨Bs, 0, none⟩)] W fun e W' => (∃ v, e = .returned v) ∧
      ((∃ ys, ys.map (·.1) = Vw.upto (Vw.down l.length) l.length ∧ J ys W') ∨ (∃ pre, True ∧ Jx pre W')) := by
  refine callsIn_of_wp Try.func58 rfl h7 ?_ hro
  simp only [Try.ntmps58, List.size_toArray, List.length_cons, List.length_nil, Nat.reduceAdd, Nat.reduceSub, Array.replicate_succ, Array.replicate_zero, List.push_toArray, List.append_toArray, List.nil_append, List.cons_append]
  gi_wp2
  gi_loopw [3] (fun i wr => ∃ (k : Nat) (pre : List (Vw.Spot l)), k ≤ l.length ∧ i = .int .i64 ((l.length : Int) - 1 - k) ∧ pre.map (·.1) = Vw.upto (Vw.down l.length) k ∧ J pre wr ∧ Vw.Keeps Bs b W wr)
    (fun i _ => (intOf i + 1).toNat)
  case atStart => exact ⟨0, [], Nat.zero_le _, by go_num, rfl, h0, Vw.Keeps.refl _ _ _⟩
  case round =>
    obtain ⟨k, pre, hk, rfl, hpre, hJs, hnx⟩ := hrel
    have hbs' : wr.cell? ⟨Bs, 0, none⟩ = some (.slice (some ⟨b, off, none⟩) l.length cap) := (hnx ⟨Bs, 0, none⟩ (.inl rfl)).trans hBs
    have hpl : pre.length = k := by have := congrArg List.length hpre; rwa [List.length_map, Vw.upto_length] at this
    have HPRE := Lib.hid hpre
    clear hpre
    by_cases hlt : k < l.length
    · obtain ⟨q, hq⟩ : ∃ q, l.length = k + 1 + q := ⟨l.length - (k + 1), by omega⟩
      have hqi : (l.length : Int) - 1 - k = (q : Int) := by omega
      have hql : q < l.length := by omega
      have hcx : wr.cell? ⟨b, off + q, none⟩ = some (.int .i64 l[q]) := (hnx ⟨b, off + q, none⟩ (.inr rfl)).trans (hc q hql)
      have hdn : Vw.down l.length k = q := by unfold Vw.down; omega
      have hi1 : (0 : Int) ≤ (q : Int) := by omega
      have hi2 : (q : Int) < (l.length : Int) := by omega
      rw [hqi]
      have HQ := Lib.hid hq
      have HDN := Lib.hid hdn
      clear hq hqi hdn
      obtain ⟨fn, tmps, assign, body, hy, hR⟩ := hY pre ⟨q, hql⟩ wr hJs (by omega) (by rw [hpl]; exact HDN.out.symm)
      unfold Vw.told at hy
      dsimp only at hy
      generalize l[q] = x at hcx hy
      gi_wp2
      refine hR.mono ?_
      rintro e W3 (⟨rfl, hJ3, hk3⟩ | ⟨rfl, hJx3⟩)
      · gi_wp2
        go_roundw
        case rel => exact ⟨k + 1, pre ++ [⟨q, hql⟩], by omega, by have := HQ.out; congr 1; omega, by rw [Vw.upto_succ, HDN.out, List.map_append, HPRE.out]; rfl, hJ3, hnx.trans hk3⟩
        case measure => (simp [intOf] <;> omega)
      · gi_wp2
        refine bodyPost_ret (results_none rfl _ _ _) rfl ?_
        exact ⟨⟨_, rfl⟩, .inr ⟨_, trivial, hJx3⟩⟩
    · obtain rfl : k = l.length := by omega
      have hi0 : (l.length : Int) - 1 - (l.length : Int) = -1 := by omega
      rw [hi0]
      gi_wp2
      go_end0
      exact ⟨⟨_, rfl⟩, .inl ⟨_, HPRE.out, hJs⟩⟩


/-- slices.Backward(l) hands back a value that gives the pairs, the last one first, as long as the box and the list are let be. -/
theorem back_ord (F : Fence) (n : Nat) (h8 : F.fn 58) (hro : F.round = none) (hn : 1 ≤ n) (Bs : Nat) (A : Option Addr) (cap B : Nat) (l : List Int) (hlen : l.length ≤ 9223372036854775807) (w : World) (hBs : Bs < w.heap.size) (hB : B ≤ w.heap.size)
    (hc : w.cell? ⟨Bs, 0, none⟩ = some (.slice A l.length cap)) (hI : Vw.IntsAt w B A l) :
    ∃ b, (b = Bs ∨ b < B) ∧ SeqOrd F n Try.prog 58 #[.pointer (some ⟨Bs, 0, none⟩)] (fun x : Vw.Spot l => Vw.told x) (Vw.Keeps Bs b) (fun pre x => x.1 = Vw.down l.length pre.length) (fun ys => ys.map (·.1) = Vw.upto (Vw.down l.length) l.length)
      (fun _ => True) l.length w := by
  by_cases h : 0 < l.length
  · obtain ⟨b, off, rfl, hb, hcs⟩ := hI h
    refine ⟨b, .inr hb, fun y J Jx W hW _ _ hY h0 => ?_⟩
    have hc' := (hW.cell (p := ⟨Bs, 0, none⟩) hBs).trans hc
    exact back1_ord F n h8 hro hn y Bs b off cap l hlen J Jx hY W hc' (fun i hi => (hW.cell (p := ⟨b, off + i, none⟩) (Nat.lt_of_lt_of_le hb hB)).trans (hcs i hi)) h0
  · obtain rfl : l = [] := List.length_eq_zero_iff.1 (by omega)
    exact ⟨Bs, .inl rfl, fun y J Jx W hW _ _ hY h0 => (back1_nil_in F n h8 hro y Bs A cap J W ((hW.cell (p := ⟨Bs, 0, none⟩) hBs).trans hc) h0).mono fun e W' ⟨he, hj⟩ => ⟨he, .inl ⟨[], rfl, hj⟩⟩⟩
end Go.Proofs.Ytkbmnefjnfihbaa
