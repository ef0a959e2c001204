/-
  The walk of array.joined; Plain: what an operation that only looks at an array in another way makes, as the program goes about it; that it is what the rules say; A view that is being made: kept while new memory is made; The walk of the program's blocks; A range over a function whose rounds come in a known order: what a round is handed is known from what has come before. Conditions: where the theorems name them.
-/
import Derived.Test.YtapedmpbkffopaaZ02
import Derived.Test.YtapedmpbkffopaaZ09
import Derived.Test.YtapedmpbkffopaaZ10
import Derived.Test.YtapedmpbkffopaaZ11
import Derived.Test.YtapedmpbkffopaaZ12
import Derived.Deep.QuietTactic
import Derived.BigQuiet
import Derived.RangeFuncNested
import Derived.RangeFuncWrites
section
namespace Go.Proofs.Ytapedmpbkffopaa
set_option linter.unusedVariables false
open Go.RowKit Adj
namespace Ar
def Pre (w : World) (g c : Nat) (cur : List Int) : Prop := ∃ row : Array Value, Blk w g 3 row ∧ row.size = c ∧ cur.length ≤ c ∧ ∀ i (h : i < cur.length), row[i]? = some (.int .i64 cur[i])
theorem Pre.lt {w : World} {g c : Nat} {cur : List Int} (h : Pre w g c cur) : g < w.heap.size := by
 obtain ⟨row, h1, _⟩ := h
 exact h1.lt
theorem Pre.drewN {w : World} {g c : Nat} {cur : List Int} (h : Pre w g c cur) (n : Nat) : Pre (w.drewN n) g c cur := by
 obtain ⟨row, h1, h2⟩ := h
 exact ⟨row, h1.drewN n, h2⟩
theorem Pre.drew {w : World} {g c : Nat} {cur : List Int} (h : Pre w g c cur) : Pre w.drew g c cur := by
 obtain ⟨row, h1, h2⟩ := h
 exact ⟨row, h1.drew, h2⟩
theorem Pre.cell {w : World} {g c : Nat} {cur : List Int} (h : Pre w g c cur) {i : Nat} (hi : i < cur.length) : w.cell? ⟨g, i, none⟩ = some (.int .i64 cur[i]) := by
 obtain ⟨row, h1, h2, h3, h4⟩ := h
 exact h1.at (h4 i hi)
theorem Pre.frozen {w : World} {g c : Nat} {cur : List Int} (h : Pre w g c cur) (i : Nat) : w.frozen? ⟨g, i, none⟩ = false := by
 obtain ⟨row, h1, _⟩ := h
 exact h1.frozen i
theorem Pre.set {w : World} {g c : Nat} {cur : List Int} (h : Pre w g c cur) {i : Nat} (hi : i < cur.length) (x : Int) : Pre (w.setCell ⟨g, i, none⟩ (.int .i64 x)) g c (cur.set i x) := by
 obtain ⟨row, h1, h2, h3, h4⟩ := h
 refine ⟨_, h1.set_ i _, by simpa using h2, by rw [List.length_set]; exact h3, fun j hj => ?_⟩
 rw [List.length_set] at hj
 simp only [Array.getElem?_setIfInBounds]
 rw [List.getElem_set]
 by_cases e : i = j
 ·subst e
  rw [if_pos rfl, if_pos (by omega), if_pos rfl]
 ·rw [if_neg e, if_neg e]
  exact h4 j hj
theorem Pre.own {w : World} {base n : Nat} {v : Value} {l : List Int} (h : w.ownsRow base 3 1 v n (ints l)) (hp : 0 < l.length) : ∃ g c, v = .slice (some ⟨g, 0, none⟩) l.length c ∧ base ≤ g ∧ Pre w g c l ∧ c ≤ 9223372036854775807 := by
 have hn : l.length = n := by
  have h1 := h.1
  rw [ints_length, Nat.mul_one] at h1
  exact h1
 subst hn
 rcases h.2 with ⟨_, h0⟩ | ⟨g, cap, cur, rfl, hb, hh, hc, hm, hs, ht⟩
 ·omega
 ·refine ⟨g, cap, rfl, hb, ⟨cur, hh, by omega, hc, fun i hi => ?_⟩, by unfold maxLen at hm; omega⟩
  have h2 : (cur.toList.take (l.length * 1))[i]? = some (.int .i64 l[i]) := by rw [ht]; exact ints_at l i hi
  rw [List.getElem?_take, if_pos (by omega)] at h2
  simpa using h2
theorem Pre.sl {w : World} {g c : Nat} {cur : List Int} (h : Pre w g c cur) (hm : c ≤ 9223372036854775807) : SlAt w w.heap.size (.slice (some ⟨g, 0, none⟩) cur.length c) cur := by
 have hlt := h.lt
 obtain ⟨row, h1, h2, h3, h4⟩ := h
 refine ⟨_, _, rfl, fun hp => ⟨g, 0, rfl, hlt, fun i hi => ?_⟩, h3, hm⟩
 rw [Nat.zero_add]
 exact h1.at (h4 i hi)
end Ar
namespace AdjD'
open AdjD (fitJ joinGo)
theorem fit_bad {k : Nat} {out d : List Int} {j : Nat} (hj : j < out.length) (h1 : j ≠ k) (h2 : d.getD j 0 ≠ out.getD j 0) : fitJ k out d = false := by
 cases h : fitJ k out d with
 | false => rfl
 | true =>
  unfold AdjD.fitJ at h
  rw [Bool.and_eq_true] at h
  have h3 := List.all_eq_true.1 h.2 j (List.mem_range.2 hj)
  simp only [Bool.or_eq_true, decide_eq_true_eq] at h3
  exact absurd h3 (fun h => h.elim h1 h2)
theorem fit_len {k : Nat} {out d : List Int} (h : d.length ≠ out.length) : fitJ k out d = false := by unfold AdjD.fitJ; rw [decide_eq_false h]; rfl
theorem fit_good {k : Nat} {out d : List Int} (h1 : d.length = out.length) (h : ∀ j, j < out.length → j = k ∨ d.getD j 0 = out.getD j 0) : fitJ k out d = true := by
 unfold AdjD.fitJ
 rw [decide_eq_true h1, Bool.true_and]
 exact List.all_eq_true.2 (fun j hj => by
  simp only [Bool.or_eq_true, decide_eq_true_eq]
  exact h j (List.mem_range.1 hj))
theorem getD_setI (l : List Int) (i k : Nat) (x : Int) (hi : i < l.length) : (l.set i x).getD k 0 = if k = i then x else l.getD k 0 := by
 rw [List.getD_eq_getElem?_getD, List.getElem?_set]
 by_cases e : i = k
 ·subst e; simp [hi]
 ·rw [if_neg e, if_neg (Ne.symm e), List.getD_eq_getElem?_getD]
end AdjD'
set_option maxRecDepth 100000 in
set_option maxHeartbeats 8000000 in
theorem Ar.joined_any (op : AdjD.Op) (A A' : Option Addr) (ca cd : Nat) (args : List (List Int)) (B : Nat) (w : World) (hB : B ≤ w.heap.size) (hl : op.at_.length ≤ 9223372036854775807) (hn0 : 0 < args.length) (hn : args.length ≤ 1099511627776) (hcd : args.length ≤ cd) (hcd2 : cd ≤ 9223372036854775807)
    (hsz : ∀ d ∈ args, d.length ≤ 6 ∧ ∀ x ∈ d, 0 ≤ x ∧ x ≤ 4096) (h1 : Vw.IntsAt w B A op.at_) (h2 : Ar.ListsAt w B A' args) :
    Calls Try.prog 40 #[.slice A op.at_.length ca, .slice A' args.length cd] w fun e w' => ∃ v, e = .returned (.tuple #[v, .int .i64 (AdjD.joinDims op args).2]) ∧ Ar.FrAt w.heap.size w' v (AdjD.joinDims op args).1 ∧ Below w.heap.size w w' := by
 have HE := Lib.hid (show AdjD.joinDims op args = if op.at_.length ≠ 1 ∨ op.at_.getD 0 0 < 0 ∨ ((args.getD 0 []).length : Int) ≤ op.at_.getD 0 0 then ([], 6) else AdjD.joinGo (op.at_.getD 0 0).toNat (args.getD 0 []) (args.drop 1) from rfl)
 have HA := Lib.hid h1
 have HL := Lib.hid h2
 have HSZ := Lib.hid hsz
 obtain ⟨b, off, rfl, hbB, hc⟩ := h2 hn0
 obtain ⟨v0, cv0, A0, c0, rfl, i0, l0, m0⟩ := hc 0 hn0
 have e0 : args.getD 0 [] = args[0] := by simp [List.getD_eq_getElem?_getD, hn0]
 have hs0 := hsz args[0] (List.getElem_mem hn0)
 obtain ⟨n, hnn⟩ : ∃ n, args.length = n := ⟨_, rfl⟩
 have HN := Lib.hid hnn
 have H0 := Lib.hid i0
 rw [e0] at HE
 rw [hnn] at hn0 hn hcd ⊢
 rw [Nat.add_zero] at cv0
 clear hnn h1 h2 hsz hc i0 e0
 generalize args[0] = a0 at HE cv0 l0 hs0 H0
 obtain ⟨r, hr⟩ : ∃ r, a0.length = r := ⟨_, rfl⟩
 rw [hr] at HE cv0 l0 hs0
 have HR := Lib.hid hr
 have hn1 : (0 : Int) < (n : Int) := by omega
 clear hr
 by_cases h1 : op.at_.length = 1
 ·have d1 : ((op.at_.length : Int) != 1) = false := by simp; omega
  obtain ⟨ba, oa, rfl, hba, ga⟩ := HA.out (by omega)
  have ca0 := ga 0 (by omega)
  rw [← AdjD.getD_at op.at_ 0 (by omega), Nat.add_zero] at ca0
  have hl1 : (0 : Int) < (op.at_.length : Int) := by omega
  have e9 : op.at_.getD 0 0 = op.at_[0] := AdjD.getD_at op.at_ 0 (by omega)
  have CA0 := Lib.hid (show Value.int .i64 (op.at_.getD 0 0) = Value.int .i64 op.at_[0] by rw [e9]) 
  clear ga e9
  generalize op.at_.getD 0 0 = q0 at HE ca0 CA0
  by_cases h2 : q0 < 0
  ·have HV := Lib.hid (show AdjD.joinDims op args = ([], 6) by rw [HE.out, if_pos (.inr (.inl h2))])
   go_enter Try.func40, Try.ntmps40
   go_wp2_with fail
   go_quiet (fail)
   go_wp2_with fail
   go_ret2
   rw [HV.out]
   exact ⟨_, rfl, Ar.FrAt.nil _ _, below_drewN (Below.refl _ _) nq⟩
  ·have d2 : decide (q0 < 0) = false := by simpa using h2
   by_cases h3 : (r : Int) ≤ q0
   ·have HV := Lib.hid (show AdjD.joinDims op args = ([], 6) by rw [HE.out, if_pos (.inr (.inr h3))])
    have d3 : decide ((r : Int) ≤ q0) = true := by simpa using h3
    go_enter Try.func40, Try.ntmps40
    go_wp2_with fail
    go_quiet (fail)
    go_wp2_with fail
    go_ret2
    rw [HV.out]
    exact ⟨_, rfl, Ar.FrAt.nil _ _, below_drewN (Below.refl _ _) nq⟩
   ·have d3 : decide ((r : Int) ≤ q0) = false := by simpa using h3
    obtain ⟨q, rfl⟩ : ∃ q : Nat, q0 = (q : Int) := ⟨q0.toNat, by omega⟩
    have hqr : q < r := by omega
    have HV := Lib.hid (show AdjD.joinDims op args = AdjD.joinGo q a0 (args.drop 1) by
     rw [HE.out, if_neg (fun h => h.elim (fun h => h h1) (fun h => h.elim h2 h3)), Int.toNat_natCast])
    have HCL := Lib.hid (fun W (hb : Below w.heap.size w W) => Clone_any A0 c0 a0 B W (by have := HR.out; omega) (H0.out.below (hb.mono hB)) (by have := hb.size; omega))
    have HB0 := Lib.hid (fun m => below_drewN (Below.refl w.heap.size w) m)
    have HR2 := Lib.hid HR.out
    go_enter Try.func40, Try.ntmps40
    go_wp2_with fail
    go_quiet (fail)
    have HB1 := Lib.hid (HB0.out nq)
    have cv1 : (w.drewN nq).cell? ⟨b, off, none⟩ = some (.slice A0 r c0) := cv0
    have ca1 : (w.drewN nq).cell? ⟨ba, oa, none⟩ = some (.int .i64 (q : Int)) := ca0
    have HCL1 := Lib.hid (HCL.out _ HB1.out)
    rw [HR2.out] at HCL1
    have hws : w.heap.size ≤ (w.drewN nq).heap.size := HB1.out.size
    generalize w.drewN nq = w1 at HB1 HCL1 cv1 hws ca1 ⊢
    clear h2 h3 d1 d2 d3 cv0 ca0
    go_wp2_with fail
    ((with_reducible refine HCL1.out.mono ?_); rintro e w2 ⟨v, rfl, ho2, hb2⟩)
    obtain ⟨g, cg, hv, hgb, hpre, hcg⟩ := Ar.Pre.own ho2 (by have := HR2.out; omega)
    rw [HR2.out] at hv
    subst hv
    have HP2 := Lib.hid hpre
    have HB2 := Lib.hid (HB1.out.trans (hb2.mono HB1.out.size))
    clear ho2 hb2 cv1 ca1 hpre
    obtain ⟨m, rfl⟩ : ∃ m, n = m + 1 := ⟨n - 1, by omega⟩
    have HBD := Lib.hid (show ∀ j, 0 ≤ a0.getD j 0 ∧ a0.getD j 0 ≤ ((0 : Nat) + 1 : Int) * 4096 from fun j => by
     rw [List.getD_eq_getElem?_getD]
     cases hj : a0[j]? with
     | none => exact ⟨Int.le_refl _, by show (0 : Int) ≤ _; omega⟩
     | some x => have := hs0.2 x (List.mem_of_getElem? hj); exact ⟨this.1, by show x ≤ _; omega⟩)
    have HOUT := Lib.hid (And.intro hgb hcg)
    have hcell : ∀ k (hk : k < m), ∃ v, w.cell? ⟨b, off + (k + 1), none⟩ = some v ∧ Ar.SlAt w B v (args[k + 1]'(by have := HN.out; omega)) := fun k hk => by
     obtain ⟨b', off', e, _, hc⟩ := HL.out (by have := HN.out; omega)
     injection e with e; injection e with e1 e2; subst e1; subst e2
     exact hc (k + 1) (by have := HN.out; omega)
    have HCELL := Lib.hid hcell
    have hgs : w.heap.size ≤ g := by omega
    clear hcell hgb hcg hws
    by_cases hcd1 : cd = 1
    ·have HM0 := Lib.hid (show m = 0 by omega)
     subst hcd1
     go_wp2_with fail
     go_loopw [36] (fun kv wr => ∃ (k : Nat) (cur : List Int), kv = .int .i64 (k : Int) ∧ k ≤ m ∧ cur.length = r ∧ (∀ j, 0 ≤ cur.getD j 0 ∧ cur.getD j 0 ≤ ((k : Int) + 1) * 4096) ∧ AdjD.joinDims op args = AdjD.joinGo q cur (args.drop (k + 1)) ∧ Below w.heap.size w wr ∧ Ar.Pre wr g cg cur) (fun kv _ => m - (intOf kv).toNat)
     case atStart => exact ⟨0, a0, rfl, by omega, HR2.out, HBD.out, HV.out, HB2.out, HP2.out⟩
     case round =>
      obtain ⟨k, cur, rfl, hk, hlen, hbd, hj, hb, hp⟩ := hrel
      have HLE := Lib.hid hlen
      have HBND := Lib.hid hbd
      have HJ := Lib.hid hj
      have HB3 := Lib.hid hb
      have HP3 := Lib.hid hp
      clear hlen hbd hj hb hp
      obtain ⟨wo, rfl⟩ : ∃ wo : World, wo = wr := ⟨_, rfl⟩
      by_cases hkm : k < m
      ·exact absurd hkm (by have := HM0.out; omega)
      ·obtain rfl : k = m := by omega
       have HF := Lib.hid (show AdjD.joinDims op args = (cur, 0) by rw [HJ.out, List.drop_eq_nil_of_le (by have := HN.out; omega)]; rfl)
       have HSL := Lib.hid (HP3.out.sl HOUT.out.2)
       rw [HLE.out] at HSL
       go_wp2_with fail
       go_ret2
       rw [HF.out]
       exact ⟨_, rfl, ⟨HSL.out, fun _ g hg => by simp [Value.ownBlock] at hg; omega⟩, HB3.out⟩
    ·go_wp2_with fail
     go_loopw [36] (fun kv wr => ∃ (k : Nat) (cur : List Int), kv = .int .i64 (k : Int) ∧ k ≤ m ∧ cur.length = r ∧ (∀ j, 0 ≤ cur.getD j 0 ∧ cur.getD j 0 ≤ ((k : Int) + 1) * 4096) ∧ AdjD.joinDims op args = AdjD.joinGo q cur (args.drop (k + 1)) ∧ Below w.heap.size w wr ∧ Ar.Pre wr g cg cur) (fun kv _ => m - (intOf kv).toNat)
     case atStart => exact ⟨0, a0, rfl, by omega, HR2.out, HBD.out, HV.out, HB2.out, HP2.out⟩
     case round =>
      obtain ⟨k, cur, rfl, hk, hlen, hbd, hj, hb, hp⟩ := hrel
      have HLE := Lib.hid hlen
      have HBND := Lib.hid hbd
      have HJ := Lib.hid hj
      have HB3 := Lib.hid hb
      have HP3 := Lib.hid hp
      clear hlen hbd hj hb hp
      obtain ⟨wo, rfl⟩ : ∃ wo : World, wo = wr := ⟨_, rfl⟩
      by_cases hkm : k < m
      ·have hkl : k + 1 < args.length := by have := HN.out; omega
       obtain ⟨v, cv, Ai, ci, rfl, hi, hl1, hl2⟩ := HCELL.out k hkm
       have cv3 := (HB3.out.cell (p := ⟨b, off + (k + 1), none⟩) (by show b < w.heap.size; omega)).trans cv
       have hoff : (off + 1) + k = off + (k + 1) := by omega
       rw [← hoff] at cv3
       have HX := Lib.hid (hi.below (HB3.out.mono hB))
       have hsx := HSZ.out args[k + 1] (List.getElem_mem hkl)
       have HJN := Lib.hid (show AdjD.joinDims op args = if AdjD.fitJ q cur args[k + 1] then AdjD.joinGo q (cur.set q (cur.getD q 0 + (args[k + 1]).getD q 0)) (args.drop (k + 1 + 1)) else ([], 6) by
        rw [HJ.out, List.drop_eq_getElem_cons hkl]; rfl)
       have i1 : (0 : Int) ≤ (k : Int) := by omega
       have i2 : (k : Int) < (m : Int) := by omega
       clear cv hi hoff
       generalize args[k + 1] = x at cv3 HX hsx HJN hl1
       by_cases hxl : x.length = r
       ·rw [hxl] at cv3
        have HXL := Lib.hid hxl
        have hxl2 : (r : Int) ≤ 6 := by omega
        have d0 : ((r : Int) != (r : Int)) = false := by simp
        clear hxl
        have HBI := Lib.hid (show Below wo.heap.size wo wo from Below.refl _ _)
        go_wp2_with fail
        go_loopw [47] (fun jv wr => ∃ (j d : Nat), jv = .int .i64 (j : Int) ∧ j ≤ r ∧ (∀ i, i < j → i = q ∨ x.getD i 0 = cur.getD i 0) ∧ wr = wo.drewN d) (fun jv _ => r - (intOf jv).toNat)
        case atStart => exact ⟨0, 0, rfl, by omega, fun i hi => by omega, rfl⟩
        case round =>
         obtain ⟨j, d, rfl, hjr, hsame, hd⟩ := hrel
         have HSM := Lib.hid hsame
         have HD := Lib.hid hd
         have HB4 := Lib.hid (show Below w.heap.size w wr by rw [hd]; exact below_drewN HB3.out d)
         have HP4 := Lib.hid (show Ar.Pre wr g cg cur by rw [hd]; exact HP3.out.drewN d)
         have ca1 : wr.cell? ⟨ba, oa, none⟩ = some (.int .i64 (q : Int)) := by
          obtain ⟨b', o', e, hb', hc'⟩ := HA.out (by omega)
          injection e with e; injection e with e1 e2; subst e1; subst e2
          have h := hc' 0 (by omega)
          rw [Nat.add_zero] at h
          refine (HB4.out.cell (p := ⟨ba, oa, none⟩) (by show ba < w.heap.size; omega)).trans ?_
          rw [h, CA0.out]
         clear hsame hd
         by_cases hjr2 : j < r
         ·obtain ⟨bx, ox, rfl, hbx, gx⟩ := HX.out (by have := HXL.out; omega)
          have cx : wr.cell? ⟨bx, ox + j, none⟩ = some (.int .i64 (x.getD j 0)) := by
           rw [HD.out, AdjD.getD_at x j (by have := HXL.out; omega)]; exact gx j (by have := HXL.out; omega)
          have cc : wr.cell? ⟨g, j, none⟩ = some (.int .i64 (cur.getD j 0)) := by
           rw [AdjD.getD_at cur j (by have := HLE.out; omega)]; exact HP4.out.cell (by have := HLE.out; omega)
          have HYES := Lib.hid (fun (h : j = q ∨ x.getD j 0 = cur.getD j 0) => show ∀ i, i < j + 1 → i = q ∨ x.getD i 0 = cur.getD i 0 from fun i hi => by
           by_cases e : i = j
           ·subst e; exact h
           ·exact HSM.out i (by omega))
          have HNO := Lib.hid (fun (h1 : j ≠ q) (h2 : x.getD j 0 ≠ cur.getD j 0) => show AdjD.joinDims op args = ([], 6) by
           rw [HJN.out, AdjD'.fit_bad (by have := HLE.out; omega) h1 h2]; rfl)
          have j1 : (0 : Int) ≤ (j : Int) := by omega
          have j2 : (j : Int) < (r : Int) := by omega
          clear gx
          generalize x.getD j 0 = xv at cx HYES HNO
          generalize cur.getD j 0 = cv at cc HYES HNO
          by_cases hjq : j = q
          ·have HY := Lib.hid (HYES.out (.inl hjq))
           subst hjq
           have e0 : ((j : Int) != (j : Int)) = false := by simp
           go_wp2_with fail
           go_quiet (fail)
           have HDQ := Lib.hid (show wr.drewN nq = wo.drewN (d + nq) by rw [HD.out, World.drewN_drewN])
           generalize wr.drewN nq = wq at HDQ ⊢
           go_wp2_with fail
           go_roundw
           case rel => exact ⟨j + 1, d + nq, by go_num, by omega, HY.out, HDQ.out⟩
           case measure => simp [intOf]; omega
          ·have e0 : ((j : Int) != (q : Int)) = true := by simp; omega
           by_cases hxc : xv = cv
           ·have HY := Lib.hid (HYES.out (.inr hxc))
            subst hxc
            have e1 : (xv != xv) = false := by simp
            clear hjq
            go_wp2_with fail
            go_quiet (fail)
            have HDQ := Lib.hid (show wr.drewN nq = wo.drewN (d + nq) by rw [HD.out, World.drewN_drewN])
            generalize wr.drewN nq = wq at HDQ ⊢
            go_wp2_with fail
            go_roundw
            case rel => exact ⟨j + 1, d + nq, by go_num, by omega, HY.out, HDQ.out⟩
            case measure => simp [intOf]; omega
           ·have HN6 := Lib.hid (HNO.out hjq hxc)
            have e1 : (xv != cv) = true := by simpa using hxc
            clear hjq hxc
            go_wp2_with fail
            go_quiet (fail)
            have HB5 := Lib.hid (below_drewN HB4.out nq)
            generalize wr.drewN nq = wq at HB5 ⊢
            go_wp2_with fail
            go_ret2
            rw [HN6.out]
            exact ⟨_, rfl, Ar.FrAt.nil _ _, HB5.out⟩
         ·obtain rfl : j = r := by omega
          have hfit : AdjD.fitJ q cur x = true := AdjD'.fit_good (by rw [HXL.out, HLE.out]) (fun i hi => HSM.out i (by rw [← HLE.out]; exact hi))
          have HJ2 := Lib.hid (show AdjD.joinDims op args = AdjD.joinGo q (cur.set q (cur.getD q 0 + x.getD q 0)) (args.drop (k + 1 + 1)) by rw [HJN.out, hfit]; rfl)
          obtain ⟨bx, ox, rfl, hbx, gx⟩ := HX.out (by have := HXL.out; omega)
          have cx : wr.cell? ⟨bx, ox + q, none⟩ = some (.int .i64 (x.getD q 0)) := by
           rw [HD.out, AdjD.getD_at x q (by have := HXL.out; omega)]; exact gx q (by have := HXL.out; omega)
          have cc : wr.cell? ⟨g, q, none⟩ = some (.int .i64 (cur.getD q 0)) := by
           rw [AdjD.getD_at cur q (by have := HLE.out; omega)]; exact HP4.out.cell (by have := HLE.out; omega)
          have hbq := HBND.out q
          have hxq : 0 ≤ x.getD q 0 ∧ x.getD q 0 ≤ 4096 := by
           rw [AdjD.getD_at x q (by have := HXL.out; omega)]
           exact hsx.2 _ (List.getElem_mem _)
          have fz := HP4.out.frozen q
          have HP5 := Lib.hid ((HP4.out.set (i := q) (by have := HLE.out; omega) (cur.getD q 0 + x.getD q 0)).drew)
          have HB5 := Lib.hid ((HB4.out.setCell (p := ⟨g, q, none⟩) hgs (.int .i64 (cur.getD q 0 + x.getD q 0))).drew)
          have HBN2 := Lib.hid (show ∀ i, 0 ≤ (cur.set q (cur.getD q 0 + x.getD q 0)).getD i 0 ∧ (cur.set q (cur.getD q 0 + x.getD q 0)).getD i 0 ≤ (((k + 1 : Nat) : Int) + 1) * 4096 from fun i => by
           rw [AdjD'.getD_setI _ _ _ _ (by have := HLE.out; omega)]
           by_cases e : i = q
           ·rw [if_pos e]; omega
           ·rw [if_neg e]; have := HBND.out i; omega)
          have HL2 := Lib.hid (show (cur.set q (cur.getD q 0 + x.getD q 0)).length = j by rw [List.length_set, HLE.out])
          have q1 : (0 : Int) ≤ (q : Int) := by omega
          have q2 : (q : Int) < (j : Int) := by omega
          clear hfit gx
          generalize hcu : cur.set q (cur.getD q 0 + x.getD q 0) = cu at HJ2 HP5 HBN2 HL2
          generalize cur.getD q 0 = cv at cc hbq HP5 HB5
          generalize x.getD q 0 = xv at cx hxq HP5 HB5
          have qw : IntKind.i64.wrap (cv + xv) = cv + xv := IntWalk.i64_in _ (by omega)
          clear hcu
          go_wp2_with fail
          refine wp_region_T (fun w' => w'.cell? ⟨ba, oa, none⟩ = some (.int .i64 (q : Int)) ∧ w'.cell? ⟨g, q, none⟩ = some (.int .i64 cv) ∧ w'.cell? ⟨bx, ox + q, none⟩ = some (.int .i64 xv)) 14 (fun _ => True) 14 15 rfl (by kernel_rfl) ⟨⟨ca1, cc, cx⟩, trivial⟩ (fun hHeld => ?_)
          simp only [List.replicate_succ, List.replicate_zero]
          refine tk (v := ?_) [] 0 67 hHeld ?_ ?_; rotate_left; (intro w h; (try dsimp only at h); go_simp; try with_reducible rfl); try simp only [Act.put, zA, zB, zC]
          refine tk (v := ?_) [] 1 68 hHeld ?_ ?_; rotate_left; (intro w h; (try dsimp only at h); go_simp; try with_reducible rfl); try simp only [Act.put, zA, zB, zC]
          refine tk (v := ?_) [] 2 69 hHeld ?_ ?_; rotate_left; (intro w h; (try dsimp only at h); go_simp; try with_reducible rfl); try simp only [Act.put, zA, zB, zC]
          refine tk (v := ?_) [] 3 70 hHeld ?_ ?_; rotate_left; (intro w h; (try dsimp only at h); go_simp; try with_reducible rfl); try simp only [Act.put, zA, zB, zC]
          refine tk (v := ?_) [] 4 71 hHeld ?_ ?_; rotate_left; (intro w h; (try dsimp only at h); go_simp; try with_reducible rfl); try simp only [Act.put, zA, zB, zC]
          refine tk (v := ?_) [] 5 72 hHeld ?_ ?_; rotate_left; (intro w h; (try dsimp only at h); go_simp; try with_reducible rfl); try simp only [Act.put, zA, zB, zC]
          refine tk (v := ?_) [] 6 73 hHeld ?_ ?_; rotate_left; (intro w h; (try dsimp only at h); go_simp; try with_reducible rfl); try simp only [Act.put, zA, zB, zC]
          refine tk (v := ?_) [] 7 74 hHeld ?_ ?_; rotate_left; (intro w h; (try dsimp only at h); go_simp; try with_reducible rfl); try simp only [Act.put, zA, zB, zC]
          refine tk (v := ?_) [] 8 75 hHeld ?_ ?_; rotate_left; (intro w h; (try dsimp only at h); go_simp; try with_reducible rfl); try simp only [Act.put, zA, zB, zC]
          refine tk (v := ?_) [] 9 76 hHeld ?_ ?_; rotate_left; (intro w h; (try dsimp only at h); go_simp; try with_reducible rfl); try simp only [Act.put, zA, zB, zC]
          refine tk (v := ?_) [] 10 77 hHeld ?_ ?_; rotate_left; (intro w h; (try dsimp only at h); go_simp; try with_reducible rfl); try simp only [Act.put, zA, zB, zC]
          refine tk (v := ?_) [] 11 78 hHeld ?_ ?_; rotate_left; (intro w h; (try dsimp only at h); go_simp; try with_reducible rfl); try simp only [Act.put, zA, zB, zC]
          refine tk (v := ?_) [] 12 79 hHeld ?_ ?_; rotate_left; (intro w h; (try dsimp only at h); go_simp; try with_reducible rfl); try simp only [Act.put, zA, zB, zC]
          refine tk (v := ?_) [] 13 80 hHeld ?_ ?_; rotate_left; (intro w h; (try dsimp only at h); go_simp; try with_reducible rfl); try simp only [Act.put, zA, zB, zC]
          refine wpT_tail [_] 14 [] rfl (by kernel_rfl) ?_
          obtain ⟨W9, hW9⟩ : ∃ W9, (wr.setCell ⟨g, q, none⟩ (.int .i64 (cv + xv))).drew = W9 := ⟨_, rfl⟩
          rw [hW9] at HP5 HB5
          clear hHeld
          go_wp2_with fail
          go_roundw
          case rel => exact ⟨k + 1, cu, by go_num, by omega, HL2.out, HBN2.out, HJ2.out, HB5.out, HP5.out⟩
          case measure => simp [intOf]; omega
       ·have HN6 := Lib.hid (show AdjD.joinDims op args = ([], 6) by
          rw [HJN.out, AdjD'.fit_len (by rw [HLE.out]; exact hxl)]; rfl)
        have d0 : ((x.length : Int) != (r : Int)) = true := by simp; omega
        clear hxl
        go_wp2_with fail
        go_ret2
        rw [HN6.out]
        exact ⟨_, rfl, Ar.FrAt.nil _ _, HB3.out⟩
      ·obtain rfl : k = m := by omega
       have HF := Lib.hid (show AdjD.joinDims op args = (cur, 0) by rw [HJ.out, List.drop_eq_nil_of_le (by have := HN.out; omega)]; rfl)
       have HSL := Lib.hid (HP3.out.sl HOUT.out.2)
       rw [HLE.out] at HSL
       go_wp2_with fail
       go_ret2
       rw [HF.out]
       exact ⟨_, rfl, ⟨HSL.out, fun _ g hg => by simp [Value.ownBlock] at hg; omega⟩, HB3.out⟩
 ·have d1 : ((op.at_.length : Int) != 1) = true := by simp; omega
  have HV := Lib.hid (show AdjD.joinDims op args = ([], 6) by rw [HE.out, if_pos (.inl h1)])
  clear h1
  go_enter Try.func40, Try.ntmps40
  go_wp2_with fail
  go_quiet (fail)
  go_wp2_with fail
  go_ret2
  rw [HV.out]
  exact ⟨_, rfl, Ar.FrAt.nil _ _, below_drewN (Below.refl _ _) nq⟩
end Go.Proofs.Ytapedmpbkffopaa
end
section
namespace AdjD'
set_option linter.unusedVariables false
open AdjD
open AdjV (size reform whole)
def lookV (op : Op) (d : List Int) : AdjV.V × Int :=
 if (size d).2 ≠ 0 then (AdjV.none_, (size d).2)
 else if op.kind = 9 then AdjV.spread (AdjV.whole d).1 op.dims op.at_
 else if op.kind = 11 then AdjV.turn (AdjV.whole d).1 op.at_
 else if op.kind = 12 then AdjV.reform (AdjV.whole d).1 op.dims
 else if op.kind = 13 then AdjV.cut (AdjV.whole d).1 op.lo op.hi op.step
 else AdjV.flip (AdjV.whole d).1 op.at_
theorem whole_fine {d : List Int} (h : (size d).2 = 0) : (whole d).1 = ⟨0, d, AdjV.steps d⟩ ∧ (whole d).2 = 0 := by
 unfold AdjV.whole
 rw [if_neg (by simp [h])]
 exact ⟨rfl, rfl⟩
theorem reform_rule {d dims : List Int} (h : (size d).2 = 0) :
    (reform (whole d).1 dims).2 = (if (size dims).2 ≠ 0 then (size dims).2 else if (size d).1 ≠ (size dims).1 then 6 else 0) ∧ ((reform (whole d).1 dims).2 = 0 → (reform (whole d).1 dims).1.dims = dims) := by
 rw [(whole_fine h).1]
 have hw := AdjV.whole_right h
 have hi := AdjV.whole_reform (dims := dims) h
 by_cases h2 : (size dims).2 = 0
 ·rw [if_neg (by simp [h2])]
  by_cases h3 : (size d).1 = (size dims).1
  ·rw [if_neg (by simp [h3])]
   have h0 := hi.2 ⟨h2, h3⟩
   refine ⟨h0, fun _ => ?_⟩
   by_cases h4 : (size dims).1 = 0
   ·rw [AdjV.reform_empty hw h2 h3 h4]
   ·cases h5 : AdjV.go dims.reverse (AdjV.blocks ⟨0, d, AdjV.steps d⟩) with
    | none => rw [AdjV.reform_none hw h2 h3 h4 h5] at h0; cases h0
    | some ss =>
     rw [AdjV.reform_some hw h2 h3 h4 h5] at h0 ⊢
     unfold AdjV.made at h0 ⊢
     split at h0
     ·cases h0
     ·rename_i h6; rw [if_neg h6]
  ·rw [if_pos h3, AdjV.reform_shape hw h2 h3]
   exact ⟨rfl, fun h => by cases h⟩
 ·rw [if_pos h2, AdjV.reform_size hw h2]
  exact ⟨rfl, fun h => absurd h h2⟩
theorem look_rule (op : Op) (d : List Int) (hk : op.kind = 9 ∨ op.kind = 11 ∨ op.kind = 12 ∨ op.kind = 13 ∨ op.kind = 15) (h : (size d).2 = 0) :
    (lookV op d).2 = (ruled op [d]).2 ∧ ((lookV op d).2 = 0 → (lookV op d).1.dims = (ruled op [d]).1) := by
 by_cases h12 : op.kind = 12
 ·have e1 : lookV op d = reform (whole d).1 op.dims := by unfold lookV; simp [h, h12]
  have e2 : ruled op [d] = if (size op.dims).2 ≠ 0 then ([], (size op.dims).2) else if (size d).1 ≠ (size op.dims).1 then ([], 6) else (op.dims, 0) := by unfold ruled; simp [h12]
  obtain ⟨r1, r2⟩ := reform_rule (dims := op.dims) h
  rw [e1, e2]
  refine ⟨?_, fun h0 => ?_⟩
  ·rw [r1]; split
   ·rfl
   ·split <;> rfl
  ·rw [r2 h0]
   rw [r1] at h0
   split
   ·rename_i h3; rw [if_pos h3] at h0; exact absurd h0 h3
   ·rename_i h3; rw [if_neg h3] at h0
    split
    ·rename_i h4; rw [if_pos h4] at h0; cases h0
    ·rfl
 ·have e1 : lookV op d = looked op d := by unfold lookV looked; simp [h, h12]
  have e2 : ruled op [d] = ((looked op d).1.dims, (looked op d).2) := by
   unfold ruled
   rcases hk with h | h | h | h | h <;> simp [h] at h12 ⊢
  rw [e1, e2]
  exact ⟨rfl, fun _ => rfl⟩
end AdjD'
end
section
namespace Go.Proofs.Ytapedmpbkffopaa
set_option linter.unusedVariables false
open Go.RowKit Adj
namespace Vw
theorem Fs.later {B N bw : Nat} {W0 W W' : World} {st : Int} {A1 : Option Addr} {c1 : Nat} {v2 : Value} {xs ys : List Int} (h : Fs B N bw W0 st A1 c1 v2 xs ys W) (hb : Below W.heap.size W W') : Fs B N bw W0 st A1 c1 v2 xs ys W' :=
 ⟨h.blk.below hb h.blk.lt, (h.i1.below hb).up hb.size, h.g1, h.l1, h.l2, own_kept h.own2 hb, h.n2, h.below.trans (hb.mono (Nat.le_trans h.low (Nat.le_of_lt h.blk.lt))), h.low⟩
theorem Fs.store2' {B N bw : Nat} {W0 W : World} {st : Int} {A1 : Option Addr} {c1 g cap n : Nat} {xs ys : List Int} (h : Fs B N bw W0 st A1 c1 (.slice (some ⟨g, 0, none⟩) n cap) xs ys W) (hn : ys.length = n) (j : Nat) (x : Int) :
    Fs B N bw W0 st A1 c1 (.slice (some ⟨g, 0, none⟩) n cap) xs (ys.set j x) (W.setCell ⟨g, j, none⟩ (.int .i64 x)) := by
 subst hn
 have := h.store2 j x
 rwa [List.length_set] at this
end Vw
end Go.Proofs.Ytapedmpbkffopaa
end
section
namespace Go.Proofs.Ytapedmpbkffopaa
set_option linter.unusedVariables false
open Go.RowKit Adj
attribute [local go_sem ↓] Go.wp_at_zero Go.wp_at_succ
theorem Try.infoOf93 : (Try.prog.info? 93).map (fun i => (i.zero, i.size, i.bytes)) = some (some (.agg #[.int .i64 0, .int .i64 0]), 2, 16) := by kernel_rfl
namespace Vw
def bcells : List (Int × Int) → List Value
 | [] => []
 | (d, k) :: l => .int .i64 d :: .int .i64 k :: bcells l
theorem bcells_length : ∀ l, (bcells l).length = l.length * 2
 | [] => rfl
 | (d, k) :: l => by simp only [bcells, List.length_cons, bcells_length l]; omega
theorem bcells_append : ∀ l m, bcells (l ++ m) = bcells l ++ bcells m
 | [], m => rfl
 | (d, k) :: l, m => by simp only [bcells, List.cons_append, bcells_append l m]
theorem bcells_last (r : List (Int × Int)) (n s : Int) : (bcells (r.reverse ++ [(n, s)]))[r.length * 2]? = some (.int .i64 n) ∧ (bcells (r.reverse ++ [(n, s)]))[r.length * 2 + 1]? = some (.int .i64 s) := by
 have h : (bcells r.reverse).length = r.length * 2 := by rw [bcells_length, List.length_reverse]
 rw [bcells_append]
 refine ⟨?_, ?_⟩
 ·rw [List.getElem?_append_right (by omega), h, Nat.sub_self]; rfl
 ·rw [List.getElem?_append_right (by omega), h, show r.length * 2 + 1 - r.length * 2 = 1 by omega]; rfl
theorem bcells_set (r : List (Int × Int)) (n s n' s' : Int) : ((bcells (r.reverse ++ [(n, s)])).set (r.length * 2) (.int .i64 n')).set (r.length * 2 + 1) (.int .i64 s') = bcells (r.reverse ++ [(n', s')]) := by
 have h : (bcells r.reverse).length = r.length * 2 := by rw [bcells_length, List.length_reverse]
 rw [bcells_append, bcells_append, List.set_append_right _ _ (by omega), h, Nat.sub_self, List.set_append_right _ _ (by omega), h, show r.length * 2 + 1 - r.length * 2 = 1 by omega]
 rfl
theorem own_lower {w : World} {base base' size : Nat} {e : TypeId} {v : Value} {n : Nat} {xs : List Value} (h : w.ownsRow base e size v n xs) (hb : base' ≤ base) : w.ownsRow base' e size v n xs := by
 refine ⟨h.1, ?_⟩
 rcases h.2 with h2 | ⟨g, cap, cur, h1, h2, h3⟩
 ·exact .inl h2
 ·exact .inr ⟨g, cap, cur, h1, by omega, h3⟩
theorem two_one (n s : Int) : ∀ u ∈ [Value.int .i64 n, .int .i64 s], u.oneCell' = true := by
 intro u hu
 simp only [List.mem_cons, List.not_mem_nil, or_false] at hu
 rcases hu with rfl | rfl <;> rfl
theorem blk_drewN {w : World} {base size : Nat} {e : TypeId} {v : Value} {n : Nat} {xs : List Value} (h : w.ownsRow base e size v n xs) (q : Nat) : (w.drewN q).ownsRow base e size v n xs := h
theorem two_new (w : World) (t : TypeId) (a b : Value) : ∀ j u, [a, b][j]? = some u → (w.alloc (.cells #[a, b] t)).cell? ((⟨w.heap.size, 0, none⟩ : Addr).add j) = some u := by
 intro j u hu
 rw [Addr.add_lit, Nat.zero_add, cell_of_row _ _ j #[a, b] t (0, 0) (heap_alloc_new w _)]
 simpa using hu
structure BlkI (N : Nat) (W0 : World) (o : Value) (st : List (Int × Int)) (W : World) : Prop where
 own : W.ownsRow N 93 2 o st.length (bcells st.reverse)
 below : Below N W0 W
theorem BlkI.join {N g m co : Nat} {W0 W : World} {n t x s : Int} {r : List (Int × Int)} (ho : W.ownsRow N 93 2 (.slice (some ⟨g, 0, none⟩) (m + 1) co) (m + 1) (bcells (r.reverse ++ [(n, t)]))) (hm : r.length = m) (hb : Below N W0 W) :
    BlkI N W0 (.slice (some ⟨g, 0, none⟩) (m + 1) co) ((x, s) :: r) ((W.setCell ⟨g, m * 2, none⟩ (.int .i64 x)).setCell ⟨g, m * 2 + 1, none⟩ (.int .i64 s)).drew := by
 subst hm
 have h1 := ho.stored (r.length * 2) (.int .i64 x)
 have h2 := h1.1.stored (r.length * 2 + 1) (.int .i64 s)
 have hlt := ho.lt g rfl
 rw [bcells_set] at h2
 refine ⟨?_, ((hb.setCell (p := ⟨g, r.length * 2, none⟩) hlt.1 _).setCell (p := ⟨g, r.length * 2 + 1, none⟩) hlt.1 _).drew⟩
 rw [List.length_cons, List.reverse_cons]
 exact h2.1
theorem BlkI.more {N : Nat} {W0 W W' : World} {O v' : Value} {d s : Int} {st : List (Int × Int)} (ho : W.ownsRow N 93 2 O st.length (bcells st.reverse)) (hb : Below N W0 W) (hN : N ≤ W.heap.size)
    (hown : W'.ownsRow N 93 2 v' (st.length + 1) (bcells st.reverse ++ [.int .i64 d, .int .i64 s])) (hg : (W.alloc (.cells #[.int .i64 d, .int .i64 s] 93)).grownBy W' O.ownBlock) : BlkI N W0 v' ((d, s) :: st) W' := by
 refine ⟨?_, (hb.alloc hN _).grown hg (by simp; omega) (fun q hq => (ho.lt q hq).1)⟩
 rw [List.length_cons, List.reverse_cons, bcells_append]
 exact hown
def BlocksOut (w : World) (v : AdjV.V) (e : Ending) (w' : World) : Prop := ∃ o, e = .returned o ∧ w'.ownsRow w.heap.size 93 2 o (AdjV.blocks v).length (bcells (AdjV.blocks v).reverse) ∧ Below w.heap.size w w'
end Vw
set_option maxRecDepth 100000 in
set_option maxHeartbeats 4000000 in
theorem blocks_any (val : Value) (v : AdjV.V) (B : Nat) (w : World) (hB : B ≤ w.heap.size) (h : Vw.ViewAt w B val v) (h0 : AdjV.wrong v = 0) (hp : 0 < AdjV.prod v.dims) :
    Calls Try.prog 72 #[val] w (Vw.BlocksOut w v) := by
 obtain ⟨i0, hi, hz0, hz1, hz2⟩ := info_parts Try.infoOf93
 obtain ⟨A, c, A', c', rfl, hd, hs, c1, c2, c3, c4⟩ := h
 obtain ⟨z1, z2, z3, z4⟩ := AdjV.wrong_fine h0
 obtain ⟨s1, s2, s3, s4, s5⟩ := AdjV.size_fine z1
 have HPOS := Lib.hid (AdjV.no_zero_of_pos z1 hp)
 have HDM := Lib.hid s2
 have HZ2 := Lib.hid z2
 have HZ4 := Lib.hid z4
 have HD := Lib.hid hd
 have HS := Lib.hid hs
 have H0 := Lib.hid h0
 have HB0 := Lib.hid ((Below.refl w.heap.size w).alloc (Nat.le_refl _) (.cells #[.int .i64 v.st, .slice A v.dims.length c, .slice A' v.steps.length c'] 68))
 have HX := Lib.hid (Blk.new w 68 #[.int .i64 v.st, .slice A v.dims.length c, .slice A' v.steps.length c'])
 clear hd hs z1 z2 z4 s2 s3 h0
 go_enter Try.func72, Try.ntmps72
 go_wp2_with fail
 obtain ⟨W0, hW0⟩ : ∃ W0, w.alloc (.cells #[.int .i64 v.st, .slice A v.dims.length c, .slice A' v.steps.length c'] 68) = W0 := ⟨_, rfl⟩
 have hsz0 : W0.heap.size = w.heap.size + 1 := by rw [← hW0]; simp
 rw [hW0] at HB0 HX ⊢
 have HSZ0 := Lib.hid hsz0
 clear hW0 hsz0
 go_loopw [3, 4, 5, 6, 10] (fun o _ _ _ i wr => ∃ k : Nat, k ≤ v.dims.length ∧ i = .int .i64 (k : Int) ∧ Vw.BlkI (w.heap.size + 1) W0 o (AdjV.blocksK v k) wr) (fun _ _ _ _ i _ => v.dims.length + 1 - (intOf i).toNat)
 case atStart => exact ⟨0, by omega, rfl, by exact World.ownsRow_nil _ _ _ _, Below.refl _ _⟩
 case round =>
  obtain ⟨k, hk, rfl, hI⟩ := hrel
  obtain ⟨wo, rfl⟩ : ∃ wo : World, wo = wr := ⟨_, rfl⟩
  have HI := Lib.hid hI
  clear hI
  by_cases hlt : k < v.dims.length
  ·have hks : k < v.steps.length := by have := HZ2.out; omega
   obtain ⟨b, off, rfl, hb, hc⟩ := HD.out (by omega)
   obtain ⟨b', off', rfl, hb', hc'⟩ := HS.out (by omega)
   have HBW := Lib.hid (HB0.out.trans (HI.out.below.mono (by omega)))
   have hd1 := (HBW.out.cell (p := ⟨b, off + k, none⟩) (by simp; omega)).trans (hc k hlt)
   have hs1 := (HBW.out.cell (p := ⟨b', off' + k, none⟩) (by simp; omega)).trans (hc' k hks)
   have hxo := HX.out.below HI.out.below (by omega)
   have hx2 : wo.cell? ⟨w.heap.size, 2, none⟩ = some (.slice (some ⟨b', off', none⟩) v.steps.length c') := hxo.cell 2
   have hsz : w.heap.size + 1 ≤ wo.heap.size := by have h1 := HI.out.below.size; have h2 := HSZ0.out; omega
   have hdm := HDM.out _ (List.getElem_mem hlt)
   have hsm := HZ4.out _ (List.getElem_mem hks)
   have HNX := Lib.hid (AdjV.blocksK_next hlt hks)
   have HFI := Lib.hid (AdjV.blocksK_fine H0.out hp k)
   have i1 : (0 : Int) ≤ (k : Int) := by omega
   have i2 : (k : Int) < (v.dims.length : Int) := by omega
   have i3 : (k : Int) < (v.steps.length : Int) := by omega
   have hmb := AdjV.mul_small hdm.1 hdm.2 hsm.1 hsm.2
   clear hc hc' hxo
   generalize v.dims[k] = d at hd1 hdm HNX hmb
   generalize v.steps[k] = s at hs1 hsm HNX hmb
   by_cases hd : d = 1
   ·subst hd
    have HE := Lib.hid (HNX.out.trans (AdjV.push_skip rfl))
    go_wp2_with fail
    go_roundw
    case rel => exact ⟨k + 1, by omega, by go_num, by rw [HE.out]; exact HI.out⟩
    case measure => (simp [intOf] <;> omega)
   ·have hdq : (d == 1) = false := by simpa using hd
    have HDQ := Lib.hid hd
    clear hd
    cases hst : AdjV.blocksK v k with
    | nil =>
     rw [hst] at HI HNX
     have HE := Lib.hid (HNX.out.trans (AdjV.push_first HDQ.out))
     have HST := Lib.hid hst
     clear hst
     obtain ⟨AO, co, rfl⟩ : ∃ AO co, u3 = .slice AO 0 co := by
      rcases HI.out.own.2 with ⟨h, _⟩ | ⟨g, cap, cur, h, _⟩
      ·exact ⟨_, _, h⟩
      ·exact ⟨_, _, h⟩
     go_wp2_with fail
     go_quiet (fail)
     have HBLQ := Lib.hid (below_drewN HI.out.below nq)
     have HOWQ := Lib.hid (Vw.blk_drewN HI.out.own nq)
     generalize hWq : wo.drewN nq = W2 at *
     have hsz2 : w.heap.size + 1 ≤ W2.heap.size := by rw [← hWq]; exact hsz
     have y2 : W2.cell? ⟨w.heap.size, 2, none⟩ = some (.slice (some ⟨b', off', none⟩) v.steps.length c') := by rw [← hWq]; exact hx2
     have y3 : W2.cell? ⟨b', off' + k, none⟩ = some (.int .i64 s) := by rw [← hWq]; exact hs1
     clear hWq hx2 hs1 hd1
     go_wp2_with (at_builtin; refine wpList_append_own _ rfl _ _ 86 rfl (w.heap.size + 1) 93 i0 (.agg #[.int .i64 0, .int .i64 0]) 2 16 Try.underlying86 hi hz0 hz1 hz2 rfl (by decide) _ _ _ rfl (HOWQ.out.alloc (.cells #[.int .i64 d, .int .i64 s] 93)) ⟨W2.heap.size, 0, none⟩ 1 1 [.int .i64 d, .int .i64 s] rfl rfl (Vw.two_new _ _ _ _) (Vw.two_one _ _) (by unfold maxLen; simp) (by simp) (by simp; omega) ?_)
     intro v' w1 hown' hgrow _
     have HF := Lib.hid (show Vw.BlkI (w.heap.size + 1) W0 v' (AdjV.blocksK v (k + 1)) w1 from by
      rw [HE.out]; exact Vw.BlkI.more (st := []) HOWQ.out HBLQ.out hsz2 hown' hgrow)
     clear hown' hgrow
     go_wp2_with fail
     first
      | exact ⟨⟨k + 1, by omega, by go_num, HF.out⟩, by simp [intOf]; omega⟩
      | (go_roundw
         case rel => exact ⟨k + 1, by omega, by go_num, HF.out⟩
         case measure => (simp [intOf] <;> omega))
    | cons y r =>
     obtain ⟨n, t⟩ := y
     rw [hst] at HI HNX HFI
     have HST := Lib.hid hst
     have hnt := HFI.out (n, t) (by simp)
     dsimp only at hnt
     clear hst
     obtain ⟨m, hm⟩ : ∃ m, r.length = m := ⟨_, rfl⟩
     obtain ⟨g, co, hu, _, _⟩ := HI.out.own.form (by simp)
     have hown : wo.ownsRow (w.heap.size + 1) 93 2 (.slice (some ⟨g, 0, none⟩) (m + 1) co) (m + 1) (Vw.bcells (r.reverse ++ [(n, t)])) := by
      have h := HI.out.own
      rw [List.reverse_cons, hu, List.length_cons, hm] at h
      exact h
     rw [List.length_cons, hm] at hu
     subst hu
     have hlc := Vw.bcells_last r n t
     rw [hm] at hlc
     have hg0 := (hown.cellAt (m * 2) (by omega)).trans hlc.1
     have hg1 := (hown.cellAt (m * 2 + 1) (by omega)).trans hlc.2
     have hf0 := hown.frozenAt (m * 2)
     have hf1 := hown.frozenAt (m * 2 + 1)
     have HOW := Lib.hid hown
     have HM := Lib.hid hm
     have m1 : (0 : Int) ≤ (m : Int) := by omega
     have m2 : (m : Int) < (m : Int) + 1 := by omega
     have m3 : (m : Int) + 1 ≤ 7 := by have h := AdjV.blocksK_length v k; rw [HST.out, List.length_cons] at h; have h2 := HM.out; omega
     clear hlc hown hm
     by_cases hj : t = d * s
     ·have hjq : (t == d * s) = true := by simpa using hj
      have HJ := Lib.hid hj
      clear hj
      have HE := Lib.hid (HNX.out.trans (AdjV.push_join HDQ.out HJ.out))
      have hnd := AdjV.mul_abs (a := n) (b := d) (x := 65536) (y := 4096) (by omega) (by omega) (by omega) (by omega) (by omega)
      go_wp2_with fail
      go_quiet (fail)
      have HOWQ := Lib.hid (Vw.blk_drewN HOW.out nq)
      have HBLQ := Lib.hid (below_drewN HI.out.below nq)
      have g0 : (wo.drewN nq).cell? ⟨g, m * 2, none⟩ = some (.int .i64 n) := hg0
      have g1 : (wo.drewN nq).cell? ⟨g, m * 2 + 1, none⟩ = some (.int .i64 t) := hg1
      have y2 : (wo.drewN nq).cell? ⟨w.heap.size, 2, none⟩ = some (.slice (some ⟨b', off', none⟩) v.steps.length c') := hx2
      have y3 : (wo.drewN nq).cell? ⟨b', off' + k, none⟩ = some (.int .i64 s) := hs1
      have g2 := HOWQ.out.frozenAt (m * 2)
      have g3 := HOWQ.out.frozenAt (m * 2 + 1)
      generalize wo.drewN nq = W2 at HOWQ HBLQ g0 g1 g2 g3 y2 y3 ⊢
      have hwm : IntKind.i64.wrap (m : Int) = (m : Int) := IntWalk.i64_in _ (by omega)
      have hwn : IntKind.i64.wrap (n * d) = n * d := IntWalk.i64_in _ (by omega)
      clear hg0 hg1 hf0 hf1 hx2 hs1 hd1 hjq hdq
      go_wp2_with fail
      refine wp_region_T (fun w' => w'.cell? ⟨g, m * 2, none⟩ = some (.int .i64 n) ∧ w'.cell? ⟨w.heap.size, 2, none⟩ = some (.slice (some ⟨b', off', none⟩) v.steps.length c') ∧ w'.cell? ⟨b', off' + k, none⟩ = some (.int .i64 s)) 17 (fun _ => True) 17 19 rfl (by kernel_rfl) ⟨⟨g0, y2, y3⟩, trivial⟩ (fun hHeld => ?_)
      simp only [List.replicate_succ, List.replicate_zero]
      refine tk (v := ?_) [] 0 37 hHeld ?_ ?_; rotate_left; (intro w h; (try dsimp only at h); go_simp; try with_reducible rfl); try simp only [Act.put, zA, zB, zC]
      refine tk (v := ?_) [] 1 38 hHeld ?_ ?_; rotate_left; (intro w h; (try dsimp only at h); go_simp; try with_reducible rfl); try simp only [Act.put, zA, zB, zC]
      refine tk (v := ?_) [] 2 39 hHeld ?_ ?_; rotate_left; (intro w h; (try dsimp only at h); go_simp; try with_reducible rfl); try simp only [Act.put, zA, zB, zC]
      refine tk (v := ?_) [] 3 40 hHeld ?_ ?_; rotate_left; (intro w h; (try dsimp only at h); go_simp; try with_reducible rfl); try simp only [Act.put, zA, zB, zC]
      refine tk (v := ?_) [] 4 41 hHeld ?_ ?_; rotate_left; (intro w h; (try dsimp only at h); go_simp; try with_reducible rfl); try simp only [Act.put, zA, zB, zC]
      refine tk (v := ?_) [] 5 42 hHeld ?_ ?_; rotate_left; (intro w h; (try dsimp only at h); go_simp; try with_reducible rfl); try simp only [Act.put, zA, zB, zC]
      refine tk (v := ?_) [] 6 43 hHeld ?_ ?_; rotate_left; (intro w h; (try dsimp only at h); go_simp; try with_reducible rfl); try simp only [Act.put, zA, zB, zC]
      refine tk (v := ?_) [] 7 44 hHeld ?_ ?_; rotate_left; (intro w h; (try dsimp only at h); go_simp; try with_reducible rfl); try simp only [Act.put, zA, zB, zC]
      refine tk (v := ?_) [] 8 45 hHeld ?_ ?_; rotate_left; (intro w h; (try dsimp only at h); go_simp; try with_reducible rfl); try simp only [Act.put, zA, zB, zC]
      refine tk (v := ?_) [] 9 46 hHeld ?_ ?_; rotate_left; (intro w h; (try dsimp only at h); go_simp; try with_reducible rfl); try simp only [Act.put, zA, zB, zC]
      refine tk (v := ?_) [] 10 47 hHeld ?_ ?_; rotate_left; (intro w h; (try dsimp only at h); go_simp; try with_reducible rfl); try simp only [Act.put, zA, zB, zC]
      refine tk (v := ?_) [] 11 48 hHeld ?_ ?_; rotate_left; (intro w h; (try dsimp only at h); go_simp; try with_reducible rfl); try simp only [Act.put, zA, zB, zC]
      refine tk (v := ?_) [] 12 49 hHeld ?_ ?_; rotate_left; (intro w h; (try dsimp only at h); go_simp; try with_reducible rfl); try simp only [Act.put, zA, zB, zC]
      refine tk (v := ?_) [] 13 50 hHeld ?_ ?_; rotate_left; (intro w h; (try dsimp only at h); go_simp; try with_reducible rfl); try simp only [Act.put, zA, zB, zC]
      refine tk (v := ?_) [] 14 51 hHeld ?_ ?_; rotate_left; (intro w h; (try dsimp only at h); go_simp; try with_reducible rfl); try simp only [Act.put, zA, zB, zC]
      refine tk (v := ?_) [] 15 52 hHeld ?_ ?_; rotate_left; (intro w h; (try dsimp only at h); go_simp; try with_reducible rfl); try simp only [Act.put, zA, zB, zC]
      refine tk (v := ?_) [] 16 53 hHeld ?_ ?_; rotate_left; (intro w h; (try dsimp only at h); go_simp; try with_reducible rfl); try simp only [Act.put, zA, zB, zC]
      refine wpT_tail [_, _] 17 [18] rfl (by kernel_rfl) ?_
      clear hHeld y2 y3 hwm hwn
      go_wp2_with fail
      have HF := Lib.hid (show Vw.BlkI (w.heap.size + 1) W0 (.slice (some ⟨g, 0, none⟩) (m + 1) co) (AdjV.blocksK v (k + 1)) ((W2.setCell ⟨g, m * 2, none⟩ (.int .i64 (n * d))).setCell ⟨g, m * 2 + 1, none⟩ (.int .i64 s)).drew from by
       rw [HE.out]; exact Vw.BlkI.join HOWQ.out HM.out HBLQ.out)
      first
       | exact ⟨⟨k + 1, by omega, by go_num, HF.out⟩, by simp [intOf]; omega⟩
       | (go_roundw
          case rel => exact ⟨k + 1, by omega, by go_num, HF.out⟩
          case measure => (simp [intOf] <;> omega))
     ·have hjq : (t == d * s) = false := by simpa using hj
      have HE := Lib.hid (HNX.out.trans (AdjV.push_more HDQ.out hj))
      clear hj
      go_wp2_with fail
      go_quiet (fail)
      have HBLQ := Lib.hid (below_drewN HI.out.below nq)
      have HOWQ := Lib.hid (Vw.blk_drewN HOW.out nq)
      generalize hWq : wo.drewN nq = W2 at *
      have hsz2 : w.heap.size + 1 ≤ W2.heap.size := by rw [← hWq]; exact hsz
      have y2 : W2.cell? ⟨w.heap.size, 2, none⟩ = some (.slice (some ⟨b', off', none⟩) v.steps.length c') := by rw [← hWq]; exact hx2
      have y3 : W2.cell? ⟨b', off' + k, none⟩ = some (.int .i64 s) := by rw [← hWq]; exact hs1
      clear hWq hx2 hs1 hd1 hg0 hg1 hf0 hf1
      go_wp2_with (at_builtin; refine wpList_append_own _ rfl _ _ 86 rfl (w.heap.size + 1) 93 i0 (.agg #[.int .i64 0, .int .i64 0]) 2 16 Try.underlying86 hi hz0 hz1 hz2 rfl (by decide) _ _ _ rfl (HOWQ.out.alloc (.cells #[.int .i64 d, .int .i64 s] 93)) ⟨W2.heap.size, 0, none⟩ 1 1 [.int .i64 d, .int .i64 s] rfl rfl (Vw.two_new _ _ _ _) (Vw.two_one _ _) (by unfold maxLen; omega) (by omega) (by simp; omega) ?_)
      intro v' w1 hown' hgrow _
      have HF := Lib.hid (show Vw.BlkI (w.heap.size + 1) W0 v' (AdjV.blocksK v (k + 1)) w1 from by
       have e : ((n, t) :: r).length = m + 1 := by rw [List.length_cons, HM.out]
       rw [HE.out]; exact Vw.BlkI.more (st := (n, t) :: r) (O := .slice (some ⟨g, 0, none⟩) (m + 1) co) (by rw [e, List.reverse_cons]; exact HOWQ.out) HBLQ.out hsz2 (by rw [e, List.reverse_cons]; exact hown') hgrow)
      clear hown' hgrow
      go_wp2_with fail
      first
       | exact ⟨⟨k + 1, by omega, by go_num, HF.out⟩, by simp [intOf]; omega⟩
       | (go_roundw
          case rel => exact ⟨k + 1, by omega, by go_num, HF.out⟩
          case measure => (simp [intOf] <;> omega))
  ·obtain rfl : k = v.dims.length := by omega
   go_wp2_with fail
   go_ret
   have hI := HI.out
   rw [AdjV.blocksK_all HZ2.out] at hI
   exact ⟨_, rfl, Vw.own_lower hI.own (Nat.le_succ _), HB0.out.trans (hI.below.mono (Nat.le_succ _))⟩
end Go.Proofs.Ytapedmpbkffopaa
end
section
namespace Adj
open Go Go.RowKit
set_option linter.unusedVariables false
variable {F : Fence} {n : Nat} {P : Program}
def SeqOrd {α : Type} (F : Fence) (n : Nat) (P : Program) (g : Nat) (lb : Array Value) (encs : α → Array Value) (Kp : World → World → Prop) (R : List α → α → Prop) (S Sp : List α → Prop) (N : Nat) (w : World) : Prop :=
 ∀ (l : Nat) (J Jx : List α → World → Prop) (W : World), Below w.heap.size w W → AbidesFrom W.heap.size J → AbidesFrom W.heap.size Jx →
  (∀ pre x W1, J pre W1 → pre.length < N → R pre x → YieldAt F (n - 1) P l (encs x) W1 fun e W' =>
   (e = .returned (.bool true) ∧ J (pre ++ [x]) W' ∧ Kp W1 W') ∨ (e = .returned (.bool false) ∧ Jx (pre ++ [x]) W')) →
  J [] W →
  CallsIn F n P g (#[.func (.yield l) #[] #[]] ++ lb) W fun e W' => (∃ v, e = .returned v) ∧ ((∃ xs, S xs ∧ J xs W') ∨ (∃ pre, Sp pre ∧ Jx pre W'))
theorem wpIn_rangeFunc_ord {α : Type} {g : Operand} {ps : Array Tmp} {assign body : Code} {Q : Exit → Act → World → Prop} {a : Act} {w : World}
    (hro : F.round = none) (h1 : 1 ≤ n) {gf : Nat} {lb : Array Value} (hg : a.eval g = .func (.func gf) #[] lb) (hFg : F.fn gf) (eg : ∀ args w, (callFunc gf args).run P w = .ok (.enter gf args) w)
    {encs : α → Array Value} {Kp : World → World → Prop} {R : List α → α → Prop} {S Sp : List α → Prop} {N : Nat} {w0 : World} (hseq : SeqOrd F (n - 1) P gf lb encs Kp R S Sp N w0)
    (hKt : ∀ {A B C : World}, Kp A B → Kp B C → Kp A C) (hKb : ∀ (W : World) (l : Nat) (o o' : Obj), w.heap.size ≤ l → W.heap[l]? = some o → o.isCells = false → o.isWalk = false → Kp W (W.putObj l o')) (hb0 : Below w0.heap.size w0 w) (hps : ∀ x, (encs x).size = ps.size)
    (I : List α → World → Prop) (Ix : Code → List α → World → Prop) (hI : OwnFrom w.heap.size I) (hIx : ∀ c, OwnFrom w.heap.size (Ix c)) (h0 : I [] w) (a₁ : α → Act)
    (hassign : ∀ (l : Nat) (x : α) (W : World) (K : Act → World → Prop), K (a₁ x) W →
     assign.wpIn (F.inRound l) (n - 1 - 1) P (Exit.then K (fun _ _ _ => False)) { tmps := (ps.zip (encs x)).foldl (fun t (p, v) => t.setIfInBounds p v) a.tmps, defers := [] } W)
    (hbody : ∀ (l : Nat) (pre : List α) (x : α) (W : World), I pre W → pre.length < N → R pre x → body.wpIn (F.inRound l) (n - 1 - 1) P (ownPostG w.heap.size Kp I Ix (pre ++ [x]) W) (a₁ x) W)
    (hdone : ∀ (D : Nat) (xs : List α) (W : World), w.heap.size ≤ D → S xs → I xs W → W.heap[D]? = some (.deferred (some [])) → Q .normal { a with defers := { target := .collected D, args := #[] } :: a.defers } W)
    (hstop : ∀ (D : Nat) (c : Code) (pre : List α) (W : World), w.heap.size ≤ D → Sp pre → Ix c pre W → W.heap[D]? = some (.deferred (some [])) → c.wpIn F n P Q { a with defers := { target := .collected D, args := #[] } :: a.defers } W) :
    (Code.rangeFunc g ps assign body).wpIn F n P Q a w := by
 refine wpIn_rangeFunc ?_
 intro fn hfn
 rw [hro]
 let rec_ : LoopState → Option Code → Loop := fun st pe => { state := st, pending := pe, fn, tmps := a.tmps, params := ps, assign, body, defers := w.heap.size }
 let W1 := (w.alloc (.deferred (some []))).alloc (.loop (rec_ .ready none))
 have hL1 : W1.heap[w.heap.size + 1]? = some (.loop (rec_ .ready none)) := by
  have := World.alloc_heap_new (w.alloc (.deferred (some []))) (.loop (rec_ .ready none))
  rwa [World.size_alloc] at this
 have hK1 : W1.heap[w.heap.size]? = some (.deferred (some [])) := (Below.heap_alloc _ _ _ (by simp)).trans (World.alloc_heap_new w _)
 have hI1 : I [] W1 := hI.alloc _ (hI.alloc _ h0)
 have hs1 : W1.heap.size = w.heap.size + 2 := by simp [W1]
 have hb1 : Below w0.heap.size w0 W1 := hb0.trans ((((Below.refl _ w).alloc (Nat.le_refl _) _).alloc (by simp) _).mono hb0.size)
 have far : ∀ {X Y : World} {row : Option Nat}, (∀ r, row = some r → W1.heap.size ≤ r ∧ ∃ o : Obj, X.heap[r]? = some o ∧ o.isWalk = true) → (∀ r, row = some r → w.heap.size ≤ r ∧ ∃ o : Obj, X.heap[r]? = some o ∧ o.isCells = false) := fun hr r e => by
  obtain ⟨hB, o, ho, hw⟩ := hr r e
  exact ⟨by omega, o, ho, Obj.not_cells_of_walk hw⟩
 refine ⟨w.heap.size + 1, [{ target := .collected w.heap.size, args := #[] }], W1, { target := .fn (.func gf) lb, args := #[.func (.yield (w.heap.size + 1)) #[] #[]] }, W1, gf,
  #[.func (.yield (w.heap.size + 1)) #[] #[]] ++ lb, W1, run_enterLoop_outer _ _ _ _ _, ?_, ?_, ?_, fun _ => h1, ?_⟩
 ·simp only [resolve, hg]
  simp [go_sem]
 ·intro f' hf'
  simp [Target.leads] at hf'
  subst hf'
  exact hFg
 ·simp [invoke, go_sem, eg]
 -- the two blocks of the loop's own lie as they lay, beside what the caller keeps
 refine (hseq (w.heap.size + 1) (fun pre W => I pre W ∧ W.heap[w.heap.size + 1]? = some (.loop (rec_ .ready none)) ∧ W.heap[w.heap.size]? = some (.deferred (some [])))
  (fun pre W => ∃ c, Ix c pre W ∧ W.heap[w.heap.size + 1]? = some (.loop (rec_ .done (some c))) ∧ W.heap[w.heap.size]? = some (.deferred (some []))) W1 hb1 ?_ ?_ ?_ ⟨hI1, hL1, hK1⟩).mono ?_
 ·intro s X Y row hs hg' hr
  exact ⟨hI s X Y row hs.1 hg' (far (Y := Y) hr), (grownBy_keeps hg' (fun r e => (hr r e).2) hs.2.1 rfl).trans hs.2.1, (grownBy_keeps hg' (fun r e => (hr r e).2) hs.2.2 rfl).trans hs.2.2⟩
 ·intro s X Y row hs hg' hr
  obtain ⟨c, hc, hl, hk⟩ := hs
  exact ⟨c, hIx c s X Y row hc hg' (far (Y := Y) hr), (grownBy_keeps hg' (fun r e => (hr r e).2) hl rfl).trans hl, (grownBy_keeps hg' (fun r e => (hr r e).2) hk rfl).trans hk⟩
 ·rintro pre x W ⟨hi, hl, hk⟩ hlen hR
  have hlt : w.heap.size + 1 < W.heap.size := (Array.getElem?_eq_some_iff.1 hl).1
  refine ⟨fn, _, assign, body, run_yield (P := P) (args := encs x) hl (hps x), roundIn_of_wpIn hfn (hassign _ x W _ ⟨_, run_beginRound hl rfl, ?_⟩)⟩
  obtain ⟨Wb, hWb⟩ : ∃ Wb, W.putObj (w.heap.size + 1) (.loop { rec_ .ready none with state := .busy }) = Wb := ⟨_, rfl⟩
  have hl2 : Wb.heap[w.heap.size + 1]? = some (.loop { rec_ .ready none with state := .busy }) := by rw [← hWb]; exact World.putObj_heap_same hlt
  have hk2 : Wb.heap[w.heap.size]? = some (.deferred (some [])) := by rw [← hWb]; exact (World.putObj_heap_other (by omega)).trans hk
  have hw2 : Kp W Wb := by rw [← hWb]; exact hKb _ _ _ _ (by omega) hl rfl rfl
  have hi2 : I pre Wb := by rw [← hWb]; exact hI.putObj _ hi (by omega) hl rfl
  show Code.wpIn _ _ _ _ _ _ (W.putObj (w.heap.size + 1) (.loop { rec_ .ready none with state := .busy }))
  rw [hWb]
  refine wpIn_mono (hbody _ pre x _ hi2 hlen hR) ?_
  have fin : ∀ (jump : Option Code) (W3 : World), KeepsFrom w.heap.size Wb W3 → W3.heap[w.heap.size + 1]? = some (.loop { rec_ .ready none with state := .busy }) ∧
      (W3.putObj (w.heap.size + 1) (.loop (rec_ (if jump.isNone then .ready else .done) jump))).heap[w.heap.size + 1]? = some (.loop (rec_ (if jump.isNone then .ready else .done) jump)) ∧
      (W3.putObj (w.heap.size + 1) (.loop (rec_ (if jump.isNone then .ready else .done) jump))).heap[w.heap.size]? = some (.deferred (some [])) := fun jump W3 hk3 => by
   have hl3 := hk3.same _ _ (by omega) hl2 rfl
   exact ⟨hl3, World.putObj_heap_same (Array.getElem?_eq_some_iff.1 hl3).1, (World.putObj_heap_other (by omega)).trans (hk3.same _ _ (Nat.le_refl _) hk2 rfl)⟩
  rintro e a3 W3 hp
  cases e with
  | normal =>
   obtain ⟨hk3, hkp3, hi3⟩ := hp
   obtain ⟨hl3, hl4, hk4⟩ := fin none W3 hk3
   exact ⟨_, _, run_endRound (P := P) none hl3, .inl ⟨rfl, ⟨hI.putObj _ hi3 (by omega) hl3 rfl, hl4, hk4⟩, hKt (hKt hw2 hkp3) (hKb _ _ _ _ (by omega) hl3 rfl rfl)⟩⟩
  | ret =>
   obtain ⟨hk3, hi3⟩ := hp
   obtain ⟨hl3, hl4, hk4⟩ := fin (some .ret) W3 hk3
   exact ⟨_, _, run_endRound (P := P) (some .ret) hl3, .inr ⟨rfl, .ret, (hIx _).putObj _ hi3 (by omega) hl3 rfl, hl4, hk4⟩⟩
  | exit id =>
   obtain ⟨hk3, hi3⟩ := hp
   obtain ⟨hl3, hl4, hk4⟩ := fin (some (.exit id)) W3 hk3
   exact ⟨_, _, run_endRound (P := P) (some (.exit id)) hl3, .inr ⟨rfl, .exit id, (hIx _).putObj _ hi3 (by omega) hl3 rfl, hl4, hk4⟩⟩
  | goto t =>
   obtain ⟨hk3, hi3⟩ := hp
   obtain ⟨hl3, hl4, hk4⟩ := fin (some (.goto t)) W3 hk3
   exact ⟨_, _, run_endRound (P := P) (some (.goto t)) hl3, .inr ⟨rfl, .goto t, (hIx _).putObj _ hi3 (by omega) hl3 rfl, hl4, hk4⟩⟩
  | panic ch => exact hp.elim
  | outgrown => exact hp.elim
 ·rintro e W2 ⟨⟨v, rfl⟩, (⟨xs, hS, hi, hl, hk⟩ | ⟨pre, hSp, c, hi, hl, hk⟩)⟩
  ·exact ⟨none, _, run_endLoop (P := P) hl (by simp [rec_]), hdone _ xs _ (Nat.le_refl _) hS (hI.putObj _ hi (by omega) hl rfl) ((World.putObj_heap_other (by omega)).trans hk)⟩
  ·exact ⟨some c, _, run_endLoop (P := P) hl (by simp [rec_]), hstop _ c pre _ (Nat.le_refl _) hSp ((hIx c).putObj _ hi (by omega) hl rfl) ((World.putObj_heap_other (by omega)).trans hk)⟩
theorem wpIn_rangeFunc_ord2 {α : Type} {g : Operand} {p1 p2 : Tmp} {assign body : Code} {Q : Exit → Act → World → Prop} {a : Act} {w : World} (d1 d2 : Nat) (e1 e2 : α → Value)
    (hro : F.round = none) (h1 : 1 ≤ n) {gf : Nat} {lb : Array Value} (hg : a.eval g = .func (.func gf) #[] lb) (hFg : F.fn gf) (eg : ∀ args w, (callFunc gf args).run P w = .ok (.enter gf args) w)
    {Kp : World → World → Prop} {R : List α → α → Prop} {S Sp : List α → Prop} {N : Nat} {w0 : World} (hseq : SeqOrd F (n - 1) P gf lb (fun x => #[e1 x, e2 x]) Kp R S Sp N w0)
    (hKt : ∀ {A B C : World}, Kp A B → Kp B C → Kp A C) (hKb : ∀ (W : World) (l : Nat) (o o' : Obj), w.heap.size ≤ l → W.heap[l]? = some o → o.isCells = false → o.isWalk = false → Kp W (W.putObj l o')) (hb0 : Below w0.heap.size w0 w)
    (I : List α → World → Prop) (Ix : Code → List α → World → Prop) (hI : OwnFrom w.heap.size I) (hIx : ∀ c, OwnFrom w.heap.size (Ix c)) (h0 : I [] w)
    (hassign : ∀ (l : Nat) (x : α) (W : World) (K : Act → World → Prop), K { tmps := (((a.tmps.setIfInBounds p1 (e1 x)).setIfInBounds p2 (e2 x)).setIfInBounds d1 (e1 x)).setIfInBounds d2 (e2 x), defers := [] } W →
     assign.wpIn (F.inRound l) (n - 1 - 1) P (Exit.then K (fun _ _ _ => False)) { tmps := (a.tmps.setIfInBounds p1 (e1 x)).setIfInBounds p2 (e2 x), defers := [] } W)
    (hbody : ∀ (l : Nat) (pre : List α) (x : α) (W : World), I pre W → pre.length < N → R pre x →
     body.wpIn (F.inRound l) (n - 1 - 1) P (ownPostG w.heap.size Kp I Ix (pre ++ [x]) W) { tmps := (((a.tmps.setIfInBounds p1 (e1 x)).setIfInBounds p2 (e2 x)).setIfInBounds d1 (e1 x)).setIfInBounds d2 (e2 x), defers := [] } W)
    (hdone : ∀ (D : Nat) (xs : List α) (W : World), w.heap.size ≤ D → S xs → I xs W → W.heap[D]? = some (.deferred (some [])) → Q .normal { a with defers := { target := .collected D, args := #[] } :: a.defers } W)
    (hstop : ∀ (D : Nat) (c : Code) (pre : List α) (W : World), w.heap.size ≤ D → Sp pre → Ix c pre W → W.heap[D]? = some (.deferred (some [])) → c.wpIn F n P Q { a with defers := { target := .collected D, args := #[] } :: a.defers } W) :
    (Code.rangeFunc g #[p1, p2] assign body).wpIn F n P Q a w :=
 wpIn_rangeFunc_ord (encs := fun x => #[e1 x, e2 x]) hro h1 hg hFg eg hseq hKt hKb hb0 (fun _ => rfl) I Ix hI hIx h0
  (fun x => { tmps := (((a.tmps.setIfInBounds p1 (e1 x)).setIfInBounds p2 (e2 x)).setIfInBounds d1 (e1 x)).setIfInBounds d2 (e2 x), defers := [] })
  (fun l x W K hK => by simpa using hassign l x W K hK) hbody hdone hstop
end Adj
end
