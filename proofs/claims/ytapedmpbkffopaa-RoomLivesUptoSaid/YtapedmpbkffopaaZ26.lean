/-
  The walk of the reference's joinDims; The walk of the reference's ruled, kind by kind: 14 (pad), 16 (dot), 17 (join), 9, 11, 13, 15 (what only looks in another way). Conditions: where the theorems name them.
-/
import Derived.Test.YtapedmpbkffopaaZ02
import Derived.Test.YtapedmpbkffopaaZ13
import Derived.Test.YtapedmpbkffopaaZ23
import Derived.Test.YtapedmpbkffopaaZ24
import Derived.Test.YtapedmpbkffopaaZ25
section
namespace Go.Proofs.Ytapedmpbkffopaa
set_option linter.unusedVariables false
open Go.RowKit Adj
namespace AdjD'
def curJ (cur x : List Int) (q j : Nat) : List Int := if q < j then cur.set q (cur.getD q 0 + x.getD q 0) else cur
theorem curJ_len (cur x : List Int) (q j : Nat) : (curJ cur x q j).length = cur.length := by unfold curJ; split <;> simp
theorem curJ_at (cur x : List Int) (q j i : Nat) (h : i ≠ q) : (curJ cur x q j).getD i 0 = cur.getD i 0 := by
 unfold curJ
 split
 ·rw [List.getD_eq_getElem?_getD, List.getElem?_set_ne (Ne.symm h), ← List.getD_eq_getElem?_getD]
 ·rfl
theorem curJ_q (cur x : List Int) (q : Nat) : curJ cur x q q = cur := if_neg (by omega)
theorem curJ_same (cur x : List Int) (q j : Nat) (h : j ≠ q) : curJ cur x q (j + 1) = curJ cur x q j := by
 unfold curJ
 by_cases e : q < j
 ·rw [if_pos e, if_pos (by omega)]
 ·rw [if_neg e, if_neg (by omega)]
theorem curJ_next (cur x : List Int) (q : Nat) : curJ cur x q (q + 1) = cur.set q (cur.getD q 0 + x.getD q 0) := if_pos (by omega)
end AdjD'
set_option maxRecDepth 100000 in
set_option maxHeartbeats 8000000 in
theorem Ar.joinDims_any (val : Value) (op : AdjD.Op) (A' : Option Addr) (cd : Nat) (args : List (List Int)) (B : Nat) (w : World) (hB : B ≤ w.heap.size) (hn0 : 0 < args.length) (hn : args.length ≤ 1099511627776) (hcd : args.length ≤ cd) (hcd2 : cd ≤ 9223372036854775807)
    (hsz : ∀ d ∈ args, d.length ≤ 6 ∧ ∀ x ∈ d, 0 ≤ x ∧ x ≤ 4096) (hop : Ar.OpAt w B val op) (h2 : Ar.ListsAt w B A' args) :
    Calls Try.prog 32 #[val, .slice A' args.length cd] w fun e w' => ∃ v, e = .returned (.tuple #[v, .int .i64 (AdjD.joinDims op args).2]) ∧ Ar.SlAt w' w'.heap.size v (AdjD.joinDims op args).1 ∧ Below w.heap.size w w' := by
 obtain ⟨v1, v2, v3, v4, v5, rfl, _, ⟨A, ca, rfl, h1, la, ma⟩, _⟩ := hop
 have HXB := Lib.hid (Blk.new w 37 #[.int .i64 op.kind, v1, .slice A op.at_.length ca, v3, v4, v5, .int .i64 op.value])
 have HB := Lib.hid ((Below.refl w.heap.size w).alloc (Nat.le_refl _) (.cells #[.int .i64 op.kind, v1, .slice A op.at_.length ca, v3, v4, v5, .int .i64 op.value] 37))
 obtain ⟨w0, hw0⟩ : ∃ w0, w.alloc (.cells #[.int .i64 op.kind, v1, .slice A op.at_.length ca, v3, v4, v5, .int .i64 op.value] 37) = w0 := ⟨_, rfl⟩
 rw [hw0] at HXB HB
 have hw0s : w.heap.size < w0.heap.size := HXB.out.lt
 have x2 : w0.cell? ⟨w.heap.size, 2, none⟩ = some (.slice A op.at_.length ca) := HXB.out.cell 2
 have HE := Lib.hid (show AdjD.joinDims op args = if op.at_.length ≠ 1 ∨ op.at_.getD 0 0 < 0 ∨ ((args.getD 0 []).length : Int) ≤ op.at_.getD 0 0 then ([], 6) else AdjD.joinGo (op.at_.getD 0 0).toNat (args.getD 0 []) (args.drop 1) from rfl)
 have HA := Lib.hid (fun W (hb : Below w.heap.size w W) => h1.below (hb.mono hB))
 have HL := Lib.hid h2
 have HSZ := Lib.hid hsz
 obtain ⟨b, off, rfl, hbB, hc⟩ := h2 hn0
 obtain ⟨v0, cv0, A0, c0, rfl, i0, l0, m0⟩ := hc 0 hn0
 have e0 : args.getD 0 [] = args[0] := by simp [List.getD_eq_getElem?_getD, hn0]
 have hs0 := hsz args[0] (List.getElem_mem hn0)
 obtain ⟨n, hnn⟩ : ∃ n, args.length = n := ⟨_, rfl⟩
 have HN := Lib.hid hnn
 have H0 := Lib.hid (fun W (hb : Below w.heap.size w W) => i0.below (hb.mono hB))
 rw [e0] at HE
 rw [hnn] at hn0 hn hcd ⊢
 rw [Nat.add_zero] at cv0
 have cv0' := (HB.out.cell (p := ⟨b, off, none⟩) (by show b < w.heap.size; omega)).trans cv0
 clear hnn h2 hsz hc i0 e0 cv0
 generalize args[0] = a0 at HE cv0' l0 hs0 H0
 obtain ⟨r, hr⟩ : ∃ r, a0.length = r := ⟨_, rfl⟩
 rw [hr] at HE cv0' l0 hs0
 have HR := Lib.hid hr
 have hn1 : (0 : Int) < (n : Int) := by omega
 clear hr
 by_cases hl1 : op.at_.length = 1
 ·have HL1 := Lib.hid hl1
  obtain ⟨ba, oa, rfl, hba, ga⟩ := HA.out w0 HB.out (by omega)
  have ca0 := ga 0 (by omega)
  rw [← AdjD.getD_at op.at_ 0 (by omega), Nat.add_zero] at ca0
  have hla : (0 : Int) < 1 := by omega
  have e9 : op.at_.getD 0 0 = op.at_[0] := AdjD.getD_at op.at_ 0 (by omega)
  have CA0 := Lib.hid (show Value.int .i64 (op.at_.getD 0 0) = Value.int .i64 (op.at_[0]'(Nat.lt_of_lt_of_eq Nat.zero_lt_one HL1.out.symm)) by rw [e9])
  rw [hl1] at x2 hw0 HXB ⊢
  clear ga e9 h1 hl1 la
  generalize op.at_.getD 0 0 = q0 at HE ca0 CA0
  by_cases h2 : q0 < 0
  ·have HV := Lib.hid (show AdjD.joinDims op args = ([], 6) by rw [HE.out, if_pos (.inr (.inl h2))])
   go_enter Try.func32, Try.ntmps32
   go_wp2_with fail
   go_quiet (fail)
   go_wp2_with fail
   go_ret2
   rw [HV.out]
   exact ⟨_, rfl, Ar.SlAt.nil _ _, below_drewN HB.out nq⟩
  ·have d2 : decide (q0 < 0) = false := by simpa using h2
   by_cases h3 : (r : Int) ≤ q0
   ·have HV := Lib.hid (show AdjD.joinDims op args = ([], 6) by rw [HE.out, if_pos (.inr (.inr h3))])
    have d3 : decide ((r : Int) ≤ q0) = true := by simpa using h3
    go_enter Try.func32, Try.ntmps32
    go_wp2_with fail
    go_quiet (fail)
    go_wp2_with fail
    go_ret2
    rw [HV.out]
    exact ⟨_, rfl, Ar.SlAt.nil _ _, below_drewN HB.out nq⟩
   ·have d3 : decide ((r : Int) ≤ q0) = false := by simpa using h3
    obtain ⟨q, rfl⟩ : ∃ q : Nat, q0 = (q : Int) := ⟨q0.toNat, by omega⟩
    have hqr : q < r := by omega
    have HV := Lib.hid (show AdjD.joinDims op args = AdjD.joinGo q a0 (args.drop 1) by
     rw [HE.out, if_neg (fun h => h.elim (fun h => h HL1.out) (fun h => h.elim h2 h3)), Int.toNat_natCast])
    have HB0 := Lib.hid (fun m => below_drewN (Below.refl w0.heap.size w0) m)
    have HR2 := Lib.hid HR.out
    go_enter Try.func32, Try.ntmps32
    go_wp2_with fail
    go_quiet (fail)
    have HB1 := Lib.hid (HB0.out nq)
    have cv1 : (w0.drewN nq).cell? ⟨b, off, none⟩ = some (.slice A0 r c0) := cv0'
    have HBW1 := Lib.hid (HB.out.trans (HB1.out.mono (by omega)))
    have hws : w0.heap.size ≤ (w0.drewN nq).heap.size := HB1.out.size
    clear h2 h3 d2 d3 cv0' ca0 x2
    generalize w0.drewN nq = w1 at HB1 HBW1 cv1 hws ⊢
    have HRD := Lib.hid (fun W (hb : Below w.heap.size w W) => Ar.reads_of (H0.out W hb) (Nat.le_trans hB hb.size))
    obtain ⟨i0, g1, g2, g3, g4⟩ := info_parts Try.infoOf3
    have hone : ∀ u ∈ ints a0, u.oneCell' = true := fun u hu => by
     obtain ⟨x, _, rfl⟩ := List.mem_map.1 hu
     rfl
    have HO0 := Lib.hid (World.ownsRow_lit (base := w0.heap.size) (size := 1) (e := 3) w1 #[] 0 hws (by unfold maxLen; omega) rfl)
    have HBe := Lib.hid (HB1.out.alloc hws (.cells #[] 3))
    have hwe : w0.heap.size ≤ (w1.alloc (.cells #[] 3)).heap.size := by simp; omega
    have HBWe := Lib.hid (HB.out.trans (HBe.out.mono (by omega)))
    have ce := (World.cell?_alloc_lt w1 (.cells #[] 3) ⟨b, off, none⟩ (ar_lt cv1)).trans cv1
    have hr6 : r ≤ 6 := hs0.1
    have hrd := HRD.out _ HBWe.out
    rw [HR2.out] at hrd
    have HRE := Lib.hid hrd
    clear hrd
    go_wp2_with (at_builtin; refine wpList_append_any _ rfl _ _ 23 rfl w0.heap.size 3 i0 (.int .i64 0) 1 8 Try.underlying23 g1 g2 g3 g4 rfl (by decide) _ _ _ rfl HO0.out _ A0 r c0 (ints a0) rfl HRE.out hone (by unfold maxLen; omega) (by omega) hwe ?_)
    intro v' w2 how hgr _
    have HB2 := Lib.hid (HBe.out.grown hgr hwe (fun g hg => (HO0.out.lt g hg).1))
    have ho2 : w2.ownsRow w0.heap.size 3 1 v' a0.length (ints a0) := by
     rw [HR2.out]; simpa using how
    obtain ⟨g, cg, hv, hgb, hpre, hcg⟩ := Ar.Pre.own ho2 (by have := HR2.out; omega)
    rw [HR2.out] at hv
    subst hv
    have HP2 := Lib.hid hpre
    clear ho2 how hgr cv1 ce hpre
    obtain ⟨m, rfl⟩ : ∃ m, n = m + 1 := ⟨n - 1, by omega⟩
    have HBD := Lib.hid (show ∀ j, 0 ≤ a0.getD j 0 ∧ a0.getD j 0 ≤ ((0 : Nat) + 1 : Int) * 4096 from fun j => by
     rw [List.getD_eq_getElem?_getD]
     cases hj : a0[j]? with
     | none => exact ⟨Int.le_refl _, by show (0 : Int) ≤ _; omega⟩
     | some x => have := hs0.2 x (List.mem_of_getElem? hj); exact ⟨this.1, by show x ≤ _; omega⟩)
    have HOUT := Lib.hid (And.intro hgb hcg)
    have hcell : ∀ k (hk : k < m), ∃ v, w.cell? ⟨b, off + (k + 1), none⟩ = some v ∧ Ar.SlAt w B v (args[k + 1]'(by have := HN.out; omega)) := fun k hk => by
     obtain ⟨b', off', e, _, hc⟩ := HL.out (by have := HN.out; omega)
     injection e with e; injection e with e1 e2; subst e1; subst e2
     exact hc (k + 1) (by have := HN.out; omega)
    have HCELL := Lib.hid hcell
    have hgs : w0.heap.size ≤ g := by omega
    clear hcell hgb hcg hws hwe g1 g2 g3 g4 hone
    by_cases hcd1 : cd = 1
    ·have HM0 := Lib.hid (show m = 0 by omega)
     subst hcd1
     go_wp2_with fail
     go_loopw [40] (fun kv wr => ∃ (k : Nat) (cur : List Int), kv = .int .i64 (k : Int) ∧ k ≤ m ∧ cur.length = r ∧ (∀ j, 0 ≤ cur.getD j 0 ∧ cur.getD j 0 ≤ ((k : Int) + 1) * 4096) ∧ AdjD.joinDims op args = AdjD.joinGo q cur (args.drop (k + 1)) ∧ Below w0.heap.size w0 wr ∧ Ar.Pre wr g cg cur) (fun kv _ => m - (intOf kv).toNat)
     case atStart => exact ⟨0, a0, rfl, by omega, HR2.out, HBD.out, HV.out, HB2.out, HP2.out⟩
     case round =>
      obtain ⟨k, cur, rfl, hk, hlen, hbd, hj, hb, hp⟩ := hrel
      have HLE := Lib.hid hlen
      have HBND := Lib.hid hbd
      have HJ := Lib.hid hj
      have HB3 := Lib.hid hb
      have HBW3 := Lib.hid (HB.out.trans (hb.mono (by omega)))
      have HP3 := Lib.hid hp
      clear hlen hbd hj hb hp
      obtain ⟨wo, rfl⟩ : ∃ wo : World, wo = wr := ⟨_, rfl⟩
      by_cases hkm : k < m
      ·exact absurd hkm (by have := HM0.out; omega)
      ·obtain rfl : k = m := by omega
       have HF := Lib.hid (show AdjD.joinDims op args = (cur, 0) by rw [HJ.out, List.drop_eq_nil_of_le (by have := HN.out; omega)]; rfl)
       have HSL := Lib.hid (HP3.out.sl HOUT.out.2)
       rw [HLE.out] at HSL
       go_wp2_with fail
       go_ret2
       rw [HF.out]
       exact ⟨_, rfl, HSL.out, HBW3.out⟩
    ·go_wp2_with fail
     go_loopw [40] (fun kv wr => ∃ (k : Nat) (cur : List Int), kv = .int .i64 (k : Int) ∧ k ≤ m ∧ cur.length = r ∧ (∀ j, 0 ≤ cur.getD j 0 ∧ cur.getD j 0 ≤ ((k : Int) + 1) * 4096) ∧ AdjD.joinDims op args = AdjD.joinGo q cur (args.drop (k + 1)) ∧ Below w0.heap.size w0 wr ∧ Ar.Pre wr g cg cur) (fun kv _ => m - (intOf kv).toNat)
     case atStart => exact ⟨0, a0, rfl, by omega, HR2.out, HBD.out, HV.out, HB2.out, HP2.out⟩
     case round =>
      obtain ⟨k, cur, rfl, hk, hlen, hbd, hj, hb, hp⟩ := hrel
      have HLE := Lib.hid hlen
      have HBND := Lib.hid hbd
      have HJ := Lib.hid hj
      have HB3 := Lib.hid hb
      have HBW3 := Lib.hid (HB.out.trans (hb.mono (by omega)))
      have HP3 := Lib.hid hp
      clear hlen hbd hj hb hp
      obtain ⟨wo, rfl⟩ : ∃ wo : World, wo = wr := ⟨_, rfl⟩
      by_cases hkm : k < m
      ·have hkl : k + 1 < args.length := by have := HN.out; omega
       obtain ⟨v, cv, Ai, ci, rfl, hi, hl1, hl2⟩ := HCELL.out k hkm
       have cv3 := (HBW3.out.cell (p := ⟨b, off + (k + 1), none⟩) (by show b < w.heap.size; omega)).trans cv
       have hoff : (off + 1) + k = off + (k + 1) := by omega
       rw [← hoff] at cv3
       have HX := Lib.hid (fun W (hb : Below w.heap.size w W) => hi.below (hb.mono hB))
       have hsx := HSZ.out args[k + 1] (List.getElem_mem hkl)
       have HJN := Lib.hid (show AdjD.joinDims op args = if AdjD.fitJ q cur args[k + 1] then AdjD.joinGo q (cur.set q (cur.getD q 0 + (args[k + 1]).getD q 0)) (args.drop (k + 1 + 1)) else ([], 6) by
        rw [HJ.out, List.drop_eq_getElem_cons hkl]; rfl)
       have i1 : (0 : Int) ≤ (k : Int) := by omega
       have i2 : (k : Int) < (m : Int) := by omega
       clear cv hi hoff
       generalize args[k + 1] = x at cv3 HX hsx HJN hl1
       by_cases hxl : x.length = r
       ·rw [hxl] at cv3
        have HXL := Lib.hid hxl
        have hxl2 : (r : Int) ≤ 6 := by omega
        have d0 : ((r : Int) != (r : Int)) = false := by simp
        have HP3c := Lib.hid (show Ar.Pre wo g cg (AdjD'.curJ cur x q 0) from HP3.out)
        clear hxl
        go_wp2_with fail
        go_loopw [51] (fun jv wr => ∃ j : Nat, jv = .int .i64 (j : Int) ∧ j ≤ r ∧ (∀ i, i < j → i = q ∨ x.getD i 0 = cur.getD i 0) ∧ Below w0.heap.size w0 wr ∧ Ar.Pre wr g cg (AdjD'.curJ cur x q j)) (fun jv _ => r - (intOf jv).toNat)
        case atStart => exact ⟨0, rfl, by omega, fun i hi => by omega, HB3.out, HP3c.out⟩
        case round =>
         obtain ⟨j, rfl, hjr, hsame, hb4, hp4⟩ := hrel
         have HSM := Lib.hid hsame
         have HB4 := Lib.hid hb4
         have HP4 := Lib.hid hp4
         have HBW4 := Lib.hid (HB.out.trans (hb4.mono (by omega)))
         have ca1 : wr.cell? ⟨ba, oa, none⟩ = some (.int .i64 (q : Int)) := by
          obtain ⟨b', o', e, hb', hc'⟩ := (HA.out wr HBW4.out) (by have := HL1.out; omega)
          injection e with e; injection e with e1 e2; subst e1; subst e2
          have h := hc' 0 (by have := HL1.out; omega)
          rw [Nat.add_zero] at h
          rw [h, CA0.out]
         have cx2 : wr.cell? ⟨w.heap.size, 2, none⟩ = some (.slice (some ⟨ba, oa, none⟩) 1 ca) := (HXB.out.below hb4 HXB.out.lt).cell 2
         have hla : (0 : Int) < 1 := by omega
         have HLEJ := Lib.hid (AdjD'.curJ_len cur x q j)
         clear hsame hb4 hp4
         by_cases hjr2 : j < r
         ·obtain ⟨bx, ox, rfl, hbx, gx⟩ := (HX.out wr HBW4.out) (by have := HXL.out; omega)
          have cx : wr.cell? ⟨bx, ox + j, none⟩ = some (.int .i64 (x.getD j 0)) := by
           rw [AdjD.getD_at x j (by have := HXL.out; omega)]; exact gx j (by have := HXL.out; omega)
          have j1 : (0 : Int) ≤ (j : Int) := by omega
          have j2 : (j : Int) < (r : Int) := by omega
          clear gx
          by_cases hjq : j = q
          ·subst hjq
           have HY := Lib.hid (show ∀ i, i < j + 1 → i = j ∨ x.getD i 0 = cur.getD i 0 from fun i hi => by
            by_cases e : i = j
            ·exact .inl e
            ·exact HSM.out i (by omega))
           have e0 : ((j : Int) == (j : Int)) = true := by simp
           have hcj := AdjD'.curJ_q cur x j
           have HPc := Lib.hid (show Ar.Pre wr g cg cur by rw [← hcj]; exact HP4.out)
           have cc : wr.cell? ⟨g, j, none⟩ = some (.int .i64 (cur.getD j 0)) := by
            rw [AdjD.getD_at cur j (by have := HLE.out; omega)]; exact HPc.out.cell (by have := HLE.out; omega)
           have hbq := HBND.out j
           have hxq : 0 ≤ x.getD j 0 ∧ x.getD j 0 ≤ 4096 := by
            rw [AdjD.getD_at x j (by have := HXL.out; omega)]
            exact hsx.2 _ (List.getElem_mem _)
           have fz := HPc.out.frozen j
           have HP5 := Lib.hid (show Ar.Pre (wr.setCell ⟨g, j, none⟩ (.int .i64 (cur.getD j 0 + x.getD j 0))).drew g cg (AdjD'.curJ cur x j (j + 1)) by
            rw [AdjD'.curJ_next]; exact ((HPc.out.set (i := j) (by have := HLE.out; omega) (cur.getD j 0 + x.getD j 0)).drew))
           have HB5 := Lib.hid ((HB4.out.setCell (p := ⟨g, j, none⟩) hgs (.int .i64 (cur.getD j 0 + x.getD j 0))).drew)
           clear hcj
           obtain ⟨cn, hcn⟩ : ∃ cn, AdjD'.curJ cur x j (j + 1) = cn := ⟨_, rfl⟩
           rw [hcn] at HP5
           have HCN := Lib.hid hcn
           clear hcn
           generalize cur.getD j 0 = cvv at cc hbq HP5 HB5
           generalize x.getD j 0 = xv at cx hxq HP5 HB5
           have qw : IntKind.i64.wrap (cvv + xv) = cvv + xv := IntWalk.i64_in _ (by omega)
           go_wp2_with fail
           refine wp_region_T (fun w' => w'.cell? ⟨g, j, none⟩ = some (.int .i64 cvv) ∧ w'.cell? ⟨bx, ox + j, none⟩ = some (.int .i64 xv)) 12 (fun _ => True) 12 13 rfl (by kernel_rfl) ⟨⟨cc, cx⟩, trivial⟩ (fun hHeld => ?_)
           simp only [List.replicate_succ, List.replicate_zero]
           refine tk (v := ?_) [] 0 60 hHeld ?_ ?_; rotate_left; (intro w h; (try dsimp only at h); go_simp; try with_reducible rfl); try simp only [Act.put, zA, zB, zC]
           refine tk (v := ?_) [] 1 61 hHeld ?_ ?_; rotate_left; (intro w h; (try dsimp only at h); go_simp; try with_reducible rfl); try simp only [Act.put, zA, zB, zC]
           refine tk (v := ?_) [] 2 62 hHeld ?_ ?_; rotate_left; (intro w h; (try dsimp only at h); go_simp; try with_reducible rfl); try simp only [Act.put, zA, zB, zC]
           refine tk (v := ?_) [] 3 63 hHeld ?_ ?_; rotate_left; (intro w h; (try dsimp only at h); go_simp; try with_reducible rfl); try simp only [Act.put, zA, zB, zC]
           refine tk (v := ?_) [] 4 64 hHeld ?_ ?_; rotate_left; (intro w h; (try dsimp only at h); go_simp; try with_reducible rfl); try simp only [Act.put, zA, zB, zC]
           refine tk (v := ?_) [] 5 65 hHeld ?_ ?_; rotate_left; (intro w h; (try dsimp only at h); go_simp; try with_reducible rfl); try simp only [Act.put, zA, zB, zC]
           refine tk (v := ?_) [] 6 66 hHeld ?_ ?_; rotate_left; (intro w h; (try dsimp only at h); go_simp; try with_reducible rfl); try simp only [Act.put, zA, zB, zC]
           refine tk (v := ?_) [] 7 67 hHeld ?_ ?_; rotate_left; (intro w h; (try dsimp only at h); go_simp; try with_reducible rfl); try simp only [Act.put, zA, zB, zC]
           refine tk (v := ?_) [] 8 68 hHeld ?_ ?_; rotate_left; (intro w h; (try dsimp only at h); go_simp; try with_reducible rfl); try simp only [Act.put, zA, zB, zC]
           refine tk (v := ?_) [] 9 69 hHeld ?_ ?_; rotate_left; (intro w h; (try dsimp only at h); go_simp; try with_reducible rfl); try simp only [Act.put, zA, zB, zC]
           refine tk (v := ?_) [] 10 70 hHeld ?_ ?_; rotate_left; (intro w h; (try dsimp only at h); go_simp; try with_reducible rfl); try simp only [Act.put, zA, zB, zC]
           refine tk (v := ?_) [] 11 71 hHeld ?_ ?_; rotate_left; (intro w h; (try dsimp only at h); go_simp; try with_reducible rfl); try simp only [Act.put, zA, zB, zC]
           refine wpT_tail [_] 12 [] rfl (by kernel_rfl) ?_
           obtain ⟨W9, hW9⟩ : ∃ W9, (wr.setCell ⟨g, j, none⟩ (.int .i64 (cvv + xv))).drew = W9 := ⟨_, rfl⟩
           rw [hW9] at HP5 HB5
           clear hHeld
           go_wp2_with fail
           go_roundw
           case rel => exact ⟨j + 1, by go_num, by omega, HY.out, HB5.out, by rw [HCN.out]; exact HP5.out⟩
           case measure => simp [intOf]; omega
          ·have e0 : ((j : Int) == (q : Int)) = false := by simp; omega
           have HCS := Lib.hid (AdjD'.curJ_same cur x q j hjq)
           have cc : wr.cell? ⟨g, j, none⟩ = some (.int .i64 (cur.getD j 0)) := by
            rw [← AdjD'.curJ_at cur x q j j hjq, AdjD.getD_at _ j (by rw [HLEJ.out, HLE.out]; omega)]
            exact HP4.out.cell (by rw [HLEJ.out, HLE.out]; omega)
           have HYES := Lib.hid (fun (h : x.getD j 0 = cur.getD j 0) => show ∀ i, i < j + 1 → i = q ∨ x.getD i 0 = cur.getD i 0 from fun i hi => by
            by_cases e : i = j
            ·subst e; exact .inr h
            ·exact HSM.out i (by omega))
           have HNO := Lib.hid (fun (h1 : j ≠ q) (h2 : x.getD j 0 ≠ cur.getD j 0) => show AdjD.joinDims op args = ([], 6) by
            rw [HJN.out, AdjD'.fit_bad (by have := HLE.out; omega) h1 h2]; rfl)
           generalize x.getD j 0 = xv at cx HYES HNO
           generalize cur.getD j 0 = cvv at cc HYES HNO
           by_cases hxc : xv = cvv
           ·have HY := Lib.hid (HYES.out hxc)
            subst hxc
            have e1 : (xv != xv) = false := by simp
            clear hjq
            go_wp2_with fail
            go_quiet (fail)
            have HBQ := Lib.hid (below_drewN HB4.out nq)
            have HPQ := Lib.hid (HP4.out.drewN nq)
            generalize wr.drewN nq = wq at HBQ HPQ ⊢
            go_wp2_with fail
            go_roundw
            case rel => exact ⟨j + 1, by go_num, by omega, HY.out, HBQ.out, by rw [HCS.out]; exact HPQ.out⟩
            case measure => simp [intOf]; omega
           ·have HN6 := Lib.hid (HNO.out hjq hxc)
            have e1 : (xv != cvv) = true := by simpa using hxc
            clear hjq hxc
            go_wp2_with fail
            go_quiet (fail)
            have HB5 := Lib.hid (below_drewN HBW4.out nq)
            generalize wr.drewN nq = wq at HB5 ⊢
            go_wp2_with fail
            go_ret2
            rw [HN6.out]
            exact ⟨_, rfl, Ar.SlAt.nil _ _, HB5.out⟩
         ·obtain rfl : j = r := by omega
          have hfit : AdjD.fitJ q cur x = true := AdjD'.fit_good (by rw [HXL.out, HLE.out]) (fun i hi => HSM.out i (by rw [← HLE.out]; exact hi))
          have HJ2 := Lib.hid (show AdjD.joinDims op args = AdjD.joinGo q (cur.set q (cur.getD q 0 + x.getD q 0)) (args.drop (k + 1 + 1)) by rw [HJN.out, hfit]; rfl)
          have hbq := HBND.out q
          have hxq : 0 ≤ x.getD q 0 ∧ x.getD q 0 ≤ 4096 := by
           rw [AdjD.getD_at x q (by have := HXL.out; omega)]
           exact hsx.2 _ (List.getElem_mem _)
          have HP5 := Lib.hid (show Ar.Pre wr g cg (cur.set q (cur.getD q 0 + x.getD q 0)) by
           have h := HP4.out
           unfold AdjD'.curJ at h
           rwa [if_pos hqr] at h)
          have HBN2 := Lib.hid (show ∀ i, 0 ≤ (cur.set q (cur.getD q 0 + x.getD q 0)).getD i 0 ∧ (cur.set q (cur.getD q 0 + x.getD q 0)).getD i 0 ≤ (((k + 1 : Nat) : Int) + 1) * 4096 from fun i => by
           rw [AdjD'.getD_setI _ _ _ _ (by have := HLE.out; omega)]
           by_cases e : i = q
           ·rw [if_pos e]; omega
           ·rw [if_neg e]; have := HBND.out i; omega)
          have HL2 := Lib.hid (show (cur.set q (cur.getD q 0 + x.getD q 0)).length = j by rw [List.length_set, HLE.out])
          clear hfit hbq hxq
          generalize cur.set q (cur.getD q 0 + x.getD q 0) = cu at HJ2 HP5 HBN2 HL2
          go_wp2_with fail
          go_roundw
          case rel => exact ⟨k + 1, cu, by go_num, by omega, HL2.out, HBN2.out, HJ2.out, HB4.out, HP5.out⟩
          case measure => simp [intOf]; omega
       ·have HN6 := Lib.hid (show AdjD.joinDims op args = ([], 6) by
          rw [HJN.out, AdjD'.fit_len (by rw [HLE.out]; exact hxl)]; rfl)
        have d0 : ((x.length : Int) != (r : Int)) = true := by simp; omega
        clear hxl
        go_wp2_with fail
        go_ret2
        rw [HN6.out]
        exact ⟨_, rfl, Ar.SlAt.nil _ _, HBW3.out⟩
      ·obtain rfl : k = m := by omega
       have HF := Lib.hid (show AdjD.joinDims op args = (cur, 0) by rw [HJ.out, List.drop_eq_nil_of_le (by have := HN.out; omega)]; rfl)
       have HSL := Lib.hid (HP3.out.sl HOUT.out.2)
       rw [HLE.out] at HSL
       go_wp2_with fail
       go_ret2
       rw [HF.out]
       exact ⟨_, rfl, HSL.out, HBW3.out⟩
 ·have d1 : ((op.at_.length : Int) != 1) = true := by simp; omega
  have HV := Lib.hid (show AdjD.joinDims op args = ([], 6) by rw [HE.out, if_pos (.inl hl1)])
  clear hl1
  go_enter Try.func32, Try.ntmps32
  go_wp2_with fail
  go_quiet (fail)
  go_wp2_with fail
  go_ret2
  rw [HV.out]
  exact ⟨_, rfl, Ar.SlAt.nil _ _, below_drewN HB.out nq⟩
end Go.Proofs.Ytapedmpbkffopaa
end
section
namespace Go.Proofs.Ytapedmpbkffopaa
set_option linter.unusedVariables false
open Go.RowKit Adj
namespace Ar
def lookR (op : AdjD.Op) (d : List Int) : List Int × Int := ((AdjD.looked op d).1.dims, (AdjD.looked op d).2)
theorem look1 (op : AdjD.Op) (d : List Int) : (AdjD.looked op d).1.dims = (lookR op d).1 := rfl
theorem look2 (op : AdjD.Op) (d : List Int) : (AdjD.looked op d).2 = (lookR op d).2 := rfl
end Ar
set_option maxRecDepth 100000 in
set_option maxHeartbeats 8000000 in
theorem Ar.ruled_pad (val : Value) (op : AdjD.Op) (A : Option Addr) (cap : Nat) (d : List Int) (B : Nat) (w : World) (hB : B ≤ w.heap.size) (hsh : Ar.Short op) (hcap : 1 ≤ cap) (hcap2 : cap ≤ 9223372036854775807) (hz : ∀ x ∈ [d], (AdjV.size x).2 = 0) (hop : Ar.OpAt w B val op) (hargs : Ar.ListsAt w B A [d]) (hk : op.kind = 14) :
    Calls Try.prog 24 #[val, .slice A 1 cap] w fun e w' => Ar.RefOut w w' (AdjD.ruled op [d]) e := by
 have HRU := Lib.hid (show AdjD.ruled op [d] = ((AdjD.padDims op d).1, (AdjD.padDims op d).2) by unfold AdjD.ruled; simp [hk])
 have hargs2 := hargs
 obtain ⟨b, off, rfl, hbB, hc⟩ := hargs2 (by simp)
 obtain ⟨v0, cv0, A0, c0, rfl, i0, l0, m0⟩ := hc 0 (by simp)
 rw [Nat.add_zero] at cv0
 simp only [List.getElem_cons_zero] at cv0 i0 l0
 have HI0 := Lib.hid i0
 have hbw : b < w.heap.size := by omega
 clear hc i0
 have HOP := Lib.hid (fun W (hb : Below w.heap.size w W) => (hop.below (hb.mono hB)).up (Nat.le_trans hB hb.size))
 have HAR := Lib.hid (fun W (hb : Below w.heap.size w W) => (hargs.below (hb.mono hB)).up (Nat.le_trans hB hb.size))
 obtain ⟨v1, v2, v3, v4, v5, rfl, ⟨D, cD, rfl, iD, lD, mD⟩, ⟨T, ct, rfl, it, lt, mt⟩, ⟨O, co, rfl, io, lo, mo⟩, ⟨I, ci, rfl, ii, li, mi⟩, ⟨S, cs, rfl, is, ls, ms⟩⟩ := hop
 have HL := Lib.hid (fun W (hb : Below w.heap.size w W) => And.intro ((iD.below (hb.mono hB)).up (Nat.le_trans hB hb.size)) ((it.below (hb.mono hB)).up (Nat.le_trans hB hb.size)))
 have HX := Lib.hid (Blk.new w 37 #[.int .i64 op.kind, .slice D op.dims.length cD, .slice T op.at_.length ct, .slice O op.lo.length co, .slice I op.hi.length ci, .slice S op.step.length cs, .int .i64 op.value])
 have HB := Lib.hid ((Below.refl w.heap.size w).alloc (Nat.le_refl _) (.cells #[.int .i64 op.kind, .slice D op.dims.length cD, .slice T op.at_.length ct, .slice O op.lo.length co, .slice I op.hi.length ci, .slice S op.step.length cs, .int .i64 op.value] 37))
 obtain ⟨w0, hw0⟩ : ∃ w0, w.alloc (.cells #[.int .i64 op.kind, .slice D op.dims.length cD, .slice T op.at_.length ct, .slice O op.lo.length co, .slice I op.hi.length ci, .slice S op.step.length cs, .int .i64 op.value] 37) = w0 := ⟨_, rfl⟩
 rw [hw0] at HX HB
 have hws : w.heap.size < w0.heap.size := HX.out.lt
 have HM := Lib.hid (show (op.dims.length ≤ cD ∧ op.at_.length ≤ ct ∧ op.lo.length ≤ co ∧ op.hi.length ≤ ci ∧ op.step.length ≤ cs) ∧ cD ≤ 9223372036854775807 ∧ ct ≤ 9223372036854775807 from ⟨⟨lD, lt, lo, li, ls⟩, mD, mt⟩)
 have HZ := Lib.hid hz
 clear iD it io ii is lD lt lo li ls mD mt mo mi ms hargs hz
 skip
 have HKK := Lib.hid hk
 rw [hk] at HX HOP hw0 ⊢
 have x0 : w0.cell? ⟨w.heap.size, 0, none⟩ = some (.int .i64 14) := HX.out.cell 0
 have x1 : w0.cell? ⟨w.heap.size, 1, none⟩ = some (.slice D op.dims.length cD) := HX.out.cell 1
 have x2 : w0.cell? ⟨w.heap.size, 2, none⟩ = some (.slice T op.at_.length ct) := HX.out.cell 2
 have x3 : w0.cell? ⟨w.heap.size, 3, none⟩ = some (.slice O op.lo.length co) := HX.out.cell 3
 have x4 : w0.cell? ⟨w.heap.size, 4, none⟩ = some (.slice I op.hi.length ci) := HX.out.cell 4
 have x5 : w0.cell? ⟨w.heap.size, 5, none⟩ = some (.slice S op.step.length cs) := HX.out.cell 5
 have x6 : w0.cell? ⟨w.heap.size, 6, none⟩ = some (.int .i64 op.value) := HX.out.cell 6
 clear hk
 have hz := HZ.out d (by simp)
 obtain ⟨hd6, hdp, _⟩ := AdjV.size_fine hz
 have HDP := Lib.hid hdp
 have HZD := Lib.hid hz
 have ca0 := (HB.out.cell (p := ⟨b, off, none⟩) (by show b < w.heap.size; omega)).trans cv0
 have i1 : (0 : Int) < 1 := by omega
 clear cv0 hz hdp
 go_enter Try.func24, Try.ntmps24
 go_wp2_with fail
 refine wp_region_T (fun w' => w'.cell? ⟨w.heap.size, 0, none⟩ = some (.int .i64 14) ∧ w'.cell? ⟨w.heap.size, 1, none⟩ = some (.slice D op.dims.length cD) ∧ w'.cell? ⟨w.heap.size, 2, none⟩ = some (.slice T op.at_.length ct) ∧ w'.cell? ⟨w.heap.size, 3, none⟩ = some (.slice O op.lo.length co) ∧ w'.cell? ⟨w.heap.size, 4, none⟩ = some (.slice I op.hi.length ci) ∧ w'.cell? ⟨w.heap.size, 5, none⟩ = some (.slice S op.step.length cs) ∧ w'.cell? ⟨w.heap.size, 6, none⟩ = some (.int .i64 op.value) ∧ w'.cell? ⟨b, off, none⟩ = some (.slice A0 d.length c0)) 4 (fun _ => True) 4 9 rfl (by kernel_rfl) ⟨⟨x0, x1, x2, x3, x4, x5, x6, ca0⟩, trivial⟩ (fun hHeld => ?_)
 simp only [List.replicate_succ, List.replicate_zero]
 refine tk (v := ?_) [] 0 86 hHeld ?_ ?_; rotate_left; (intro w h; (try dsimp only at h); go_simp; try with_reducible rfl); try simp only [Act.put, zA, zB, zC]
 refine tk (v := ?_) [2, 3] 1 87 hHeld ?_ ?_; rotate_left; (intro w h; (try dsimp only at h); go_simp; try with_reducible rfl); try simp only [Act.put, zA, zB, zC]
 refine tk (v := ?_) [3] 2 88 hHeld ?_ ?_; rotate_left; (intro w h; (try dsimp only at h); go_simp; try with_reducible rfl); try simp only [Act.put, zA, zB, zC]
 refine tk (v := ?_) [] 3 89 hHeld ?_ ?_; rotate_left; (intro w h; (try dsimp only at h); go_simp; try with_reducible rfl); try simp only [Act.put, zA, zB, zC]
 have HBq := Lib.hid (show Below w.heap.size w w0.drew from HB.out.drew)
 clear hHeld x0 x1 x2 x3 x4 x5 x6 ca0
 generalize w0.drew = wq at HBq ⊢
 have HC := Lib.hid (Ar.padDims_any _ op A0 c0 d wq.heap.size wq (Nat.le_refl _) hd6 HDP.out (HOP.out wq HBq.out) ((HI0.out.below (HBq.out.mono hB)).up (Nat.le_trans hB HBq.out.size)))
 obtain ⟨l, hl⟩ : ∃ l, (AdjD.padDims op d).1 = l := ⟨_, rfl⟩
 obtain ⟨x, hx⟩ : ∃ x, (AdjD.padDims op d).2 = x := ⟨_, rfl⟩
 rw [hl, hx] at HRU
 simp only [hl, hx] at HC
 clear hl hx
 refine wpT_one 4 (by kernel_rfl) (stepT_late rfl rfl (by kernel_rfl) (fun K hK => ?_))
 go_simp
 ((with_reducible refine HC.out.mono ?_); rintro e w2 ⟨v, rfl, hsl, hb2⟩)
 have HB2 := Lib.hid (HBq.out.trans (hb2.mono HBq.out.size))
 have HSL := Lib.hid hsl
 clear hb2 hsl
 try go_simp
 refine hK.out _ _ trivial (fun hHeld => ?_)
 clear hK K
 try simp only [zA, zB, zC]
 refine tp (v := ?_) 5 91 (Till.late (by kernel_rfl) hHeld) ?_ ?_; rotate_left; (intro w; go_simp; try with_reducible rfl); try simp only [Act.put, zA, zB, zC]
 refine tp (v := ?_) 6 92 (Till.late (by kernel_rfl) hHeld) ?_ ?_; rotate_left; (intro w; go_simp; try with_reducible rfl); try simp only [Act.put, zA, zB, zC]
 refine wpT_tail [_, _] 7 [8] rfl (by kernel_rfl) ?_
 go_wp2_with fail
 go_ret2
 rw [HRU.out]
 exact ⟨_, rfl, HSL.out, HB2.out⟩
set_option maxRecDepth 100000 in
set_option maxHeartbeats 8000000 in
theorem Ar.ruled_look (val : Value) (op : AdjD.Op) (A : Option Addr) (cap : Nat) (d : List Int) (B : Nat) (w : World) (hB : B ≤ w.heap.size) (hsh : Ar.Short op) (hcap : 1 ≤ cap) (hcap2 : cap ≤ 9223372036854775807) (hz : ∀ x ∈ [d], (AdjV.size x).2 = 0) (hop : Ar.OpAt w B val op) (hargs : Ar.ListsAt w B A [d]) (K : Int) (hKK : K = 9 ∨ K = 11 ∨ K = 13 ∨ K = 15) (hk : op.kind = K) :
    Calls Try.prog 24 #[val, .slice A 1 cap] w fun e w' => Ar.RefOut w w' (AdjD.ruled op [d]) e := by
 rcases hKK with rfl | rfl | rfl | rfl
 all_goals
  have HRU := Lib.hid (show AdjD.ruled op [d] = ((Ar.lookR op d).1, (Ar.lookR op d).2) by unfold AdjD.ruled; simp [hk, Ar.look1, Ar.look2])
  have hargs2 := hargs
  obtain ⟨b, off, rfl, hbB, hc⟩ := hargs2 (by simp)
  obtain ⟨v0, cv0, A0, c0, rfl, i0, l0, m0⟩ := hc 0 (by simp)
  rw [Nat.add_zero] at cv0
  simp only [List.getElem_cons_zero] at cv0 i0 l0
  have HI0 := Lib.hid i0
  have hbw : b < w.heap.size := by omega
  clear hc i0
  have HOP := Lib.hid (fun W (hb : Below w.heap.size w W) => (hop.below (hb.mono hB)).up (Nat.le_trans hB hb.size))
  have HAR := Lib.hid (fun W (hb : Below w.heap.size w W) => (hargs.below (hb.mono hB)).up (Nat.le_trans hB hb.size))
  obtain ⟨v1, v2, v3, v4, v5, rfl, ⟨D, cD, rfl, iD, lD, mD⟩, ⟨T, ct, rfl, it, lt, mt⟩, ⟨O, co, rfl, io, lo, mo⟩, ⟨I, ci, rfl, ii, li, mi⟩, ⟨S, cs, rfl, is, ls, ms⟩⟩ := hop
  have HL := Lib.hid (fun W (hb : Below w.heap.size w W) => And.intro ((iD.below (hb.mono hB)).up (Nat.le_trans hB hb.size)) ((it.below (hb.mono hB)).up (Nat.le_trans hB hb.size)))
  have HX := Lib.hid (Blk.new w 37 #[.int .i64 op.kind, .slice D op.dims.length cD, .slice T op.at_.length ct, .slice O op.lo.length co, .slice I op.hi.length ci, .slice S op.step.length cs, .int .i64 op.value])
  have HB := Lib.hid ((Below.refl w.heap.size w).alloc (Nat.le_refl _) (.cells #[.int .i64 op.kind, .slice D op.dims.length cD, .slice T op.at_.length ct, .slice O op.lo.length co, .slice I op.hi.length ci, .slice S op.step.length cs, .int .i64 op.value] 37))
  obtain ⟨w0, hw0⟩ : ∃ w0, w.alloc (.cells #[.int .i64 op.kind, .slice D op.dims.length cD, .slice T op.at_.length ct, .slice O op.lo.length co, .slice I op.hi.length ci, .slice S op.step.length cs, .int .i64 op.value] 37) = w0 := ⟨_, rfl⟩
  rw [hw0] at HX HB
  have hws : w.heap.size < w0.heap.size := HX.out.lt
  have HM := Lib.hid (show (op.dims.length ≤ cD ∧ op.at_.length ≤ ct ∧ op.lo.length ≤ co ∧ op.hi.length ≤ ci ∧ op.step.length ≤ cs) ∧ cD ≤ 9223372036854775807 ∧ ct ≤ 9223372036854775807 from ⟨⟨lD, lt, lo, li, ls⟩, mD, mt⟩)
  have HZ := Lib.hid hz
  clear iD it io ii is lD lt lo li ls mD mt mo mi ms hargs hz
  skip
  have HKK := Lib.hid hk
  rw [hk] at HX HOP hw0 ⊢
  have x0 : w0.cell? ⟨w.heap.size, 0, none⟩ = some (.int .i64 _) := HX.out.cell 0
  have x1 : w0.cell? ⟨w.heap.size, 1, none⟩ = some (.slice D op.dims.length cD) := HX.out.cell 1
  have x2 : w0.cell? ⟨w.heap.size, 2, none⟩ = some (.slice T op.at_.length ct) := HX.out.cell 2
  have x3 : w0.cell? ⟨w.heap.size, 3, none⟩ = some (.slice O op.lo.length co) := HX.out.cell 3
  have x4 : w0.cell? ⟨w.heap.size, 4, none⟩ = some (.slice I op.hi.length ci) := HX.out.cell 4
  have x5 : w0.cell? ⟨w.heap.size, 5, none⟩ = some (.slice S op.step.length cs) := HX.out.cell 5
  have x6 : w0.cell? ⟨w.heap.size, 6, none⟩ = some (.int .i64 op.value) := HX.out.cell 6
  clear hk
  have hz := HZ.out d (by simp)
  obtain ⟨hd6, hdp, _⟩ := AdjV.size_fine hz
  have HDP := Lib.hid hdp
  have HZD := Lib.hid hz
  have ca0 := (HB.out.cell (p := ⟨b, off, none⟩) (by show b < w.heap.size; omega)).trans cv0
  have i1 : (0 : Int) < 1 := by omega
  clear cv0 hz hdp
  go_enter Try.func24, Try.ntmps24
  go_wp2_with fail
  refine wp_region_T (fun w' => w'.cell? ⟨w.heap.size, 0, none⟩ = some (.int .i64 _) ∧ w'.cell? ⟨w.heap.size, 1, none⟩ = some (.slice D op.dims.length cD) ∧ w'.cell? ⟨w.heap.size, 2, none⟩ = some (.slice T op.at_.length ct) ∧ w'.cell? ⟨w.heap.size, 3, none⟩ = some (.slice O op.lo.length co) ∧ w'.cell? ⟨w.heap.size, 4, none⟩ = some (.slice I op.hi.length ci) ∧ w'.cell? ⟨w.heap.size, 5, none⟩ = some (.slice S op.step.length cs) ∧ w'.cell? ⟨w.heap.size, 6, none⟩ = some (.int .i64 op.value) ∧ w'.cell? ⟨b, off, none⟩ = some (.slice A0 d.length c0)) 4 (fun _ => True) 4 9 rfl (by kernel_rfl) ⟨⟨x0, x1, x2, x3, x4, x5, x6, ca0⟩, trivial⟩ (fun hHeld => ?_)
  simp only [List.replicate_succ, List.replicate_zero]
  refine tk (v := ?_) [] 0 170 hHeld ?_ ?_; rotate_left; (intro w h; (try dsimp only at h); go_simp; try with_reducible rfl); try simp only [Act.put, zA, zB, zC]
  refine tk (v := ?_) [2, 3] 1 171 hHeld ?_ ?_; rotate_left; (intro w h; (try dsimp only at h); go_simp; try with_reducible rfl); try simp only [Act.put, zA, zB, zC]
  refine tk (v := ?_) [3] 2 172 hHeld ?_ ?_; rotate_left; (intro w h; (try dsimp only at h); go_simp; try with_reducible rfl); try simp only [Act.put, zA, zB, zC]
  refine tk (v := ?_) [] 3 173 hHeld ?_ ?_; rotate_left; (intro w h; (try dsimp only at h); go_simp; try with_reducible rfl); try simp only [Act.put, zA, zB, zC]
  have HBq := Lib.hid (show Below w.heap.size w w0.drew from HB.out.drew)
  clear hHeld x0 x1 x2 x3 x4 x5 x6 ca0
  generalize w0.drew = wq at HBq ⊢
  have HC := Lib.hid (Ar.viewDims_any _ op A0 c0 d wq.heap.size wq (Nat.le_refl _) (HOP.out wq HBq.out) ((HI0.out.below (HBq.out.mono hB)).up (Nat.le_trans hB HBq.out.size)) l0 m0)
  obtain ⟨l, hl⟩ : ∃ l, (Ar.lookR op d).1 = l := ⟨_, rfl⟩
  obtain ⟨x, hx⟩ : ∃ x, (Ar.lookR op d).2 = x := ⟨_, rfl⟩
  rw [hl, hx] at HRU
  simp only [hl, hx, Ar.look1, Ar.look2] at HC
  clear hl hx
  refine wpT_one 4 (by kernel_rfl) (stepT_late rfl rfl (by kernel_rfl) (fun K hK => ?_))
  go_simp
  ((with_reducible refine HC.out.mono ?_); rintro e w2 ⟨v, rfl, hsl, hb2⟩)
  have HB2 := Lib.hid (HBq.out.trans (hb2.mono HBq.out.size))
  have HSL := Lib.hid hsl
  clear hb2 hsl
  try go_simp
  refine hK.out _ _ trivial (fun hHeld => ?_)
  clear hK K
  try simp only [zA, zB, zC]
  refine tp (v := ?_) 5 175 (Till.late (by kernel_rfl) hHeld) ?_ ?_; rotate_left; (intro w; go_simp; try with_reducible rfl); try simp only [Act.put, zA, zB, zC]
  refine tp (v := ?_) 6 176 (Till.late (by kernel_rfl) hHeld) ?_ ?_; rotate_left; (intro w; go_simp; try with_reducible rfl); try simp only [Act.put, zA, zB, zC]
  refine wpT_tail [_, _] 7 [8] rfl (by kernel_rfl) ?_
  go_wp2_with fail
  go_ret2
  rw [HRU.out]
  exact ⟨_, rfl, HSL.out, HB2.out⟩
set_option maxRecDepth 100000 in
set_option maxHeartbeats 8000000 in
theorem Ar.ruled_dot (val : Value) (op : AdjD.Op) (A : Option Addr) (cap : Nat) (d f : List Int) (B : Nat) (w : World) (hB : B ≤ w.heap.size) (hsh : Ar.Short op) (hcap : 2 ≤ cap) (hcap2 : cap ≤ 9223372036854775807) (hz : ∀ x ∈ [d, f], (AdjV.size x).2 = 0) (hop : Ar.OpAt w B val op) (hargs : Ar.ListsAt w B A [d, f]) (hk : op.kind = 16) :
    Calls Try.prog 24 #[val, .slice A 2 cap] w fun e w' => Ar.RefOut w w' (AdjD.ruled op [d, f]) e := by
 have HRU := Lib.hid (show AdjD.ruled op [d, f] = ((AdjD.dotDims op d f).1, (AdjD.dotDims op d f).2) by unfold AdjD.ruled; simp [hk])
 have hargs2 := hargs
 obtain ⟨b, off, rfl, hbB, hc⟩ := hargs2 (by simp)
 obtain ⟨v0, cv0, A0, c0, rfl, i0, l0, m0⟩ := hc 0 (by simp)
 obtain ⟨v1', cv1, A1, c1, rfl, i1', l1, m1⟩ := hc 1 (by simp)
 rw [Nat.add_zero] at cv0
 simp only [List.getElem_cons_zero, List.getElem_cons_succ] at cv0 i0 l0 cv1 i1' l1
 have HI0 := Lib.hid i0
 have HI1 := Lib.hid i1'
 have hbw : b < w.heap.size := by omega
 clear hc i0 i1'
 have HOP := Lib.hid (fun W (hb : Below w.heap.size w W) => (hop.below (hb.mono hB)).up (Nat.le_trans hB hb.size))
 have HAR := Lib.hid (fun W (hb : Below w.heap.size w W) => (hargs.below (hb.mono hB)).up (Nat.le_trans hB hb.size))
 obtain ⟨v1, v2, v3, v4, v5, rfl, ⟨D, cD, rfl, iD, lD, mD⟩, ⟨T, ct, rfl, it, lt, mt⟩, ⟨O, co, rfl, io, lo, mo⟩, ⟨I, ci, rfl, ii, li, mi⟩, ⟨S, cs, rfl, is, ls, ms⟩⟩ := hop
 have HL := Lib.hid (fun W (hb : Below w.heap.size w W) => And.intro ((iD.below (hb.mono hB)).up (Nat.le_trans hB hb.size)) ((it.below (hb.mono hB)).up (Nat.le_trans hB hb.size)))
 have HX := Lib.hid (Blk.new w 37 #[.int .i64 op.kind, .slice D op.dims.length cD, .slice T op.at_.length ct, .slice O op.lo.length co, .slice I op.hi.length ci, .slice S op.step.length cs, .int .i64 op.value])
 have HB := Lib.hid ((Below.refl w.heap.size w).alloc (Nat.le_refl _) (.cells #[.int .i64 op.kind, .slice D op.dims.length cD, .slice T op.at_.length ct, .slice O op.lo.length co, .slice I op.hi.length ci, .slice S op.step.length cs, .int .i64 op.value] 37))
 obtain ⟨w0, hw0⟩ : ∃ w0, w.alloc (.cells #[.int .i64 op.kind, .slice D op.dims.length cD, .slice T op.at_.length ct, .slice O op.lo.length co, .slice I op.hi.length ci, .slice S op.step.length cs, .int .i64 op.value] 37) = w0 := ⟨_, rfl⟩
 rw [hw0] at HX HB
 have hws : w.heap.size < w0.heap.size := HX.out.lt
 have HM := Lib.hid (show (op.dims.length ≤ cD ∧ op.at_.length ≤ ct ∧ op.lo.length ≤ co ∧ op.hi.length ≤ ci ∧ op.step.length ≤ cs) ∧ cD ≤ 9223372036854775807 ∧ ct ≤ 9223372036854775807 from ⟨⟨lD, lt, lo, li, ls⟩, mD, mt⟩)
 have HZ := Lib.hid hz
 clear iD it io ii is lD lt lo li ls mD mt mo mi ms hargs hz
 skip
 have HKK := Lib.hid hk
 rw [hk] at HX HOP hw0 ⊢
 have x0 : w0.cell? ⟨w.heap.size, 0, none⟩ = some (.int .i64 16) := HX.out.cell 0
 have x1 : w0.cell? ⟨w.heap.size, 1, none⟩ = some (.slice D op.dims.length cD) := HX.out.cell 1
 have x2 : w0.cell? ⟨w.heap.size, 2, none⟩ = some (.slice T op.at_.length ct) := HX.out.cell 2
 have x3 : w0.cell? ⟨w.heap.size, 3, none⟩ = some (.slice O op.lo.length co) := HX.out.cell 3
 have x4 : w0.cell? ⟨w.heap.size, 4, none⟩ = some (.slice I op.hi.length ci) := HX.out.cell 4
 have x5 : w0.cell? ⟨w.heap.size, 5, none⟩ = some (.slice S op.step.length cs) := HX.out.cell 5
 have x6 : w0.cell? ⟨w.heap.size, 6, none⟩ = some (.int .i64 op.value) := HX.out.cell 6
 clear hk
 have hz := HZ.out d (by simp)
 have hzf := HZ.out f (by simp)
 obtain ⟨hd6, hdp, _⟩ := AdjV.size_fine hz
 obtain ⟨hf6, hfp, _⟩ := AdjV.size_fine hzf
 have HDP := Lib.hid (And.intro hdp hfp)
 have ca0 := (HB.out.cell (p := ⟨b, off, none⟩) (by show b < w.heap.size; omega)).trans cv0
 have ca1 := (HB.out.cell (p := ⟨b, off + 1, none⟩) (by show b < w.heap.size; omega)).trans cv1
 have i1 : (0 : Int) < 2 := by omega
 have i2 : (1 : Int) < 2 := by omega
 clear cv0 cv1 hz hzf hdp hfp
 go_enter Try.func24, Try.ntmps24
 go_wp2_with fail
 refine wp_region_T (fun w' => w'.cell? ⟨w.heap.size, 0, none⟩ = some (.int .i64 16) ∧ w'.cell? ⟨w.heap.size, 1, none⟩ = some (.slice D op.dims.length cD) ∧ w'.cell? ⟨w.heap.size, 2, none⟩ = some (.slice T op.at_.length ct) ∧ w'.cell? ⟨w.heap.size, 3, none⟩ = some (.slice O op.lo.length co) ∧ w'.cell? ⟨w.heap.size, 4, none⟩ = some (.slice I op.hi.length ci) ∧ w'.cell? ⟨w.heap.size, 5, none⟩ = some (.slice S op.step.length cs) ∧ w'.cell? ⟨w.heap.size, 6, none⟩ = some (.int .i64 op.value) ∧ w'.cell? ⟨b, off, none⟩ = some (.slice A0 d.length c0) ∧ w'.cell? ⟨b, off + 1, none⟩ = some (.slice A1 f.length c1)) 7 (fun _ => True) 7 12 rfl (by kernel_rfl) ⟨⟨x0, x1, x2, x3, x4, x5, x6, ca0, ca1⟩, trivial⟩ (fun hHeld => ?_)
 simp only [List.replicate_succ, List.replicate_zero]
 refine tk (v := ?_) [] 0 95 hHeld ?_ ?_; rotate_left; (intro w h; (try dsimp only at h); go_simp; try with_reducible rfl); try simp only [Act.put, zA, zB, zC]
 refine tk (v := ?_) [2, 3] 1 96 hHeld ?_ ?_; rotate_left; (intro w h; (try dsimp only at h); go_simp; try with_reducible rfl); try simp only [Act.put, zA, zB, zC]
 refine tk (v := ?_) [3] 2 97 hHeld ?_ ?_; rotate_left; (intro w h; (try dsimp only at h); go_simp; try with_reducible rfl); try simp only [Act.put, zA, zB, zC]
 refine tk (v := ?_) [] 3 98 hHeld ?_ ?_; rotate_left; (intro w h; (try dsimp only at h); go_simp; try with_reducible rfl); try simp only [Act.put, zA, zB, zC]
 refine tk (v := ?_) [5, 6] 4 99 hHeld ?_ ?_; rotate_left; (intro w h; (try dsimp only at h); go_simp; try with_reducible rfl); try simp only [Act.put, zA, zB, zC]
 refine tk (v := ?_) [6] 5 100 hHeld ?_ ?_; rotate_left; (intro w h; (try dsimp only at h); go_simp; try with_reducible rfl); try simp only [Act.put, zA, zB, zC]
 refine tk (v := ?_) [] 6 101 hHeld ?_ ?_; rotate_left; (intro w h; (try dsimp only at h); go_simp; try with_reducible rfl); try simp only [Act.put, zA, zB, zC]
 have HBq := Lib.hid (show Below w.heap.size w w0.drew from HB.out.drew)
 clear hHeld x0 x1 x2 x3 x4 x5 x6 ca0 ca1
 generalize w0.drew = wq at HBq ⊢
 have HC := Lib.hid (Ar.dotDims_any _ op A0 A1 c0 c1 d f wq.heap.size wq (Nat.le_refl _) hd6 hf6 hsh.2.1 hsh.2.2.1 hsh.2.2.2.1 hsh.2.2.2.2 (HOP.out wq HBq.out) ((HI0.out.below (HBq.out.mono hB)).up (Nat.le_trans hB HBq.out.size)) ((HI1.out.below (HBq.out.mono hB)).up (Nat.le_trans hB HBq.out.size)))
 obtain ⟨l, hl⟩ : ∃ l, (AdjD.dotDims op d f).1 = l := ⟨_, rfl⟩
 obtain ⟨x, hx⟩ : ∃ x, (AdjD.dotDims op d f).2 = x := ⟨_, rfl⟩
 rw [hl, hx] at HRU HC
 clear hl hx
 refine wpT_one 7 (by kernel_rfl) (stepT_late rfl rfl (by kernel_rfl) (fun K hK => ?_))
 go_simp
 ((with_reducible refine HC.out.mono ?_); rintro e w2 ⟨v, rfl, hsl, hb2⟩)
 have HB2 := Lib.hid (HBq.out.trans (hb2.mono HBq.out.size))
 have HSL := Lib.hid hsl
 clear hb2 hsl
 try go_simp
 refine hK.out _ _ trivial (fun hHeld => ?_)
 clear hK K
 try simp only [zA, zB, zC]
 refine tp (v := ?_) 8 103 (Till.late (by kernel_rfl) hHeld) ?_ ?_; rotate_left; (intro w; go_simp; try with_reducible rfl); try simp only [Act.put, zA, zB, zC]
 refine tp (v := ?_) 9 104 (Till.late (by kernel_rfl) hHeld) ?_ ?_; rotate_left; (intro w; go_simp; try with_reducible rfl); try simp only [Act.put, zA, zB, zC]
 refine wpT_tail [_, _] 10 [11] rfl (by kernel_rfl) ?_
 go_wp2_with fail
 go_ret2
 rw [HRU.out]
 exact ⟨_, rfl, HSL.out, HB2.out⟩
set_option maxRecDepth 100000 in
set_option maxHeartbeats 8000000 in
theorem Ar.ruled_join (val : Value) (op : AdjD.Op) (A : Option Addr) (cap : Nat) (args : List (List Int)) (B : Nat) (w : World) (hB : B ≤ w.heap.size) (hsh : Ar.Short op) (hn0 : 0 < args.length) (hn1 : args.length ≤ 8388608) (hcap : args.length ≤ cap) (hcap2 : cap ≤ 9223372036854775807) (hz : ∀ d ∈ args, (AdjV.size d).2 = 0) (hop : Ar.OpAt w B val op) (hargs : Ar.ListsAt w B A args) (hk : op.kind = 17) :
    Calls Try.prog 24 #[val, .slice A args.length cap] w fun e w' => Ar.RefOut w w' (AdjD.ruled op args) e := by
 have HRU := Lib.hid (show AdjD.ruled op args = ((AdjD.joinDims op args).1, (AdjD.joinDims op args).2) by unfold AdjD.ruled; simp [hk])
 have HOP := Lib.hid (fun W (hb : Below w.heap.size w W) => (hop.below (hb.mono hB)).up (Nat.le_trans hB hb.size))
 have HAR := Lib.hid (fun W (hb : Below w.heap.size w W) => (hargs.below (hb.mono hB)).up (Nat.le_trans hB hb.size))
 obtain ⟨v1, v2, v3, v4, v5, rfl, ⟨D, cD, rfl, iD, lD, mD⟩, ⟨T, ct, rfl, it, lt, mt⟩, ⟨O, co, rfl, io, lo, mo⟩, ⟨I, ci, rfl, ii, li, mi⟩, ⟨S, cs, rfl, is, ls, ms⟩⟩ := hop
 have HL := Lib.hid (fun W (hb : Below w.heap.size w W) => And.intro ((iD.below (hb.mono hB)).up (Nat.le_trans hB hb.size)) ((it.below (hb.mono hB)).up (Nat.le_trans hB hb.size)))
 have HX := Lib.hid (Blk.new w 37 #[.int .i64 op.kind, .slice D op.dims.length cD, .slice T op.at_.length ct, .slice O op.lo.length co, .slice I op.hi.length ci, .slice S op.step.length cs, .int .i64 op.value])
 have HB := Lib.hid ((Below.refl w.heap.size w).alloc (Nat.le_refl _) (.cells #[.int .i64 op.kind, .slice D op.dims.length cD, .slice T op.at_.length ct, .slice O op.lo.length co, .slice I op.hi.length ci, .slice S op.step.length cs, .int .i64 op.value] 37))
 obtain ⟨w0, hw0⟩ : ∃ w0, w.alloc (.cells #[.int .i64 op.kind, .slice D op.dims.length cD, .slice T op.at_.length ct, .slice O op.lo.length co, .slice I op.hi.length ci, .slice S op.step.length cs, .int .i64 op.value] 37) = w0 := ⟨_, rfl⟩
 rw [hw0] at HX HB
 have hws : w.heap.size < w0.heap.size := HX.out.lt
 have HM := Lib.hid (show (op.dims.length ≤ cD ∧ op.at_.length ≤ ct ∧ op.lo.length ≤ co ∧ op.hi.length ≤ ci ∧ op.step.length ≤ cs) ∧ cD ≤ 9223372036854775807 ∧ ct ≤ 9223372036854775807 from ⟨⟨lD, lt, lo, li, ls⟩, mD, mt⟩)
 have HZ := Lib.hid hz
 clear iD it io ii is lD lt lo li ls mD mt mo mi ms hargs hz
 skip
 have HKK := Lib.hid hk
 rw [hk] at HX HOP hw0 ⊢
 have x0 : w0.cell? ⟨w.heap.size, 0, none⟩ = some (.int .i64 17) := HX.out.cell 0
 have x1 : w0.cell? ⟨w.heap.size, 1, none⟩ = some (.slice D op.dims.length cD) := HX.out.cell 1
 have x2 : w0.cell? ⟨w.heap.size, 2, none⟩ = some (.slice T op.at_.length ct) := HX.out.cell 2
 have x3 : w0.cell? ⟨w.heap.size, 3, none⟩ = some (.slice O op.lo.length co) := HX.out.cell 3
 have x4 : w0.cell? ⟨w.heap.size, 4, none⟩ = some (.slice I op.hi.length ci) := HX.out.cell 4
 have x5 : w0.cell? ⟨w.heap.size, 5, none⟩ = some (.slice S op.step.length cs) := HX.out.cell 5
 have x6 : w0.cell? ⟨w.heap.size, 6, none⟩ = some (.int .i64 op.value) := HX.out.cell 6
 clear hk
 have HC := Lib.hid (Ar.joinDims_any _ op A cap args w0.heap.size w0 (Nat.le_refl _) hn0 (by omega) hcap hcap2 (fun d hd => ⟨(AdjV.size_fine (HZ.out d hd)).1, (AdjV.size_fine (HZ.out d hd)).2.1⟩) (HOP.out w0 HB.out) (HAR.out w0 HB.out))
 obtain ⟨l, hl⟩ : ∃ l, (AdjD.joinDims op args).1 = l := ⟨_, rfl⟩
 obtain ⟨x, hx⟩ : ∃ x, (AdjD.joinDims op args).2 = x := ⟨_, rfl⟩
 rw [hl, hx] at HRU HC
 clear hl hx
 have HBq := Lib.hid HB.out
 go_enter Try.func24, Try.ntmps24
 go_wp2_with fail
 ((with_reducible refine HC.out.mono ?_); rintro e w2 ⟨v, rfl, hsl, hb2⟩)
 have HB2 := Lib.hid (HBq.out.trans (hb2.mono HBq.out.size))
 have HSL := Lib.hid hsl
 clear hb2 hsl
 go_wp2_with fail
 go_ret2
 rw [HRU.out]
 exact ⟨_, rfl, HSL.out, HB2.out⟩
end Go.Proofs.Ytapedmpbkffopaa
end
