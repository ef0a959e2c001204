/-
  PROVED: CoreCalmSaid: for every code, memory and two lists of picks the law CoreCalm returns true: without a race both runs come to one end. No condition.
-/
import Derived.Test.YtlnfmipcbhhkhaaCoreU
import Derived.Test.YtlnfmipcbhhkhaaCoreX
import Derived.Test.YtlnfmipcbhhkhaaCoreL
import Derived.Test.YtlnfmipcbhhkhaaCorePlainA
import Derived.Test.YtlnfmipcbhhkhaaOpenWords
import Derived.Test.YtlnfmipcbhhkhaaLawRow
import Derived.Test.YtlnfmipcbhhkhaaChecked
import Derived.Test.YtlnfmipcbhhkhaaRows
namespace Go.Proofs.Ytlnfmipcbhhkhaa.coreCalm
open Go.ChangeShapes Go.WideShapes Go.ChangeAt Go.RowKit Adj
set_option linter.unusedVariables false

theorem own : ownKnob Try.prog.godebug = none := by kernel_rfl
theorem laid : laidOutB Try.prog = true := by kernel_rfl

theorem Cr.words_below {w w' : World} {v : Value} {l : List Int} (h : Cr.Words w v l) (hb : Below w.heap.size w w') : Cr.Words w' v l := by
  obtain ⟨A, cap, rfl, hi, h1, h2⟩ := h
  exact ⟨A, cap, rfl, (hi.below hb).up hb.size, h1, h2⟩
theorem calm_of_races {c : AdjC.Code} (h1 : (AdjC.races c).1.1 = false) (h2 : (AdjC.races c).2 = 0) : AdjC.wrong c = 0 ∧ AdjC.race c = none := by
  by_cases hw : AdjC.wrong c = 0
  · refine ⟨hw, ?_⟩
    rcases hr : AdjC.race c with _ | ⟨i, j⟩
    · rfl
    · rw [AdjC.races_some hw hr] at h1; cases h1
  · rw [AdjC.races_wrong hw] at h2; exact absurd h2 hw

set_option maxRecDepth 100000 in
set_option maxHeartbeats 4000000 in
theorem alive_any (w : World) : Calls Try.prog 13 #[] w fun e w' => e = .returned (.bool true) ∧ Below w.heap.size w w' := by
  have HB := Lib.hid (fun o o' => ((Below.refl w.heap.size w).alloc (Nat.le_refl _) o).alloc (by simp) o')
  have HR := Lib.hid (show ∀ W, W = ((w.alloc (.cells #[.int .i64 1, .int .i64 0, .int .i64 0, .int .i64 0, .int .i64 1, .int .i64 0] 42)).alloc (.cells #[.int .i64 7] 2)) →
      Calls Try.prog 8 #[.agg #[.int .i64 1, .int .i64 1, .slice (some ⟨w.heap.size, 0, none⟩) 1 1, .slice none 0 0], .slice (some ⟨w.heap.size + 1, 0, none⟩) 1 1, .slice none 0 0] W (Cr.RunV W ([7], 0)) from by
    intro W hW
    subst hW
    have b1 : Blk ((w.alloc (.cells #[.int .i64 1, .int .i64 0, .int .i64 0, .int .i64 0, .int .i64 1, .int .i64 0] 42)).alloc (.cells #[.int .i64 7] 2)) w.heap.size 42 #[.int .i64 1, .int .i64 0, .int .i64 0, .int .i64 0, .int .i64 1, .int .i64 0] := (Blk.new w _ _).alloc _
    have b2 : Blk ((w.alloc (.cells #[.int .i64 1, .int .i64 0, .int .i64 0, .int .i64 0, .int .i64 1, .int .i64 0] 42)).alloc (.cells #[.int .i64 7] 2)) (w.heap.size + 1) 2 #[.int .i64 7] := by
      have h := Blk.new (w.alloc (.cells #[.int .i64 1, .int .i64 0, .int .i64 0, .int .i64 0, .int .i64 1, .int .i64 0] 42)) 2 #[.int .i64 7]
      rwa [World.size_alloc] at h
    have hrun : AdjC.run ⟨1, 1, [⟨1, 0, 0, 0, 1, 0⟩], []⟩ [7] [] = ([7], 0) := by decide
    rw [← hrun]
    exact Run_any _ ⟨1, 1, [⟨1, 0, 0, 0, 1, 0⟩], []⟩ (some ⟨w.heap.size + 1, 0, none⟩) none 1 0 [7] [] _ ⟨some ⟨w.heap.size, 0, none⟩, 1, none, 0, rfl, IntsAt.of_blk b1, IntsAt.nil, by simp, by omega, by simp, by omega⟩ (IntsAt.of_blk b2) IntsAt.nil (by simp) (by simp))
  go_enter Try.func13, Try.ntmps13
  go_wp2_with fail
  ((with_reducible refine (HR.out _ rfl).mono ?_); rintro e w3 ⟨v, rfl, hb, A, cap, rfl, hi, _, _⟩)
  have HF := Lib.hid ((HB.out (.cells #[.int .i64 1, .int .i64 0, .int .i64 0, .int .i64 0, .int .i64 1, .int .i64 0] 42) (.cells #[.int .i64 7] 2)).trans (hb.mono (by simp; omega)))
  obtain ⟨b, off, rfl, hbl⟩ := hi.spot (by simp)
  have h0 := hi.get (i := 0) (by simp)
  simp only [List.getElem_cons_zero, Nat.add_zero] at h0
  clear hi hb HR HB
  simp only [List.length_cons, List.length_nil]
  go_wp2_with fail
  go_ret
  exact ⟨rfl, HF.out⟩

set_option maxRecDepth 100000 in
set_option maxHeartbeats 4000000 in
theorem walk (val : Value) (c : AdjC.Code) (MA PA QA : Option Addr) (mcap pcap qcap : Nat) (mem picks others : List Int) (w : World) (h : Cr.CodeAt w w.heap.size val c) (hm : IntsAt w w.heap.size MA mem) (hp : IntsAt w w.heap.size PA picks) (hq : IntsAt w w.heap.size QA others)
    (hml : mem.length ≤ 9223372036854775807) (hpl : picks.length ≤ 9223372036854775807) (hql : others.length ≤ 9223372036854775807) :
    Calls Try.prog 5 #[val, .slice MA mem.length mcap, .slice PA picks.length pcap, .slice QA others.length qcap] w fun e w' => e = .returned (.bool true) ∧ Below w.heap.size w w' := by
  have HT := Lib.hid (fun W (hb : Below w.heap.size w W) => Races_any val c W ((h.below hb).up hb.size))
  have HR1 := Lib.hid (fun W (hb : Below w.heap.size w W) => Run_any val c MA PA mcap pcap mem picks W ((h.below hb).up hb.size) ((hm.below hb).up hb.size) ((hp.below hb).up hb.size) hml hpl)
  have HR2 := Lib.hid (fun W (hb : Below w.heap.size w W) => Run_any val c MA QA mcap qcap mem others W ((h.below hb).up hb.size) ((hm.below hb).up hb.size) ((hq.below hb).up hb.size) hml hql)
  obtain ⟨A, n, A', n', rfl, _, _, _⟩ := h
  have HB0 := Lib.hid ((Below.refl w.heap.size w).alloc (Nat.le_refl _) (.cells #[.int .i64 c.pad, .int .i64 c.mem, .slice A c.mover.length n, .slice A' c.maker.length n'] 24))
  have HX0 := Lib.hid (Blk.new w 24 #[.int .i64 c.pad, .int .i64 c.mem, .slice A c.mover.length n, .slice A' c.maker.length n'])
  clear hm hp hq
  go_enter Try.func5, Try.ntmps5
  go_wp2_with fail
  ((with_reducible refine (alive_any _).mono ?_); rintro e w1 ⟨rfl, hb1⟩)
  have HB1 := Lib.hid (HB0.out.trans (hb1.mono HB0.out.size))
  have HX1 := Lib.hid (HX0.out.below hb1 HX0.out.lt)
  have a0 := HX1.out.cell 0
  have a1 := HX1.out.cell 1
  have a2 := HX1.out.cell 2
  have a3 := HX1.out.cell 3
  clear hb1 HB0 HX0
  go_wp2_with fail
  ((with_reducible refine (HT.out _ HB1.out).mono ?_); rintro e w2 ⟨rfl, hb2⟩)
  have HB2 := Lib.hid (HB1.out.trans (hb2.mono HB1.out.size))
  have HX2 := Lib.hid (HX1.out.below hb2 HX1.out.lt)
  clear hb2 a0 a1 a2 a3 HB1 HX1 HT
  obtain ⟨r, hr⟩ : ∃ r, AdjC.races c = r := ⟨_, rfl⟩
  have HCM := Lib.hid (fun h1 h2 => calm_of_races (c := c) h1 h2)
  rw [hr] at HCM ⊢
  obtain ⟨⟨ra, ri, rj⟩, re⟩ := r
  unfold Cr.raceV
  simp only at HCM ⊢
  have HR := Lib.hid hr
  clear hr
  have hlt2 : w.heap.size < w2.heap.size := HX2.out.lt
  have HB3 := Lib.hid (HB2.out.alloc HB2.out.size (.cells #[.bool ra, .int .i64 ri, .int .i64 rj] 26))
  have HX3 := Lib.hid (HX2.out.alloc (.cells #[.bool ra, .int .i64 ri, .int .i64 rj] 26))
  by_cases hre : re = 0
  · cases ra with
    | true =>
      subst hre
      go_wp2_with fail
      go_ret
      exact ⟨rfl, HB3.out⟩
    | false =>
      have HRC := Lib.hid (AdjC.run_calm (HCM.out rfl hre).1 (HCM.out rfl hre).2 mem picks others)
      subst hre
      have a0 := HX3.out.cell 0
      have a1 := HX3.out.cell 1
      have a2 := HX3.out.cell 2
      have a3 := HX3.out.cell 3
      go_wp2_with fail
      ((with_reducible refine (HR1.out _ HB3.out).mono ?_); rintro e w4 ⟨va, rfl, hb4, hw4⟩)
      have HB4 := Lib.hid (HB3.out.trans (hb4.mono HB3.out.size))
      have HX4 := Lib.hid (HX3.out.below hb4 HX3.out.lt)
      have HW4 := Lib.hid hw4
      obtain ⟨r, hr⟩ : ∃ r, AdjC.run c mem picks = r := ⟨_, rfl⟩
      have HR2' := Lib.hid (fun W (hb : Below w.heap.size w W) => HR2.out W hb)
      rw [← HRC.out, hr] at HR2'
      rw [hr] at HW4 ⊢
      obtain ⟨l, re⟩ := r
      simp only at HW4 ⊢
      clear hb4 hw4 a0 a1 a2 a3 HB3 HX3 HRC HR1 HR2 hr HCM HR
      have a0 := HX4.out.cell 0
      have a1 := HX4.out.cell 1
      have a2 := HX4.out.cell 2
      have a3 := HX4.out.cell 3
      go_wp2_with fail
      ((with_reducible refine (HR2'.out _ HB4.out).mono ?_); rintro e w5 ⟨vb, rfl, hb5, hw5⟩)
      have HB5 := Lib.hid (HB4.out.trans (hb5.mono HB4.out.size))
      have HSW := Lib.hid (sameWords_any va vb l w5 (Cr.words_below HW4.out hb5) hw5)
      clear hb5 hw5 a0 a1 a2 a3
      simp only
      have q0 : (re == re) = true := by simp
      go_wp2_with fail
      ((with_reducible refine HSW.out.mono ?_); rintro e w6 ⟨rfl, hb6⟩)
      have HB6 := Lib.hid (HB5.out.trans (hb6.mono HB5.out.size))
      clear hb6
      go_wp2_with fail
      go_ret
      exact ⟨rfl, HB6.out⟩
  · have q0 : (re != 0) = true := by simpa using hre
    clear hre
    go_wp2_with fail
    go_ret
    exact ⟨rfl, HB3.out⟩

theorem trodAll_four {H : Type} {enc : TypeId × Value → H} {P : Program} {w : World} {base : Nat} {spare : Bool} {held : Nat → Bool} {t0 t1 t2 t3 : TypeId} {args : Array Value} {ds : List (DataW H)} {ps : List MemPlace} (h : DataW.TrodAll enc P w base held spare [t0, t1, t2, t3] args.toList ds ps) :
    ∃ v0 v1 v2 v3 d0 d1 d2 d3 p0 p1 p2 p3, args = #[v0, v1, v2, v3] ∧ ds = [d0, d1, d2, d3] ∧ DataW.Trod enc P w base held spare t0 v0 d0 p0 ∧ DataW.Trod enc P w base held spare t1 v1 d1 p1 ∧ DataW.Trod enc P w base held spare t2 v2 d2 p2 ∧ DataW.Trod enc P w base held spare t3 v3 d3 p3 := by
  obtain ⟨v, vs, d, ds', p, q, hargs, rfl, rfl, hd, hrest⟩ := trodAll_cons h
  obtain ⟨v1, vs1, d1, ds1, p1, q1, rfl, rfl, rfl, hd1, hrest1⟩ := trodAll_cons hrest
  obtain ⟨v2, vs2, d2, ds2, p2, q2, rfl, rfl, rfl, hd2, hrest2⟩ := trodAll_cons hrest1
  obtain ⟨v3, vs3, d3, ds3, p3, q3, rfl, rfl, rfl, hd3, hrest3⟩ := trodAll_cons hrest2
  obtain ⟨rfl, rfl, rfl⟩ := trodAll_nil hrest3
  exact ⟨v, v1, v2, v3, d, d1, d2, d3, p, p1, p2, p3, by cases args; simp_all, rfl, hd, hd1, hd2, hd3⟩
theorem lifted (os : Os) (started : os.Started) (H : Type) (enc : TypeId × Value → H) :
    ReturnsInHanded {} Try.checked os 5 .any (Rows.coreCalmSpec.pre6 enc Try.prog Try.f5 Rows.coreCalmRow.domain false) (Rows.coreCalmSpec.post enc Try.prog Try.f5 false true false false) := by
  refine Adj.law_lifted (C := Try.checked) (s := Rows.coreCalmSpec) own started (by kernel_rfl) Try.func5 laid rfl rfl Try.underlying4
      (by rw [Try.params5]; intro t ht; simp only [List.mem_cons, List.not_mem_nil, or_false] at ht; rcases ht with rfl | rfl | rfl | rfl <;> exact ⟨by kernel_rfl, of_decide_eq_true (by kernel_rfl)⟩)
      (by intro ds hd; match ds, hd with | [d1, d2, d3, d4], _ => exact ⟨rfl, rfl, rfl⟩)
      (ChangeSpec.witness6 (enc := enc) (C := Try.checked) false ⟨#[], #[.agg #[.int .i64 0, .int .i64 0, .slice none 0 0, .slice none 0 0], .slice none 0 0, .slice none 0 0, .slice none 0 0], []⟩ 8 (by kernel_rfl) (by kernel_rfl) (by kernel_rfl) (by kernel_rfl)) ?_
  intro W base args ds before hval0 hA0 _ hz0
  have hval : ∀ (j : Nat) t v, Try.f5.params[j]? = some t → args[j]? = some v → Value.okWide Try.prog W .any base t v := hval0
  have hA : DataW.TrodAll enc Try.prog W 0 (fun _ => true) true Try.f5.params.toList args.toList ds before := hA0
  rw [Try.params5] at hA hval
  obtain ⟨v0, v1, v2, v3, d0, d1, d2, d3, p0, p1, p2, p3, rfl, rfl, h0, h1, h2, h3⟩ := trodAll_four hA
  obtain ⟨c, hc⟩ := open_code (hval 0 24 v0 rfl rfl) h0
  obtain ⟨A1, L1, c1, rfl, i1, l1, m1⟩ := open_numbers Try.underlying31 Try.underlying2 Try.cellsI64 (hval 1 31 v1 rfl rfl) h1
  obtain ⟨A2, L2, c2, rfl, i2, l2, m2⟩ := open_numbers Try.underlying32 Try.underlying3 Try.cellsI (hval 2 32 v2 rfl rfl) h2
  obtain ⟨A3, L3, c3, rfl, i3, l3, m3⟩ := open_numbers Try.underlying32 Try.underlying3 Try.cellsI (hval 3 32 v3 rfl rfl) h3
  exact walk v0 c A1 A2 A3 c1 c2 c3 L1 L2 L3 W hc i1 i2 i3 (by omega) (by omega) (by omega)

theorem proved : Rows.CoreCalmSaid :=
  OpenClaim.holds_of_wide 5 Try.f5 rfl rfl rfl rfl rfl rfl rfl ⟨rfl, rfl, rfl, rfl, rfl⟩ rfl rfl rfl rfl rfl (by kernel_rfl) Try.func5 (by kernel_rfl)
    (of_decide_eq_true (by kernel_rfl)) (by unfold Func.isWrapper; first | (rw [if_pos (by decide +kernel)]; kernel_rfl) | (rw [if_neg (by decide +kernel)]; exact ⟨rfl, rfl⟩))
    (fun os started H enc _ => lifted os started H enc)
#print axioms proved
end Go.Proofs.Ytlnfmipcbhhkhaa.coreCalm
