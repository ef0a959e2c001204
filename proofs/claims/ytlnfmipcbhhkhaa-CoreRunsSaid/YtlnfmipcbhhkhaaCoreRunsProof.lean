/-
  PROVED: CoreRunsSaid: for every code, memory and list of picks the law CoreRuns returns true: Run and Wrong answer what the reference's answer. No condition.
-/
import Derived.Test.YtlnfmipcbhhkhaaCoreX
import Derived.Test.YtlnfmipcbhhkhaaCoreY
import Derived.Test.YtlnfmipcbhhkhaaOpenWords
import Derived.Test.YtlnfmipcbhhkhaaLawRow
import Derived.Test.YtlnfmipcbhhkhaaChecked
import Derived.Test.YtlnfmipcbhhkhaaRows
namespace Go.Proofs.Ytlnfmipcbhhkhaa.coreRuns
open Go.ChangeShapes Go.WideShapes Go.ChangeAt Go.RowKit Adj
set_option linter.unusedVariables false

theorem own : ownKnob Try.prog.godebug = none := by kernel_rfl
theorem laid : laidOutB Try.prog = true := by kernel_rfl
theorem words_below {w w' : World} {v : Value} {l : List Int} (h : Cr.Words w v l) (hb : Below w.heap.size w w') : Cr.Words w' v l := by
  obtain ⟨A, cap, rfl, hi, h1, h2⟩ := h
  exact ⟨A, cap, rfl, (hi.below hb).up hb.size, h1, h2⟩
theorem four_below {g : Nat} {v0 v1 v2 v3 : Value} {W W' : World} (h : W.cell? ⟨g, 0, none⟩ = some v0 ∧ W.cell? ⟨g, 1, none⟩ = some v1 ∧ W.cell? ⟨g, 2, none⟩ = some v2 ∧ W.cell? ⟨g, 3, none⟩ = some v3) (hs : g < W.heap.size) (hb : Below W.heap.size W W') :
    W'.cell? ⟨g, 0, none⟩ = some v0 ∧ W'.cell? ⟨g, 1, none⟩ = some v1 ∧ W'.cell? ⟨g, 2, none⟩ = some v2 ∧ W'.cell? ⟨g, 3, none⟩ = some v3 := Cr.four_below h hs hb

theorem stepT_w {P : Program} {ops : Array Oper} {Q : Exit → Act → World → Prop} {md : Region.Mode} {S R : World → Prop} {t0 t1 fuel : Nat} {listed : Array Bool} {a : Act} {w : World} {i : Nat} {o : Oper} (ho : ops[i]? = some o) (hw : Region.wanted o (yielded ops a.tmps) = true)
    (h : ∀ K : Act → World → Prop, Shut (∀ a w, S w ∧ R w → (S w ∧ R w → wpT P md ops Q S t0 R t1 fuel (listed.setIfInBounds i true) a w) → K a w) → Oper.wp P o a w K Q) : StepT P md ops Q S t0 R t1 fuel listed a w i := by
  unfold StepT wpOp
  rw [ho]
  simp only [hw, if_true]
  exact .inl (h _ (fun a w hSR hW => ⟨⟨fun _ => hSR.1, fun _ => hSR.2⟩, hW hSR⟩))
set_option maxRecDepth 100000 in
set_option maxHeartbeats 4000000 in
theorem walk (val : Value) (c : AdjC.Code) (MA PA : Option Addr) (mcap pcap : Nat) (mem picks : List Int) (w : World) (h : Cr.CodeAt w w.heap.size val c) (hm : IntsAt w w.heap.size MA mem) (hp : IntsAt w w.heap.size PA picks)
    (hml : mem.length ≤ 9223372036854775807) (hpl : picks.length ≤ 9223372036854775807) :
    Calls Try.prog 4 #[val, .slice MA mem.length mcap, .slice PA picks.length pcap] w fun e w' => e = .returned (.bool true) ∧ Below w.heap.size w w' := by
  have HW1 := Lib.hid (fun W (hb : Below w.heap.size w W) => Wrong_any val c W ((h.below hb).up hb.size))
  have HW2 := Lib.hid (fun W (hb : Below w.heap.size w W) => refWrong_any val c W ((h.below hb).up hb.size))
  have HR1 := Lib.hid (fun W (hb : Below w.heap.size w W) => Run_any val c MA PA mcap pcap mem picks W ((h.below hb).up hb.size) ((hm.below hb).up hb.size) ((hp.below hb).up hb.size) hml hpl)
  have HR2 := Lib.hid (fun W (hb : Below w.heap.size w W) => refRun_any val c MA PA mcap pcap mem picks W ((h.below hb).up hb.size) ((hm.below hb).up hb.size) ((hp.below hb).up hb.size) hml hpl)
  obtain ⟨A, n, A', n', rfl, _, _, _⟩ := h
  have HB0 := Lib.hid ((Below.refl w.heap.size w).alloc (Nat.le_refl _) (.cells #[.int .i64 c.pad, .int .i64 c.mem, .slice A c.mover.length n, .slice A' c.maker.length n'] 24))
  have HX0 := Lib.hid (Blk.new w 24 #[.int .i64 c.pad, .int .i64 c.mem, .slice A c.mover.length n, .slice A' c.maker.length n'])
  clear hm hp
  go_enter Try.func4, Try.ntmps4
  go_wp2_with fail
  ((with_reducible refine (HR1.out _ HB0.out).mono ?_); rintro e w4 ⟨va, rfl, hb4, hw4⟩)
  have HB4 := Lib.hid (HB0.out.trans (hb4.mono HB0.out.size))
  have HX4 := Lib.hid (HX0.out.below hb4 HX0.out.lt)
  have HW4 := Lib.hid hw4
  obtain ⟨⟨l, re⟩, hr⟩ : ∃ r, AdjC.run c mem picks = r := ⟨_, rfl⟩
  rw [hr] at HW4 HR2 ⊢
  simp only at HW4 ⊢
  clear hb4 hw4 HB0 HX0 HR1 hr
  have a0 := HX4.out.cell 0
  have a1 := HX4.out.cell 1
  have a2 := HX4.out.cell 2
  have a3 := HX4.out.cell 3
  go_wp2_with fail
  ((with_reducible refine (HR2.out _ HB4.out).mono ?_); rintro e w5 ⟨vb, rfl, hb5, hw5⟩)
  have HB5 := Lib.hid (HB4.out.trans (hb5.mono HB4.out.size))
  have HX5 := Lib.hid (HX4.out.below hb5 HX4.out.lt)
  have HWA := Lib.hid (words_below HW4.out hb5)
  have HWB := Lib.hid hw5
  clear hb5 hw5 a0 a1 a2 a3 HX4 HW4 HB4 HR2
  simp only
  have q0 : (re == re) = true := by simp
  go_upto_region 3 with (fail)
  have HSW := Lib.hid (fun W (hb : Below w5.heap.size w5 W) => sameWords_any va vb l W (words_below HWA.out hb) (words_below HWB.out hb))
  have a0 := HX5.out.cell 0
  have a1 := HX5.out.cell 1
  have a2 := HX5.out.cell 2
  have a3 := HX5.out.cell 3
  refine wp_region_T (fun w' => w'.cell? ⟨w.heap.size, 0, none⟩ = some (.int .i64 c.pad) ∧ w'.cell? ⟨w.heap.size, 1, none⟩ = some (.int .i64 c.mem) ∧ w'.cell? ⟨w.heap.size, 2, none⟩ = some (.slice A c.mover.length n) ∧ w'.cell? ⟨w.heap.size, 3, none⟩ = some (.slice A' c.maker.length n')) 15 (fun _ => True) 15 16 rfl (by kernel_rfl) ⟨⟨a0, a1, a2, a3⟩, trivial⟩ (fun hHeld => ?_)
  simp only [List.replicate_succ, List.replicate_zero]
  refine wpT_take 0 25 (v := ?_) hHeld.1 hHeld.2 rfl rfl (by kernel_rfl) (fun _ _ _ h => h) rfl ?_ ?_
  rotate_left
  · (intro w hSw; (try dsimp only at hSw); go_simp; try with_reducible rfl)
  try simp only [Act.put, List.setIfInBounds_toArray, List.set_cons_zero, List.set_cons_succ]
  refine wpT_take 1 26 (v := ?_) hHeld.1 hHeld.2 rfl rfl (by kernel_rfl) (fun _ _ _ h => h) rfl ?_ ?_
  rotate_left
  · (intro w hSw; (try dsimp only at hSw); go_simp; try with_reducible rfl)
  try simp only [Act.put, List.setIfInBounds_toArray, List.set_cons_zero, List.set_cons_succ]
  have HB6 := Lib.hid (Below.refl w5.heap.size w5).drew
  have hlt : w.heap.size < w5.heap.size := HX5.out.lt
  clear a0 a1 a2 a3
  generalize w5.drew = w6 at HB6 hHeld ⊢
  have hl6 : w.heap.size < w6.heap.size := Nat.lt_of_lt_of_le hlt HB6.out.size
  refine wpT_one 2 (by kernel_rfl) (stepT_early rfl rfl (fun K hK => ?_))
  go_simp
  ((with_reducible refine (HSW.out _ HB6.out).mono ?_); rintro e w7 ⟨rfl, hb7⟩)
  have HB7 := Lib.hid (HB6.out.trans (hb7.mono HB6.out.size))
  have hl7 : w.heap.size < w7.heap.size := Nat.lt_of_lt_of_le hl6 hb7.size
  refine hK.out _ _ ⟨Cr.four_below hHeld.1 hl6 hb7, trivial⟩ (fun hHeld2 => ?_)
  clear hb7
  clear hK K hHeld
  have hHeld := hHeld2
  clear hHeld2
  try simp only [List.setIfInBounds_toArray, List.set_cons_zero, List.set_cons_succ]
  refine wpT_takeC [] 3 28 (v := ?_) hHeld.1 hHeld.2 rfl rfl (by kernel_rfl) (fun _ _ _ h => h) (yields_yes rfl ?_) ?_
  rotate_left
  · (intro w hSw; (try dsimp only at hSw); go_simp; try with_reducible rfl)
  try simp only [Act.put, List.setIfInBounds_toArray, List.set_cons_zero, List.set_cons_succ]
  refine wpT_takeC [] 4 29 (v := ?_) hHeld.1 hHeld.2 rfl rfl (by kernel_rfl) (fun _ _ _ h => h) (yields_yes rfl ?_) ?_
  rotate_left
  · (intro w hSw; (try dsimp only at hSw); go_simp; try with_reducible rfl)
  try simp only [Act.put, List.setIfInBounds_toArray, List.set_cons_zero, List.set_cons_succ]
  refine wpT_takeC [] 5 30 (v := ?_) hHeld.1 hHeld.2 rfl rfl (by kernel_rfl) (fun _ _ _ h => h) (yields_yes rfl ?_) ?_
  rotate_left
  · (intro w hSw; (try dsimp only at hSw); go_simp; try with_reducible rfl)
  try simp only [Act.put, List.setIfInBounds_toArray, List.set_cons_zero, List.set_cons_succ]
  refine wpT_takeC [] 6 31 (v := ?_) hHeld.1 hHeld.2 rfl rfl (by kernel_rfl) (fun _ _ _ h => h) (yields_yes rfl ?_) ?_
  rotate_left
  · (intro w hSw; (try dsimp only at hSw); go_simp; try with_reducible rfl)
  try simp only [Act.put, List.setIfInBounds_toArray, List.set_cons_zero, List.set_cons_succ]
  refine wpT_takeC [] 7 32 (v := ?_) hHeld.1 hHeld.2 rfl rfl (by kernel_rfl) (fun _ _ _ h => h) (yields_yes rfl ?_) ?_
  rotate_left
  · (intro w hSw; (try dsimp only at hSw); go_simp; try with_reducible rfl)
  try simp only [Act.put, List.setIfInBounds_toArray, List.set_cons_zero, List.set_cons_succ]
  refine wpT_takeC [] 8 33 (v := ?_) hHeld.1 hHeld.2 rfl rfl (by kernel_rfl) (fun _ _ _ h => h) (yields_yes rfl ?_) ?_
  rotate_left
  · (intro w hSw; (try dsimp only at hSw); go_simp; try with_reducible rfl)
  try simp only [Act.put, List.setIfInBounds_toArray, List.set_cons_zero, List.set_cons_succ]
  refine wpT_takeC [] 9 34 (v := ?_) hHeld.1 hHeld.2 rfl rfl (by kernel_rfl) (fun _ _ _ h => h) (yields_yes rfl ?_) ?_
  rotate_left
  · (intro w hSw; (try dsimp only at hSw); go_simp; try with_reducible rfl)
  try simp only [Act.put, List.setIfInBounds_toArray, List.set_cons_zero, List.set_cons_succ]
  refine wpT_takeC [] 11 36 (v := ?_) hHeld.1 hHeld.2 rfl rfl (by kernel_rfl) (fun _ _ _ h => h) (yields_yes rfl ?_) ?_
  rotate_left
  · (intro w hSw; (try dsimp only at hSw); go_simp; try with_reducible rfl)
  try simp only [Act.put, List.setIfInBounds_toArray, List.set_cons_zero, List.set_cons_succ]
  have HW1' := Lib.hid (fun W (hb : Below w5.heap.size w5 W) => HW1.out W (HB5.out.trans (hb.mono HB5.out.size)))
  have HW2' := Lib.hid (fun W (hb : Below w5.heap.size w5 W) => HW2.out W (HB5.out.trans (hb.mono HB5.out.size)))
  refine wpT_one 10 (by kernel_rfl) (stepT_w rfl rfl (fun K hK => ?_))
  go_simp
  ((with_reducible refine (HW1'.out _ HB7.out).mono ?_); rintro e w8 ⟨rfl, hb8⟩)
  have HB8 := Lib.hid (HB7.out.trans (hb8.mono HB7.out.size))
  have hl8 : w.heap.size < w8.heap.size := Nat.lt_of_lt_of_le hl7 hb8.size
  refine hK.out _ _ ⟨Cr.four_below hHeld.1 hl7 hb8, trivial⟩ (fun hHeld2 => ?_)
  clear hb8
  clear hK K hHeld
  have hHeld := hHeld2
  clear hHeld2
  try simp only [List.setIfInBounds_toArray, List.set_cons_zero, List.set_cons_succ]
  refine wpT_one 12 (by kernel_rfl) (stepT_w rfl rfl (fun K hK => ?_))
  go_simp
  ((with_reducible refine (HW2'.out _ HB8.out).mono ?_); rintro e w9 ⟨rfl, hb9⟩)
  have HB9 := Lib.hid (HB8.out.trans (hb9.mono HB8.out.size))
  refine hK.out _ _ ⟨Cr.four_below hHeld.1 hl8 hb9, trivial⟩ (fun hHeld2 => ?_)
  clear hb9
  clear hK K hHeld
  have hHeld := hHeld2
  clear hHeld2
  try simp only [List.setIfInBounds_toArray, List.set_cons_zero, List.set_cons_succ]
  have q1 : (AdjC.wrong c == AdjC.wrong c) = true := by simp
  refine wpT_takeC [] 13 38 (v := ?_) hHeld.1 hHeld.2 rfl rfl (by kernel_rfl) (fun _ _ _ h => h) (yields_yes rfl ?_) ?_
  rotate_left
  · (intro w hSw; (try dsimp only at hSw); go_simp; try with_reducible rfl)
  try simp only [Act.put, List.setIfInBounds_toArray, List.set_cons_zero, List.set_cons_succ]
  refine wpT_takeC [] 14 39 (v := ?_) hHeld.1 hHeld.2 rfl rfl (by kernel_rfl) (fun _ _ _ h => h) (yields_yes rfl ?_) ?_
  rotate_left
  · (intro w hSw; (try dsimp only at hSw); go_simp; try with_reducible rfl)
  try simp only [Act.put, List.setIfInBounds_toArray, List.set_cons_zero, List.set_cons_succ]
  refine wpT_tail [_] 15 [] rfl (by kernel_rfl) ?_
  clear hHeld
  go_wp2_with fail
  go_ret
  exact ⟨rfl, HB5.out.trans (HB9.out.mono HB5.out.size)⟩
theorem trodAll_three {H : Type} {enc : TypeId × Value → H} {P : Program} {w : World} {base : Nat} {spare : Bool} {held : Nat → Bool} {t0 t1 t2 : TypeId} {args : Array Value} {ds : List (DataW H)} {ps : List MemPlace} (h : DataW.TrodAll enc P w base held spare [t0, t1, t2] args.toList ds ps) :
    ∃ v0 v1 v2 d0 d1 d2 p0 p1 p2, args = #[v0, v1, v2] ∧ ds = [d0, d1, d2] ∧ DataW.Trod enc P w base held spare t0 v0 d0 p0 ∧ DataW.Trod enc P w base held spare t1 v1 d1 p1 ∧ DataW.Trod enc P w base held spare t2 v2 d2 p2 := by
  obtain ⟨v, vs, d, ds', p, q, hargs, rfl, rfl, hd, hrest⟩ := trodAll_cons h
  obtain ⟨v1, vs1, d1, ds1, p1, q1, rfl, rfl, rfl, hd1, hrest1⟩ := trodAll_cons hrest
  obtain ⟨v2, vs2, d2, ds2, p2, q2, rfl, rfl, rfl, hd2, hrest2⟩ := trodAll_cons hrest1
  obtain ⟨rfl, rfl, rfl⟩ := trodAll_nil hrest2
  exact ⟨v, v1, v2, d, d1, d2, p, p1, p2, by cases args; simp_all, rfl, hd, hd1, hd2⟩
theorem lifted (os : Os) (started : os.Started) (H : Type) (enc : TypeId × Value → H) :
    ReturnsInHanded {} Try.checked os 4 .any (Rows.coreRunsSpec.pre6 enc Try.prog Try.f4 Rows.coreRunsRow.domain false) (Rows.coreRunsSpec.post enc Try.prog Try.f4 false true false false) := by
  refine Adj.law_lifted (C := Try.checked) (s := Rows.coreRunsSpec) own started (by kernel_rfl) Try.func4 laid rfl rfl Try.underlying4
      (by rw [Try.params4]; intro t ht; simp only [List.mem_cons, List.not_mem_nil, or_false] at ht; rcases ht with rfl | rfl | rfl <;> exact ⟨by kernel_rfl, of_decide_eq_true (by kernel_rfl)⟩)
      (by intro ds hd; match ds, hd with | [d1, d2, d3], _ => exact ⟨rfl, rfl, rfl⟩)
      (ChangeSpec.witness6 (enc := enc) (C := Try.checked) false ⟨#[], #[.agg #[.int .i64 0, .int .i64 0, .slice none 0 0, .slice none 0 0], .slice none 0 0, .slice none 0 0], []⟩ 8 (by kernel_rfl) (by kernel_rfl) (by kernel_rfl) (by kernel_rfl)) ?_
  intro W base args ds before hval0 hA0 _ hz0
  have hval : ∀ (j : Nat) t v, Try.f4.params[j]? = some t → args[j]? = some v → Value.okWide Try.prog W .any base t v := hval0
  have hA : DataW.TrodAll enc Try.prog W 0 (fun _ => true) true Try.f4.params.toList args.toList ds before := hA0
  rw [Try.params4] at hA hval
  obtain ⟨v0, v1, v2, d0, d1, d2, p0, p1, p2, rfl, rfl, h0, h1, h2⟩ := trodAll_three hA
  obtain ⟨c, hc⟩ := open_code (hval 0 24 v0 rfl rfl) h0
  obtain ⟨A1, L1, c1, rfl, i1, l1, m1⟩ := open_numbers Try.underlying31 Try.underlying2 Try.cellsI64 (hval 1 31 v1 rfl rfl) h1
  obtain ⟨A2, L2, c2, rfl, i2, l2, m2⟩ := open_numbers Try.underlying32 Try.underlying3 Try.cellsI (hval 2 32 v2 rfl rfl) h2
  exact walk v0 c A1 A2 c1 c2 L1 L2 W hc i1 i2 (by omega) (by omega)

theorem proved : Rows.CoreRunsSaid :=
  OpenClaim.holds_of_wide 4 Try.f4 rfl rfl rfl rfl rfl rfl rfl ⟨rfl, rfl, rfl, rfl, rfl⟩ rfl rfl rfl rfl rfl (by kernel_rfl) Try.func4 (by kernel_rfl)
    (of_decide_eq_true (by kernel_rfl)) (by unfold Func.isWrapper; first | (rw [if_pos (by decide +kernel)]; kernel_rfl) | (rw [if_neg (by decide +kernel)]; exact ⟨rfl, rfl⟩))
    (fun os started H enc _ => lifted os started H enc)
#print axioms proved
end Go.Proofs.Ytlnfmipcbhhkhaa.coreRuns
