/-
  PROVED: CoreRacesSaid: for every code the law CoreRaces returns true: Races answers what the reference's answers. No condition.
-/
import Derived.Test.YtlnfmipcbhhkhaaCoreO
import Derived.Test.YtlnfmipcbhhkhaaOpenCode
import Derived.Test.YtlnfmipcbhhkhaaLawRow
import Derived.Test.YtlnfmipcbhhkhaaChecked
import Derived.Test.YtlnfmipcbhhkhaaRows
namespace Go.Proofs.Ytlnfmipcbhhkhaa.coreRaces
open Go.ChangeShapes Go.WideShapes Go.ChangeAt Go.RowKit
set_option linter.unusedVariables false

theorem own : ownKnob Try.prog.godebug = none := by kernel_rfl
theorem laid : laidOutB Try.prog = true := by kernel_rfl

set_option maxRecDepth 100000 in
set_option maxHeartbeats 4000000 in
theorem walk (val : Value) (c : AdjC.Code) (w : World) (h : Cr.CodeAt w w.heap.size val c) :
    Calls Try.prog 3 #[val] w fun e w' => e = .returned (.bool true) ∧ Below w.heap.size w w' := by
  have HT := Lib.hid (fun W (hb : Below w.heap.size w W) => Races_any val c W ((h.below hb).up hb.size))
  have HT' := Lib.hid (fun W (hb : Below w.heap.size w W) => refRaces_any val c W ((h.below hb).up hb.size))
  obtain ⟨A, n, A', n', rfl, _, _, _⟩ := h
  have HB0 := Lib.hid ((Below.refl w.heap.size w).alloc (Nat.le_refl _) (.cells #[.int .i64 c.pad, .int .i64 c.mem, .slice A c.mover.length n, .slice A' c.maker.length n'] 24))
  have HX0 := Lib.hid (Adj.Blk.new w 24 #[.int .i64 c.pad, .int .i64 c.mem, .slice A c.mover.length n, .slice A' c.maker.length n'])
  go_enter Try.func3, Try.ntmps3
  go_wp2_with fail
  refine (HT.out _ HB0.out).mono ?_
  rintro e w1 ⟨rfl, hb1⟩
  have HB1 := Lib.hid (HB0.out.trans (hb1.mono HB0.out.size))
  have HX1 := Lib.hid (HX0.out.below hb1 HX0.out.lt)
  obtain ⟨r, hr⟩ : ∃ r, AdjC.races c = r := ⟨_, rfl⟩
  rw [hr]
  obtain ⟨⟨ra, ri, rj⟩, re⟩ := r
  unfold Cr.raceV
  simp only
  have HR := Lib.hid hr
  clear hb1 hr
  have hlt1 : w.heap.size < w1.heap.size := HX1.out.lt
  have HB2 := Lib.hid (HB1.out.alloc (Nat.le_of_lt hlt1) (.cells #[.bool ra, .int .i64 ri, .int .i64 rj] 26))
  have HX2 := Lib.hid (HX1.out.alloc (.cells #[.bool ra, .int .i64 ri, .int .i64 rj] 26))
  have HY2 := Lib.hid (Adj.Blk.new w1 26 #[.bool ra, .int .i64 ri, .int .i64 rj])
  obtain ⟨W2, hW2⟩ : ∃ W2, w1.alloc (.cells #[.bool ra, .int .i64 ri, .int .i64 rj] 26) = W2 := ⟨_, rfl⟩
  rw [hW2] at HB2 HX2 HY2
  have a0 := HX2.out.cell 0
  have a1 := HX2.out.cell 1
  have a2 := HX2.out.cell 2
  have a3 := HX2.out.cell 3
  clear HB1 HX1
  go_wp2_with fail
  refine (HT'.out _ HB2.out).mono ?_
  rintro e w3 ⟨rfl, hb3⟩
  rw [HR.out]
  unfold Cr.raceV
  simp only
  have HB3 := Lib.hid (HB2.out.trans (hb3.mono HB2.out.size))
  have HY3 := Lib.hid (HY2.out.below hb3 HY2.out.lt)
  clear hW2 a0 a1 a2 a3 hb3 hlt1
  have hlt3 : w1.heap.size < w3.heap.size := HY3.out.lt
  have b0 := fun o => (HY3.out.alloc o).cell 0
  have b1 := fun o => (HY3.out.alloc o).cell 1
  have b2 := fun o => (HY3.out.alloc o).cell 2
  have e1 : (ri == ri) = true := by simp
  have e2 : (rj == rj) = true := by simp
  have e3 : (ra == ra) = true := by simp
  have e4 : (re == re) = true := by simp
  have HBA := Lib.hid (fun o => HB3.out.alloc HB3.out.size o)
  go_wp2_with fail
  go_ret
  exact ⟨rfl, HBA.out _⟩

theorem trodAll_one {H : Type} {enc : TypeId × Value → H} {P : Program} {w : World} {base : Nat} {spare : Bool} {held : Nat → Bool} {t0 : TypeId} {args : Array Value} {ds : List (DataW H)} {ps : List MemPlace} (h : DataW.TrodAll enc P w base held spare [t0] args.toList ds ps) :
    ∃ v0 d0 p0, args = #[v0] ∧ ds = [d0] ∧ ps = p0 ∧ DataW.Trod enc P w base held spare t0 v0 d0 p0 := by
  obtain ⟨v, vs, d, ds', p, q, hargs, rfl, rfl, hd, hrest⟩ := trodAll_cons h
  obtain ⟨rfl, rfl, rfl⟩ := trodAll_nil hrest
  exact ⟨v, d, p, by cases args; simp_all, rfl, by simp, hd⟩
theorem lifted (os : Os) (started : os.Started) (H : Type) (enc : TypeId × Value → H) :
    ReturnsInHanded {} Try.checked os 3 .any (Rows.coreRacesSpec.pre6 enc Try.prog Try.f3 Rows.coreRacesRow.domain false) (Rows.coreRacesSpec.post enc Try.prog Try.f3 false true false false) := by
  refine Adj.law_lifted (C := Try.checked) (s := Rows.coreRacesSpec) own started (by kernel_rfl) Try.func3 laid rfl rfl Try.underlying4
      (by rw [Try.params3]; intro t ht; simp only [List.mem_cons, List.not_mem_nil, or_false] at ht; rcases ht with rfl <;> exact ⟨by kernel_rfl, of_decide_eq_true (by kernel_rfl)⟩)
      (by intro ds hd; match ds, hd with | [d1], _ => exact ⟨rfl, rfl, rfl⟩)
      (ChangeSpec.witness6 (enc := enc) (C := Try.checked) false ⟨#[], #[.agg #[.int .i64 0, .int .i64 0, .slice none 0 0, .slice none 0 0]], []⟩ 8 (by kernel_rfl) (by kernel_rfl) (by kernel_rfl) (by kernel_rfl)) ?_
  intro W base args ds before hval0 hA0 _ hz0
  have hval : ∀ (j : Nat) t v, Try.f3.params[j]? = some t → args[j]? = some v → Value.okWide Try.prog W .any base t v := hval0
  have hA : DataW.TrodAll enc Try.prog W 0 (fun _ => true) true Try.f3.params.toList args.toList ds before := hA0
  rw [Try.params3] at hA hval
  obtain ⟨v0, d0, p0, rfl, rfl, rfl, h0⟩ := trodAll_one hA
  obtain ⟨c, hc⟩ := open_code (hval 0 24 v0 rfl rfl) h0
  exact walk v0 c W hc

theorem proved : Rows.CoreRacesSaid :=
  OpenClaim.holds_of_wide 3 Try.f3 rfl rfl rfl rfl rfl rfl rfl ⟨rfl, rfl, rfl, rfl, rfl⟩ rfl rfl rfl rfl rfl (by kernel_rfl) Try.func3 (by kernel_rfl)
    (of_decide_eq_true (by kernel_rfl)) (by unfold Func.isWrapper; first | (rw [if_pos (by decide +kernel)]; kernel_rfl) | (rw [if_neg (by decide +kernel)]; exact ⟨rfl, rfl⟩))
    (fun os started H enc _ => lifted os started H enc)
#print axioms proved
end Go.Proofs.Ytlnfmipcbhhkhaa.coreRaces
