/-
  PROVED: RoomLaysSaid: for every list of lives the law RoomLays returns true: Wrong, Load and Lay answer what the document says. No condition.
-/
import Derived.Test.YtkopkicdmbnpgaaRoomZg
import Derived.Test.YtkopkicdmbnpgaaRoomZj
import Derived.Test.YtkopkicdmbnpgaaRoomH
import Derived.Test.YtkopkicdmbnpgaaOpenLives
import Derived.Test.YtkopkicdmbnpgaaLawRow
import Derived.Test.YtkopkicdmbnpgaaChecked
import Derived.Test.YtkopkicdmbnpgaaRows
namespace Go.Proofs.Ytkopkicdmbnpgaa.roomLays
open Go.ChangeShapes Go.WideShapes Go.ChangeAt Go.RowKit Adj
set_option linter.unusedVariables false

theorem own : ownKnob Try.prog.godebug = none := by kernel_rfl
theorem laid : laidOutB Try.prog = true := by kernel_rfl
theorem trodAll_one {H : Type} {enc : TypeId × Value → H} {P : Program} {w : World} {base : Nat} {spare : Bool} {held : Nat → Bool} {t0 : TypeId} {args : Array Value} {ds : List (DataW H)} {ps : List MemPlace} (h : DataW.TrodAll enc P w base held spare [t0] args.toList ds ps) :
    ∃ v0 d0 p0, args = #[v0] ∧ ds = [d0] ∧ ps = p0 ∧ DataW.Trod enc P w base held spare t0 v0 d0 p0 := by
  match hv : args.toList, ds, h with
  | [v0], [d0], h =>
    obtain ⟨p0, q0, h0, h1, hp⟩ := h
    obtain ⟨rfl⟩ : q0 = [] := h1
    refine ⟨v0, d0, p0, ?_, rfl, by simpa using hp, h0⟩
    apply Array.ext'
    simpa using hv
  | [], _, h => simp [DataW.TrodAll] at h
  | _ :: _ :: _, [_], h => obtain ⟨_, _, _, h1, _⟩ := h; exact h1.elim
  | [_], [], h => exact h.elim
  | _ :: _ :: _, [], h => exact h.elim
  | [_], _ :: _ :: _, h => obtain ⟨_, _, _, h1, _⟩ := h; exact h1.elim
  | _ :: _ :: _, _ :: _ :: _, h =>
    obtain ⟨_, _, _, h1, _⟩ := h
    exact h1.elim


set_option maxRecDepth 100000 in
set_option maxHeartbeats 4000000 in
theorem walk (A : Option Addr) (cap : Nat) (l : List AdjL.Life) (w : World) (h : IntsAt w w.heap.size A (AdjL.flat l)) :
    Calls Try.prog 6 #[.slice A l.length cap] w fun e w' => e = .returned (.bool true) ∧ Below w.heap.size w w' := by
  have HI := Lib.hid (fun W (hb : Below w.heap.size w W) => (h.below hb).up hb.size)
  have HL := Lib.hid (Load_any w l A _ cap rfl h)
  have HRL := Lib.hid (fun W (hb : Below w.heap.size w W) => refLoad_any W l A _ cap rfl (HI.out W hb))
  have HW := Lib.hid (fun W (hb : Below w.heap.size w W) => Wrong_any W l A _ cap rfl (HI.out W hb))
  have HRW := Lib.hid (fun W (hb : Below w.heap.size w W) => refWrong_any W l A _ cap rfl (HI.out W hb))
  have HY := Lib.hid (fun W (hb : Below w.heap.size w W) => Lay_any W l A _ cap rfl (HI.out W hb))
  have HRY := Lib.hid (fun W (hb : Below w.heap.size w W) => refLay_any W l A _ cap rfl (HI.out W hb))
  have HLN := Lib.hid (show (AdjL.lay l).1.length ≤ 9223372036854775807 by
    unfold AdjL.lay
    split
    · simp
    · rename_i hw
      obtain ⟨hlen, hok⟩ := AdjL.wrong_ok (l := l) (by omega)
      split
      · simp
      · have := AdjL.out_len hok
        show (AdjL.laySt l).out.length ≤ _
        omega)
  generalize (if AdjL.wrong l = 0 then AdjL.load l else 0) = m1 at HL HRL
  generalize AdjL.wrong l = e1 at HL HRL HW HRW
  generalize AdjL.lay l = C at HY HRY HLN
  obtain ⟨T, m2, e2⟩ := C
  have q1 : (m1 == m1) = true := by simp
  have q2 : (e1 == e1) = true := by simp
  have q3 : (m2 == m2) = true := by simp
  have q4 : (e2 == e2) = true := by simp
  clear h HI
  go_enter Try.func6, Try.ntmps6
  go_wp2_with fail
  refine HL.out.mono ?_
  rintro e w1 ⟨rfl, hb1⟩
  go_wp2_with fail
  refine (HRL.out w1 hb1).mono ?_
  rintro e w2 ⟨rfl, hb2⟩
  have hb12 := hb1.trans (hb2.mono hb1.size)
  clear hb1 hb2
  go_wp2_with fail
  refine (HW.out w2 hb12).mono ?_
  rintro e w3 ⟨rfl, hb3⟩
  have hb13 := hb12.trans (hb3.mono hb12.size)
  clear hb12 hb3
  go_wp2_with fail
  refine (HRW.out w3 hb13).mono ?_
  rintro e w4 ⟨rfl, hb4⟩
  have hb14 := hb13.trans (hb4.mono hb13.size)
  clear hb13 hb4
  go_wp2_with fail
  refine (HY.out w4 hb14).mono ?_
  rintro e w5 ⟨v5, rfl, hb5, A5, c5, rfl, hi5⟩
  have hb15 := hb14.trans (hb5.mono hb14.size)
  have HI5 := Lib.hid hi5
  clear hb14 hb5 hi5
  go_wp2_with fail
  refine (HRY.out w5 hb15).mono ?_
  rintro e w6 ⟨v6, rfl, hb6, A6, c6, rfl, hi6⟩
  have hb16 := hb15.trans (hb6.mono hb15.size)
  have HI6 := Lib.hid hi6
  have HI5' := Lib.hid (HI5.out.below hb6)
  clear hb15 hb6 hi6
  go_wp2_with fail
  refine (sameList_any A5 A6 c5 c6 T T _ _ w6 HLN.out HLN.out HI5'.out HI6.out).mono ?_
  rintro e w7 ⟨rfl, hb7⟩
  rw [decide_eq_true (rfl : T = T)]
  have hb17 := hb16.trans (hb7.mono hb16.size)
  go_wp2_with fail
  go_ret
  exact ⟨rfl, hb17⟩

set_option maxRecDepth 100000 in
theorem lifted (os : Os) (started : os.Started) (H : Type) (enc : TypeId × Value → H) :
    ReturnsInHanded {} Try.checked os 6 .any (Rows.roomLaysSpec.pre6 enc Try.prog Try.f6 Rows.roomLaysRow.domain false) (Rows.roomLaysSpec.post enc Try.prog Try.f6 false true false false) := by
  refine Adj.law_lifted (C := Try.checked) (s := Rows.roomLaysSpec) own started (by kernel_rfl) Try.func6 laid rfl rfl Try.underlying4
      (by rw [Try.params6]; intro t ht; simp only [List.mem_cons, List.not_mem_nil, or_false] at ht; subst ht; exact ⟨by kernel_rfl, of_decide_eq_true (by kernel_rfl)⟩)
      (by intro ds hd; match ds, hd with | [d1], _ => exact ⟨rfl, rfl, rfl⟩)
      (ChangeSpec.witness6 (enc := enc) (C := Try.checked) false ⟨#[], #[.slice none 0 0], []⟩ 8 (by kernel_rfl) (by kernel_rfl) (by kernel_rfl) (by kernel_rfl)) ?_
  intro W base args ds before hval0 hA0 _ _
  have hval : ∀ (j : Nat) t v, Try.f6.params[j]? = some t → args[j]? = some v → Value.okWide Try.prog W .any base t v := hval0
  have hA : DataW.TrodAll enc Try.prog W 0 (fun _ => true) true Try.f6.params.toList args.toList ds before := hA0
  rw [Try.params6] at hA hval
  obtain ⟨v0, d0, p0, rfl, rfl, rfl, h0⟩ := trodAll_one hA
  obtain ⟨a0, len0, cap0, rfl⟩ := okWide_slice Try.underlying33 (hval 0 33 v0 rfl rfl)
  obtain ⟨fuel, hf⟩ := h0
  obtain ⟨A, l, cap, hv, hi, h1, h2⟩ := open_lives (by simpa [Value.cells] using hf)
  rw [hv]
  exact walk A cap l W hi

theorem proved : Rows.RoomLaysSaid :=
  OpenClaim.holds_of_wide 6 Try.f6 rfl rfl rfl rfl rfl rfl rfl ⟨rfl, rfl, rfl, rfl, rfl⟩ rfl rfl rfl rfl rfl (by kernel_rfl) Try.func6 (by kernel_rfl)
    (of_decide_eq_true (by kernel_rfl)) (by unfold Func.isWrapper; first | (rw [if_pos (by decide +kernel)]; kernel_rfl) | (rw [if_neg (by decide +kernel)]; exact ⟨rfl, rfl⟩))
    (fun os started H enc _ => lifted os started H enc)
#print axioms proved
end Go.Proofs.Ytkopkicdmbnpgaa.roomLays
