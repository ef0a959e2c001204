/-
  PROVED: ReplayNoLessSaid: for every n, every number of slots and every list of moves the law ReplayNoLess returns true: what is played to its end costs at least what Least says. No condition.
-/
import Derived.Test.YtebekdnihncenaaReplayE
import Derived.Test.YtebekdnihncenaaReplayAlive
import Derived.Test.YtebekdnihncenaaNoLessPlain
import Derived.Test.YtebekdnihncenaaOpenMoves
namespace Go.Proofs.Ytebekdnihncenaa.replayNoLess
open Go.ChangeShapes Go.WideShapes Go.ChangeAt Go.RowKit

theorem own : ownKnob Try.prog.godebug = none := by kernel_rfl
theorem laid : laidOutB Try.prog = true := by kernel_rfl

set_option maxHeartbeats 1000000 in
theorem walk (n s : Int) (A : Option Addr) (cap : Nat) (L : List (Int × Int)) (w : World) (hL : L.length ≤ 17592186044416) (hm : Rp.MovesAt w w.heap.size A L) :
    Calls Try.prog 7 #[.int .i64 n, .int .i64 s, .slice A L.length cap] w fun e w' => e = .returned (.bool true) ∧ Below w.heap.size w w' := by
  by_cases h : n < 0 ∨ 256 < n ∨ s < 0 ∨ 16 < s
  · have HO := Lib.hid (Play_out n s (.slice A L.length cap) w h)
    clear hm h
    go_enter Try.func7, Try.ntmps7
    go_wp2_with fail
    refine (alive_any _).mono ?_
    rintro e w1 ⟨rfl, rfl⟩
    go_wp2_with fail
    refine HO.out.mono ?_
    rintro e w1 ⟨rfl, rfl⟩
    go_wp2_with fail
    go_ret
    exact ⟨rfl, Below.refl _ _⟩
  · obtain ⟨s, rfl⟩ := Int.eq_ofNat_of_zero_le (show 0 ≤ s by omega)
    obtain ⟨n, rfl⟩ := Int.eq_ofNat_of_zero_le (show 0 ≤ n by omega)
    have HP := Lib.hid (Play_in n s A cap L w (by omega) (by omega) (by omega) hL hm)
    obtain ⟨x, y, hxy⟩ : ∃ x y : Int, Adj8.answer n s L = (x, y) := ⟨_, _, rfl⟩
    have HXY := Lib.hid hxy
    clear hm hxy
    go_enter Try.func7, Try.ntmps7
    go_wp2_with fail
    refine (alive_any _).mono ?_
    rintro e w1 ⟨rfl, rfl⟩
    go_wp2_with fail
    refine HP.out.mono ?_
    rintro e w1 ⟨rfl, hb⟩
    rw [HXY.out]
    by_cases hy : y = 0
    · subst hy
      have hno := Adj8.no_less HXY.out
      have hR : Rp.leastR n s = .tuple #[.int .i64 ((Adj8.T n s : Nat) : Int), .int .i64 0] := by
        have h0 : Rp.wrong n s = 0 := by unfold Rp.wrong; (repeat' split) <;> omega
        unfold Rp.leastR
        rw [if_pos h0, h0, Int.toNat_natCast, Int.toNat_natCast]
      have hle := hno.2
      have HR := Lib.hid hR
      clear hR hno h
      go_wp2_with fail
      refine (Least_any _ _ _).mono ?_
      rintro e w2 ⟨rfl, rfl⟩
      rw [HR.out]
      go_wp2_with fail
      go_ret
      exact ⟨rfl, hb⟩
    · have hq : (y != 0) = true := by simpa using hy
      clear hy
      go_wp2_with fail
      go_ret
      exact ⟨rfl, hb⟩

theorem lifted (os : Os) (started : os.Started) (H : Type) (enc : TypeId × Value → H) :
    ReturnsInHanded {} Try.checked os 7 .any (Rows.replayNoLessSpec.pre6 enc Try.prog Try.f7 Rows.replayNoLessRow.domain false) (Rows.replayNoLessSpec.post enc Try.prog Try.f7 false true false false) := by
  refine Adj.law_lifted (C := Try.checked) (s := Rows.replayNoLessSpec) own started (by kernel_rfl) Try.func7 laid rfl rfl Try.underlying4
      (by rw [Try.params7]; intro t ht; simp only [List.mem_cons, List.not_mem_nil, or_false] at ht; rcases ht with rfl | rfl | rfl <;> exact ⟨by kernel_rfl, of_decide_eq_true (by kernel_rfl)⟩)
      (by intro ds hd; match ds, hd with | [d1, d2, d3], _ => exact ⟨rfl, rfl, rfl⟩)
      (ChangeSpec.witness6 (enc := enc) (C := Try.checked) false ⟨#[], #[.int .i64 0, .int .i64 0, .slice none 0 0], []⟩ 8 (by kernel_rfl) (by kernel_rfl) (by kernel_rfl) (by kernel_rfl)) ?_
  intro W base args ds before hval0 hA0 _ hz0
  have hval : ∀ (j : Nat) t v, Try.f7.params[j]? = some t → args[j]? = some v → Value.okWide Try.prog W .any base t v := hval0
  have hA : DataW.TrodAll enc Try.prog W 0 (fun _ => true) true Try.f7.params.toList args.toList ds before := hA0
  have hz : (DataW.weightsEach Try.prog (Try.f7.params.toList ++ []) (ds ++ [])).all (· ≤ reachBytes) = true := hz0
  rw [Try.params7] at hA hval hz
  obtain ⟨v0, v1, v2, d0, d1, d2, p0, p1, p2, rfl, rfl, rfl, h0, h1, h2⟩ := trodAll_three hA
  obtain ⟨a0, rfl, rfl, rfl, w0⟩ := open_int Try.underlying3 (hval 0 3 v0 rfl rfl) h0
  obtain ⟨a1, rfl, rfl, rfl, w1⟩ := open_int Try.underlying3 (hval 1 3 v1 rfl rfl) h1
  obtain ⟨A, L, cap, rfl, hm, hd⟩ := open_moves (hval 2 34 v2 rfl rfl) h2
  refine walk a0 a1 A cap L W ?_ hm
  rcases hd with ⟨_, rfl⟩ | ⟨es, sp, rfl, hlen⟩
  · simp
  · have := sized_slice hz (j := 2) (t := 34) (e := 47) (elems := es) (spare := sp) rfl rfl Try.underlying34
    rw [Try.bytesMove, hlen] at this
    simp only [reachBytes] at this
    omega

theorem proved : Rows.ReplayNoLessSaid :=
  OpenClaim.holds_of_wide 7 Try.f7 rfl rfl rfl rfl rfl rfl rfl ⟨rfl, rfl, rfl, rfl, rfl⟩ rfl rfl rfl rfl rfl (by kernel_rfl) Try.func7 (by kernel_rfl)
    (of_decide_eq_true (by kernel_rfl)) (by unfold Func.isWrapper; first | (rw [if_pos (by decide +kernel)]; kernel_rfl) | (rw [if_neg (by decide +kernel)]; exact ⟨rfl, rfl⟩))
    (fun os started H enc _ => lifted os started H enc)
#print axioms proved
end Go.Proofs.Ytebekdnihncenaa.replayNoLess
