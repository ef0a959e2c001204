/-
  PROVED: RoomLeastSaid: for every tree, its words and every order the law RoomLeast returns true: LIU: no order that makes each tree without anything in between needs less than Climb says; and if all are of one size, no order at all does. No condition.
-/
import Derived.Test.YtkopkicdmbnpgaaRoomM
import Derived.Test.YtkopkicdmbnpgaaRoomV
import Derived.Test.YtkopkicdmbnpgaaRoomG
import Derived.Test.YtkopkicdmbnpgaaLiuPlain6
import Derived.Test.YtkopkicdmbnpgaaOpenInts
import Derived.Test.YtkopkicdmbnpgaaLawRow
import Derived.Test.YtkopkicdmbnpgaaChecked
import Derived.Test.YtkopkicdmbnpgaaRows
namespace Go.Proofs.Ytkopkicdmbnpgaa.roomLeast
open Go.ChangeShapes Go.WideShapes Go.ChangeAt Go.RowKit Adj
set_option linter.unusedVariables false

theorem own : ownKnob Try.prog.godebug = none := by kernel_rfl
theorem laid : laidOutB Try.prog = true := by kernel_rfl

set_option maxRecDepth 100000 in
set_option maxHeartbeats 4000000 in
theorem walk (A A' A'' : Option Addr) (cap cap' cap'' : Nat) (ab ws od : List Int) (w : World) (hl : od.length ≤ 9223372036854775807) (h1 : IntsAt w w.heap.size A ab) (h2 : IntsAt w w.heap.size A' ws) (h3 : IntsAt w w.heap.size A'' od) :
    Calls Try.prog 5 #[.slice A ab.length cap, .slice A' ws.length cap', .slice A'' od.length cap''] w fun e w' => e = .returned (.bool true) ∧ Below w.heap.size w w' := by
  have HAL := Lib.hid (alive_any w)
  have HTR := Lib.hid (fun W (hb : Below w.heap.size w W) => refTree_any W W.heap.size ab ws A A' _ _ cap cap' rfl rfl ((h1.below hb).up hb.size) ((h2.below hb).up hb.size))
  by_cases hbad : AdjR.treeBad ab ws = 0
  · have HC := Lib.hid (fun W (hb : Below w.heap.size w W) => Climb_any W ab ws A A' _ _ cap cap' rfl rfl ((h1.below hb).up hb.size) ((h2.below hb).up hb.size))
    obtain ⟨k1, k2, k3, k4, k5⟩ := AdjR.climb_law hbad
    have hwl := (AdjR.treeOk hbad).1
    have hbig := (AdjR.treeOk hbad).2.1
    have HPB := Lib.hid (fun W (hb : Below w.heap.size w W) A3 c3 (hi : IntsAt W W.heap.size A3 (AdjR.climb ab ws).1) => Peak_any W ab ws (AdjR.climb ab ws).1 A A' A3 _ _ _ cap cap' c3 rfl rfl rfl (by omega) ((h1.below hb).up hb.size) ((h2.below hb).up hb.size) hi)
    have HPO := Lib.hid (fun W (hb : Below w.heap.size w W) => Peak_any W ab ws od A A' A'' _ _ _ cap cap' cap'' rfl rfl rfl hl ((h1.below hb).up hb.size) ((h2.below hb).up hb.size) ((h3.below hb).up hb.size))
    have HTB := Lib.hid (fun W (hb : Below w.heap.size w W) A3 c3 (hi : IntsAt W W.heap.size A3 (AdjR.climb ab ws).1) => together_any W ab ws (AdjR.climb ab ws).1 A A3 _ _ cap c3 hbad rfl rfl (by omega) k4 ((h1.below hb).up hb.size) hi)
    have HOL := Lib.hid (fun m (h : AdjR.peak ab ws od = (m, 0)) => AdjR.order_law hbad h)
    have HTO := Lib.hid (fun m (h : AdjR.peak ab ws od = (m, 0)) W (hb : Below w.heap.size w W) => together_any W ab ws od A A'' _ _ cap cap'' hbad rfl rfl (by have := (AdjR.order_law hbad h).2.1; omega) (AdjR.order_law hbad h).1 ((h1.below hb).up hb.size) ((h3.below hb).up hb.size))
    have H2 := Lib.hid h2
    have HN := Lib.hid hwl
    rw [hbad] at HTR
    rw [k1] at HC
    rw [k2] at HPB
    rw [k3] at HTB
    clear hbad h1 h2 h3 hl hwl k1 k2 k3 k4 k5
    generalize AdjR.climb ab ws = C at HC HPB HTB HOL
    obtain ⟨T, cn, ce⟩ := C
    simp only at HC HPB HTB HOL
    obtain ⟨pk, hpk⟩ : ∃ p, AdjR.peak ab ws od = p := ⟨_, rfl⟩
    rw [hpk] at HPO HOL HTO
    obtain ⟨m, pe⟩ := pk
    simp only at HPO HOL HTO
    have q1 : (cn == cn) = true := by simp
    clear hpk
    go_enter Try.func5, Try.ntmps5
    go_wp2_with fail
    refine HAL.out.mono ?_
    rintro e w1 ⟨rfl, hb1⟩
    go_wp2_with fail
    refine (HTR.out w1 hb1).mono ?_
    rintro e w2 ⟨rfl, rfl⟩
    go_wp2_with fail
    (with_reducible refine (HC.out _ hb1).mono ?_)
    rintro e w3 ⟨v3, rfl, hb3, A3, c3, rfl, hi3⟩
    have hb13 := hb1.trans (hb3.mono hb1.size)
    have HI3 := Lib.hid hi3
    clear hb1 hb3 hi3
    go_wp2_with fail
    ((with_reducible refine (HPB.out _ hb13 A3 c3 HI3.out).mono ?_))
    rintro e w4 ⟨rfl, hb4⟩
    have hb14 := hb13.trans (hb4.mono hb13.size)
    have HI4 := Lib.hid ((HI3.out.below hb4).up hb4.size)
    clear hb13 hb4
    go_wp2_with fail
    (with_reducible refine (HTB.out _ hb14 A3 c3 HI4.out).mono ?_)
    rintro e w5 ⟨rfl, rfl⟩
    go_wp2_with fail
    (with_reducible refine (HPO.out _ hb14).mono ?_)
    rintro e w5 ⟨rfl, hb5⟩
    have hb15 := hb14.trans (hb5.mono hb14.size)
    have HB15 := Lib.hid hb15
    clear hb14 hb5
    by_cases hpe : pe = 0
    · subst hpe
      have HOL2 := Lib.hid (HOL.out m rfl)
      have HTO2 := Lib.hid (HTO.out m rfl _ hb15)
      have HCW := Lib.hid (fun (k : Nat) (b off : Nat) (hk : k < ws.length) (hA : A' = some ⟨b, off, none⟩) => show w5.cell? ⟨b, off + k, none⟩ = some (.int .i64 (ws.getD k 0)) from by
        have h := H2.out
        subst hA
        have h3 := h.at_ (show ws[k]? = some (ws.getD k 0) by rw [List.getD_eq_getElem?_getD, List.getElem?_eq_getElem hk]; rfl)
        exact (hb15.cell (cell_lt h3)).trans h3)
      have hwb : ws.length ≤ 4096 := by have := HN.out; omega
      clear hb15
      go_wp2_with fail
      go_loopw [11, 60] (fun ov kv wr => ∃ (k : Nat) (o : Bool), kv = .int .i64 (k : Int) ∧ ov = .bool o ∧ k ≤ ws.length ∧ (o = true ↔ ∀ j, j < k → ws.getD j 0 = ws.getD 0 0) ∧ wr = w5) (fun _ kv _ => ws.length - (intOf kv).toNat)
      case atStart => exact ⟨0, true, rfl, rfl, by omega, ⟨fun _ j hj => by omega, fun _ => rfl⟩, rfl⟩
      case round =>
        obtain ⟨k, o, rfl, rfl, hk, ho, rfl⟩ := hrel
        have HO := Lib.hid ho
        clear ho
        by_cases hkl : k < ws.length
        · obtain ⟨b, off, rfl, hbb⟩ := H2.out.spot (by omega)
          have c1 := HCW.out k b off hkl rfl
          have c0 := HCW.out 0 b off (by omega) rfl
          rw [Nat.add_zero] at c0
          have HNX := Lib.hid (show ∀ o' : Bool, o' = (o && (ws.getD k 0 == ws.getD 0 0)) → (o' = true ↔ ∀ j, j < k + 1 → ws.getD j 0 = ws.getD 0 0) from fun o' e => by
            rw [e, Bool.and_eq_true, HO.out, beq_iff_eq]
            constructor
            · rintro ⟨h1, h2⟩ j hj
              by_cases e2 : j = k
              · rw [e2]; exact h2
              · exact h1 j (by omega)
            · intro h1
              exact ⟨fun j hj => h1 j (by omega), h1 k (by omega)⟩)
          have hkl2 : (0 : Int) < (ws.length : Int) := by omega
          generalize ws.getD k 0 = x at c1 HNX
          generalize ws.getD 0 0 = y at c0 HNX HOL2
          cases o with
          | false =>
            go_wp2_with fail
            go_roundw
            case rel => exact ⟨k + 1, false, by go_num, rfl, by omega, HNX.out false rfl, by trivial⟩
            case measure => simp [intOf]; omega
          | true =>
            by_cases hxy : x = y
            · subst hxy
              go_wp2_with fail
              go_roundw
              case rel => exact ⟨k + 1, true, by go_num, rfl, by omega, HNX.out true (by simp), by trivial⟩
              case measure => simp [intOf]; omega
            · have q0 : (x == y) = false := by simpa using hxy
              go_wp2_with fail
              go_roundw
              case rel => exact ⟨k + 1, false, by go_num, rfl, by omega, HNX.out false (by simp [q0]), by trivial⟩
              case measure => simp [intOf]; omega
        · obtain rfl : k = ws.length := by omega
          by_cases hge : cn ≤ m
          · go_wp2_with fail
            go_ret
            exact ⟨rfl, HB15.out⟩
          · obtain rfl : o = false := by
              cases o with
              | false => rfl
              | true => exact absurd (HOL2.out.2.2 (.inl (fun j hj => HO.out.1 rfl j (by rw [HN.out]; exact hj)))) hge
            have htf : AdjR.tog ab od = false := by
              cases h : AdjR.tog ab od with
              | false => rfl
              | true => exact absurd (HOL2.out.2.2 (.inr h)) hge
            rw [htf] at HTO2
            go_wp2_with fail
            (with_reducible refine HTO2.out.mono ?_)
            rintro e w6 ⟨rfl, rfl⟩
            go_wp2_with fail
            go_ret
            exact ⟨rfl, HB15.out⟩
    · have p0 : (pe == 0) = false := by simpa using hpe
      have p1 : (pe != 0) = true := by simpa using hpe
      go_wp2_with fail
      go_ret
      exact ⟨rfl, HB15.out⟩
  · have HBE := Lib.hid (Below.refl w.heap.size w)
    generalize AdjR.treeBad ab ws = t at hbad HTR
    have t0 : (t == 0) = false := by simpa using hbad
    have t1 : (t != 0) = true := by simpa using hbad
    clear h1 h2 h3 hl
    go_enter Try.func5, Try.ntmps5
    go_wp2_with fail
    refine HAL.out.mono ?_
    rintro e w1 ⟨rfl, hb1⟩
    have HB1 := Lib.hid hb1
    go_wp2_with fail
    refine (HTR.out w1 hb1).mono ?_
    rintro e w2 ⟨rfl, rfl⟩
    go_wp2_with fail
    go_ret
    exact ⟨rfl, HB1.out⟩

set_option maxRecDepth 100000 in
theorem lifted (os : Os) (started : os.Started) (H : Type) (enc : TypeId × Value → H) :
    ReturnsInHanded {} Try.checked os 5 .any (Rows.roomLeastSpec.pre6 enc Try.prog Try.f5 Rows.roomLeastRow.domain false) (Rows.roomLeastSpec.post enc Try.prog Try.f5 false true false false) := by
  refine Adj.law_lifted (C := Try.checked) (s := Rows.roomLeastSpec) own started (by kernel_rfl) Try.func5 laid rfl rfl Try.underlying4
      (by rw [Try.params5]; intro t ht; simp only [List.mem_cons, List.not_mem_nil, or_false] at ht; rcases ht with rfl | rfl | rfl <;> exact ⟨by kernel_rfl, of_decide_eq_true (by kernel_rfl)⟩)
      (by intro ds hd; match ds, hd with | [d1, d2, d3], _ => exact ⟨rfl, rfl, rfl⟩)
      (ChangeSpec.witness6 (enc := enc) (C := Try.checked) false ⟨#[], #[.slice none 0 0, .slice none 0 0, .slice none 0 0], []⟩ 8 (by kernel_rfl) (by kernel_rfl) (by kernel_rfl) (by kernel_rfl)) ?_
  intro W base args ds before hval0 hA0 _ hz0
  have hval : ∀ (j : Nat) t v, Try.f5.params[j]? = some t → args[j]? = some v → Value.okWide Try.prog W .any base t v := hval0
  have hA : DataW.TrodAll enc Try.prog W 0 (fun _ => true) true Try.f5.params.toList args.toList ds before := hA0
  have hz : (DataW.weightsEach Try.prog (Try.f5.params.toList ++ []) (ds ++ [])).all (· ≤ reachBytes) = true := hz0
  rw [Try.params5] at hA hval hz
  obtain ⟨v0, v1, v2, d0, d1, d2, p0, p1, p2, rfl, rfl, rfl, h0, h1, h2⟩ := trodAll_three hA
  obtain ⟨A, l, cap, rfl, hm, hc1, hc2⟩ := open_numbers Try.underlying22 Try.underlying3 Try.cellsI (hval 0 22 v0 rfl rfl) h0
  obtain ⟨A', m, cap', rfl, hm', hc1', hc2'⟩ := open_numbers Try.underlying22 Try.underlying3 Try.cellsI (hval 1 22 v1 rfl rfl) h1
  obtain ⟨A'', q, cap'', rfl, hm'', hc1'', hc2''⟩ := open_numbers Try.underlying22 Try.underlying3 Try.cellsI (hval 2 22 v2 rfl rfl) h2
  exact walk A A' A'' cap cap' cap'' l m q W (by omega) hm hm' hm''

theorem proved : Rows.RoomLeastSaid :=
  OpenClaim.holds_of_wide 5 Try.f5 rfl rfl rfl rfl rfl rfl rfl ⟨rfl, rfl, rfl, rfl, rfl⟩ rfl rfl rfl rfl rfl (by kernel_rfl) Try.func5 (by kernel_rfl)
    (of_decide_eq_true (by kernel_rfl)) (by unfold Func.isWrapper; first | (rw [if_pos (by decide +kernel)]; kernel_rfl) | (rw [if_neg (by decide +kernel)]; exact ⟨rfl, rfl⟩))
    (fun os started H enc _ => lifted os started H enc)
#print axioms proved
end Go.Proofs.Ytkopkicdmbnpgaa.roomLeast
