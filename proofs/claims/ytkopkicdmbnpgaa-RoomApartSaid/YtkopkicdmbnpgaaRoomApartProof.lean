/-
  PROVED: RoomApartSaid: for every list of lives the law RoomApart returns true: no two things that are needed at one time lie in one place; all lie within what is said, which is not less than what is needed at one time. No condition.
-/
import Derived.Test.YtkopkicdmbnpgaaRoomZg
import Derived.Test.YtkopkicdmbnpgaaRoomV
import Derived.Test.YtkopkicdmbnpgaaOpenLives
import Derived.Test.YtkopkicdmbnpgaaLawRow
import Derived.Test.YtkopkicdmbnpgaaChecked
import Derived.Test.YtkopkicdmbnpgaaRows
import Derived.Deep.QuietTactic
import Derived.BigQuiet
namespace Go.Proofs.Ytkopkicdmbnpgaa.roomApart
open Go.ChangeShapes Go.WideShapes Go.ChangeAt Go.RowKit Adj
set_option linter.unusedVariables false

theorem own : ownKnob Try.prog.godebug = none := by kernel_rfl
theorem laid : laidOutB Try.prog = true := by kernel_rfl
theorem out_le {l : List AdjL.Life} (hl : ∀ x ∈ l, ¬ AdjL.bad x) {k : Nat} (hk : k < l.length) : (AdjL.laySt l).out.getD k 0 ≤ (AdjL.laySt l).all := by
  obtain ⟨D, h, hD⟩ := AdjL.lay_ok hl
  cases hc : D.getD k false with
  | true =>
    have h1 := (h.some_ k hk hc).2.2.1
    have h2 := hl _ (AdjL.get_mem hk)
    unfold AdjL.bad at h2
    omega
  | false => rw [h.none_ k hk hc]; exact h.all0
theorem trodAll_one {H : Type} {enc : TypeId × Value → H} {P : Program} {w : World} {base : Nat} {spare : Bool} {held : Nat → Bool} {t0 : TypeId} {args : Array Value} {ds : List (DataW H)} {ps : List MemPlace} (h : DataW.TrodAll enc P w base held spare [t0] args.toList ds ps) :
    ∃ v0 d0 p0, args = #[v0] ∧ ds = [d0] ∧ ps = p0 ∧ DataW.Trod enc P w base held spare t0 v0 d0 p0 := by
  match hv : args.toList, ds, h with
  | [v0], [d0], h =>
    obtain ⟨p0, q0, h0, h1, hp⟩ := h
    obtain ⟨rfl⟩ : q0 = [] := h1
    refine ⟨v0, d0, p0, ?_, rfl, by simpa using hp, h0⟩
    apply Array.ext'
    simpa using hv
  | [], _, h => simp [DataW.TrodAll] at h
  | _ :: _ :: _, [_], h => obtain ⟨_, _, _, h1, _⟩ := h; exact h1.elim
  | [_], [], h => exact h.elim
  | _ :: _ :: _, [], h => exact h.elim
  | [_], _ :: _ :: _, h => obtain ⟨_, _, _, h1, _⟩ := h; exact h1.elim
  | _ :: _ :: _, _ :: _ :: _, h =>
    obtain ⟨_, _, _, h1, _⟩ := h
    exact h1.elim

set_option maxRecDepth 100000 in
set_option maxHeartbeats 8000000 in
theorem walk (A : Option Addr) (cap : Nat) (l : List AdjL.Life) (w : World) (hcap : l.length ≤ cap) (hmax : cap ≤ 9223372036854775807) (h : IntsAt w w.heap.size A (AdjL.flat l)) :
    Calls Try.prog 7 #[.slice A l.length cap] w fun e w' => e = .returned (.bool true) ∧ Below w.heap.size w w' := by
  have HAL := Lib.hid (alive_any w)
  obtain ⟨n, hn⟩ : ∃ n, l.length = n := ⟨_, rfl⟩
  have HLAY := Lib.hid (fun W (hb : Below w.heap.size w W) => Lay_any W l A n cap hn ((h.below hb).up hb.size))
  have HLOAD := Lib.hid (fun W (hb : Below w.heap.size w W) => Load_any W l A n cap hn ((h.below hb).up hb.size))
  have H := Lib.hid h
  have HN := Lib.hid hn
  rw [hn] at hcap ⊢
  clear h hn
  by_cases hbad : (AdjL.lay l).2.2 = 0
  · have hwr : AdjL.wrong l = 0 := by
      refine Decidable.byContradiction (fun hw => ?_)
      unfold AdjL.lay at hbad
      rw [if_pos hw] at hbad
      exact hw hbad
    obtain ⟨hlen, hok⟩ := AdjL.wrong_ok hwr
    have hall : (AdjL.laySt l).all ≤ 1048576 := by
      refine Decidable.byContradiction (fun hw => ?_)
      unfold AdjL.lay at hbad
      rw [if_neg (by rw [hwr]; decide), if_pos (by omega)] at hbad
      simp at hbad
    have hlay : AdjL.lay l = ((AdjL.laySt l).out, (AdjL.laySt l).all, 0) := by
      unfold AdjL.lay
      rw [if_neg (by rw [hwr]; decide), if_neg (by omega)]
    have HOL := Lib.hid (AdjL.out_len hok)
    have h0 := AdjL.all_pos hok
    have HA1 := Lib.hid (fun k (hk : k < l.length) => AdjL.apart_one hok hk)
    have HA2 := Lib.hid (fun k j (hk : k < l.length) (hj : j < l.length) => AdjL.apart_two hok hk hj)
    have HA3 := Lib.hid (fun k (hk : k < l.length) => out_le hok hk)
    have HLE := Lib.hid (AdjL.load_le hok)
    have HOK := Lib.hid hok
    have hn4 : n ≤ 4096 := by have := HN.out; omega
    rw [hlay] at HLAY
    rw [if_pos hwr, hwr] at HLOAD
    simp only at HLAY
    clear hbad hwr hok hlay hlen
    generalize (AdjL.laySt l).out = out at HLAY HOL HA1 HA2 HA3
    generalize (AdjL.laySt l).all = all at HLAY HA1 HLE HA3 hall h0
    generalize AdjL.load l = ld at HLOAD HLE
    go_enter Try.func7, Try.ntmps7
    go_wp2_with fail
    refine HAL.out.mono ?_
    rintro e w1 ⟨rfl, hb1⟩
    go_wp2_with fail
    ((with_reducible refine (HLAY.out w1 hb1).mono ?_); rintro e w2 ⟨v, rfl, hb2, AO, cO, rfl, hio⟩)
    have HB2 := Lib.hid (hb1.trans (hb2.mono hb1.size))
    have HIO := Lib.hid hio
    have HOLN := Lib.hid (show out.length = n by rw [HOL.out, HN.out])
    rw [HOLN.out]
    clear hb1 hb2 hio
    go_wp2_with fail
    go_loopw [28] (fun kv wr => ∃ k : Nat, kv = .int .i64 (k : Int) ∧ k ≤ n ∧ Below w2.heap.size w2 wr) (fun kv _ => n - (intOf kv).toNat)
    case atStart => exact ⟨0, rfl, by omega, Below.refl _ _⟩
    case round =>
      obtain ⟨i, rfl, hi, hb⟩ := hrel
      have HB := Lib.hid hb
      have HBW := Lib.hid (HB2.out.trans (hb.mono HB2.out.size))
      clear hb
      by_cases hin : i < n
      · have hil : i < l.length := by have := HN.out; omega
        have hget : AdjL.get l i = l[i] := by unfold AdjL.get; rw [List.getD_eq_getElem?_getD, List.getElem?_eq_getElem hil]; rfl
        obtain ⟨b, off, hA, hbb⟩ := Lv.spot H.out hil
        subst hA
        obtain ⟨y1, y2, y3⟩ := Lv.cells H.out hil
        rw [← hget] at y1 y2 y3
        have c1 := (HBW.out.cell (cell_lt y1)).trans y1
        have c2 := (HBW.out.cell (cell_lt y2)).trans y2
        have c3 := (HBW.out.cell (cell_lt y3)).trans y3
        obtain ⟨bo, oo, hAO, hbo⟩ := HIO.out.spot (by rw [HOLN.out]; omega)
        subst hAO
        have HCO := Lib.hid (fun k (hk : k < n) => show w2.cell? ⟨bo, oo + k, none⟩ = some (.int .i64 (out.getD k 0)) from HIO.out.at_ (by
          rw [List.getD_eq_getElem?_getD, List.getElem?_eq_getElem (by rw [HOLN.out]; exact hk)]; rfl))
        have co := (HB.out.cell (p := ⟨bo, oo + i, none⟩) hbo).trans (HCO.out i hin)
        have HPI := Lib.hid (HCO.out i hin)
        obtain ⟨ha1, ha2⟩ := HA1.out i hil
        have ha3 := HA3.out i hil
        have hbx : ¬ AdjL.bad (AdjL.get l i) := HOK.out _ (AdjL.get_mem hil)
        have HTWO := Lib.hid (fun j (hj : j < i) => HA2.out i j hil (by omega) (by omega))
        clear y1 y2 y3 hget
        generalize AdjL.get l i = x at c1 c2 c3 hbx ha2 HTWO
        generalize out.getD i 0 = p at co HPI ha1 ha2 ha3 HTWO
        obtain ⟨f, t, z⟩ := x
        simp only at c1 c2 c3 ha2 HTWO
        have hbx2 : ¬ (f < 0 ∨ t < f ∨ 1048576 < t ∨ z < 0 ∨ 1048576 < z) := hbx
        have HXB := Lib.hid (Blk.new wr 37 #[.int .i64 f, .int .i64 t, .int .i64 z])
        have HB3 := Lib.hid (HB.out.alloc HB.out.size (.cells #[.int .i64 f, .int .i64 t, .int .i64 z] 37))
        have hlt3 := (cell_lt co)
        clear hbx
        have co2 := (World.cell?_alloc_lt wr (.cells #[.int .i64 f, .int .i64 t, .int .i64 z] 37) ⟨bo, oo + i, none⟩ hlt3).trans co
        obtain ⟨W3, hW3⟩ : ∃ W3, wr.alloc (.cells #[.int .i64 f, .int .i64 t, .int .i64 z] 37) = W3 := ⟨_, rfl⟩
        rw [hW3] at HXB HB3 co2
        have x0 := HXB.out.cell 0
        have x1 := HXB.out.cell 1
        have x2 := HXB.out.cell 2
        have hi0 : (0 : Int) ≤ (i : Int) := by omega
        have hin2 : (i : Int) < (n : Int) := by omega
        have hic : i ≤ cap := by omega
        have qz : IntKind.i64.wrap (p + z) = p + z := IntWalk.i64_in _ (by omega)
        have dp : decide (p < 0) = false := by simpa using ha1
        have HCI := Lib.hid (show w2.cell? ⟨bo, oo + i, none⟩ = some (.int .i64 p) from HPI.out)
        have HTWO2 := Lib.hid HTWO.out
        by_cases hft : f < t
        · have hpz := ha2 hft
          have dall : decide (all < p + z) = false := by simpa using hpz
          clear hlt3 co
          go_wp2_with fail
          go_quiet (fail)
          clear dall
          have HB4 := Lib.hid (show Below w2.heap.size w2 (W3.drewN nq) from below_drewN HB3.out nq)
          have HX4 := Lib.hid (HXB.out.drewN nq)
          clear x0 x1 x2 dp co2 c1 c2 c3
          generalize W3.drewN nq = W4 at HB4 HX4 ⊢
          go_wp2_with fail
          go_loopw [60] (fun kv wr => ∃ k : Nat, kv = .int .i64 (k : Int) ∧ k ≤ i ∧ Below W4.heap.size W4 wr) (fun kv _ => i - (intOf kv).toNat)
          case atStart => exact ⟨0, rfl, by omega, Below.refl _ _⟩
          case round =>
            obtain ⟨j, rfl, hj, hb⟩ := hrel
            have HBI := Lib.hid hb
            have HB5 := Lib.hid (HB4.out.trans (hb.mono HB4.out.size))
            have HX5 := Lib.hid (HX4.out.below hb HX4.out.lt)
            have HBW5 := Lib.hid (HB2.out.trans (HB5.out.mono HB2.out.size))
            clear hb
            by_cases hji : j < i
            · have hjl : j < l.length := by omega
              have hget : AdjL.get l j = l[j] := by unfold AdjL.get; rw [List.getD_eq_getElem?_getD, List.getElem?_eq_getElem hjl]; rfl
              obtain ⟨y1, y2, y3⟩ := Lv.cells H.out hjl
              rw [← hget] at y1 y2 y3
              have c1 := (HBW5.out.cell (cell_lt y1)).trans y1
              have c2 := (HBW5.out.cell (cell_lt y2)).trans y2
              have c3 := (HBW5.out.cell (cell_lt y3)).trans y3
              have co := (HB5.out.cell (p := ⟨bo, oo + i, none⟩) hbo).trans HCI.out
              have cj := (HB5.out.cell (p := ⟨bo, oo + j, none⟩) hbo).trans (HCO.out j (by omega))
              have hj1 := (HA1.out j hjl).1
              have hj3 := HA3.out j hjl
              have hby : ¬ AdjL.bad (AdjL.get l j) := HOK.out _ (AdjL.get_mem hjl)
              have HTW := Lib.hid (HTWO.out j hji)
              clear y1 y2 y3 hget
              generalize AdjL.get l j = y at c1 c2 c3 hby HTW
              generalize out.getD j 0 = q at cj hj1 hj3 HTW
              obtain ⟨f', t', z'⟩ := y
              simp only at c1 c2 c3 HTW
              have hby2 : ¬ (f' < 0 ∨ t' < f' ∨ 1048576 < t' ∨ z' < 0 ∨ 1048576 < z') := hby
              have HYB := Lib.hid (Blk.new wr 37 #[.int .i64 f', .int .i64 t', .int .i64 z'])
              have HB6 := Lib.hid (HBI.out.alloc HBI.out.size (.cells #[.int .i64 f', .int .i64 t', .int .i64 z'] 37))
              have HX6 := Lib.hid (HX5.out.alloc (.cells #[.int .i64 f', .int .i64 t', .int .i64 z'] 37))
              have co2 := (World.cell?_alloc_lt wr (.cells #[.int .i64 f', .int .i64 t', .int .i64 z'] 37) ⟨bo, oo + i, none⟩ (cell_lt co)).trans co
              have cj2 := (World.cell?_alloc_lt wr (.cells #[.int .i64 f', .int .i64 t', .int .i64 z'] 37) ⟨bo, oo + j, none⟩ (cell_lt cj)).trans cj
              obtain ⟨W6, hW6⟩ : ∃ W6, wr.alloc (.cells #[.int .i64 f', .int .i64 t', .int .i64 z'] 37) = W6 := ⟨_, rfl⟩
              rw [hW6] at HYB HB6 HX6 co2 cj2
              have x0 := HX6.out.cell 0
              have x1 := HX6.out.cell 1
              have x2 := HX6.out.cell 2
              have z0 := HYB.out.cell 0
              have z1 := HYB.out.cell 1
              have z2 := HYB.out.cell 2
              have hj0 : (0 : Int) ≤ (j : Int) := by omega
              have hjn2 : (j : Int) < (n : Int) := by omega
              have qq : IntKind.i64.wrap (q + z') = q + z' := IntWalk.i64_in _ (by omega)
              clear hby co cj
              by_cases e1 : f < t'
              · by_cases e2 : f' < t
                · by_cases e3 : p < q + z'
                  · by_cases e4 : q < p + z
                    · by_cases e6 : f' < t'
                      · exact absurd ⟨e3, e4⟩ (HTW.out e1 e2 hft e6)
                      · have d6 : decide (f' < t') = false := by simpa using e6
                        go_wp2_with fail
                        go_quiet (fail)
                        have HB7 := Lib.hid (below_drewN HB6.out nq)
                        generalize W6.drewN nq = W7 at HB7 ⊢
                        go_wp2_with fail
                        go_roundw
                        case rel => exact ⟨j + 1, by go_num, by omega, HB7.out⟩
                        case measure => simp [intOf]; omega
                    · have d4 : decide (q < p + z) = false := by simpa using e4
                      go_wp2_with fail
                      go_quiet (fail)
                      have HB7 := Lib.hid (below_drewN HB6.out nq)
                      generalize W6.drewN nq = W7 at HB7 ⊢
                      go_wp2_with fail
                      go_roundw
                      case rel => exact ⟨j + 1, by go_num, by omega, HB7.out⟩
                      case measure => simp [intOf]; omega
                  · have d3 : decide (p < q + z') = false := by simpa using e3
                    go_wp2_with fail
                    go_quiet (fail)
                    have HB7 := Lib.hid (below_drewN HB6.out nq)
                    generalize W6.drewN nq = W7 at HB7 ⊢
                    go_wp2_with fail
                    go_roundw
                    case rel => exact ⟨j + 1, by go_num, by omega, HB7.out⟩
                    case measure => simp [intOf]; omega
                · have d2 : decide (f' < t) = false := by simpa using e2
                  go_wp2_with fail
                  go_quiet (fail)
                  have HB7 := Lib.hid (below_drewN HB6.out nq)
                  generalize W6.drewN nq = W7 at HB7 ⊢
                  go_wp2_with fail
                  go_roundw
                  case rel => exact ⟨j + 1, by go_num, by omega, HB7.out⟩
                  case measure => simp [intOf]; omega
              · have d1 : decide (f < t') = false := by simpa using e1
                go_wp2_with fail
                go_quiet (fail)
                have HB7 := Lib.hid (below_drewN HB6.out nq)
                generalize W6.drewN nq = W7 at HB7 ⊢
                go_wp2_with fail
                go_roundw
                case rel => exact ⟨j + 1, by go_num, by omega, HB7.out⟩
                case measure => simp [intOf]; omega
            · obtain rfl : j = i := by omega
              go_wp2_with fail
              go_roundw
              case rel => exact ⟨j + 1, by go_num, by omega, HB5.out⟩
              case measure => simp [intOf]; omega
        · have dft : decide (f < t) = false := by simpa using hft
          clear hlt3 co
          go_wp2_with fail
          go_quiet (fail)
          clear dft
          have HB4 := Lib.hid (show Below w2.heap.size w2 (W3.drewN nq) from below_drewN HB3.out nq)
          have HX4 := Lib.hid (HXB.out.drewN nq)
          clear x0 x1 x2 dp co2 c1 c2 c3
          generalize W3.drewN nq = W4 at HB4 HX4 ⊢
          go_wp2_with fail
          go_loopw [60] (fun kv wr => ∃ k : Nat, kv = .int .i64 (k : Int) ∧ k ≤ i ∧ Below W4.heap.size W4 wr) (fun kv _ => i - (intOf kv).toNat)
          case atStart => exact ⟨0, rfl, by omega, Below.refl _ _⟩
          case round =>
            obtain ⟨j, rfl, hj, hb⟩ := hrel
            have HBI := Lib.hid hb
            have HB5 := Lib.hid (HB4.out.trans (hb.mono HB4.out.size))
            have HX5 := Lib.hid (HX4.out.below hb HX4.out.lt)
            have HBW5 := Lib.hid (HB2.out.trans (HB5.out.mono HB2.out.size))
            clear hb
            by_cases hji : j < i
            · have hjl : j < l.length := by omega
              have hget : AdjL.get l j = l[j] := by unfold AdjL.get; rw [List.getD_eq_getElem?_getD, List.getElem?_eq_getElem hjl]; rfl
              obtain ⟨y1, y2, y3⟩ := Lv.cells H.out hjl
              rw [← hget] at y1 y2 y3
              have c1 := (HBW5.out.cell (cell_lt y1)).trans y1
              have c2 := (HBW5.out.cell (cell_lt y2)).trans y2
              have c3 := (HBW5.out.cell (cell_lt y3)).trans y3
              have co := (HB5.out.cell (p := ⟨bo, oo + i, none⟩) hbo).trans HCI.out
              have cj := (HB5.out.cell (p := ⟨bo, oo + j, none⟩) hbo).trans (HCO.out j (by omega))
              have hj1 := (HA1.out j hjl).1
              have hj3 := HA3.out j hjl
              have hby : ¬ AdjL.bad (AdjL.get l j) := HOK.out _ (AdjL.get_mem hjl)
              have HTW := Lib.hid (HTWO.out j hji)
              clear y1 y2 y3 hget
              generalize AdjL.get l j = y at c1 c2 c3 hby HTW
              generalize out.getD j 0 = q at cj hj1 hj3 HTW
              obtain ⟨f', t', z'⟩ := y
              simp only at c1 c2 c3 HTW
              have hby2 : ¬ (f' < 0 ∨ t' < f' ∨ 1048576 < t' ∨ z' < 0 ∨ 1048576 < z') := hby
              have HYB := Lib.hid (Blk.new wr 37 #[.int .i64 f', .int .i64 t', .int .i64 z'])
              have HB6 := Lib.hid (HBI.out.alloc HBI.out.size (.cells #[.int .i64 f', .int .i64 t', .int .i64 z'] 37))
              have HX6 := Lib.hid (HX5.out.alloc (.cells #[.int .i64 f', .int .i64 t', .int .i64 z'] 37))
              have co2 := (World.cell?_alloc_lt wr (.cells #[.int .i64 f', .int .i64 t', .int .i64 z'] 37) ⟨bo, oo + i, none⟩ (cell_lt co)).trans co
              have cj2 := (World.cell?_alloc_lt wr (.cells #[.int .i64 f', .int .i64 t', .int .i64 z'] 37) ⟨bo, oo + j, none⟩ (cell_lt cj)).trans cj
              obtain ⟨W6, hW6⟩ : ∃ W6, wr.alloc (.cells #[.int .i64 f', .int .i64 t', .int .i64 z'] 37) = W6 := ⟨_, rfl⟩
              rw [hW6] at HYB HB6 HX6 co2 cj2
              have x0 := HX6.out.cell 0
              have x1 := HX6.out.cell 1
              have x2 := HX6.out.cell 2
              have z0 := HYB.out.cell 0
              have z1 := HYB.out.cell 1
              have z2 := HYB.out.cell 2
              have hj0 : (0 : Int) ≤ (j : Int) := by omega
              have hjn2 : (j : Int) < (n : Int) := by omega
              have qq : IntKind.i64.wrap (q + z') = q + z' := IntWalk.i64_in _ (by omega)
              clear hby co cj
              by_cases e1 : f < t'
              · by_cases e2 : f' < t
                · by_cases e3 : p < q + z'
                  · by_cases e4 : q < p + z
                    · have d5 : decide (f < t) = false := by simpa using hft
                      go_wp2_with fail
                      go_quiet (fail)
                      have HB7 := Lib.hid (below_drewN HB6.out nq)
                      generalize W6.drewN nq = W7 at HB7 ⊢
                      go_wp2_with fail
                      go_roundw
                      case rel => exact ⟨j + 1, by go_num, by omega, HB7.out⟩
                      case measure => simp [intOf]; omega
                    · have d4 : decide (q < p + z) = false := by simpa using e4
                      go_wp2_with fail
                      go_quiet (fail)
                      have HB7 := Lib.hid (below_drewN HB6.out nq)
                      generalize W6.drewN nq = W7 at HB7 ⊢
                      go_wp2_with fail
                      go_roundw
                      case rel => exact ⟨j + 1, by go_num, by omega, HB7.out⟩
                      case measure => simp [intOf]; omega
                  · have d3 : decide (p < q + z') = false := by simpa using e3
                    go_wp2_with fail
                    go_quiet (fail)
                    have HB7 := Lib.hid (below_drewN HB6.out nq)
                    generalize W6.drewN nq = W7 at HB7 ⊢
                    go_wp2_with fail
                    go_roundw
                    case rel => exact ⟨j + 1, by go_num, by omega, HB7.out⟩
                    case measure => simp [intOf]; omega
                · have d2 : decide (f' < t) = false := by simpa using e2
                  go_wp2_with fail
                  go_quiet (fail)
                  have HB7 := Lib.hid (below_drewN HB6.out nq)
                  generalize W6.drewN nq = W7 at HB7 ⊢
                  go_wp2_with fail
                  go_roundw
                  case rel => exact ⟨j + 1, by go_num, by omega, HB7.out⟩
                  case measure => simp [intOf]; omega
              · have d1 : decide (f < t') = false := by simpa using e1
                go_wp2_with fail
                go_quiet (fail)
                have HB7 := Lib.hid (below_drewN HB6.out nq)
                generalize W6.drewN nq = W7 at HB7 ⊢
                go_wp2_with fail
                go_roundw
                case rel => exact ⟨j + 1, by go_num, by omega, HB7.out⟩
                case measure => simp [intOf]; omega
            · obtain rfl : j = i := by omega
              go_wp2_with fail
              go_roundw
              case rel => exact ⟨j + 1, by go_num, by omega, HB5.out⟩
              case measure => simp [intOf]; omega
      · obtain rfl : i = n := by omega
        go_wp2_with fail
        ((with_reducible refine (HLOAD.out wr HBW.out).mono ?_); rintro e w3 ⟨rfl, hb3⟩)
        have HB3 := Lib.hid (HBW.out.trans (hb3.mono HBW.out.size))
        have hle := HLE.out
        clear hb3
        go_wp2_with fail
        go_ret
        exact ⟨rfl, HB3.out⟩
  · have p0 : ((AdjL.lay l).2.2 == 0) = false := by simpa using hbad
    have p1 : ((AdjL.lay l).2.2 != 0) = true := by simpa using hbad
    generalize (AdjL.lay l).2.2 = e at HLAY p0 p1
    go_enter Try.func7, Try.ntmps7
    go_wp2_with fail
    refine HAL.out.mono ?_
    rintro e w1 ⟨rfl, hb1⟩
    go_wp2_with fail
    ((with_reducible refine (HLAY.out w1 hb1).mono ?_); rintro e w2 ⟨v, rfl, hb2, AO, cO, rfl, hio⟩)
    have HB2 := Lib.hid (hb1.trans (hb2.mono hb1.size))
    clear hb1 hb2 hio
    go_wp2_with fail
    go_ret
    exact ⟨rfl, HB2.out⟩

set_option maxRecDepth 100000 in
theorem lifted (os : Os) (started : os.Started) (H : Type) (enc : TypeId × Value → H) :
    ReturnsInHanded {} Try.checked os 7 .any (Rows.roomApartSpec.pre6 enc Try.prog Try.f7 Rows.roomApartRow.domain false) (Rows.roomApartSpec.post enc Try.prog Try.f7 false true false false) := by
  refine Adj.law_lifted (C := Try.checked) (s := Rows.roomApartSpec) own started (by kernel_rfl) Try.func7 laid rfl rfl Try.underlying4
      (by rw [Try.params7]; intro t ht; simp only [List.mem_cons, List.not_mem_nil, or_false] at ht; subst ht; exact ⟨by kernel_rfl, of_decide_eq_true (by kernel_rfl)⟩)
      (by intro ds hd; match ds, hd with | [d1], _ => exact ⟨rfl, rfl, rfl⟩)
      (ChangeSpec.witness6 (enc := enc) (C := Try.checked) false ⟨#[], #[.slice none 0 0], []⟩ 8 (by kernel_rfl) (by kernel_rfl) (by kernel_rfl) (by kernel_rfl)) ?_
  intro W base args ds before hval0 hA0 _ _
  have hval : ∀ (j : Nat) t v, Try.f7.params[j]? = some t → args[j]? = some v → Value.okWide Try.prog W .any base t v := hval0
  have hA : DataW.TrodAll enc Try.prog W 0 (fun _ => true) true Try.f7.params.toList args.toList ds before := hA0
  rw [Try.params7] at hA hval
  obtain ⟨v0, d0, p0, rfl, rfl, rfl, h0⟩ := trodAll_one hA
  obtain ⟨a0, len0, cap0, rfl⟩ := okWide_slice Try.underlying33 (hval 0 33 v0 rfl rfl)
  obtain ⟨fuel, hf⟩ := h0
  obtain ⟨A, l, cap, hv, hi, h1, h2⟩ := open_lives (by simpa [Value.cells] using hf)
  rw [hv]
  exact walk A cap l W h1 h2 hi

theorem proved : Rows.RoomApartSaid :=
  OpenClaim.holds_of_wide 7 Try.f7 rfl rfl rfl rfl rfl rfl rfl ⟨rfl, rfl, rfl, rfl, rfl⟩ rfl rfl rfl rfl rfl (by kernel_rfl) Try.func7 (by kernel_rfl)
    (of_decide_eq_true (by kernel_rfl)) (by unfold Func.isWrapper; first | (rw [if_pos (by decide +kernel)]; kernel_rfl) | (rw [if_neg (by decide +kernel)]; exact ⟨rfl, rfl⟩))
    (fun os started H enc _ => lifted os started H enc)
#print axioms proved
end Go.Proofs.Ytkopkicdmbnpgaa.roomApart
