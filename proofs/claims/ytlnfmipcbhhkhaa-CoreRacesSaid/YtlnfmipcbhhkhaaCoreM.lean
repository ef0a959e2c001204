/-
  The walk of the reference's Before. Conditions: both lists can be read and are no longer than code may be.
-/
import Derived.Test.YtlnfmipcbhhkhaaCoreG
import Derived.Test.YtlnfmipcbhhkhaaCorePlain5
import Derived.Deep.QuietTactic
import Derived.BigQuiet
namespace Go.Proofs.Ytlnfmipcbhhkhaa
set_option linter.unusedVariables false
open Go.RowKit Adj

namespace Cr
theorem two_cells {wr : World} {B b off : Nat} {L : List AdjC.I} (h : IntsAt wr B (some ⟨b, off, none⟩) (AdjC.flat L)) {k : Nat} (hk : k < L.length) {x : AdjC.I} (hx : L[k] = x) :
    wr.cell? ⟨b, off + k * 6, none⟩ = some (.int .i64 x.d) ∧ wr.cell? ⟨b, off + k * 6 + 1, none⟩ = some (.int .i64 x.a) := ⟨(six_cells h hk hx).1, (six_cells h hk hx).2.1⟩
end Cr
set_option maxRecDepth 100000 in
set_option maxHeartbeats 8000000 in
theorem Before_any (A A' : Option Addr) (n n' : Nat) (own other : List AdjC.I) (i : Nat) (B : Nat) (w : World) (hB : B ≤ w.heap.size) (hi : i < own.length) (l1 : own.length ≤ n) (l2 : n ≤ 9223372036854775807) (l3 : own.length ≤ 262144) (m1 : other.length ≤ n') (m2 : n' ≤ 9223372036854775807) (m3 : other.length ≤ 262144)
    (hown : IntsAt w B A (AdjC.flat own)) (hother : IntsAt w B A' (AdjC.flat other)) :
    Calls Try.prog 16 #[.slice A own.length n, .int .i64 i, .slice A' other.length n'] w fun e w' => e = .returned (.int .i64 (AdjC.nowK own other (i + 1))) ∧ Below w.heap.size w w' := by
  obtain ⟨b, off, rfl, hbl⟩ := hown.spot (by rw [AdjC.flat_length]; omega)
  have HO := Lib.hid (fun (W : World) (hb : Below w.heap.size w W) => hown.below (hb.mono hB))
  have HT := Lib.hid (fun (W : World) (hb : Below w.heap.size w W) => hother.below (hb.mono hB))
  clear hown hother
  go_enter Try.func16, Try.ntmps16
  go_wp2_with fail
  go_loopw [7, 8] (fun nv kv wr => ∃ k : Nat, k ≤ i + 1 ∧ kv = .int .i64 k ∧ nv = .int .i64 (AdjC.nowK own other k) ∧ Below w.heap.size w wr) (fun _ kv _ => i + 1 - (intOf kv).toNat)
  case atStart => exact ⟨0, by omega, rfl, rfl, Below.refl _ _⟩
  case round =>
    obtain ⟨k, hk, rfl, rfl, hb⟩ := hrel
    have HB := Lib.hid hb
    clear hb
    by_cases hlt : k < i + 1
    · have hkl : k < own.length := by omega
      obtain ⟨x, hx⟩ : ∃ x, own[k] = x := ⟨_, rfl⟩
      obtain ⟨x0, x1⟩ := Cr.two_cells (HO.out wr HB.out) hkl hx
      have HNX := Lib.hid (AdjC.nowK_next (other := other) hkl hx)
      have hki : (k : Int) ≤ (i : Int) := by omega
      have hk0 : (0 : Int) ≤ (k : Int) := by omega
      have hkI : (k : Int) < (own.length : Int) := by omega
      have hnr := AdjC.nowK_range own other k
      have HX := Lib.hid hx
      clear hx
      by_cases h4 : x.d = 4
      · have HNY := Lib.hid (show AdjC.nowK own other (k + 1) = max (AdjC.nowK own other k) (AdjC.need own other k x.a) by rw [HNX.out, if_pos h4])
        obtain ⟨c, hc⟩ : ∃ c, AdjC.cnt (own.take k) x.a = c := ⟨_, rfl⟩
        have HCK := Lib.hid (show AdjC.cnt (own.take (k + 1)) x.a = c + 1 by
          rw [List.take_succ_eq_append_getElem hkl, AdjC.cnt_snoc, hc, HX.out, if_pos ⟨h4, rfl⟩])
        have HC := Lib.hid hc
        have hcl := AdjC.cnt_le (own.take k) x.a
        rw [hc, List.length_take] at hcl
        have hcl2 : c ≤ 262144 := by omega
        have t4 : (x.d != 4) = false := by simp [h4]
        clear hc hcl h4
        go_wp2_with fail
        obtain ⟨wo, hwo⟩ : ∃ wo : World, wo = wr := ⟨_, rfl⟩
        rw [← hwo] at HB x0 x1 ⊢
        clear hwo wr
        go_loopw [9, 10] (fun ev jv wr => ∃ j : Nat, j ≤ k + 1 ∧ jv = .int .i64 j ∧ ev = .int .i64 (AdjC.cnt (own.take j) x.a : Int) ∧ Below w.heap.size w wr) (fun _ jv _ => k + 1 - (intOf jv).toNat)
        case atStart => exact ⟨0, by omega, rfl, rfl, HB.out⟩
        case round =>
          obtain ⟨j, hj, rfl, rfl, hb⟩ := hrel
          have HBJ := Lib.hid hb
          clear hb
          by_cases hjl : j < k + 1
          · have hjo : j < own.length := by omega
            obtain ⟨y, hy⟩ : ∃ y, own[j] = y := ⟨_, rfl⟩
            obtain ⟨y0, y1⟩ := Cr.two_cells (HO.out wr HBJ.out) hjo hy
            obtain ⟨z0, z1⟩ := Cr.two_cells (HO.out wr HBJ.out) hkl HX.out
            have HCS := Lib.hid (show AdjC.cnt (own.take (j + 1)) x.a = AdjC.cnt (own.take j) x.a + (if y.d = 4 ∧ y.a = x.a then 1 else 0) by
              rw [List.take_succ_eq_append_getElem hjo, AdjC.cnt_snoc, hy])
            have hcj := AdjC.cnt_le (own.take j) x.a
            rw [List.length_take] at hcj
            obtain ⟨q, hq⟩ : ∃ q, AdjC.cnt (own.take j) x.a = q := ⟨_, rfl⟩
            rw [hq] at hcj HCS
            have HQ := Lib.hid hq
            rw [hq]
            have hqb : q ≤ 262144 := by omega
            have hjk : (j : Int) ≤ (k : Int) := by omega
            have hj0 : (0 : Int) ≤ (j : Int) := by omega
            have hjI : (j : Int) < (own.length : Int) := by omega
            clear hq hy hcj
            by_cases g4 : y.d = 4
            · by_cases ga : y.a = x.a
              · have HV := Lib.hid (show AdjC.cnt (own.take (j + 1)) x.a = q + 1 by rw [HCS.out, if_pos ⟨g4, ga⟩])
                have t5 : (y.d == 4) = true := by simp [g4]
                have t6 : (y.a == x.a) = true := by simp [ga]
                clear g4 ga
                go_wp2_with fail
                go_quiet (fail)
                have HBQ := Lib.hid (below_drewN HBJ.out nq)
                clear x0 x1 y0 y1 z0 z1
                generalize wr.drewN nq = wq at HBQ ⊢
                go_wp2_with fail
                go_roundw
                case rel => exact ⟨j + 1, by omega, by go_num, by rw [HV.out]; go_num, HBQ.out⟩
                case measure => simp [intOf]; omega
              · have HV := Lib.hid (show AdjC.cnt (own.take (j + 1)) x.a = q by rw [HCS.out, if_neg (fun h => ga h.2), Nat.add_zero])
                have t5 : (y.d == 4) = true := by simp [g4]
                have t6 : (y.a == x.a) = false := by simp [ga]
                clear g4 ga
                go_wp2_with fail
                go_quiet (fail)
                have HBQ := Lib.hid (below_drewN HBJ.out nq)
                clear x0 x1 y0 y1 z0 z1
                generalize wr.drewN nq = wq at HBQ ⊢
                go_wp2_with fail
                go_roundw
                case rel => exact ⟨j + 1, by omega, by go_num, by rw [HV.out], HBQ.out⟩
                case measure => simp [intOf]; omega
            · have HV := Lib.hid (show AdjC.cnt (own.take (j + 1)) x.a = q by rw [HCS.out, if_neg (fun h => g4 h.1), Nat.add_zero])
              have t5 : (y.d == 4) = false := by simp [g4]
              clear g4
              go_wp2_with fail
              go_quiet (fail)
              have HBQ := Lib.hid (below_drewN HBJ.out nq)
              clear x0 x1 y0 y1 z0 z1
              generalize wr.drewN nq = wq at HBQ ⊢
              go_wp2_with fail
              go_roundw
              case rel => exact ⟨j + 1, by omega, by go_num, by rw [HV.out], HBQ.out⟩
              case measure => simp [intOf]; omega
          · have hjj : j = k + 1 := by omega
            subst hjj
            rw [HCK.out]
            have HNE := Lib.hid (show AdjC.need own other k x.a = AdjC.seek other x.a c other.length by unfold AdjC.need AdjC.seek; rw [HC.out])
            clear x0 x1
            go_wp2_with fail
            obtain ⟨wp, hwp⟩ : ∃ wp : World, wp = wr := ⟨_, rfl⟩
            rw [← hwp] at HBJ ⊢
            clear hwp wr
            go_loopw [9, 11, 12] (fun ev av jv wr => ∃ j : Nat, j ≤ other.length ∧ jv = .int .i64 j ∧ ev = .int .i64 ((c : Int) + 1 - ((AdjC.posts (other.take j) x.a).length : Int)) ∧ av = .int .i64 (AdjC.seek (other.take j) x.a c other.length) ∧ Below w.heap.size w wr) (fun _ _ jv _ => other.length - (intOf jv).toNat)
            case atStart => exact ⟨0, by omega, rfl, by simp [AdjC.posts, AdjC.postsFrom], by simp [AdjC.seek, AdjC.posts, AdjC.postsFrom], HBJ.out⟩
            case round =>
              obtain ⟨j, hj, rfl, rfl, rfl, hb⟩ := hrel
              have HBL := Lib.hid hb
              clear hb
              by_cases hjl : j < other.length
              · obtain ⟨b', off', rfl, hbl'⟩ := (HT.out wr HBL.out).spot (by rw [AdjC.flat_length]; omega)
                obtain ⟨y, hy⟩ : ∃ y, other[j] = y := ⟨_, rfl⟩
                obtain ⟨y0, y1⟩ := Cr.two_cells (HT.out wr HBL.out) hjl hy
                obtain ⟨z0, z1⟩ := Cr.two_cells (HO.out wr HBL.out) hkl HX.out
                have HTK := Lib.hid (show other.take (j + 1) = other.take j ++ [y] by rw [← hy]; exact List.take_succ_eq_append_getElem hjl)
                have hpl := AdjC.posts_length (other.take j) x.a
                rw [List.length_take, Nat.min_eq_left hj] at hpl
                obtain ⟨p, hp⟩ : ∃ p, (AdjC.posts (other.take j) x.a).length = p := ⟨_, rfl⟩
                obtain ⟨sk, hsk⟩ : ∃ sk, AdjC.seek (other.take j) x.a c other.length = sk := ⟨_, rfl⟩
                rw [hp] at hpl ⊢
                rw [hsk]
                have HP := Lib.hid hp
                have HSK := Lib.hid hsk
                have hj0 : (0 : Int) ≤ (j : Int) := by omega
                have hjI : (j : Int) < (other.length : Int) := by omega
                have hpb : p ≤ 262144 := by omega
                clear hp hsk hy hpl
                by_cases g4 : y.d = 3
                · by_cases ga : y.a = x.a
                  · have HV := Lib.hid (show (AdjC.posts (other.take (j + 1)) x.a).length = p + 1 by rw [HTK.out, AdjC.posts_snoc, if_pos ⟨g4, ga⟩, List.length_append, HP.out]; rfl)
                    have t5 : (y.d == 3) = true := by simp [g4]
                    have t6 : (y.a == x.a) = true := by simp [ga]
                    by_cases hpc : p = c
                    · have HW := Lib.hid (show AdjC.seek (other.take (j + 1)) x.a c other.length = (j : Int) + 1 by rw [HTK.out, AdjC.seek_here ⟨g4, ga⟩ (by rw [HP.out]; exact hpc), List.length_take, Nat.min_eq_left hj])
                      subst hpc
                      have hz : (((p : Int) + 1 - (p : Int) - 1) == 0) = true := by simp; omega
                      clear g4 ga
                      go_wp2_with fail
                      go_quiet (fail)
                      have HBQ := Lib.hid (below_drewN HBL.out nq)
                      clear y0 y1 z0 z1
                      generalize wr.drewN nq = wq at HBQ ⊢
                      go_wp2_with fail
                      go_roundw
                      case rel => exact ⟨j + 1, by omega, by go_num, by rw [HV.out]; go_num, by rw [HW.out], HBQ.out⟩
                      case measure => simp [intOf]; omega
                    · have HW := Lib.hid (show AdjC.seek (other.take (j + 1)) x.a c other.length = sk by rw [HTK.out, AdjC.seek_far (by rw [HP.out]; exact hpc), HSK.out])
                      have hz : (((c : Int) + 1 - (p : Int) - 1) == 0) = false := by simp; omega
                      clear g4 ga hpc
                      go_wp2_with fail
                      go_quiet (fail)
                      have HBQ := Lib.hid (below_drewN HBL.out nq)
                      clear y0 y1 z0 z1
                      generalize wr.drewN nq = wq at HBQ ⊢
                      go_wp2_with fail
                      go_roundw
                      case rel => exact ⟨j + 1, by omega, by go_num, by rw [HV.out]; go_num, by rw [HW.out], HBQ.out⟩
                      case measure => simp [intOf]; omega
                  · have HV := Lib.hid (show (AdjC.posts (other.take (j + 1)) x.a).length = p by rw [HTK.out, AdjC.posts_other (fun h => ga h.2), HP.out])
                    have HW := Lib.hid (show AdjC.seek (other.take (j + 1)) x.a c other.length = sk by rw [HTK.out, AdjC.seek_other (fun h => ga h.2), HSK.out])
                    have t5 : (y.d == 3) = true := by simp [g4]
                    have t6 : (y.a == x.a) = false := by simp [ga]
                    clear g4 ga
                    go_wp2_with fail
                    go_quiet (fail)
                    have HBQ := Lib.hid (below_drewN HBL.out nq)
                    clear y0 y1 z0 z1
                    generalize wr.drewN nq = wq at HBQ ⊢
                    go_wp2_with fail
                    go_roundw
                    case rel => exact ⟨j + 1, by omega, by go_num, by rw [HV.out], by rw [HW.out], HBQ.out⟩
                    case measure => simp [intOf]; omega
                · have HV := Lib.hid (show (AdjC.posts (other.take (j + 1)) x.a).length = p by rw [HTK.out, AdjC.posts_other (fun h => g4 h.1), HP.out])
                  have HW := Lib.hid (show AdjC.seek (other.take (j + 1)) x.a c other.length = sk by rw [HTK.out, AdjC.seek_other (fun h => g4 h.1), HSK.out])
                  have t5 : (y.d == 3) = false := by simp [g4]
                  clear g4
                  go_wp2_with fail
                  go_quiet (fail)
                  have HBQ := Lib.hid (below_drewN HBL.out nq)
                  clear y0 y1 z0 z1
                  generalize wr.drewN nq = wq at HBQ ⊢
                  go_wp2_with fail
                  go_roundw
                  case rel => exact ⟨j + 1, by omega, by go_num, by rw [HV.out], by rw [HW.out], HBQ.out⟩
                  case measure => simp [intOf]; omega
              · have hjj : j = other.length := by omega
                subst hjj
                rw [List.take_of_length_le (Nat.le_refl _)]
                rw [HNE.out] at HNY
                obtain ⟨q, hq⟩ : ∃ q, AdjC.seek other x.a c other.length = q := ⟨_, rfl⟩
                rw [hq] at HNY ⊢
                clear hq HNE
                by_cases hqn : AdjC.nowK own other k < q
                · go_wp2_with fail
                  go_roundw
                  case rel => exact ⟨k + 1, by omega, by go_num, by rw [HNY.out]; congr 1; omega, HBL.out⟩
                  case measure => simp [intOf]; omega
                · have hqn2 : q ≤ AdjC.nowK own other k := by omega
                  clear hqn
                  go_wp2_with fail
                  go_roundw
                  case rel => exact ⟨k + 1, by omega, by go_num, by rw [HNY.out]; congr 1; omega, HBL.out⟩
                  case measure => simp [intOf]; omega
      · have HNY := Lib.hid (show AdjC.nowK own other (k + 1) = AdjC.nowK own other k by rw [HNX.out, if_neg h4])
        have t4 : (x.d != 4) = true := by simp [h4]
        clear h4
        go_wp2_with fail
        go_roundw
        case rel => exact ⟨k + 1, by omega, by go_num, by rw [HNY.out], HB.out⟩
        case measure => simp [intOf]; omega
    · have hkk : k = i + 1 := by omega
      subst hkk
      go_wp2_with fail
      go_ret
      exact ⟨rfl, HB.out⟩
end Go.Proofs.Ytlnfmipcbhhkhaa
