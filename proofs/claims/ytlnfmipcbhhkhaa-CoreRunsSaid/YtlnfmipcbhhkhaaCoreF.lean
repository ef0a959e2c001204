/-
  The walk of the reference's ins: what is wrong with an instruction. No condition.
-/
import Derived.Test.YtlnfmipcbhhkhaaCoreE
namespace Go.Proofs.Ytlnfmipcbhhkhaa
set_option linter.unusedVariables false
open Go.RowKit Adj

namespace Cr
theorem far_yes {n : Int} (h : AdjC.far n = true) : 1048576 < n ∨ n < -1048576 := by
  simp [AdjC.far] at h
  omega
theorem mul_small' {i c : Int} (hi : 0 ≤ i ∧ i ≤ 4096) (hc : -1048576 ≤ c ∧ c ≤ 1048576) : -4294967296 ≤ i * c ∧ i * c ≤ 4294967296 := by
  have h1 : i * c ≤ i * 1048576 := Int.mul_le_mul_of_nonneg_left hc.2 hi.1
  have h2 : i * -1048576 ≤ i * c := Int.mul_le_mul_of_nonneg_left hc.1 hi.1
  omega
theorem laidI (w : World) (pad mem : Int) (v2 v3 : Value) (x : AdjC.I) :
    Below w.heap.size w (((w.alloc (.cells #[.int .i64 pad, .int .i64 mem, v2, v3] 24)).alloc (.cells #[.int .i64 x.d, .int .i64 x.a, .int .i64 x.b, .int .i64 x.c, .int .i64 x.n, .int .i64 x.v] 42)).alloc (.cells #[.int .i64 x.a, .int .i64 x.b, .int .i64 x.c] 3)) ∧
    Blk (((w.alloc (.cells #[.int .i64 pad, .int .i64 mem, v2, v3] 24)).alloc (.cells #[.int .i64 x.d, .int .i64 x.a, .int .i64 x.b, .int .i64 x.c, .int .i64 x.n, .int .i64 x.v] 42)).alloc (.cells #[.int .i64 x.a, .int .i64 x.b, .int .i64 x.c] 3)) w.heap.size 24 #[.int .i64 pad, .int .i64 mem, v2, v3] ∧
    Blk (((w.alloc (.cells #[.int .i64 pad, .int .i64 mem, v2, v3] 24)).alloc (.cells #[.int .i64 x.d, .int .i64 x.a, .int .i64 x.b, .int .i64 x.c, .int .i64 x.n, .int .i64 x.v] 42)).alloc (.cells #[.int .i64 x.a, .int .i64 x.b, .int .i64 x.c] 3)) (w.heap.size + 1) 42 #[.int .i64 x.d, .int .i64 x.a, .int .i64 x.b, .int .i64 x.c, .int .i64 x.n, .int .i64 x.v] ∧
    Blk (((w.alloc (.cells #[.int .i64 pad, .int .i64 mem, v2, v3] 24)).alloc (.cells #[.int .i64 x.d, .int .i64 x.a, .int .i64 x.b, .int .i64 x.c, .int .i64 x.n, .int .i64 x.v] 42)).alloc (.cells #[.int .i64 x.a, .int .i64 x.b, .int .i64 x.c] 3)) (w.heap.size + 1 + 1) 3 #[.int .i64 x.a, .int .i64 x.b, .int .i64 x.c] := by
  refine ⟨(((Below.refl _ _).alloc (Nat.le_refl _) _).alloc (by simp) _).alloc (by simp; omega) _, ((Blk.new _ _ _).alloc _).alloc _, ?_, ?_⟩
  · have h := Blk.new (w.alloc (.cells #[.int .i64 pad, .int .i64 mem, v2, v3] 24)) 42 #[.int .i64 x.d, .int .i64 x.a, .int .i64 x.b, .int .i64 x.c, .int .i64 x.n, .int .i64 x.v]
    rw [World.size_alloc] at h
    exact h.alloc _
  · have h := Blk.new ((w.alloc (.cells #[.int .i64 pad, .int .i64 mem, v2, v3] 24)).alloc (.cells #[.int .i64 x.d, .int .i64 x.a, .int .i64 x.b, .int .i64 x.c, .int .i64 x.n, .int .i64 x.v] 42)) 3 #[.int .i64 x.a, .int .i64 x.b, .int .i64 x.c]
    rw [World.size_alloc, World.size_alloc] at h
    exact h
end Cr
set_option maxRecDepth 100000 in
set_option maxHeartbeats 8000000 in
theorem ins_mover (pad mem : Int) (v2 v3 : Value) (x : AdjC.I) (w : World) :
    Calls Try.prog 25 #[.agg #[.int .i64 pad, .int .i64 mem, v2, v3], Cr.insV x, .bool true] w fun e w' => e = .returned (.int .i64 (AdjC.wrongI pad mem true x)) ∧ Below w.heap.size w w' := by
  have HB0 := Lib.hid (fun o o' => ((Below.refl w.heap.size w).alloc (Nat.le_refl _) o).alloc (by simp) o')
  obtain ⟨d, a, b, c, n, v⟩ := x
  rw [Cr.insV_eq]
  simp only
  by_cases h34 : d = 3 ∨ d = 4
  · have HE := Lib.hid (show AdjC.wrongI pad mem true ⟨d, a, b, c, n, v⟩ = (if a < 0 ∨ 16 ≤ a then 4 else 0) by
      unfold AdjC.wrongI; rw [if_neg (by unfold AdjC.belongs; rw [if_pos h34]; decide), if_pos h34])
    rw [HE.out]
    rcases h34 with rfl | rfl
    all_goals
      go_enter Try.func25, Try.ntmps25
      go_wp2_with fail
      all_goals
        go_ret
        exact ⟨by first | rfl | exact ret_int (if_pos (by omega)).symm | exact ret_int (if_neg (by omega)).symm, HB0.out _ _⟩
  · by_cases hlo : d < 1 ∨ 14 < d
    · have HE := Lib.hid (show AdjC.wrongI pad mem true ⟨d, a, b, c, n, v⟩ = 1 by
        unfold AdjC.wrongI; rw [if_pos (AdjC.belongs_ref.2 (hlo.elim .inl (fun h => .inr (.inl h))))])
      rw [HE.out]
      have t1 : (d == 1) = false := by simp; omega
      have t2 : (d == 2) = false := by simp; omega
      have t3 : (d == 3) = false := by simp; omega
      have t4 : (d == 4) = false := by simp; omega
      clear h34
      by_cases h : d < 1
      all_goals
        go_enter Try.func25, Try.ntmps25
        go_wp2_with fail
        go_ret
        exact ⟨rfl, HB0.out _ _⟩
    · by_cases h12 : d = 1 ∨ d = 2
      · rcases h12 with rfl | rfl
        · have hbt : AdjC.belongs 1 true = true := by decide
          have HE := Lib.hid (show AdjC.wrongI pad mem true ⟨1, a, b, c, n, v⟩ = (if n < 0 ∨ 4096 < n ∨ AdjC.far a = true ∨ AdjC.far b = true ∨ AdjC.far c = true then 4
              else if (AdjC.reads ⟨1, a, b, c, n, v⟩ ++ [AdjC.write ⟨1, a, b, c, n, v⟩]).all (fun s => AdjC.inside s pad) = false then 4
              else if true = true ∧ 0 < n ∧ (min b (b + (n - 1) * c) < 0 ∨ mem ≤ max b (b + (n - 1) * c)) then 4 else 0) by
            unfold AdjC.wrongI; rw [if_neg (by rw [hbt]; decide), if_neg (by first | omega | decide)])
          rw [AdjC.touch_inside (by first | omega | (simp only; omega) | decide)] at HE
          clear hbt
          go_enter Try.func25, Try.ntmps25
          go_upto_region 11 with (fail)
          all_goals first | (go_ret; exact ⟨ret_int (by rw [HE.out]; exact (if_pos (by omega)).symm), HB0.out _ _⟩) | skip
          have hn : 0 ≤ n ∧ n ≤ 4096 := by omega
          go_wp2_with fail
          have HW := Lib.hid (Cr.laidI w pad mem v2 v3 ⟨1, a, b, c, n, v⟩)
          generalize ((w.alloc (.cells #[.int .i64 pad, .int .i64 mem, v2, v3] 24)).alloc (.cells #[.int .i64 1, .int .i64 a, .int .i64 b, .int .i64 c, .int .i64 n, .int .i64 v] 42)).alloc (.cells #[.int .i64 a, .int .i64 b, .int .i64 c] 3) = W3 at HW ⊢
          go_loop [72] (fun i => ∃ k : Nat, k ≤ 3 ∧ i = .int .i64 k ∧ (1 ≤ k → AdjC.far a = false) ∧ (2 ≤ k → AdjC.far b = false) ∧ (3 ≤ k → AdjC.far c = false)) (fun i => 3 - (intOf i).toNat)
          case atStart => exact ⟨0, by omega, rfl, by omega, by omega, by omega⟩
          case round =>
            obtain ⟨k, hk, rfl, f1, f2, f3⟩ := hrel
            have k4 : k = 0 ∨ k = 1 ∨ k = 2 ∨ k = 3 := by omega
            have F1 := Lib.hid f1
            have F2 := Lib.hid f2
            have F3 := Lib.hid f3
            have HB3 := HW.out.1
            clear f1 f2 f3 hk
            rcases k4 with rfl | rfl | rfl | rfl
            · rw [show (((0 : Nat) : Int)) = (0 : Int) from rfl]
              have e := HW.out.2.2.2.cell 0
              by_cases hf : AdjC.far a = true
              · have HE2 := Lib.hid (HE.out.trans (if_pos (.inr (.inr (.inl hf)))))
                have hf2 : 1048576 < a ∨ a < -1048576 := Cr.far_yes hf
                clear hf
                by_cases hf3 : 1048576 < a
                all_goals
                  go_wp2_with fail
                  go_ret
                  exact ⟨ret_int HE2.out.symm, HB3⟩
              · have HF := Lib.hid (show AdjC.far a = false by simpa using hf)
                have hf2 := Cr.far_no hf
                clear hf
                go_wp2_with fail
                go_round
                case rel => exact ⟨1, by omega, rfl, fun _ => HF.out, by omega, by omega⟩
                case measure => simp [intOf]
            · rw [show (((1 : Nat) : Int)) = (1 : Int) from rfl]
              have e := HW.out.2.2.2.cell 1
              by_cases hf : AdjC.far b = true
              · have HE2 := Lib.hid (HE.out.trans (if_pos (.inr (.inr (.inr (.inl hf))))))
                have hf2 : 1048576 < b ∨ b < -1048576 := Cr.far_yes hf
                clear hf
                by_cases hf3 : 1048576 < b
                all_goals
                  go_wp2_with fail
                  go_ret
                  exact ⟨ret_int HE2.out.symm, HB3⟩
              · have HF := Lib.hid (show AdjC.far b = false by simpa using hf)
                have hf2 := Cr.far_no hf
                clear hf
                go_wp2_with fail
                go_round
                case rel => exact ⟨2, by omega, rfl, fun _ => F1.out (by omega), fun _ => HF.out, by omega⟩
                case measure => simp [intOf]
            · rw [show (((2 : Nat) : Int)) = (2 : Int) from rfl]
              have e := HW.out.2.2.2.cell 2
              by_cases hf : AdjC.far c = true
              · have HE2 := Lib.hid (HE.out.trans (if_pos (.inr (.inr (.inr (.inr hf))))))
                have hf2 : 1048576 < c ∨ c < -1048576 := Cr.far_yes hf
                clear hf
                by_cases hf3 : 1048576 < c
                all_goals
                  go_wp2_with fail
                  go_ret
                  exact ⟨ret_int HE2.out.symm, HB3⟩
              · have HF := Lib.hid (show AdjC.far c = false by simpa using hf)
                have hf2 := Cr.far_no hf
                clear hf
                go_wp2_with fail
                go_round
                case rel => exact ⟨3, by omega, rfl, fun _ => F1.out (by omega), fun _ => F2.out (by omega), fun _ => HF.out⟩
                case measure => simp [intOf]
            · have ha := Cr.far_no (n := a) (by rw [F1.out (by omega)]; decide)
              have hb := Cr.far_no (n := b) (by rw [F2.out (by omega)]; decide)
              have hc := Cr.far_no (n := c) (by rw [F3.out (by omega)]; decide)
              have HE2 := Lib.hid (HE.out.trans (if_neg (by rw [F1.out (by omega), F2.out (by omega), F3.out (by omega)]; simp; omega)))
              rw [show (((3 : Nat) : Int)) = (3 : Int) from rfl]
              have HTC := Lib.hid (Touched_any ⟨1, a, b, c, n, v⟩)
              simp only [Cr.insV] at HTC
              have HTS := Lib.hid (AdjC.touch_small (x := ⟨1, a, b, c, n, v⟩) ha hb hc hn)
              have c0 : W3.cell? ⟨w.heap.size, 0, none⟩ = some (.int .i64 pad) := HW.out.2.1.cell 0
              have c1 : W3.cell? ⟨w.heap.size, 1, none⟩ = some (.int .i64 mem) := HW.out.2.1.cell 1
              have d0 : W3.cell? ⟨w.heap.size + 1, 0, none⟩ = some (.int .i64 1) := HW.out.2.2.1.cell 0
              have d1 : W3.cell? ⟨w.heap.size + 1, 1, none⟩ = some (.int .i64 a) := HW.out.2.2.1.cell 1
              have d2 : W3.cell? ⟨w.heap.size + 1, 2, none⟩ = some (.int .i64 b) := HW.out.2.2.1.cell 2
              have d3 : W3.cell? ⟨w.heap.size + 1, 3, none⟩ = some (.int .i64 c) := HW.out.2.2.1.cell 3
              have d4 : W3.cell? ⟨w.heap.size + 1, 4, none⟩ = some (.int .i64 n) := HW.out.2.2.1.cell 4
              have d5 : W3.cell? ⟨w.heap.size + 1, 5, none⟩ = some (.int .i64 v) := HW.out.2.2.1.cell 5
              go_wp2_with fail
              ((with_reducible refine (HTC.out _).mono ?_); rintro e w4 ⟨rfl, hb4⟩)
              obtain ⟨T, hT⟩ : ∃ T, AdjC.touch ⟨1, a, b, c, n, v⟩ = T := ⟨_, rfl⟩
              rw [hT] at HE2 HTS
              rw [hT]
              clear hT HTC d0 d1 d2 d3 d4 d5 c0 c1
              obtain ⟨⟨ta, tn⟩, ⟨ua, un⟩, ⟨va, vn⟩, ⟨wa, wn⟩⟩ := T
              unfold Cr.touchV
              simp only at HE2 HTS ⊢
              have HB4 := Lib.hid (HB3.trans (hb4.mono HB3.size))
              have HC4 := Lib.hid (HW.out.2.1.below hb4 HW.out.2.1.lt)
              have HD4 := Lib.hid (HW.out.2.2.1.below hb4 HW.out.2.2.1.lt)
              clear hb4 HB3
              have HB5 := Lib.hid (HB4.out.alloc (by have := HC4.out.lt; omega) (.cells #[.int .i64 ta, .int .i64 tn, .int .i64 ua, .int .i64 un, .int .i64 va, .int .i64 vn, .int .i64 wa, .int .i64 wn] 75))
              have HC5 := Lib.hid (HC4.out.alloc (.cells #[.int .i64 ta, .int .i64 tn, .int .i64 ua, .int .i64 un, .int .i64 va, .int .i64 vn, .int .i64 wa, .int .i64 wn] 75))
              have HD5 := Lib.hid (HD4.out.alloc (.cells #[.int .i64 ta, .int .i64 tn, .int .i64 ua, .int .i64 un, .int .i64 va, .int .i64 vn, .int .i64 wa, .int .i64 wn] 75))
              have HT5 := Lib.hid (Blk.new w4 75 #[.int .i64 ta, .int .i64 tn, .int .i64 ua, .int .i64 un, .int .i64 va, .int .i64 vn, .int .i64 wa, .int .i64 wn])
              obtain ⟨W5, hW5⟩ : ∃ W5, w4.alloc (.cells #[.int .i64 ta, .int .i64 tn, .int .i64 ua, .int .i64 un, .int .i64 va, .int .i64 vn, .int .i64 wa, .int .i64 wn] 75) = W5 := ⟨_, rfl⟩
              rw [hW5] at HB5 HC5 HD5 HT5
              clear HB4 HC4 HD4 F1 F2 F3 HE
              go_upto_region 18 with (fail)
              try rw [hW5]
              clear hW5
              by_cases hw : AdjC.inside (wa, wn) pad = true
              · have HH6 := Lib.hid hw
                clear hw
                have p0 : W5.cell? ⟨w.heap.size, 0, none⟩ = some (.int .i64 pad) := HC5.out.cell 0
                have p1 : W5.cell? ⟨w4.heap.size, 6, none⟩ = some (.int .i64 wa) := HT5.out.cell 6
                have p2 : W5.cell? ⟨w4.heap.size, 7, none⟩ = some (.int .i64 wn) := HT5.out.cell 7
                go_wp2_with fail
                ((with_reducible refine (inside_any wa wn pad _ HTS.out.2.2.2.1 HTS.out.2.2.2.2.1 HTS.out.2.2.2.2.2.1 HTS.out.2.2.2.2.2.2).mono ?_); rintro e w6 ⟨rfl, hb⟩)
                rw [HH6.out]
                have HB6 := Lib.hid (HB5.out.trans (hb.mono HB5.out.size))
                have HC6 := Lib.hid (HC5.out.below hb HC5.out.lt)
                have HD6 := Lib.hid (HD5.out.below hb HD5.out.lt)
                have HT6 := Lib.hid (HT5.out.below hb HT5.out.lt)
                clear hb p0 p1 p2
                by_cases h0 : AdjC.inside (ta, tn) pad = true
                · have HH7 := Lib.hid h0
                  clear h0
                  have p0 : w6.cell? ⟨w.heap.size, 0, none⟩ = some (.int .i64 pad) := HC6.out.cell 0
                  have p1 : w6.cell? ⟨w4.heap.size, 0, none⟩ = some (.int .i64 ta) := HT6.out.cell 0
                  have p2 : w6.cell? ⟨w4.heap.size, 1, none⟩ = some (.int .i64 tn) := HT6.out.cell 1
                  go_wp2_with fail
                  ((with_reducible refine (inside_any ta tn pad _ HTS.out.1.1 HTS.out.1.2.1 HTS.out.1.2.2.1 HTS.out.1.2.2.2).mono ?_); rintro e w7 ⟨rfl, hb⟩)
                  rw [HH7.out]
                  have HB7 := Lib.hid (HB6.out.trans (hb.mono HB6.out.size))
                  have HC7 := Lib.hid (HC6.out.below hb HC6.out.lt)
                  have HD7 := Lib.hid (HD6.out.below hb HD6.out.lt)
                  have HT7 := Lib.hid (HT6.out.below hb HT6.out.lt)
                  clear hb p0 p1 p2
                  by_cases h1 : AdjC.inside (ua, un) pad = true
                  · have HH8 := Lib.hid h1
                    clear h1
                    have p0 : w7.cell? ⟨w.heap.size, 0, none⟩ = some (.int .i64 pad) := HC7.out.cell 0
                    have p1 : w7.cell? ⟨w4.heap.size, 2, none⟩ = some (.int .i64 ua) := HT7.out.cell 2
                    have p2 : w7.cell? ⟨w4.heap.size, 3, none⟩ = some (.int .i64 un) := HT7.out.cell 3
                    go_wp2_with fail
                    ((with_reducible refine (inside_any ua un pad _ HTS.out.2.1.1 HTS.out.2.1.2.1 HTS.out.2.1.2.2.1 HTS.out.2.1.2.2.2).mono ?_); rintro e w8 ⟨rfl, hb⟩)
                    rw [HH8.out]
                    have HB8 := Lib.hid (HB7.out.trans (hb.mono HB7.out.size))
                    have HC8 := Lib.hid (HC7.out.below hb HC7.out.lt)
                    have HD8 := Lib.hid (HD7.out.below hb HD7.out.lt)
                    have HT8 := Lib.hid (HT7.out.below hb HT7.out.lt)
                    clear hb p0 p1 p2
                    by_cases h2 : AdjC.inside (va, vn) pad = true
                    · have HH9 := Lib.hid h2
                      clear h2
                      have p0 : w8.cell? ⟨w.heap.size, 0, none⟩ = some (.int .i64 pad) := HC8.out.cell 0
                      have p1 : w8.cell? ⟨w4.heap.size, 4, none⟩ = some (.int .i64 va) := HT8.out.cell 4
                      have p2 : w8.cell? ⟨w4.heap.size, 5, none⟩ = some (.int .i64 vn) := HT8.out.cell 5
                      go_wp2_with fail
                      ((with_reducible refine (inside_any va vn pad _ HTS.out.2.2.1.1 HTS.out.2.2.1.2.1 HTS.out.2.2.1.2.2.1 HTS.out.2.2.1.2.2.2).mono ?_); rintro e w9 ⟨rfl, hb⟩)
                      rw [HH9.out]
                      have HB9 := Lib.hid (HB8.out.trans (hb.mono HB8.out.size))
                      have HC9 := Lib.hid (HC8.out.below hb HC8.out.lt)
                      have HD9 := Lib.hid (HD8.out.below hb HD8.out.lt)
                      have HT9 := Lib.hid (HT8.out.below hb HT8.out.lt)
                      clear hb p0 p1 p2
                      have HE3 := Lib.hid (HE2.out.trans (if_neg (by rw [HH6.out, HH7.out, HH8.out, HH9.out]; decide)))
                      have HRO := Lib.hid (fun (i : Int) => AdjC.reach_out (b := b) (c := c) (n := n) (mem := mem) (i := i))
                      have HRI := Lib.hid (AdjC.reach_in (b := b) (c := c) (n := n) (mem := mem))
                      have c1 : w9.cell? ⟨w.heap.size, 1, none⟩ = some (.int .i64 mem) := HC9.out.cell 1
                      have d2 : w9.cell? ⟨w.heap.size + 1, 2, none⟩ = some (.int .i64 b) := HD9.out.cell 2
                      have d3 : w9.cell? ⟨w.heap.size + 1, 3, none⟩ = some (.int .i64 c) := HD9.out.cell 3
                      have d4 : w9.cell? ⟨w.heap.size + 1, 4, none⟩ = some (.int .i64 n) := HD9.out.cell 4
                      clear HC5 HC6 HC7 HC8 HD5 HD6 HD7 HD8 HT5 HT6 HT7 HT8 HB5 HB6 HB7 HB8
                      go_wp2_with fail
                      go_loop [12] (fun s => ∃ i : Nat, (i : Int) ≤ n ∧ s = .int .i64 i ∧ ∀ j : Int, 0 ≤ j → j < i → 0 ≤ b + j * c ∧ b + j * c < mem) (fun s => (n - intOf s).toNat)
                      case atStart => exact ⟨0, by omega, rfl, fun j h1 h2 => by omega⟩
                      case round =>
                        obtain ⟨i, hi, rfl, hall⟩ := hrel
                        have HALL := Lib.hid hall
                        clear hall
                        by_cases hlt : (i : Int) < n
                        · have hm := Cr.mul_small' (i := (i : Int)) (c := c) (by omega) hc
                          obtain ⟨m, hmm⟩ : ∃ m, (i : Int) * c = m := ⟨_, rfl⟩
                          have HM := Lib.hid hmm
                          have hm1 : -4294967296 ≤ m := by omega
                          have hm2 : m ≤ 4294967296 := by omega
                          by_cases hlo : b + m < 0
                          · have HE4 := Lib.hid (HE3.out.trans (if_pos (by first | exact ⟨trivial, HRO.out i (by omega) hlt (.inl (by rw [HM.out]; exact hlo))⟩ | exact ⟨rfl, HRO.out i (by omega) hlt (.inl (by rw [HM.out]; exact hlo))⟩)))
                            go_wp2_with fail
                            go_ret
                            exact ⟨ret_int HE4.out.symm, HB9.out⟩
                          · by_cases hhi : mem ≤ b + m
                            · have HE4 := Lib.hid (HE3.out.trans (if_pos (by first | exact ⟨trivial, HRO.out i (by omega) hlt (.inr (by rw [HM.out]; exact hhi))⟩ | exact ⟨rfl, HRO.out i (by omega) hlt (.inr (by rw [HM.out]; exact hhi))⟩)))
                              go_wp2_with fail
                              go_ret
                              exact ⟨ret_int HE4.out.symm, HB9.out⟩
                            · go_wp2_with fail
                              go_round
                              case rel => exact ⟨i + 1, by omega, by go_num, fun j h1 h2 => by
                                by_cases e : j = (i : Int)
                                · subst e; rw [HM.out]; omega
                                · exact HALL.out j h1 (by omega)⟩
                              case measure => simp [intOf]; omega
                        · have HE4 := Lib.hid (HE3.out.trans (if_neg (fun h => HRI.out (fun j h1 h2 => HALL.out j h1 (by omega)) h.2)))
                          go_wp2_with fail
                          go_ret
                          exact ⟨ret_int HE4.out.symm, HB9.out⟩
                    · have HE3 := Lib.hid (HE2.out.trans (if_pos (Bool.eq_false_iff.2 (by intro hh; simp only [Bool.and_eq_true] at hh; exact h2 (by first | exact hh.1.1.1 | exact hh.1.1.2 | exact hh.1.2 | exact hh.2)))))
                      have h0f := Bool.eq_false_iff.2 h2
                      have HH9 := Lib.hid h0f
                      clear h0f
                      have p0 : w8.cell? ⟨w.heap.size, 0, none⟩ = some (.int .i64 pad) := HC8.out.cell 0
                      have p1 : w8.cell? ⟨w4.heap.size, 4, none⟩ = some (.int .i64 va) := HT8.out.cell 4
                      have p2 : w8.cell? ⟨w4.heap.size, 5, none⟩ = some (.int .i64 vn) := HT8.out.cell 5
                      go_wp2_with fail
                      ((with_reducible refine (inside_any va vn pad _ HTS.out.2.2.1.1 HTS.out.2.2.1.2.1 HTS.out.2.2.1.2.2.1 HTS.out.2.2.1.2.2.2).mono ?_); rintro e w9 ⟨rfl, hb⟩)
                      rw [HH9.out]
                      have HB9 := Lib.hid (HB8.out.trans (hb.mono HB8.out.size))
                      have HC9 := Lib.hid (HC8.out.below hb HC8.out.lt)
                      have HD9 := Lib.hid (HD8.out.below hb HD8.out.lt)
                      have HT9 := Lib.hid (HT8.out.below hb HT8.out.lt)
                      clear hb p0 p1 p2
                      clear h2
                      go_wp2_with fail
                      go_ret
                      exact ⟨ret_int HE3.out.symm, HB9.out⟩
                  · have HE3 := Lib.hid (HE2.out.trans (if_pos (Bool.eq_false_iff.2 (by intro hh; simp only [Bool.and_eq_true] at hh; exact h1 (by first | exact hh.1.1.1 | exact hh.1.1.2 | exact hh.1.2 | exact hh.2)))))
                    have h0f := Bool.eq_false_iff.2 h1
                    have HH8 := Lib.hid h0f
                    clear h0f
                    have p0 : w7.cell? ⟨w.heap.size, 0, none⟩ = some (.int .i64 pad) := HC7.out.cell 0
                    have p1 : w7.cell? ⟨w4.heap.size, 2, none⟩ = some (.int .i64 ua) := HT7.out.cell 2
                    have p2 : w7.cell? ⟨w4.heap.size, 3, none⟩ = some (.int .i64 un) := HT7.out.cell 3
                    go_wp2_with fail
                    ((with_reducible refine (inside_any ua un pad _ HTS.out.2.1.1 HTS.out.2.1.2.1 HTS.out.2.1.2.2.1 HTS.out.2.1.2.2.2).mono ?_); rintro e w8 ⟨rfl, hb⟩)
                    rw [HH8.out]
                    have HB8 := Lib.hid (HB7.out.trans (hb.mono HB7.out.size))
                    have HC8 := Lib.hid (HC7.out.below hb HC7.out.lt)
                    have HD8 := Lib.hid (HD7.out.below hb HD7.out.lt)
                    have HT8 := Lib.hid (HT7.out.below hb HT7.out.lt)
                    clear hb p0 p1 p2
                    clear h1
                    go_wp2_with fail
                    go_ret
                    exact ⟨ret_int HE3.out.symm, HB8.out⟩
                · have HE3 := Lib.hid (HE2.out.trans (if_pos (Bool.eq_false_iff.2 (by intro hh; simp only [Bool.and_eq_true] at hh; exact h0 (by first | exact hh.1.1.1 | exact hh.1.1.2 | exact hh.1.2 | exact hh.2)))))
                  have h0f := Bool.eq_false_iff.2 h0
                  have HH7 := Lib.hid h0f
                  clear h0f
                  have p0 : w6.cell? ⟨w.heap.size, 0, none⟩ = some (.int .i64 pad) := HC6.out.cell 0
                  have p1 : w6.cell? ⟨w4.heap.size, 0, none⟩ = some (.int .i64 ta) := HT6.out.cell 0
                  have p2 : w6.cell? ⟨w4.heap.size, 1, none⟩ = some (.int .i64 tn) := HT6.out.cell 1
                  go_wp2_with fail
                  ((with_reducible refine (inside_any ta tn pad _ HTS.out.1.1 HTS.out.1.2.1 HTS.out.1.2.2.1 HTS.out.1.2.2.2).mono ?_); rintro e w7 ⟨rfl, hb⟩)
                  rw [HH7.out]
                  have HB7 := Lib.hid (HB6.out.trans (hb.mono HB6.out.size))
                  have HC7 := Lib.hid (HC6.out.below hb HC6.out.lt)
                  have HD7 := Lib.hid (HD6.out.below hb HD6.out.lt)
                  have HT7 := Lib.hid (HT6.out.below hb HT6.out.lt)
                  clear hb p0 p1 p2
                  clear h0
                  go_wp2_with fail
                  go_ret
                  exact ⟨ret_int HE3.out.symm, HB7.out⟩
              · have HE3 := Lib.hid (HE2.out.trans (if_pos (Bool.eq_false_iff.2 (by intro hh; simp only [Bool.and_eq_true] at hh; exact hw (by first | exact hh.1.1.1 | exact hh.1.1.2 | exact hh.1.2 | exact hh.2)))))
                have h0f := Bool.eq_false_iff.2 hw
                have HH6 := Lib.hid h0f
                clear h0f
                have p0 : W5.cell? ⟨w.heap.size, 0, none⟩ = some (.int .i64 pad) := HC5.out.cell 0
                have p1 : W5.cell? ⟨w4.heap.size, 6, none⟩ = some (.int .i64 wa) := HT5.out.cell 6
                have p2 : W5.cell? ⟨w4.heap.size, 7, none⟩ = some (.int .i64 wn) := HT5.out.cell 7
                go_wp2_with fail
                ((with_reducible refine (inside_any wa wn pad _ HTS.out.2.2.2.1 HTS.out.2.2.2.2.1 HTS.out.2.2.2.2.2.1 HTS.out.2.2.2.2.2.2).mono ?_); rintro e w6 ⟨rfl, hb⟩)
                rw [HH6.out]
                have HB6 := Lib.hid (HB5.out.trans (hb.mono HB5.out.size))
                have HC6 := Lib.hid (HC5.out.below hb HC5.out.lt)
                have HD6 := Lib.hid (HD5.out.below hb HD5.out.lt)
                have HT6 := Lib.hid (HT5.out.below hb HT5.out.lt)
                clear hb p0 p1 p2
                clear hw
                go_wp2_with fail
                go_ret
                exact ⟨ret_int HE3.out.symm, HB6.out⟩
        · have hbt : AdjC.belongs 2 true = true := by decide
          have HE := Lib.hid (show AdjC.wrongI pad mem true ⟨2, a, b, c, n, v⟩ = (if n < 0 ∨ 4096 < n ∨ AdjC.far a = true ∨ AdjC.far b = true ∨ AdjC.far c = true then 4
              else if (AdjC.reads ⟨2, a, b, c, n, v⟩ ++ [AdjC.write ⟨2, a, b, c, n, v⟩]).all (fun s => AdjC.inside s pad) = false then 4
              else if true = true ∧ 0 < n ∧ (min b (b + (n - 1) * c) < 0 ∨ mem ≤ max b (b + (n - 1) * c)) then 4 else 0) by
            unfold AdjC.wrongI; rw [if_neg (by rw [hbt]; decide), if_neg (by first | omega | decide)])
          rw [AdjC.touch_inside (by first | omega | (simp only; omega) | decide)] at HE
          clear hbt
          go_enter Try.func25, Try.ntmps25
          go_upto_region 11 with (fail)
          all_goals first | (go_ret; exact ⟨ret_int (by rw [HE.out]; exact (if_pos (by omega)).symm), HB0.out _ _⟩) | skip
          have hn : 0 ≤ n ∧ n ≤ 4096 := by omega
          go_wp2_with fail
          have HW := Lib.hid (Cr.laidI w pad mem v2 v3 ⟨2, a, b, c, n, v⟩)
          generalize ((w.alloc (.cells #[.int .i64 pad, .int .i64 mem, v2, v3] 24)).alloc (.cells #[.int .i64 2, .int .i64 a, .int .i64 b, .int .i64 c, .int .i64 n, .int .i64 v] 42)).alloc (.cells #[.int .i64 a, .int .i64 b, .int .i64 c] 3) = W3 at HW ⊢
          go_loop [72] (fun i => ∃ k : Nat, k ≤ 3 ∧ i = .int .i64 k ∧ (1 ≤ k → AdjC.far a = false) ∧ (2 ≤ k → AdjC.far b = false) ∧ (3 ≤ k → AdjC.far c = false)) (fun i => 3 - (intOf i).toNat)
          case atStart => exact ⟨0, by omega, rfl, by omega, by omega, by omega⟩
          case round =>
            obtain ⟨k, hk, rfl, f1, f2, f3⟩ := hrel
            have k4 : k = 0 ∨ k = 1 ∨ k = 2 ∨ k = 3 := by omega
            have F1 := Lib.hid f1
            have F2 := Lib.hid f2
            have F3 := Lib.hid f3
            have HB3 := HW.out.1
            clear f1 f2 f3 hk
            rcases k4 with rfl | rfl | rfl | rfl
            · rw [show (((0 : Nat) : Int)) = (0 : Int) from rfl]
              have e := HW.out.2.2.2.cell 0
              by_cases hf : AdjC.far a = true
              · have HE2 := Lib.hid (HE.out.trans (if_pos (.inr (.inr (.inl hf)))))
                have hf2 : 1048576 < a ∨ a < -1048576 := Cr.far_yes hf
                clear hf
                by_cases hf3 : 1048576 < a
                all_goals
                  go_wp2_with fail
                  go_ret
                  exact ⟨ret_int HE2.out.symm, HB3⟩
              · have HF := Lib.hid (show AdjC.far a = false by simpa using hf)
                have hf2 := Cr.far_no hf
                clear hf
                go_wp2_with fail
                go_round
                case rel => exact ⟨1, by omega, rfl, fun _ => HF.out, by omega, by omega⟩
                case measure => simp [intOf]
            · rw [show (((1 : Nat) : Int)) = (1 : Int) from rfl]
              have e := HW.out.2.2.2.cell 1
              by_cases hf : AdjC.far b = true
              · have HE2 := Lib.hid (HE.out.trans (if_pos (.inr (.inr (.inr (.inl hf))))))
                have hf2 : 1048576 < b ∨ b < -1048576 := Cr.far_yes hf
                clear hf
                by_cases hf3 : 1048576 < b
                all_goals
                  go_wp2_with fail
                  go_ret
                  exact ⟨ret_int HE2.out.symm, HB3⟩
              · have HF := Lib.hid (show AdjC.far b = false by simpa using hf)
                have hf2 := Cr.far_no hf
                clear hf
                go_wp2_with fail
                go_round
                case rel => exact ⟨2, by omega, rfl, fun _ => F1.out (by omega), fun _ => HF.out, by omega⟩
                case measure => simp [intOf]
            · rw [show (((2 : Nat) : Int)) = (2 : Int) from rfl]
              have e := HW.out.2.2.2.cell 2
              by_cases hf : AdjC.far c = true
              · have HE2 := Lib.hid (HE.out.trans (if_pos (.inr (.inr (.inr (.inr hf))))))
                have hf2 : 1048576 < c ∨ c < -1048576 := Cr.far_yes hf
                clear hf
                by_cases hf3 : 1048576 < c
                all_goals
                  go_wp2_with fail
                  go_ret
                  exact ⟨ret_int HE2.out.symm, HB3⟩
              · have HF := Lib.hid (show AdjC.far c = false by simpa using hf)
                have hf2 := Cr.far_no hf
                clear hf
                go_wp2_with fail
                go_round
                case rel => exact ⟨3, by omega, rfl, fun _ => F1.out (by omega), fun _ => F2.out (by omega), fun _ => HF.out⟩
                case measure => simp [intOf]
            · have ha := Cr.far_no (n := a) (by rw [F1.out (by omega)]; decide)
              have hb := Cr.far_no (n := b) (by rw [F2.out (by omega)]; decide)
              have hc := Cr.far_no (n := c) (by rw [F3.out (by omega)]; decide)
              have HE2 := Lib.hid (HE.out.trans (if_neg (by rw [F1.out (by omega), F2.out (by omega), F3.out (by omega)]; simp; omega)))
              rw [show (((3 : Nat) : Int)) = (3 : Int) from rfl]
              have HTC := Lib.hid (Touched_any ⟨2, a, b, c, n, v⟩)
              simp only [Cr.insV] at HTC
              have HTS := Lib.hid (AdjC.touch_small (x := ⟨2, a, b, c, n, v⟩) ha hb hc hn)
              have c0 : W3.cell? ⟨w.heap.size, 0, none⟩ = some (.int .i64 pad) := HW.out.2.1.cell 0
              have c1 : W3.cell? ⟨w.heap.size, 1, none⟩ = some (.int .i64 mem) := HW.out.2.1.cell 1
              have d0 : W3.cell? ⟨w.heap.size + 1, 0, none⟩ = some (.int .i64 2) := HW.out.2.2.1.cell 0
              have d1 : W3.cell? ⟨w.heap.size + 1, 1, none⟩ = some (.int .i64 a) := HW.out.2.2.1.cell 1
              have d2 : W3.cell? ⟨w.heap.size + 1, 2, none⟩ = some (.int .i64 b) := HW.out.2.2.1.cell 2
              have d3 : W3.cell? ⟨w.heap.size + 1, 3, none⟩ = some (.int .i64 c) := HW.out.2.2.1.cell 3
              have d4 : W3.cell? ⟨w.heap.size + 1, 4, none⟩ = some (.int .i64 n) := HW.out.2.2.1.cell 4
              have d5 : W3.cell? ⟨w.heap.size + 1, 5, none⟩ = some (.int .i64 v) := HW.out.2.2.1.cell 5
              go_wp2_with fail
              ((with_reducible refine (HTC.out _).mono ?_); rintro e w4 ⟨rfl, hb4⟩)
              obtain ⟨T, hT⟩ : ∃ T, AdjC.touch ⟨2, a, b, c, n, v⟩ = T := ⟨_, rfl⟩
              rw [hT] at HE2 HTS
              rw [hT]
              clear hT HTC d0 d1 d2 d3 d4 d5 c0 c1
              obtain ⟨⟨ta, tn⟩, ⟨ua, un⟩, ⟨va, vn⟩, ⟨wa, wn⟩⟩ := T
              unfold Cr.touchV
              simp only at HE2 HTS ⊢
              have HB4 := Lib.hid (HB3.trans (hb4.mono HB3.size))
              have HC4 := Lib.hid (HW.out.2.1.below hb4 HW.out.2.1.lt)
              have HD4 := Lib.hid (HW.out.2.2.1.below hb4 HW.out.2.2.1.lt)
              clear hb4 HB3
              have HB5 := Lib.hid (HB4.out.alloc (by have := HC4.out.lt; omega) (.cells #[.int .i64 ta, .int .i64 tn, .int .i64 ua, .int .i64 un, .int .i64 va, .int .i64 vn, .int .i64 wa, .int .i64 wn] 75))
              have HC5 := Lib.hid (HC4.out.alloc (.cells #[.int .i64 ta, .int .i64 tn, .int .i64 ua, .int .i64 un, .int .i64 va, .int .i64 vn, .int .i64 wa, .int .i64 wn] 75))
              have HD5 := Lib.hid (HD4.out.alloc (.cells #[.int .i64 ta, .int .i64 tn, .int .i64 ua, .int .i64 un, .int .i64 va, .int .i64 vn, .int .i64 wa, .int .i64 wn] 75))
              have HT5 := Lib.hid (Blk.new w4 75 #[.int .i64 ta, .int .i64 tn, .int .i64 ua, .int .i64 un, .int .i64 va, .int .i64 vn, .int .i64 wa, .int .i64 wn])
              obtain ⟨W5, hW5⟩ : ∃ W5, w4.alloc (.cells #[.int .i64 ta, .int .i64 tn, .int .i64 ua, .int .i64 un, .int .i64 va, .int .i64 vn, .int .i64 wa, .int .i64 wn] 75) = W5 := ⟨_, rfl⟩
              rw [hW5] at HB5 HC5 HD5 HT5
              clear HB4 HC4 HD4 F1 F2 F3 HE
              go_upto_region 18 with (fail)
              try rw [hW5]
              clear hW5
              by_cases hw : AdjC.inside (wa, wn) pad = true
              · have HH6 := Lib.hid hw
                clear hw
                have p0 : W5.cell? ⟨w.heap.size, 0, none⟩ = some (.int .i64 pad) := HC5.out.cell 0
                have p1 : W5.cell? ⟨w4.heap.size, 6, none⟩ = some (.int .i64 wa) := HT5.out.cell 6
                have p2 : W5.cell? ⟨w4.heap.size, 7, none⟩ = some (.int .i64 wn) := HT5.out.cell 7
                go_wp2_with fail
                ((with_reducible refine (inside_any wa wn pad _ HTS.out.2.2.2.1 HTS.out.2.2.2.2.1 HTS.out.2.2.2.2.2.1 HTS.out.2.2.2.2.2.2).mono ?_); rintro e w6 ⟨rfl, hb⟩)
                rw [HH6.out]
                have HB6 := Lib.hid (HB5.out.trans (hb.mono HB5.out.size))
                have HC6 := Lib.hid (HC5.out.below hb HC5.out.lt)
                have HD6 := Lib.hid (HD5.out.below hb HD5.out.lt)
                have HT6 := Lib.hid (HT5.out.below hb HT5.out.lt)
                clear hb p0 p1 p2
                by_cases h0 : AdjC.inside (ta, tn) pad = true
                · have HH7 := Lib.hid h0
                  clear h0
                  have p0 : w6.cell? ⟨w.heap.size, 0, none⟩ = some (.int .i64 pad) := HC6.out.cell 0
                  have p1 : w6.cell? ⟨w4.heap.size, 0, none⟩ = some (.int .i64 ta) := HT6.out.cell 0
                  have p2 : w6.cell? ⟨w4.heap.size, 1, none⟩ = some (.int .i64 tn) := HT6.out.cell 1
                  go_wp2_with fail
                  ((with_reducible refine (inside_any ta tn pad _ HTS.out.1.1 HTS.out.1.2.1 HTS.out.1.2.2.1 HTS.out.1.2.2.2).mono ?_); rintro e w7 ⟨rfl, hb⟩)
                  rw [HH7.out]
                  have HB7 := Lib.hid (HB6.out.trans (hb.mono HB6.out.size))
                  have HC7 := Lib.hid (HC6.out.below hb HC6.out.lt)
                  have HD7 := Lib.hid (HD6.out.below hb HD6.out.lt)
                  have HT7 := Lib.hid (HT6.out.below hb HT6.out.lt)
                  clear hb p0 p1 p2
                  by_cases h1 : AdjC.inside (ua, un) pad = true
                  · have HH8 := Lib.hid h1
                    clear h1
                    have p0 : w7.cell? ⟨w.heap.size, 0, none⟩ = some (.int .i64 pad) := HC7.out.cell 0
                    have p1 : w7.cell? ⟨w4.heap.size, 2, none⟩ = some (.int .i64 ua) := HT7.out.cell 2
                    have p2 : w7.cell? ⟨w4.heap.size, 3, none⟩ = some (.int .i64 un) := HT7.out.cell 3
                    go_wp2_with fail
                    ((with_reducible refine (inside_any ua un pad _ HTS.out.2.1.1 HTS.out.2.1.2.1 HTS.out.2.1.2.2.1 HTS.out.2.1.2.2.2).mono ?_); rintro e w8 ⟨rfl, hb⟩)
                    rw [HH8.out]
                    have HB8 := Lib.hid (HB7.out.trans (hb.mono HB7.out.size))
                    have HC8 := Lib.hid (HC7.out.below hb HC7.out.lt)
                    have HD8 := Lib.hid (HD7.out.below hb HD7.out.lt)
                    have HT8 := Lib.hid (HT7.out.below hb HT7.out.lt)
                    clear hb p0 p1 p2
                    by_cases h2 : AdjC.inside (va, vn) pad = true
                    · have HH9 := Lib.hid h2
                      clear h2
                      have p0 : w8.cell? ⟨w.heap.size, 0, none⟩ = some (.int .i64 pad) := HC8.out.cell 0
                      have p1 : w8.cell? ⟨w4.heap.size, 4, none⟩ = some (.int .i64 va) := HT8.out.cell 4
                      have p2 : w8.cell? ⟨w4.heap.size, 5, none⟩ = some (.int .i64 vn) := HT8.out.cell 5
                      go_wp2_with fail
                      ((with_reducible refine (inside_any va vn pad _ HTS.out.2.2.1.1 HTS.out.2.2.1.2.1 HTS.out.2.2.1.2.2.1 HTS.out.2.2.1.2.2.2).mono ?_); rintro e w9 ⟨rfl, hb⟩)
                      rw [HH9.out]
                      have HB9 := Lib.hid (HB8.out.trans (hb.mono HB8.out.size))
                      have HC9 := Lib.hid (HC8.out.below hb HC8.out.lt)
                      have HD9 := Lib.hid (HD8.out.below hb HD8.out.lt)
                      have HT9 := Lib.hid (HT8.out.below hb HT8.out.lt)
                      clear hb p0 p1 p2
                      have HE3 := Lib.hid (HE2.out.trans (if_neg (by rw [HH6.out, HH7.out, HH8.out, HH9.out]; decide)))
                      have HRO := Lib.hid (fun (i : Int) => AdjC.reach_out (b := b) (c := c) (n := n) (mem := mem) (i := i))
                      have HRI := Lib.hid (AdjC.reach_in (b := b) (c := c) (n := n) (mem := mem))
                      have c1 : w9.cell? ⟨w.heap.size, 1, none⟩ = some (.int .i64 mem) := HC9.out.cell 1
                      have d2 : w9.cell? ⟨w.heap.size + 1, 2, none⟩ = some (.int .i64 b) := HD9.out.cell 2
                      have d3 : w9.cell? ⟨w.heap.size + 1, 3, none⟩ = some (.int .i64 c) := HD9.out.cell 3
                      have d4 : w9.cell? ⟨w.heap.size + 1, 4, none⟩ = some (.int .i64 n) := HD9.out.cell 4
                      clear HC5 HC6 HC7 HC8 HD5 HD6 HD7 HD8 HT5 HT6 HT7 HT8 HB5 HB6 HB7 HB8
                      go_wp2_with fail
                      go_loop [12] (fun s => ∃ i : Nat, (i : Int) ≤ n ∧ s = .int .i64 i ∧ ∀ j : Int, 0 ≤ j → j < i → 0 ≤ b + j * c ∧ b + j * c < mem) (fun s => (n - intOf s).toNat)
                      case atStart => exact ⟨0, by omega, rfl, fun j h1 h2 => by omega⟩
                      case round =>
                        obtain ⟨i, hi, rfl, hall⟩ := hrel
                        have HALL := Lib.hid hall
                        clear hall
                        by_cases hlt : (i : Int) < n
                        · have hm := Cr.mul_small' (i := (i : Int)) (c := c) (by omega) hc
                          obtain ⟨m, hmm⟩ : ∃ m, (i : Int) * c = m := ⟨_, rfl⟩
                          have HM := Lib.hid hmm
                          have hm1 : -4294967296 ≤ m := by omega
                          have hm2 : m ≤ 4294967296 := by omega
                          by_cases hlo : b + m < 0
                          · have HE4 := Lib.hid (HE3.out.trans (if_pos (by first | exact ⟨trivial, HRO.out i (by omega) hlt (.inl (by rw [HM.out]; exact hlo))⟩ | exact ⟨rfl, HRO.out i (by omega) hlt (.inl (by rw [HM.out]; exact hlo))⟩)))
                            go_wp2_with fail
                            go_ret
                            exact ⟨ret_int HE4.out.symm, HB9.out⟩
                          · by_cases hhi : mem ≤ b + m
                            · have HE4 := Lib.hid (HE3.out.trans (if_pos (by first | exact ⟨trivial, HRO.out i (by omega) hlt (.inr (by rw [HM.out]; exact hhi))⟩ | exact ⟨rfl, HRO.out i (by omega) hlt (.inr (by rw [HM.out]; exact hhi))⟩)))
                              go_wp2_with fail
                              go_ret
                              exact ⟨ret_int HE4.out.symm, HB9.out⟩
                            · go_wp2_with fail
                              go_round
                              case rel => exact ⟨i + 1, by omega, by go_num, fun j h1 h2 => by
                                by_cases e : j = (i : Int)
                                · subst e; rw [HM.out]; omega
                                · exact HALL.out j h1 (by omega)⟩
                              case measure => simp [intOf]; omega
                        · have HE4 := Lib.hid (HE3.out.trans (if_neg (fun h => HRI.out (fun j h1 h2 => HALL.out j h1 (by omega)) h.2)))
                          go_wp2_with fail
                          go_ret
                          exact ⟨ret_int HE4.out.symm, HB9.out⟩
                    · have HE3 := Lib.hid (HE2.out.trans (if_pos (Bool.eq_false_iff.2 (by intro hh; simp only [Bool.and_eq_true] at hh; exact h2 (by first | exact hh.1.1.1 | exact hh.1.1.2 | exact hh.1.2 | exact hh.2)))))
                      have h0f := Bool.eq_false_iff.2 h2
                      have HH9 := Lib.hid h0f
                      clear h0f
                      have p0 : w8.cell? ⟨w.heap.size, 0, none⟩ = some (.int .i64 pad) := HC8.out.cell 0
                      have p1 : w8.cell? ⟨w4.heap.size, 4, none⟩ = some (.int .i64 va) := HT8.out.cell 4
                      have p2 : w8.cell? ⟨w4.heap.size, 5, none⟩ = some (.int .i64 vn) := HT8.out.cell 5
                      go_wp2_with fail
                      ((with_reducible refine (inside_any va vn pad _ HTS.out.2.2.1.1 HTS.out.2.2.1.2.1 HTS.out.2.2.1.2.2.1 HTS.out.2.2.1.2.2.2).mono ?_); rintro e w9 ⟨rfl, hb⟩)
                      rw [HH9.out]
                      have HB9 := Lib.hid (HB8.out.trans (hb.mono HB8.out.size))
                      have HC9 := Lib.hid (HC8.out.below hb HC8.out.lt)
                      have HD9 := Lib.hid (HD8.out.below hb HD8.out.lt)
                      have HT9 := Lib.hid (HT8.out.below hb HT8.out.lt)
                      clear hb p0 p1 p2
                      clear h2
                      go_wp2_with fail
                      go_ret
                      exact ⟨ret_int HE3.out.symm, HB9.out⟩
                  · have HE3 := Lib.hid (HE2.out.trans (if_pos (Bool.eq_false_iff.2 (by intro hh; simp only [Bool.and_eq_true] at hh; exact h1 (by first | exact hh.1.1.1 | exact hh.1.1.2 | exact hh.1.2 | exact hh.2)))))
                    have h0f := Bool.eq_false_iff.2 h1
                    have HH8 := Lib.hid h0f
                    clear h0f
                    have p0 : w7.cell? ⟨w.heap.size, 0, none⟩ = some (.int .i64 pad) := HC7.out.cell 0
                    have p1 : w7.cell? ⟨w4.heap.size, 2, none⟩ = some (.int .i64 ua) := HT7.out.cell 2
                    have p2 : w7.cell? ⟨w4.heap.size, 3, none⟩ = some (.int .i64 un) := HT7.out.cell 3
                    go_wp2_with fail
                    ((with_reducible refine (inside_any ua un pad _ HTS.out.2.1.1 HTS.out.2.1.2.1 HTS.out.2.1.2.2.1 HTS.out.2.1.2.2.2).mono ?_); rintro e w8 ⟨rfl, hb⟩)
                    rw [HH8.out]
                    have HB8 := Lib.hid (HB7.out.trans (hb.mono HB7.out.size))
                    have HC8 := Lib.hid (HC7.out.below hb HC7.out.lt)
                    have HD8 := Lib.hid (HD7.out.below hb HD7.out.lt)
                    have HT8 := Lib.hid (HT7.out.below hb HT7.out.lt)
                    clear hb p0 p1 p2
                    clear h1
                    go_wp2_with fail
                    go_ret
                    exact ⟨ret_int HE3.out.symm, HB8.out⟩
                · have HE3 := Lib.hid (HE2.out.trans (if_pos (Bool.eq_false_iff.2 (by intro hh; simp only [Bool.and_eq_true] at hh; exact h0 (by first | exact hh.1.1.1 | exact hh.1.1.2 | exact hh.1.2 | exact hh.2)))))
                  have h0f := Bool.eq_false_iff.2 h0
                  have HH7 := Lib.hid h0f
                  clear h0f
                  have p0 : w6.cell? ⟨w.heap.size, 0, none⟩ = some (.int .i64 pad) := HC6.out.cell 0
                  have p1 : w6.cell? ⟨w4.heap.size, 0, none⟩ = some (.int .i64 ta) := HT6.out.cell 0
                  have p2 : w6.cell? ⟨w4.heap.size, 1, none⟩ = some (.int .i64 tn) := HT6.out.cell 1
                  go_wp2_with fail
                  ((with_reducible refine (inside_any ta tn pad _ HTS.out.1.1 HTS.out.1.2.1 HTS.out.1.2.2.1 HTS.out.1.2.2.2).mono ?_); rintro e w7 ⟨rfl, hb⟩)
                  rw [HH7.out]
                  have HB7 := Lib.hid (HB6.out.trans (hb.mono HB6.out.size))
                  have HC7 := Lib.hid (HC6.out.below hb HC6.out.lt)
                  have HD7 := Lib.hid (HD6.out.below hb HD6.out.lt)
                  have HT7 := Lib.hid (HT6.out.below hb HT6.out.lt)
                  clear hb p0 p1 p2
                  clear h0
                  go_wp2_with fail
                  go_ret
                  exact ⟨ret_int HE3.out.symm, HB7.out⟩
              · have HE3 := Lib.hid (HE2.out.trans (if_pos (Bool.eq_false_iff.2 (by intro hh; simp only [Bool.and_eq_true] at hh; exact hw (by first | exact hh.1.1.1 | exact hh.1.1.2 | exact hh.1.2 | exact hh.2)))))
                have h0f := Bool.eq_false_iff.2 hw
                have HH6 := Lib.hid h0f
                clear h0f
                have p0 : W5.cell? ⟨w.heap.size, 0, none⟩ = some (.int .i64 pad) := HC5.out.cell 0
                have p1 : W5.cell? ⟨w4.heap.size, 6, none⟩ = some (.int .i64 wa) := HT5.out.cell 6
                have p2 : W5.cell? ⟨w4.heap.size, 7, none⟩ = some (.int .i64 wn) := HT5.out.cell 7
                go_wp2_with fail
                ((with_reducible refine (inside_any wa wn pad _ HTS.out.2.2.2.1 HTS.out.2.2.2.2.1 HTS.out.2.2.2.2.2.1 HTS.out.2.2.2.2.2.2).mono ?_); rintro e w6 ⟨rfl, hb⟩)
                rw [HH6.out]
                have HB6 := Lib.hid (HB5.out.trans (hb.mono HB5.out.size))
                have HC6 := Lib.hid (HC5.out.below hb HC5.out.lt)
                have HD6 := Lib.hid (HD5.out.below hb HD5.out.lt)
                have HT6 := Lib.hid (HT5.out.below hb HT5.out.lt)
                clear hb p0 p1 p2
                clear hw
                go_wp2_with fail
                go_ret
                exact ⟨ret_int HE3.out.symm, HB6.out⟩
      · have HE := Lib.hid (show AdjC.wrongI pad mem true ⟨d, a, b, c, n, v⟩ = 1 by
          unfold AdjC.wrongI; rw [if_pos (AdjC.belongs_ref.2 (.inr (.inr ⟨by omega, ⟨fun h => absurd h h12, fun h => absurd h (by decide)⟩⟩)))])
        rw [HE.out]
        have t1 : (d == 1) = false := by simp; omega
        have t2 : (d == 2) = false := by simp; omega
        have t3 : (d == 3) = false := by simp; omega
        have t4 : (d == 4) = false := by simp; omega
        have l1 : 1 ≤ d := by omega
        have l2 : d ≤ 14 := by omega
        clear h34 hlo h12
        go_enter Try.func25, Try.ntmps25
        go_wp2_with fail
        go_ret
        exact ⟨rfl, HB0.out _ _⟩

set_option maxRecDepth 100000 in
set_option maxHeartbeats 8000000 in
theorem ins_maker (pad mem : Int) (v2 v3 : Value) (x : AdjC.I) (w : World) :
    Calls Try.prog 25 #[.agg #[.int .i64 pad, .int .i64 mem, v2, v3], Cr.insV x, .bool false] w fun e w' => e = .returned (.int .i64 (AdjC.wrongI pad mem false x)) ∧ Below w.heap.size w w' := by
  have HB0 := Lib.hid (fun o o' => ((Below.refl w.heap.size w).alloc (Nat.le_refl _) o).alloc (by simp) o')
  obtain ⟨d, a, b, c, n, v⟩ := x
  rw [Cr.insV_eq]
  simp only
  by_cases h34 : d = 3 ∨ d = 4
  · have HE := Lib.hid (show AdjC.wrongI pad mem false ⟨d, a, b, c, n, v⟩ = (if a < 0 ∨ 16 ≤ a then 4 else 0) by
      unfold AdjC.wrongI; rw [if_neg (by unfold AdjC.belongs; rw [if_pos h34]; decide), if_pos h34])
    rw [HE.out]
    rcases h34 with rfl | rfl
    all_goals
      go_enter Try.func25, Try.ntmps25
      go_wp2_with fail
      all_goals
        go_ret
        exact ⟨by first | rfl | exact ret_int (if_pos (by omega)).symm | exact ret_int (if_neg (by omega)).symm, HB0.out _ _⟩
  · by_cases hlo : d < 1 ∨ 14 < d
    · have HE := Lib.hid (show AdjC.wrongI pad mem false ⟨d, a, b, c, n, v⟩ = 1 by
        unfold AdjC.wrongI; rw [if_pos (AdjC.belongs_ref.2 (hlo.elim .inl (fun h => .inr (.inl h))))])
      rw [HE.out]
      have t1 : (d == 1) = false := by simp; omega
      have t2 : (d == 2) = false := by simp; omega
      have t3 : (d == 3) = false := by simp; omega
      have t4 : (d == 4) = false := by simp; omega
      clear h34
      by_cases h : d < 1
      all_goals
        go_enter Try.func25, Try.ntmps25
        go_wp2_with fail
        go_ret
        exact ⟨rfl, HB0.out _ _⟩
    · by_cases h12 : d = 1 ∨ d = 2
      · have HE := Lib.hid (show AdjC.wrongI pad mem false ⟨d, a, b, c, n, v⟩ = 1 by
          unfold AdjC.wrongI; rw [if_pos (AdjC.belongs_ref.2 (.inr (.inr ⟨by omega, ⟨fun _ => rfl, fun _ => h12⟩⟩)))])
        rw [HE.out]
        rcases h12 with rfl | rfl
        all_goals
          go_enter Try.func25, Try.ntmps25
          go_wp2_with fail
          go_ret
          exact ⟨rfl, HB0.out _ _⟩
      · have t1 : (d == 1) = false := by simp; omega
        have t2 : (d == 2) = false := by simp; omega
        have t3 : (d == 3) = false := by simp; omega
        have t4 : (d == 4) = false := by simp; omega
        have l1 : 1 ≤ d := by omega
        have l2 : d ≤ 14 := by omega
        have l5 : 5 ≤ d := by omega
        have hbt : AdjC.belongs d false = true := by (unfold AdjC.belongs; rw [if_neg h34, if_neg h12]; simp; omega)
        have HE := Lib.hid (show AdjC.wrongI pad mem false ⟨d, a, b, c, n, v⟩ = (if n < 0 ∨ 4096 < n ∨ AdjC.far a = true ∨ AdjC.far b = true ∨ AdjC.far c = true then 4
            else if (AdjC.reads ⟨d, a, b, c, n, v⟩ ++ [AdjC.write ⟨d, a, b, c, n, v⟩]).all (fun s => AdjC.inside s pad) = false then 4
            else if false = true ∧ 0 < n ∧ (min b (b + (n - 1) * c) < 0 ∨ mem ≤ max b (b + (n - 1) * c)) then 4 else 0) by
          unfold AdjC.wrongI; rw [if_neg (by rw [hbt]; decide), if_neg (by first | omega | decide)])
        rw [AdjC.touch_inside (by first | omega | (simp only; omega) | decide)] at HE
        clear hbt
        go_enter Try.func25, Try.ntmps25
        go_upto_region 11 with (fail)
        all_goals first | (go_ret; exact ⟨ret_int (by rw [HE.out]; exact (if_pos (by omega)).symm), HB0.out _ _⟩) | skip
        have hn : 0 ≤ n ∧ n ≤ 4096 := by omega
        go_wp2_with fail
        have HW := Lib.hid (Cr.laidI w pad mem v2 v3 ⟨d, a, b, c, n, v⟩)
        generalize ((w.alloc (.cells #[.int .i64 pad, .int .i64 mem, v2, v3] 24)).alloc (.cells #[.int .i64 d, .int .i64 a, .int .i64 b, .int .i64 c, .int .i64 n, .int .i64 v] 42)).alloc (.cells #[.int .i64 a, .int .i64 b, .int .i64 c] 3) = W3 at HW ⊢
        go_loop [72] (fun i => ∃ k : Nat, k ≤ 3 ∧ i = .int .i64 k ∧ (1 ≤ k → AdjC.far a = false) ∧ (2 ≤ k → AdjC.far b = false) ∧ (3 ≤ k → AdjC.far c = false)) (fun i => 3 - (intOf i).toNat)
        case atStart => exact ⟨0, by omega, rfl, by omega, by omega, by omega⟩
        case round =>
          obtain ⟨k, hk, rfl, f1, f2, f3⟩ := hrel
          have k4 : k = 0 ∨ k = 1 ∨ k = 2 ∨ k = 3 := by omega
          have F1 := Lib.hid f1
          have F2 := Lib.hid f2
          have F3 := Lib.hid f3
          have HB3 := HW.out.1
          clear f1 f2 f3 hk
          rcases k4 with rfl | rfl | rfl | rfl
          · rw [show (((0 : Nat) : Int)) = (0 : Int) from rfl]
            have e := HW.out.2.2.2.cell 0
            by_cases hf : AdjC.far a = true
            · have HE2 := Lib.hid (HE.out.trans (if_pos (.inr (.inr (.inl hf)))))
              have hf2 : 1048576 < a ∨ a < -1048576 := Cr.far_yes hf
              clear hf
              by_cases hf3 : 1048576 < a
              all_goals
                go_wp2_with fail
                go_ret
                exact ⟨ret_int HE2.out.symm, HB3⟩
            · have HF := Lib.hid (show AdjC.far a = false by simpa using hf)
              have hf2 := Cr.far_no hf
              clear hf
              go_wp2_with fail
              go_round
              case rel => exact ⟨1, by omega, rfl, fun _ => HF.out, by omega, by omega⟩
              case measure => simp [intOf]
          · rw [show (((1 : Nat) : Int)) = (1 : Int) from rfl]
            have e := HW.out.2.2.2.cell 1
            by_cases hf : AdjC.far b = true
            · have HE2 := Lib.hid (HE.out.trans (if_pos (.inr (.inr (.inr (.inl hf))))))
              have hf2 : 1048576 < b ∨ b < -1048576 := Cr.far_yes hf
              clear hf
              by_cases hf3 : 1048576 < b
              all_goals
                go_wp2_with fail
                go_ret
                exact ⟨ret_int HE2.out.symm, HB3⟩
            · have HF := Lib.hid (show AdjC.far b = false by simpa using hf)
              have hf2 := Cr.far_no hf
              clear hf
              go_wp2_with fail
              go_round
              case rel => exact ⟨2, by omega, rfl, fun _ => F1.out (by omega), fun _ => HF.out, by omega⟩
              case measure => simp [intOf]
          · rw [show (((2 : Nat) : Int)) = (2 : Int) from rfl]
            have e := HW.out.2.2.2.cell 2
            by_cases hf : AdjC.far c = true
            · have HE2 := Lib.hid (HE.out.trans (if_pos (.inr (.inr (.inr (.inr hf))))))
              have hf2 : 1048576 < c ∨ c < -1048576 := Cr.far_yes hf
              clear hf
              by_cases hf3 : 1048576 < c
              all_goals
                go_wp2_with fail
                go_ret
                exact ⟨ret_int HE2.out.symm, HB3⟩
            · have HF := Lib.hid (show AdjC.far c = false by simpa using hf)
              have hf2 := Cr.far_no hf
              clear hf
              go_wp2_with fail
              go_round
              case rel => exact ⟨3, by omega, rfl, fun _ => F1.out (by omega), fun _ => F2.out (by omega), fun _ => HF.out⟩
              case measure => simp [intOf]
          · have ha := Cr.far_no (n := a) (by rw [F1.out (by omega)]; decide)
            have hb := Cr.far_no (n := b) (by rw [F2.out (by omega)]; decide)
            have hc := Cr.far_no (n := c) (by rw [F3.out (by omega)]; decide)
            have HE2 := Lib.hid (HE.out.trans (if_neg (by rw [F1.out (by omega), F2.out (by omega), F3.out (by omega)]; simp; omega)))
            rw [show (((3 : Nat) : Int)) = (3 : Int) from rfl]
            have HTC := Lib.hid (Touched_any ⟨d, a, b, c, n, v⟩)
            simp only [Cr.insV] at HTC
            have HTS := Lib.hid (AdjC.touch_small (x := ⟨d, a, b, c, n, v⟩) ha hb hc hn)
            have c0 : W3.cell? ⟨w.heap.size, 0, none⟩ = some (.int .i64 pad) := HW.out.2.1.cell 0
            have c1 : W3.cell? ⟨w.heap.size, 1, none⟩ = some (.int .i64 mem) := HW.out.2.1.cell 1
            have d0 : W3.cell? ⟨w.heap.size + 1, 0, none⟩ = some (.int .i64 d) := HW.out.2.2.1.cell 0
            have d1 : W3.cell? ⟨w.heap.size + 1, 1, none⟩ = some (.int .i64 a) := HW.out.2.2.1.cell 1
            have d2 : W3.cell? ⟨w.heap.size + 1, 2, none⟩ = some (.int .i64 b) := HW.out.2.2.1.cell 2
            have d3 : W3.cell? ⟨w.heap.size + 1, 3, none⟩ = some (.int .i64 c) := HW.out.2.2.1.cell 3
            have d4 : W3.cell? ⟨w.heap.size + 1, 4, none⟩ = some (.int .i64 n) := HW.out.2.2.1.cell 4
            have d5 : W3.cell? ⟨w.heap.size + 1, 5, none⟩ = some (.int .i64 v) := HW.out.2.2.1.cell 5
            go_wp2_with fail
            ((with_reducible refine (HTC.out _).mono ?_); rintro e w4 ⟨rfl, hb4⟩)
            obtain ⟨T, hT⟩ : ∃ T, AdjC.touch ⟨d, a, b, c, n, v⟩ = T := ⟨_, rfl⟩
            rw [hT] at HE2 HTS
            rw [hT]
            clear hT HTC d0 d1 d2 d3 d4 d5 c0 c1
            obtain ⟨⟨ta, tn⟩, ⟨ua, un⟩, ⟨va, vn⟩, ⟨wa, wn⟩⟩ := T
            unfold Cr.touchV
            simp only at HE2 HTS ⊢
            have HB4 := Lib.hid (HB3.trans (hb4.mono HB3.size))
            have HC4 := Lib.hid (HW.out.2.1.below hb4 HW.out.2.1.lt)
            have HD4 := Lib.hid (HW.out.2.2.1.below hb4 HW.out.2.2.1.lt)
            clear hb4 HB3
            have HB5 := Lib.hid (HB4.out.alloc (by have := HC4.out.lt; omega) (.cells #[.int .i64 ta, .int .i64 tn, .int .i64 ua, .int .i64 un, .int .i64 va, .int .i64 vn, .int .i64 wa, .int .i64 wn] 75))
            have HC5 := Lib.hid (HC4.out.alloc (.cells #[.int .i64 ta, .int .i64 tn, .int .i64 ua, .int .i64 un, .int .i64 va, .int .i64 vn, .int .i64 wa, .int .i64 wn] 75))
            have HD5 := Lib.hid (HD4.out.alloc (.cells #[.int .i64 ta, .int .i64 tn, .int .i64 ua, .int .i64 un, .int .i64 va, .int .i64 vn, .int .i64 wa, .int .i64 wn] 75))
            have HT5 := Lib.hid (Blk.new w4 75 #[.int .i64 ta, .int .i64 tn, .int .i64 ua, .int .i64 un, .int .i64 va, .int .i64 vn, .int .i64 wa, .int .i64 wn])
            obtain ⟨W5, hW5⟩ : ∃ W5, w4.alloc (.cells #[.int .i64 ta, .int .i64 tn, .int .i64 ua, .int .i64 un, .int .i64 va, .int .i64 vn, .int .i64 wa, .int .i64 wn] 75) = W5 := ⟨_, rfl⟩
            rw [hW5] at HB5 HC5 HD5 HT5
            clear HB4 HC4 HD4 F1 F2 F3 HE
            go_upto_region 18 with (fail)
            try rw [hW5]
            clear hW5
            by_cases hw : AdjC.inside (wa, wn) pad = true
            · have HH6 := Lib.hid hw
              clear hw
              have p0 : W5.cell? ⟨w.heap.size, 0, none⟩ = some (.int .i64 pad) := HC5.out.cell 0
              have p1 : W5.cell? ⟨w4.heap.size, 6, none⟩ = some (.int .i64 wa) := HT5.out.cell 6
              have p2 : W5.cell? ⟨w4.heap.size, 7, none⟩ = some (.int .i64 wn) := HT5.out.cell 7
              go_wp2_with fail
              ((with_reducible refine (inside_any wa wn pad _ HTS.out.2.2.2.1 HTS.out.2.2.2.2.1 HTS.out.2.2.2.2.2.1 HTS.out.2.2.2.2.2.2).mono ?_); rintro e w6 ⟨rfl, hb⟩)
              rw [HH6.out]
              have HB6 := Lib.hid (HB5.out.trans (hb.mono HB5.out.size))
              have HC6 := Lib.hid (HC5.out.below hb HC5.out.lt)
              have HD6 := Lib.hid (HD5.out.below hb HD5.out.lt)
              have HT6 := Lib.hid (HT5.out.below hb HT5.out.lt)
              clear hb p0 p1 p2
              by_cases h0 : AdjC.inside (ta, tn) pad = true
              · have HH7 := Lib.hid h0
                clear h0
                have p0 : w6.cell? ⟨w.heap.size, 0, none⟩ = some (.int .i64 pad) := HC6.out.cell 0
                have p1 : w6.cell? ⟨w4.heap.size, 0, none⟩ = some (.int .i64 ta) := HT6.out.cell 0
                have p2 : w6.cell? ⟨w4.heap.size, 1, none⟩ = some (.int .i64 tn) := HT6.out.cell 1
                go_wp2_with fail
                ((with_reducible refine (inside_any ta tn pad _ HTS.out.1.1 HTS.out.1.2.1 HTS.out.1.2.2.1 HTS.out.1.2.2.2).mono ?_); rintro e w7 ⟨rfl, hb⟩)
                rw [HH7.out]
                have HB7 := Lib.hid (HB6.out.trans (hb.mono HB6.out.size))
                have HC7 := Lib.hid (HC6.out.below hb HC6.out.lt)
                have HD7 := Lib.hid (HD6.out.below hb HD6.out.lt)
                have HT7 := Lib.hid (HT6.out.below hb HT6.out.lt)
                clear hb p0 p1 p2
                by_cases h1 : AdjC.inside (ua, un) pad = true
                · have HH8 := Lib.hid h1
                  clear h1
                  have p0 : w7.cell? ⟨w.heap.size, 0, none⟩ = some (.int .i64 pad) := HC7.out.cell 0
                  have p1 : w7.cell? ⟨w4.heap.size, 2, none⟩ = some (.int .i64 ua) := HT7.out.cell 2
                  have p2 : w7.cell? ⟨w4.heap.size, 3, none⟩ = some (.int .i64 un) := HT7.out.cell 3
                  go_wp2_with fail
                  ((with_reducible refine (inside_any ua un pad _ HTS.out.2.1.1 HTS.out.2.1.2.1 HTS.out.2.1.2.2.1 HTS.out.2.1.2.2.2).mono ?_); rintro e w8 ⟨rfl, hb⟩)
                  rw [HH8.out]
                  have HB8 := Lib.hid (HB7.out.trans (hb.mono HB7.out.size))
                  have HC8 := Lib.hid (HC7.out.below hb HC7.out.lt)
                  have HD8 := Lib.hid (HD7.out.below hb HD7.out.lt)
                  have HT8 := Lib.hid (HT7.out.below hb HT7.out.lt)
                  clear hb p0 p1 p2
                  by_cases h2 : AdjC.inside (va, vn) pad = true
                  · have HH9 := Lib.hid h2
                    clear h2
                    have p0 : w8.cell? ⟨w.heap.size, 0, none⟩ = some (.int .i64 pad) := HC8.out.cell 0
                    have p1 : w8.cell? ⟨w4.heap.size, 4, none⟩ = some (.int .i64 va) := HT8.out.cell 4
                    have p2 : w8.cell? ⟨w4.heap.size, 5, none⟩ = some (.int .i64 vn) := HT8.out.cell 5
                    go_wp2_with fail
                    ((with_reducible refine (inside_any va vn pad _ HTS.out.2.2.1.1 HTS.out.2.2.1.2.1 HTS.out.2.2.1.2.2.1 HTS.out.2.2.1.2.2.2).mono ?_); rintro e w9 ⟨rfl, hb⟩)
                    rw [HH9.out]
                    have HB9 := Lib.hid (HB8.out.trans (hb.mono HB8.out.size))
                    have HC9 := Lib.hid (HC8.out.below hb HC8.out.lt)
                    have HD9 := Lib.hid (HD8.out.below hb HD8.out.lt)
                    have HT9 := Lib.hid (HT8.out.below hb HT8.out.lt)
                    clear hb p0 p1 p2
                    have HE3 := Lib.hid (HE2.out.trans (if_neg (by rw [HH6.out, HH7.out, HH8.out, HH9.out]; decide)))
                    go_wp2_with fail
                    go_loop [12] (fun s => s = .int .i64 0) (fun s => 0)
                    case atStart => rfl
                    case round =>
                      subst hrel
                      go_wp2_with fail
                      go_ret
                      exact ⟨ret_int (HE3.out.trans (if_neg (fun h => absurd h.1 (by decide)))).symm, HB9.out⟩
                  · have HE3 := Lib.hid (HE2.out.trans (if_pos (Bool.eq_false_iff.2 (by intro hh; simp only [Bool.and_eq_true] at hh; exact h2 (by first | exact hh.1.1.1 | exact hh.1.1.2 | exact hh.1.2 | exact hh.2)))))
                    have h0f := Bool.eq_false_iff.2 h2
                    have HH9 := Lib.hid h0f
                    clear h0f
                    have p0 : w8.cell? ⟨w.heap.size, 0, none⟩ = some (.int .i64 pad) := HC8.out.cell 0
                    have p1 : w8.cell? ⟨w4.heap.size, 4, none⟩ = some (.int .i64 va) := HT8.out.cell 4
                    have p2 : w8.cell? ⟨w4.heap.size, 5, none⟩ = some (.int .i64 vn) := HT8.out.cell 5
                    go_wp2_with fail
                    ((with_reducible refine (inside_any va vn pad _ HTS.out.2.2.1.1 HTS.out.2.2.1.2.1 HTS.out.2.2.1.2.2.1 HTS.out.2.2.1.2.2.2).mono ?_); rintro e w9 ⟨rfl, hb⟩)
                    rw [HH9.out]
                    have HB9 := Lib.hid (HB8.out.trans (hb.mono HB8.out.size))
                    have HC9 := Lib.hid (HC8.out.below hb HC8.out.lt)
                    have HD9 := Lib.hid (HD8.out.below hb HD8.out.lt)
                    have HT9 := Lib.hid (HT8.out.below hb HT8.out.lt)
                    clear hb p0 p1 p2
                    clear h2
                    go_wp2_with fail
                    go_ret
                    exact ⟨ret_int HE3.out.symm, HB9.out⟩
                · have HE3 := Lib.hid (HE2.out.trans (if_pos (Bool.eq_false_iff.2 (by intro hh; simp only [Bool.and_eq_true] at hh; exact h1 (by first | exact hh.1.1.1 | exact hh.1.1.2 | exact hh.1.2 | exact hh.2)))))
                  have h0f := Bool.eq_false_iff.2 h1
                  have HH8 := Lib.hid h0f
                  clear h0f
                  have p0 : w7.cell? ⟨w.heap.size, 0, none⟩ = some (.int .i64 pad) := HC7.out.cell 0
                  have p1 : w7.cell? ⟨w4.heap.size, 2, none⟩ = some (.int .i64 ua) := HT7.out.cell 2
                  have p2 : w7.cell? ⟨w4.heap.size, 3, none⟩ = some (.int .i64 un) := HT7.out.cell 3
                  go_wp2_with fail
                  ((with_reducible refine (inside_any ua un pad _ HTS.out.2.1.1 HTS.out.2.1.2.1 HTS.out.2.1.2.2.1 HTS.out.2.1.2.2.2).mono ?_); rintro e w8 ⟨rfl, hb⟩)
                  rw [HH8.out]
                  have HB8 := Lib.hid (HB7.out.trans (hb.mono HB7.out.size))
                  have HC8 := Lib.hid (HC7.out.below hb HC7.out.lt)
                  have HD8 := Lib.hid (HD7.out.below hb HD7.out.lt)
                  have HT8 := Lib.hid (HT7.out.below hb HT7.out.lt)
                  clear hb p0 p1 p2
                  clear h1
                  go_wp2_with fail
                  go_ret
                  exact ⟨ret_int HE3.out.symm, HB8.out⟩
              · have HE3 := Lib.hid (HE2.out.trans (if_pos (Bool.eq_false_iff.2 (by intro hh; simp only [Bool.and_eq_true] at hh; exact h0 (by first | exact hh.1.1.1 | exact hh.1.1.2 | exact hh.1.2 | exact hh.2)))))
                have h0f := Bool.eq_false_iff.2 h0
                have HH7 := Lib.hid h0f
                clear h0f
                have p0 : w6.cell? ⟨w.heap.size, 0, none⟩ = some (.int .i64 pad) := HC6.out.cell 0
                have p1 : w6.cell? ⟨w4.heap.size, 0, none⟩ = some (.int .i64 ta) := HT6.out.cell 0
                have p2 : w6.cell? ⟨w4.heap.size, 1, none⟩ = some (.int .i64 tn) := HT6.out.cell 1
                go_wp2_with fail
                ((with_reducible refine (inside_any ta tn pad _ HTS.out.1.1 HTS.out.1.2.1 HTS.out.1.2.2.1 HTS.out.1.2.2.2).mono ?_); rintro e w7 ⟨rfl, hb⟩)
                rw [HH7.out]
                have HB7 := Lib.hid (HB6.out.trans (hb.mono HB6.out.size))
                have HC7 := Lib.hid (HC6.out.below hb HC6.out.lt)
                have HD7 := Lib.hid (HD6.out.below hb HD6.out.lt)
                have HT7 := Lib.hid (HT6.out.below hb HT6.out.lt)
                clear hb p0 p1 p2
                clear h0
                go_wp2_with fail
                go_ret
                exact ⟨ret_int HE3.out.symm, HB7.out⟩
            · have HE3 := Lib.hid (HE2.out.trans (if_pos (Bool.eq_false_iff.2 (by intro hh; simp only [Bool.and_eq_true] at hh; exact hw (by first | exact hh.1.1.1 | exact hh.1.1.2 | exact hh.1.2 | exact hh.2)))))
              have h0f := Bool.eq_false_iff.2 hw
              have HH6 := Lib.hid h0f
              clear h0f
              have p0 : W5.cell? ⟨w.heap.size, 0, none⟩ = some (.int .i64 pad) := HC5.out.cell 0
              have p1 : W5.cell? ⟨w4.heap.size, 6, none⟩ = some (.int .i64 wa) := HT5.out.cell 6
              have p2 : W5.cell? ⟨w4.heap.size, 7, none⟩ = some (.int .i64 wn) := HT5.out.cell 7
              go_wp2_with fail
              ((with_reducible refine (inside_any wa wn pad _ HTS.out.2.2.2.1 HTS.out.2.2.2.2.1 HTS.out.2.2.2.2.2.1 HTS.out.2.2.2.2.2.2).mono ?_); rintro e w6 ⟨rfl, hb⟩)
              rw [HH6.out]
              have HB6 := Lib.hid (HB5.out.trans (hb.mono HB5.out.size))
              have HC6 := Lib.hid (HC5.out.below hb HC5.out.lt)
              have HD6 := Lib.hid (HD5.out.below hb HD5.out.lt)
              have HT6 := Lib.hid (HT5.out.below hb HT5.out.lt)
              clear hb p0 p1 p2
              clear hw
              go_wp2_with fail
              go_ret
              exact ⟨ret_int HE3.out.symm, HB6.out⟩
end Go.Proofs.Ytlnfmipcbhhkhaa
