/-
  The walk of wrongIns: what is wrong with an instruction. Conditions: the code's pad and memory are any numbers.
-/
import Derived.Test.YtlnfmipcbhhkhaaCoreB
import Derived.Deep.DeepCutAuto
import Derived.Deep.DeepFit
namespace Go.Proofs.Ytlnfmipcbhhkhaa
set_option linter.unusedVariables false
open Go.RowKit Adj

namespace Cr
theorem insV_eq (x : AdjC.I) : insV x = .agg #[.int .i64 x.d, .int .i64 x.a, .int .i64 x.b, .int .i64 x.c, .int .i64 x.n, .int .i64 x.v] := rfl
theorem far_no {n : Int} (h : ¬ AdjC.far n = true) : -1048576 ≤ n ∧ n ≤ 1048576 := by
  simp [AdjC.far] at h
  omega
theorem mul_small {n c : Int} (hn : 0 ≤ n ∧ n ≤ 4096) (hc : -1048576 ≤ c ∧ c ≤ 1048576) : -4294967296 ≤ (n - 1) * c ∧ (n - 1) * c ≤ 4294967296 := by
  by_cases h0 : n = 0
  · subst h0; omega
  · have h1 : (n - 1) * c ≤ (n - 1) * 1048576 := Int.mul_le_mul_of_nonneg_left hc.2 (by omega)
    have h2 : (n - 1) * -1048576 ≤ (n - 1) * c := Int.mul_le_mul_of_nonneg_left hc.1 (by omega)
    omega
theorem one_two (a b : Int) : ∀ u ∈ [Value.int .i64 a, Value.int .i64 b], u.oneCell' = true := by
  intro u hu
  simp only [List.mem_cons, List.not_mem_nil, or_false] at hu
  rcases hu with rfl | rfl <;> rfl
/-- Spans of what lies within the bounds are small. -/
theorem span_small {x : AdjC.I} (ha : -1048576 ≤ x.a ∧ x.a ≤ 1048576) (hb : -1048576 ≤ x.b ∧ x.b ≤ 1048576) (hc : -1048576 ≤ x.c ∧ x.c ≤ 1048576) (hn : 0 ≤ x.n ∧ x.n ≤ 4096) :
    ∀ s ∈ AdjC.reads x ++ [AdjC.write x], -1048576 ≤ s.1 ∧ s.1 ≤ 1048576 ∧ 0 ≤ s.2 ∧ s.2 ≤ 4096 := by
  intro s hs
  unfold AdjC.reads AdjC.write at hs
  repeat' split at hs
  all_goals
    simp only [List.nil_append, List.cons_append, List.mem_cons, List.not_mem_nil, or_false] at hs
    rcases hs with rfl | hs
    all_goals first | (simp only; omega) | (rcases hs with rfl | rfl | rfl <;> (simp only; omega)) | (rcases hs with rfl | rfl <;> (simp only; omega)) | (subst hs; simp only; omega)
theorem reads_three (x : AdjC.I) : (AdjC.reads x).length ≤ 3 := by
  unfold AdjC.reads
  repeat' split
  all_goals simp
end Cr
theorem Try.infoSpan : (Try.prog.info? 66).map (fun i => (i.zero, i.size, i.bytes)) = some (some (.agg #[.int .i64 0, .int .i64 0]), 2, 16) := by kernel_rfl

set_option maxRecDepth 100000 in
set_option maxHeartbeats 4000000 in
theorem wrongIns_mover (pad mem : Int) (v2 v3 : Value) (x : AdjC.I) (w : World) :
    Calls Try.prog 24 #[.agg #[.int .i64 pad, .int .i64 mem, v2, v3], Cr.insV x, .int .i64 0] w fun e w' => e = .returned (.int .i64 (AdjC.wrongI pad mem true x)) ∧ Below w.heap.size w w' := by
  have HBE := Lib.hid (fun W => belongs_any x.d true W)
  simp only [if_true] at HBE
  have HSP := Lib.hid (fun W => spans_any x W)
  have HB0 := Lib.hid (fun o o' => ((Below.refl w.heap.size w).alloc (Nat.le_refl _) o).alloc (by simp) o')
  obtain ⟨d, a, b, c, n, v⟩ := x
  rw [Cr.insV_eq]
  simp only at *
  by_cases hbe : AdjC.belongs d true = true
  · by_cases h34 : d = 3 ∨ d = 4
    · have HE := Lib.hid (show AdjC.wrongI pad mem true ⟨d, a, b, c, n, v⟩ = (if a < 0 ∨ 16 ≤ a then 4 else 0) by unfold AdjC.wrongI; rw [if_neg (by simp [hbe]), if_pos h34])
      rw [HE.out]
      have H := Lib.hid hbe
      clear hbe
      rcases h34 with rfl | rfl
      all_goals
        go_enter Try.func24, Try.ntmps24
        go_wp2_with fail
        ((with_reducible refine (HBE.out _).mono ?_); rintro e w' ⟨rfl, rfl⟩)
        rw [H.out]
        go_wp2_with fail
        all_goals
          go_ret
          exact ⟨rfl, HB0.out _ _⟩
    · have t1 : (d == 3) = false := by simp; omega
      have t2 : (d == 4) = false := by simp; omega
      have HE := Lib.hid (show AdjC.wrongI pad mem true ⟨d, a, b, c, n, v⟩ = _ by unfold AdjC.wrongI; rw [if_neg (by simp [hbe]), if_neg h34])
      clear h34
      have H := Lib.hid hbe
      clear hbe
      go_enter Try.func24, Try.ntmps24
      go_wp2_with fail
      ((with_reducible refine (HBE.out _).mono ?_); rintro e w' ⟨rfl, rfl⟩)
      rw [H.out]
      go_upto_region 10 with ((go_at_call 37; refine (farC_any _ _).mono ?_; rintro e w' ⟨rfl, rfl⟩))
      all_goals first | (go_ret; exact ⟨ret_int (by rw [HE.out]; exact (if_pos (Decidable.byContradiction fun hn => by simp only [not_or] at hn; obtain ⟨p1, p2, p3, p4, p5⟩ := hn; first | omega | exact p3 ‹_› | exact p4 ‹_› | (rcases ‹(n < 0 ∨ 4096 < n) ∨ AdjC.far c = true› with h | h; omega; exact p5 h))).symm), HB0.out _ _⟩) | skip
      have hn : 0 ≤ n ∧ n ≤ 4096 := by omega
      have ha := Cr.far_no ‹¬ AdjC.far a = true›
      have hb := Cr.far_no ‹¬ AdjC.far b = true›
      have hcc : ¬ AdjC.far c = true := by rw [(‹(0 ≤ n ∧ n ≤ 4096) ∧ AdjC.far c = false›).2]; decide
      have hc := Cr.far_no hcc
      have HE2 := Lib.hid (show AdjC.wrongI pad mem true ⟨d, a, b, c, n, v⟩ = _ by
        rw [HE.out, if_neg (by simp only [not_or]; exact ⟨by omega, by omega, ‹_›, ‹_›, hcc⟩)])
      have HSM := Lib.hid (Cr.span_small (x := ⟨d, a, b, c, n, v⟩) ha hb hc hn)
      go_wp2_with fail
      refine (HSP.out _).mono ?_
      rintro e w2 ⟨A, rfl, hown, hb2⟩
      have hl3 := Cr.reads_three ⟨d, a, b, c, n, v⟩
      have HB2 := Lib.hid ((HB0.out _ _).trans (hb2.mono (HB0.out _ _).size))
      have HX2 := Lib.hid (((Blk.new w 24 #[.int .i64 pad, .int .i64 mem, v2, v3]).alloc (.cells #[.int .i64 d, .int .i64 a, .int .i64 b, .int .i64 c, .int .i64 n, .int .i64 v] 42)).below hb2 (by simp; omega))
      have HY2 := Lib.hid (show Blk w2 (w.heap.size + 1) 42 #[.int .i64 d, .int .i64 a, .int .i64 b, .int .i64 c, .int .i64 n, .int .i64 v] by
        have := Blk.new (w.alloc (.cells #[.int .i64 pad, .int .i64 mem, v2, v3] 24)) 42 #[.int .i64 d, .int .i64 a, .int .i64 b, .int .i64 c, .int .i64 n, .int .i64 v]
        rw [World.size_alloc] at this
        exact this.below hb2 (by simp))
      have hz2 : w.heap.size + 1 + 1 ≤ w2.heap.size := by have := hb2.size; simpa using this
      obtain ⟨L, hL⟩ : ∃ L, AdjC.reads ⟨d, a, b, c, n, v⟩ = L := ⟨_, rfl⟩
      obtain ⟨p, hp⟩ : ∃ p, AdjC.write ⟨d, a, b, c, n, v⟩ = p := ⟨_, rfl⟩
      rw [hL, hp] at HSM HE2
      rw [hL] at hl3 hown
      rw [hL, hp]
      have HO := Lib.hid (own_down hown (base' := w.heap.size + 1 + 1) (by simp))
      clear hL hp hown hb2 HE HSP HBE HB0
      unfold Cr.pairV
      obtain ⟨i0, hi, hz0, hz1, hzb⟩ := info_parts Try.infoSpan
      have HNW := Lib.hid (fun o => show ((w2.alloc o).alloc (.cells #[.int .i64 p.1, .int .i64 p.2] 66)).heap[w2.heap.size + 1]? = some (.cells #[.int .i64 p.1, .int .i64 p.2] 66 (0, 0)) by
        have := heap_alloc_new (w2.alloc o) (.cells #[.int .i64 p.1, .int .i64 p.2] 66)
        rwa [World.size_alloc] at this)
      go_wp2_with (at_builtin; refine wpList_append_own _ rfl _ _ 64 rfl _ 66 i0 (.agg #[.int .i64 0, .int .i64 0]) 2 16 Try.underlying64 hi hz0 hz1 hzb rfl (by decide) _ _ _ rfl ((HO.out.alloc _).alloc _) ⟨w2.heap.size + 1, 0, none⟩ 1 1 [.int .i64 p.1, .int .i64 p.2] rfl rfl (World.news_of_block (cs := #[.int .i64 p.1, .int .i64 p.2]) (t := 66) (fr := (0, 0)) (HNW.out _)) (Cr.one_two _ _) (by unfold maxLen; omega) (by omega) (by simp; omega) ?_)
      intro v' w3 hown3 hgrow _
      obtain ⟨g3, cap3, rfl, hg3, hlt3⟩ := hown3.form (by omega)
      have hbx : some w.heap.size ≠ (Value.slice A L.length L.length).ownBlock := fun h => by have := HO.out.lt _ h.symm; omega
      have hby : some (w.heap.size + 1) ≠ (Value.slice A L.length L.length).ownBlock := fun h => by have := HO.out.lt _ h.symm; omega
      have HX3 := Lib.hid (((HX2.out.alloc _).alloc _).grown hgrow hbx)
      have HY3 := Lib.hid (((HY2.out.alloc _).alloc _).grown hgrow hby)
      have HB3 := Lib.hid (show Below w.heap.size w w3 from ((HB2.out.alloc (by omega) _).alloc (by simp; omega) _).grown hgrow (by simp; omega) (fun q hq => by have := (HO.out.lt q hq).1; omega))
      have HR3 := Lib.hid (show IntsAt w3 w3.heap.size (some ⟨g3, 0, none⟩) (AdjC.two (L ++ [p])) by
        have h := RowAt.of_own hown3
        rw [show Adj.ints (AdjC.two L) ++ [.int .i64 p.1, .int .i64 p.2] = Adj.ints (AdjC.two (L ++ [p])) by simp [AdjC.two, Adj.ints]] at h
        exact h)
      clear hbx hby hgrow hown3 HO HNW hi hz0 hz1 hzb i0
      obtain ⟨M, hM⟩ : ∃ M, L ++ [p] = M := ⟨_, rfl⟩
      have hml : M.length = L.length + 1 := by rw [← hM]; simp
      rw [hM] at HR3 HSM HE2
      obtain ⟨m, hm⟩ : ∃ m, L.length + 1 = m := ⟨_, rfl⟩
      rw [hm] at hml ⊢
      have hm4 : m ≤ 4 := by omega
      have HM := Lib.hid hml
      clear hM hm hg3 hml
      go_wp2_with fail
      go_loopw [70] (fun i wr => ∃ k : Nat, k ≤ m ∧ i = .int .i64 k ∧ Below w3.heap.size w3 wr ∧ (M.take k).all (fun s => AdjC.inside s pad) = true) (fun i _ => m - (intOf i).toNat)
      case atStart => exact ⟨0, Nat.zero_le _, rfl, Below.refl _ _, rfl⟩
      case round =>
        obtain ⟨k, hk, rfl, hbr, hall⟩ := hrel
        have HBR := Lib.hid hbr
        have HALL := Lib.hid hall
        have HXr := Lib.hid (HX3.out.below hbr HX3.out.lt)
        have HYr := Lib.hid (HY3.out.below hbr HY3.out.lt)
        have hzr := hbr.size
        clear hbr hall
        by_cases hlt : k < m
        · have hkl : k < M.length := by rw [HM.out]; exact hlt
          have hi0 := IntsAt.at_ (HR3.out.below HBR.out) ((AdjC.two_at M k 0 hkl (by omega)).trans rfl)
          have hi1 := IntsAt.at_ (HR3.out.below HBR.out) ((AdjC.two_at M k 1 hkl (by omega)).trans rfl)
          have HS := Lib.hid (HSM.out M[k] (List.getElem_mem hkl))
          have HTK := Lib.hid (show M.take (k + 1) = M.take k ++ [M[k]] from List.take_succ_eq_append_getElem hkl)
          obtain ⟨q, hq⟩ : ∃ q, M[k] = q := ⟨_, rfl⟩
          rw [hq] at hi0 hi1 HS HTK
          rw [Nat.zero_add] at hi0 hi1
          rw [Nat.add_zero] at hi0
          clear hq hkl
          have c0 : wr.cell? ⟨w.heap.size, 0, none⟩ = some (.int .i64 pad) := HXr.out.cell 0
          have hzw : w.heap.size < wr.heap.size := HXr.out.lt
          have HWI := Lib.hid (fun W => within_any q.1 q.2 pad W HS.out.1 HS.out.2.1 HS.out.2.2.1 HS.out.2.2.2)
          go_wp2_with fail
          ((with_reducible refine (HWI.out _).mono ?_); rintro e w5 ⟨rfl, hb5⟩)
          have HB5 := Lib.hid (HBR.out.trans (((Below.refl wr.heap.size wr).alloc (Nat.le_refl _) _).trans (hb5.mono (by simp)) |>.mono hzr))
          clear hb5
          by_cases hin : AdjC.inside q pad = true
          · rw [hin]
            have HALL2 := Lib.hid (show (M.take (k + 1)).all (fun s => AdjC.inside s pad) = true by rw [HTK.out, List.all_append, HALL.out]; simpa using hin)
            clear hin
            go_wp2_with fail
            go_roundw
            case rel => exact ⟨k + 1, by omega, by go_num, HB5.out, HALL2.out⟩
            case measure => simp [intOf]; omega
          · have h4 := Lib.hid (show AdjC.wrongI pad mem true ⟨d, a, b, c, n, v⟩ = 4 by
              rw [HE2.out, if_pos]
              rw [Bool.eq_false_iff]
              intro h
              rw [List.all_eq_true] at h
              have hmem : q ∈ M := List.mem_of_mem_take (i := k + 1) (by rw [HTK.out]; simp)
              exact hin (h q hmem))
            have hin0 : AdjC.inside q pad = false := by simpa using hin
            rw [hin0]
            clear hin hin0
            go_wp2_with fail
            go_ret
            exact ⟨ret_int h4.out.symm, HB3.out.trans (HB5.out.mono (by have := HB3.out.size; omega))⟩
        · have hkm : k = m := by omega
          subst hkm
          have HE3 := Lib.hid (show AdjC.wrongI pad mem true ⟨d, a, b, c, n, v⟩ = (if True ∧ 0 < n ∧ (min b (b + (n - 1) * c) < 0 ∨ mem ≤ max b (b + (n - 1) * c)) then 4 else 0) by
            have h := HALL.out
            rw [List.take_of_length_le (by rw [HM.out]; exact Nat.le_refl _)] at h
            rw [HE2.out, if_neg (by rw [h]; decide)])
          have HBw := Lib.hid (HB3.out.trans (HBR.out.mono (by have := HB3.out.size; omega)))
          have c1 : wr.cell? ⟨w.heap.size, 1, none⟩ = some (.int .i64 mem) := HXr.out.cell 1
          have d2 : wr.cell? ⟨w.heap.size + 1, 2, none⟩ = some (.int .i64 b) := HYr.out.cell 2
          have d3 : wr.cell? ⟨w.heap.size + 1, 3, none⟩ = some (.int .i64 c) := HYr.out.cell 3
          have d4 : wr.cell? ⟨w.heap.size + 1, 4, none⟩ = some (.int .i64 n) := HYr.out.cell 4
          have hmul := Cr.mul_small hn hc
          go_wp2
          all_goals
            go_ret
            exact ⟨ret_int (by rw [HE3.out]; first | exact (if_pos ⟨trivial, by omega, by omega⟩).symm | exact (if_neg (fun h => by first | (have := h.2.1; have := h.2.2; omega) | exact absurd h.1 id)).symm), HBw.out⟩
  · have HE := Lib.hid (show AdjC.wrongI pad mem true ⟨d, a, b, c, n, v⟩ = 1 by unfold AdjC.wrongI; rw [if_pos (by simpa using hbe)])
    rw [HE.out]
    have H := Lib.hid (show AdjC.belongs d true = false by simpa using hbe)
    clear hbe
    go_enter Try.func24, Try.ntmps24
    go_wp2_with fail
    ((with_reducible refine (HBE.out _).mono ?_); rintro e w' ⟨rfl, rfl⟩)
    rw [H.out]
    go_wp2_with fail
    go_ret
    exact ⟨rfl, HB0.out _ _⟩

set_option maxRecDepth 100000 in
set_option maxHeartbeats 4000000 in
theorem wrongIns_maker (pad mem : Int) (v2 v3 : Value) (x : AdjC.I) (w : World) :
    Calls Try.prog 24 #[.agg #[.int .i64 pad, .int .i64 mem, v2, v3], Cr.insV x, .int .i64 1] w fun e w' => e = .returned (.int .i64 (AdjC.wrongI pad mem false x)) ∧ Below w.heap.size w w' := by
  have HBE := Lib.hid (fun W => belongs_any x.d false W)
  simp only [Bool.false_eq_true, if_false] at HBE
  have HSP := Lib.hid (fun W => spans_any x W)
  have HB0 := Lib.hid (fun o o' => ((Below.refl w.heap.size w).alloc (Nat.le_refl _) o).alloc (by simp) o')
  obtain ⟨d, a, b, c, n, v⟩ := x
  rw [Cr.insV_eq]
  simp only at *
  by_cases hbe : AdjC.belongs d false = true
  · by_cases h34 : d = 3 ∨ d = 4
    · have HE := Lib.hid (show AdjC.wrongI pad mem false ⟨d, a, b, c, n, v⟩ = (if a < 0 ∨ 16 ≤ a then 4 else 0) by unfold AdjC.wrongI; rw [if_neg (by simp [hbe]), if_pos h34])
      rw [HE.out]
      have H := Lib.hid hbe
      clear hbe
      rcases h34 with rfl | rfl
      all_goals
        go_enter Try.func24, Try.ntmps24
        go_wp2_with fail
        ((with_reducible refine (HBE.out _).mono ?_); rintro e w' ⟨rfl, rfl⟩)
        rw [H.out]
        go_wp2_with fail
        all_goals
          go_ret
          exact ⟨rfl, HB0.out _ _⟩
    · have t1 : (d == 3) = false := by simp; omega
      have t2 : (d == 4) = false := by simp; omega
      have HE := Lib.hid (show AdjC.wrongI pad mem false ⟨d, a, b, c, n, v⟩ = _ by unfold AdjC.wrongI; rw [if_neg (by simp [hbe]), if_neg h34])
      clear h34
      have H := Lib.hid hbe
      clear hbe
      go_enter Try.func24, Try.ntmps24
      go_wp2_with fail
      ((with_reducible refine (HBE.out _).mono ?_); rintro e w' ⟨rfl, rfl⟩)
      rw [H.out]
      go_upto_region 10 with ((go_at_call 37; refine (farC_any _ _).mono ?_; rintro e w' ⟨rfl, rfl⟩))
      all_goals first | (go_ret; exact ⟨ret_int (by rw [HE.out]; exact (if_pos (Decidable.byContradiction fun hn => by simp only [not_or] at hn; obtain ⟨p1, p2, p3, p4, p5⟩ := hn; first | omega | exact p3 ‹_› | exact p4 ‹_› | (rcases ‹(n < 0 ∨ 4096 < n) ∨ AdjC.far c = true› with h | h; omega; exact p5 h))).symm), HB0.out _ _⟩) | skip
      have hn : 0 ≤ n ∧ n ≤ 4096 := by omega
      have ha := Cr.far_no ‹¬ AdjC.far a = true›
      have hb := Cr.far_no ‹¬ AdjC.far b = true›
      have hcc : ¬ AdjC.far c = true := by rw [(‹(0 ≤ n ∧ n ≤ 4096) ∧ AdjC.far c = false›).2]; decide
      have hc := Cr.far_no hcc
      have HE2 := Lib.hid (show AdjC.wrongI pad mem false ⟨d, a, b, c, n, v⟩ = _ by
        rw [HE.out, if_neg (by simp only [not_or]; exact ⟨by omega, by omega, ‹_›, ‹_›, hcc⟩)])
      have HSM := Lib.hid (Cr.span_small (x := ⟨d, a, b, c, n, v⟩) ha hb hc hn)
      go_wp2_with fail
      refine (HSP.out _).mono ?_
      rintro e w2 ⟨A, rfl, hown, hb2⟩
      have hl3 := Cr.reads_three ⟨d, a, b, c, n, v⟩
      have HB2 := Lib.hid ((HB0.out _ _).trans (hb2.mono (HB0.out _ _).size))
      have HX2 := Lib.hid (((Blk.new w 24 #[.int .i64 pad, .int .i64 mem, v2, v3]).alloc (.cells #[.int .i64 d, .int .i64 a, .int .i64 b, .int .i64 c, .int .i64 n, .int .i64 v] 42)).below hb2 (by simp; omega))
      have HY2 := Lib.hid (show Blk w2 (w.heap.size + 1) 42 #[.int .i64 d, .int .i64 a, .int .i64 b, .int .i64 c, .int .i64 n, .int .i64 v] by
        have := Blk.new (w.alloc (.cells #[.int .i64 pad, .int .i64 mem, v2, v3] 24)) 42 #[.int .i64 d, .int .i64 a, .int .i64 b, .int .i64 c, .int .i64 n, .int .i64 v]
        rw [World.size_alloc] at this
        exact this.below hb2 (by simp))
      have hz2 : w.heap.size + 1 + 1 ≤ w2.heap.size := by have := hb2.size; simpa using this
      obtain ⟨L, hL⟩ : ∃ L, AdjC.reads ⟨d, a, b, c, n, v⟩ = L := ⟨_, rfl⟩
      obtain ⟨p, hp⟩ : ∃ p, AdjC.write ⟨d, a, b, c, n, v⟩ = p := ⟨_, rfl⟩
      rw [hL, hp] at HSM HE2
      rw [hL] at hl3 hown
      rw [hL, hp]
      have HO := Lib.hid (own_down hown (base' := w.heap.size + 1 + 1) (by simp))
      clear hL hp hown hb2 HE HSP HBE HB0
      unfold Cr.pairV
      obtain ⟨i0, hi, hz0, hz1, hzb⟩ := info_parts Try.infoSpan
      have HNW := Lib.hid (fun o => show ((w2.alloc o).alloc (.cells #[.int .i64 p.1, .int .i64 p.2] 66)).heap[w2.heap.size + 1]? = some (.cells #[.int .i64 p.1, .int .i64 p.2] 66 (0, 0)) by
        have := heap_alloc_new (w2.alloc o) (.cells #[.int .i64 p.1, .int .i64 p.2] 66)
        rwa [World.size_alloc] at this)
      go_wp2_with (at_builtin; refine wpList_append_own _ rfl _ _ 64 rfl _ 66 i0 (.agg #[.int .i64 0, .int .i64 0]) 2 16 Try.underlying64 hi hz0 hz1 hzb rfl (by decide) _ _ _ rfl ((HO.out.alloc _).alloc _) ⟨w2.heap.size + 1, 0, none⟩ 1 1 [.int .i64 p.1, .int .i64 p.2] rfl rfl (World.news_of_block (cs := #[.int .i64 p.1, .int .i64 p.2]) (t := 66) (fr := (0, 0)) (HNW.out _)) (Cr.one_two _ _) (by unfold maxLen; omega) (by omega) (by simp; omega) ?_)
      intro v' w3 hown3 hgrow _
      obtain ⟨g3, cap3, rfl, hg3, hlt3⟩ := hown3.form (by omega)
      have hbx : some w.heap.size ≠ (Value.slice A L.length L.length).ownBlock := fun h => by have := HO.out.lt _ h.symm; omega
      have hby : some (w.heap.size + 1) ≠ (Value.slice A L.length L.length).ownBlock := fun h => by have := HO.out.lt _ h.symm; omega
      have HX3 := Lib.hid (((HX2.out.alloc _).alloc _).grown hgrow hbx)
      have HY3 := Lib.hid (((HY2.out.alloc _).alloc _).grown hgrow hby)
      have HB3 := Lib.hid (show Below w.heap.size w w3 from ((HB2.out.alloc (by omega) _).alloc (by simp; omega) _).grown hgrow (by simp; omega) (fun q hq => by have := (HO.out.lt q hq).1; omega))
      have HR3 := Lib.hid (show IntsAt w3 w3.heap.size (some ⟨g3, 0, none⟩) (AdjC.two (L ++ [p])) by
        have h := RowAt.of_own hown3
        rw [show Adj.ints (AdjC.two L) ++ [.int .i64 p.1, .int .i64 p.2] = Adj.ints (AdjC.two (L ++ [p])) by simp [AdjC.two, Adj.ints]] at h
        exact h)
      clear hbx hby hgrow hown3 HO HNW hi hz0 hz1 hzb i0
      obtain ⟨M, hM⟩ : ∃ M, L ++ [p] = M := ⟨_, rfl⟩
      have hml : M.length = L.length + 1 := by rw [← hM]; simp
      rw [hM] at HR3 HSM HE2
      obtain ⟨m, hm⟩ : ∃ m, L.length + 1 = m := ⟨_, rfl⟩
      rw [hm] at hml ⊢
      have hm4 : m ≤ 4 := by omega
      have HM := Lib.hid hml
      clear hM hm hg3 hml
      go_wp2_with fail
      go_loopw [70] (fun i wr => ∃ k : Nat, k ≤ m ∧ i = .int .i64 k ∧ Below w3.heap.size w3 wr ∧ (M.take k).all (fun s => AdjC.inside s pad) = true) (fun i _ => m - (intOf i).toNat)
      case atStart => exact ⟨0, Nat.zero_le _, rfl, Below.refl _ _, rfl⟩
      case round =>
        obtain ⟨k, hk, rfl, hbr, hall⟩ := hrel
        have HBR := Lib.hid hbr
        have HALL := Lib.hid hall
        have HXr := Lib.hid (HX3.out.below hbr HX3.out.lt)
        have HYr := Lib.hid (HY3.out.below hbr HY3.out.lt)
        have hzr := hbr.size
        clear hbr hall
        by_cases hlt : k < m
        · have hkl : k < M.length := by rw [HM.out]; exact hlt
          have hi0 := IntsAt.at_ (HR3.out.below HBR.out) ((AdjC.two_at M k 0 hkl (by omega)).trans rfl)
          have hi1 := IntsAt.at_ (HR3.out.below HBR.out) ((AdjC.two_at M k 1 hkl (by omega)).trans rfl)
          have HS := Lib.hid (HSM.out M[k] (List.getElem_mem hkl))
          have HTK := Lib.hid (show M.take (k + 1) = M.take k ++ [M[k]] from List.take_succ_eq_append_getElem hkl)
          obtain ⟨q, hq⟩ : ∃ q, M[k] = q := ⟨_, rfl⟩
          rw [hq] at hi0 hi1 HS HTK
          rw [Nat.zero_add] at hi0 hi1
          rw [Nat.add_zero] at hi0
          clear hq hkl
          have c0 : wr.cell? ⟨w.heap.size, 0, none⟩ = some (.int .i64 pad) := HXr.out.cell 0
          have hzw : w.heap.size < wr.heap.size := HXr.out.lt
          have HWI := Lib.hid (fun W => within_any q.1 q.2 pad W HS.out.1 HS.out.2.1 HS.out.2.2.1 HS.out.2.2.2)
          go_wp2_with fail
          ((with_reducible refine (HWI.out _).mono ?_); rintro e w5 ⟨rfl, hb5⟩)
          have HB5 := Lib.hid (HBR.out.trans (((Below.refl wr.heap.size wr).alloc (Nat.le_refl _) _).trans (hb5.mono (by simp)) |>.mono hzr))
          clear hb5
          by_cases hin : AdjC.inside q pad = true
          · rw [hin]
            have HALL2 := Lib.hid (show (M.take (k + 1)).all (fun s => AdjC.inside s pad) = true by rw [HTK.out, List.all_append, HALL.out]; simpa using hin)
            clear hin
            go_wp2_with fail
            go_roundw
            case rel => exact ⟨k + 1, by omega, by go_num, HB5.out, HALL2.out⟩
            case measure => simp [intOf]; omega
          · have h4 := Lib.hid (show AdjC.wrongI pad mem false ⟨d, a, b, c, n, v⟩ = 4 by
              rw [HE2.out, if_pos]
              rw [Bool.eq_false_iff]
              intro h
              rw [List.all_eq_true] at h
              have hmem : q ∈ M := List.mem_of_mem_take (i := k + 1) (by rw [HTK.out]; simp)
              exact hin (h q hmem))
            have hin0 : AdjC.inside q pad = false := by simpa using hin
            rw [hin0]
            clear hin hin0
            go_wp2_with fail
            go_ret
            exact ⟨ret_int h4.out.symm, HB3.out.trans (HB5.out.mono (by have := HB3.out.size; omega))⟩
        · have hkm : k = m := by omega
          subst hkm
          have HE3 := Lib.hid (show AdjC.wrongI pad mem false ⟨d, a, b, c, n, v⟩ = (if (false = true) ∧ 0 < n ∧ (min b (b + (n - 1) * c) < 0 ∨ mem ≤ max b (b + (n - 1) * c)) then 4 else 0) by
            have h := HALL.out
            rw [List.take_of_length_le (by rw [HM.out]; exact Nat.le_refl _)] at h
            rw [HE2.out, if_neg (by rw [h]; decide)])
          have HBw := Lib.hid (HB3.out.trans (HBR.out.mono (by have := HB3.out.size; omega)))
          have c1 : wr.cell? ⟨w.heap.size, 1, none⟩ = some (.int .i64 mem) := HXr.out.cell 1
          have d2 : wr.cell? ⟨w.heap.size + 1, 2, none⟩ = some (.int .i64 b) := HYr.out.cell 2
          have d3 : wr.cell? ⟨w.heap.size + 1, 3, none⟩ = some (.int .i64 c) := HYr.out.cell 3
          have d4 : wr.cell? ⟨w.heap.size + 1, 4, none⟩ = some (.int .i64 n) := HYr.out.cell 4
          have hmul := Cr.mul_small hn hc
          go_wp2
          all_goals
            go_ret
            exact ⟨ret_int (by rw [HE3.out]; first | exact (if_pos ⟨trivial, by omega, by omega⟩).symm | exact (if_neg (fun h => by first | (have := h.2.1; have := h.2.2; omega) | exact absurd h.1 (by decide))).symm), HBw.out⟩
  · have HE := Lib.hid (show AdjC.wrongI pad mem false ⟨d, a, b, c, n, v⟩ = 1 by unfold AdjC.wrongI; rw [if_pos (by simpa using hbe)])
    rw [HE.out]
    have H := Lib.hid (show AdjC.belongs d false = false by simpa using hbe)
    clear hbe
    go_enter Try.func24, Try.ntmps24
    go_wp2_with fail
    ((with_reducible refine (HBE.out _).mono ?_); rintro e w' ⟨rfl, rfl⟩)
    rw [H.out]
    go_wp2_with fail
    go_ret
    exact ⟨rfl, HB0.out _ _⟩
end Go.Proofs.Ytlnfmipcbhhkhaa
