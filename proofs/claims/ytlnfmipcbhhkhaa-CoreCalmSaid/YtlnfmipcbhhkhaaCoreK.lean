/-
  The walk of clash. Conditions: the spans of the two instructions are small.
-/
import Derived.Test.YtlnfmipcbhhkhaaCoreJ
import Derived.Test.YtlnfmipcbhhkhaaCorePlain5
namespace Go.Proofs.Ytlnfmipcbhhkhaa
set_option linter.unusedVariables false
open Go.RowKit Adj

namespace Cr
def SmallI (x : AdjC.I) : Prop := ∀ s ∈ AdjC.reads x ++ [AdjC.write x], Small s
theorem laid1 (w : World) (x y : AdjC.I) :
    Below w.heap.size w ((w.alloc (.cells #[.int .i64 x.d, .int .i64 x.a, .int .i64 x.b, .int .i64 x.c, .int .i64 x.n, .int .i64 x.v] 42)).alloc (.cells #[.int .i64 y.d, .int .i64 y.a, .int .i64 y.b, .int .i64 y.c, .int .i64 y.n, .int .i64 y.v] 42)) ∧
    Blk ((w.alloc (.cells #[.int .i64 x.d, .int .i64 x.a, .int .i64 x.b, .int .i64 x.c, .int .i64 x.n, .int .i64 x.v] 42)).alloc (.cells #[.int .i64 y.d, .int .i64 y.a, .int .i64 y.b, .int .i64 y.c, .int .i64 y.n, .int .i64 y.v] 42)) (w.heap.size + 1) 42 #[.int .i64 y.d, .int .i64 y.a, .int .i64 y.b, .int .i64 y.c, .int .i64 y.n, .int .i64 y.v] := by
  refine ⟨((Below.refl _ _).alloc (Nat.le_refl _) _).alloc (by simp) _, ?_⟩
  have h := Blk.new (w.alloc (.cells #[.int .i64 x.d, .int .i64 x.a, .int .i64 x.b, .int .i64 x.c, .int .i64 x.n, .int .i64 x.v] 42)) 42 #[.int .i64 y.d, .int .i64 y.a, .int .i64 y.b, .int .i64 y.c, .int .i64 y.n, .int .i64 y.v]
  rwa [World.size_alloc] at h
end Cr
set_option maxRecDepth 100000 in
set_option maxHeartbeats 4000000 in
theorem clash_any (x y : AdjC.I) (w : World) (hx : Cr.SmallI x) (hy : Cr.SmallI y) :
    Calls Try.prog 15 #[Cr.insV x, Cr.insV y] w fun e w' => e = .returned (.bool (AdjC.clash x y)) ∧ Below w.heap.size w w' := by
  have HSX := Lib.hid (fun W => spans_any x W)
  have HSY := Lib.hid (fun W => spans_any y W)
  have l1 := Cr.reads_three x
  have l2 := Cr.reads_three y
  have HC := Lib.hid (show AdjC.clash x y = (AdjC.meet (AdjC.write x) (AdjC.write y) || (AdjC.reads y).any (fun s => AdjC.meet s (AdjC.write x)) || (AdjC.reads x).any (fun s => AdjC.meet s (AdjC.write y))) from rfl)
  have HRX := Lib.hid (fun q (hq : q ∈ AdjC.reads x) => hx q (List.mem_append_left _ hq))
  have HWX := Lib.hid (hx (AdjC.write x) (List.mem_append_right _ (List.mem_singleton.2 rfl)))
  have HRY := Lib.hid (fun q (hq : q ∈ AdjC.reads y) => hy q (List.mem_append_left _ hq))
  have HWY := Lib.hid (hy (AdjC.write y) (List.mem_append_right _ (List.mem_singleton.2 rfl)))
  have HBS := Lib.hid (Cr.laid1 w x y)
  simp only [Cr.insV] at HSX HSY ⊢
  clear hx hy
  go_enter Try.func15, Try.ntmps15
  go_wp2_with fail
  generalize (w.alloc (.cells #[.int .i64 x.d, .int .i64 x.a, .int .i64 x.b, .int .i64 x.c, .int .i64 x.n, .int .i64 x.v] 42)).alloc (.cells #[.int .i64 y.d, .int .i64 y.a, .int .i64 y.b, .int .i64 y.c, .int .i64 y.n, .int .i64 y.v] 42) = W1 at HBS ⊢
  ((with_reducible refine (HSX.out _).mono ?_); rintro e w2 ⟨A, rfl, hown, hb⟩)
  have HB2 := Lib.hid (HBS.out.1.trans (hb.mono HBS.out.1.size))
  have HY2 := Lib.hid (HBS.out.2.below hb HBS.out.2.lt)
  have HR2 := Lib.hid (show IntsAt w2 w2.heap.size A (AdjC.two (AdjC.reads x)) from RowAt.of_own hown)
  obtain ⟨R, hR⟩ : ∃ R, AdjC.reads x = R := ⟨_, rfl⟩
  obtain ⟨P, hP⟩ : ∃ P, AdjC.write x = P := ⟨_, rfl⟩
  rw [hR] at HRX HR2 l1
  rw [hP] at HWX
  rw [hR, hP]
  unfold Cr.pairV
  have E1 := Lib.hid hR
  have E2 := Lib.hid hP
  clear hb hown hR hP
  have HX3 := Lib.hid (Blk.new w2 66 #[.int .i64 P.1, .int .i64 P.2])
  have HB3 := Lib.hid (HB2.out.alloc HB2.out.size (.cells #[.int .i64 P.1, .int .i64 P.2] 66))
  have HR3 := Lib.hid ((HR2.out.alloc (Nat.le_refl _) (.cells #[.int .i64 P.1, .int .i64 P.2] 66)).up (B' := (w2.alloc (.cells #[.int .i64 P.1, .int .i64 P.2] 66)).heap.size) (by simp))
  have HY3 := Lib.hid (HY2.out.alloc (.cells #[.int .i64 P.1, .int .i64 P.2] 66))
  obtain ⟨W3, hW3⟩ : ∃ W3, w2.alloc (.cells #[.int .i64 P.1, .int .i64 P.2] 66) = W3 := ⟨_, rfl⟩
  rw [hW3] at HX3 HB3 HR3 HY3
  have y0 := HY3.out.cell 0
  have y1 := HY3.out.cell 1
  have y2 := HY3.out.cell 2
  have y3 := HY3.out.cell 3
  have y4 := HY3.out.cell 4
  have y5 := HY3.out.cell 5
  clear HB2 HY2 HR2
  go_wp2_with fail
  clear hW3 y0 y1 y2 y3 y4 y5
  ((with_reducible refine (HSY.out _).mono ?_); rintro e w4 ⟨A', rfl, hown, hb⟩)
  have HB4 := Lib.hid (HB3.out.trans (hb.mono HB3.out.size))
  have HX4 := Lib.hid (HX3.out.below hb HX3.out.lt)
  have HR4 := Lib.hid ((HR3.out.below hb).up hb.size)
  have HS4 := Lib.hid (show IntsAt w4 w4.heap.size A' (AdjC.two (AdjC.reads y)) from RowAt.of_own hown)
  obtain ⟨R', hR⟩ : ∃ R, AdjC.reads y = R := ⟨_, rfl⟩
  obtain ⟨Q, hQ⟩ : ∃ Q, AdjC.write y = Q := ⟨_, rfl⟩
  rw [hR] at HRY HS4 l2
  rw [hQ] at HWY
  rw [hR, hQ]
  unfold Cr.pairV
  have E3 := Lib.hid hR
  have E4 := Lib.hid hQ
  clear hb hown hR hQ HX3 HB3 HR3 HY3
  have HY5 := Lib.hid (Blk.new w4 66 #[.int .i64 Q.1, .int .i64 Q.2])
  have HX5 := Lib.hid (HX4.out.alloc (.cells #[.int .i64 Q.1, .int .i64 Q.2] 66))
  have HB5 := Lib.hid (HB4.out.alloc HB4.out.size (.cells #[.int .i64 Q.1, .int .i64 Q.2] 66))
  have HR5 := Lib.hid ((HR4.out.alloc (Nat.le_refl _) (.cells #[.int .i64 Q.1, .int .i64 Q.2] 66)).up (B' := (w4.alloc (.cells #[.int .i64 Q.1, .int .i64 Q.2] 66)).heap.size) (by simp))
  have HS5 := Lib.hid ((HS4.out.alloc (Nat.le_refl _) (.cells #[.int .i64 Q.1, .int .i64 Q.2] 66)).up (B' := (w4.alloc (.cells #[.int .i64 Q.1, .int .i64 Q.2] 66)).heap.size) (by simp))
  obtain ⟨W5, hW5⟩ : ∃ W5, w4.alloc (.cells #[.int .i64 Q.1, .int .i64 Q.2] 66) = W5 := ⟨_, rfl⟩
  rw [hW5] at HX5 HY5 HB5 HR5 HS5
  have x0 := HX5.out.cell 0
  have x1 := HX5.out.cell 1
  have y0 := HY5.out.cell 0
  have y1 := HY5.out.cell 1
  have HOV := Lib.hid (fun W => overlap_any P Q W HWX.out.1 HWX.out.2.1 HWX.out.2.2.1 HWX.out.2.2.2 HWY.out.1 HWY.out.2.1 HWY.out.2.2.1 HWY.out.2.2.2)
  clear HB4 HX4 HR4 HS4
  go_wp2_with fail
  clear hW5 x0 x1 y0 y1
  ((with_reducible refine (HOV.out _).mono ?_); rintro e w6 ⟨rfl, hb⟩)
  have HB6 := Lib.hid (HB5.out.trans (hb.mono HB5.out.size))
  have HX6 := Lib.hid (HX5.out.below hb HX5.out.lt)
  have HY6 := Lib.hid (HY5.out.below hb HY5.out.lt)
  have HR6 := Lib.hid ((HR5.out.below hb).up hb.size)
  have HS6 := Lib.hid ((HS5.out.below hb).up hb.size)
  clear hb HB5 HX5 HY5 HR5 HS5
  by_cases h1 : AdjC.meet P Q = true
  · rw [h1]
    have H1 := Lib.hid h1
    clear h1
    go_wp2_with fail
    go_ret
    exact ⟨ret_bool (by rw [HC.out, E2.out, E4.out, H1.out]; rfl), HB6.out⟩
  · have h1' : AdjC.meet P Q = false := by simpa using h1
    rw [h1']
    have H1 := Lib.hid h1'
    clear h1 h1'
    have HCX := Lib.hid (clash1_any A' R'.length R' P w6 l2 HS6.out HWX.out HRY.out)
    have x0 := HX6.out.cell 0
    have x1 := HX6.out.cell 1
    go_wp2_with fail
    refine HCX.out.mono ?_
    rintro e w7 ⟨rfl, hb⟩
    have HB7 := Lib.hid (HB6.out.trans (hb.mono HB6.out.size))
    have HY7 := Lib.hid (HY6.out.below hb HY6.out.lt)
    have HR7 := Lib.hid ((HR6.out.below hb).up hb.size)
    clear hb x0 x1
    by_cases h2 : (R'.any fun s => AdjC.meet s P) = true
    · rw [h2]
      have H2 := Lib.hid h2
      clear h2
      go_wp2_with fail
      go_ret
      exact ⟨ret_bool (by rw [HC.out, E1.out, E2.out, E3.out, E4.out, H1.out, H2.out]; rfl), HB7.out⟩
    · have h2' : (R'.any fun s => AdjC.meet s P) = false := by simpa using h2
      rw [h2']
      have H2 := Lib.hid h2'
      clear h2 h2'
      have HCY := Lib.hid (clash1_any A R.length R Q w7 l1 HR7.out HWY.out HRX.out)
      have y0 := HY7.out.cell 0
      have y1 := HY7.out.cell 1
      go_wp2_with fail
      refine HCY.out.mono ?_
      rintro e w8 ⟨rfl, hb⟩
      have HB8 := Lib.hid (HB7.out.trans (hb.mono HB7.out.size))
      clear hb y0 y1
      obtain ⟨v, hv⟩ : ∃ v, (R.any fun s => AdjC.meet s Q) = v := ⟨_, rfl⟩
      rw [hv]
      have H3 := Lib.hid hv
      clear hv
      go_wp2_with fail
      go_ret
      exact ⟨ret_bool (by rw [HC.out, E1.out, E2.out, E3.out, E4.out, H1.out, H2.out, H3.out]; rfl), HB8.out⟩
end Go.Proofs.Ytlnfmipcbhhkhaa
