/-
  The walk of array.Dims, kind by kind: kinds 2 (fill), 3 to 8 (alike); The walk of array.Dims, kind by kind: kinds 10 (sum), 14 (pad); Two or three lists put together (slices.Concat); a list without its first entries; the first entries; The walk of array.Dims, kind by kind: kinds 18 (take), 19 (put), 17 (join). Conditions: where the theorems name them.
-/
import Derived.Test.YtapedmpbkffopaaZ02
import Derived.Test.YtapedmpbkffopaaZ11
import Derived.Test.YtapedmpbkffopaaZ13
import Derived.Test.YtapedmpbkffopaaZ16
section
namespace Go.Proofs.Ytapedmpbkffopaa.AdjD'
set_option linter.unusedVariables false
open AdjD
open AdjV (size)
def tail (r : List Int × Int) : List Int × Int := if r.2 ≠ 0 then ([], r.2) else if (size r.1).2 ≠ 0 then ([], (size r.1).2) else (r.1, 0)
theorem tail_size {l : List Int} (h : (size l).2 ≠ 0) : tail (l, 0) = ([], (size l).2) := by unfold tail; rw [if_neg (by simp), if_pos h]
theorem tail_ok {l : List Int} (h : (size l).2 = 0) : tail (l, 0) = (l, 0) := by unfold tail; rw [if_neg (by simp), if_neg (by simp [h])]
theorem tail_err {r : List Int × Int} (h : r.2 ≠ 0) : tail r = ([], r.2) := if_pos h
theorem dims_fit {op : AdjD.Op} {args : List (List Int)} (h : fitE op args ≠ 0) : AdjD.dims op args = ([], fitE op args) := by
 unfold fitE at h ⊢
 unfold AdjD.dims
 by_cases h1 : right op.kind args.length ≠ 0
 ·rw [if_pos h1, if_pos h1]
 ·rw [if_neg h1] at h
  rw [if_neg h1, if_neg h1, if_pos h]
theorem fit_zero {op : AdjD.Op} {args : List (List Int)} (h : fitE op args = 0) : right op.kind args.length = 0 ∧ sizes args = 0 := by
 unfold fitE at h
 by_cases h1 : right op.kind args.length ≠ 0
 ·rw [if_pos h1] at h; exact absurd h h1
 ·rw [if_neg h1] at h; exact ⟨by omega, h⟩
theorem dims_tail {op : AdjD.Op} {args : List (List Int)} (h : fitE op args = 0) : AdjD.dims op args = tail (ruled op args) := by
 obtain ⟨h1, h2⟩ := fit_zero h
 unfold AdjD.dims
 rw [if_neg (by simp [h1]), if_neg (by simp [h2])]
 rfl
theorem sizes_all : ∀ {args : List (List Int)}, sizes args = 0 → ∀ d ∈ args, (size d).2 = 0
 | [], _, d, hd => by cases hd
 | a :: r, h, d, hd => by
  have h' : (if (size a).2 ≠ 0 then (size a).2 else sizes r) = 0 := h
  by_cases h1 : (size a).2 ≠ 0
  ·rw [if_pos h1] at h'; exact absurd h' h1
  ·rw [if_neg h1] at h'
   rcases List.mem_cons.1 hd with e | e
   ·subst e; omega
   ·exact sizes_all h' d e
theorem fit_sizes {op : AdjD.Op} {args : List (List Int)} (h : fitE op args = 0) : ∀ d ∈ args, (size d).2 = 0 := sizes_all (fit_zero h).2
end Go.Proofs.Ytapedmpbkffopaa.AdjD'
namespace Go.Proofs.Ytapedmpbkffopaa
set_option linter.unusedVariables false
open Go.RowKit Adj
namespace Ar
def DimsOut (w w' : World) (r : List Int × Int) (e : Ending) : Prop := (∃ v, e = .returned (.tuple #[v, .int .i64 r.2]) ∧ FrAt w.heap.size w' v r.1) ∧ Below w.heap.size w w'
def Short (op : AdjD.Op) : Prop := op.dims.length ≤ 4194304 ∧ op.lo.length ≤ 4194304 ∧ op.at_.length ≤ 4194304 ∧ op.hi.length ≤ 4194304 ∧ op.step.length ≤ 4194304
end Ar
set_option maxRecDepth 100000 in
set_option maxHeartbeats 8000000 in
theorem Ar.dims_fill (val : Value) (op : AdjD.Op) (A : Option Addr) (cap : Nat) (B : Nat) (w : World) (hB : B ≤ w.heap.size) (hsh : Ar.Short op) (hop : Ar.OpAt w B val op) (hargs : Ar.ListsAt w B A []) (hk : op.kind = 2) :
    Calls Try.prog 25 #[val, .slice A 0 cap] w fun e w' => Ar.DimsOut w w' (AdjD.dims op []) e := by
 have HOP := Lib.hid (fun W (hb : Below w.heap.size w W) => (hop.below (hb.mono hB)).up (Nat.le_trans hB hb.size))
 have HAR := Lib.hid (fun W (hb : Below w.heap.size w W) => (hargs.below (hb.mono hB)).up (Nat.le_trans hB hb.size))
 obtain ⟨v1, v2, v3, v4, v5, rfl, ⟨D, cD, rfl, iD, lD, mD⟩, ⟨T, ct, rfl, it, lt, mt⟩, ⟨O, co, rfl, io, lo, mo⟩, ⟨I, ci, rfl, ii, li, mi⟩, ⟨S, cs, rfl, is, ls, ms⟩⟩ := hop
 have HL := Lib.hid (fun W (hb : Below w.heap.size w W) => And.intro ((iD.below (hb.mono hB)).up (Nat.le_trans hB hb.size)) (And.intro ((it.below (hb.mono hB)).up (Nat.le_trans hB hb.size)) (And.intro ((io.below (hb.mono hB)).up (Nat.le_trans hB hb.size)) (And.intro ((ii.below (hb.mono hB)).up (Nat.le_trans hB hb.size)) ((is.below (hb.mono hB)).up (Nat.le_trans hB hb.size))))))
 have HX := Lib.hid (Blk.new w 37 #[.int .i64 op.kind, .slice D op.dims.length cD, .slice T op.at_.length ct, .slice O op.lo.length co, .slice I op.hi.length ci, .slice S op.step.length cs, .int .i64 op.value])
 have HB := Lib.hid ((Below.refl w.heap.size w).alloc (Nat.le_refl _) (.cells #[.int .i64 op.kind, .slice D op.dims.length cD, .slice T op.at_.length ct, .slice O op.lo.length co, .slice I op.hi.length ci, .slice S op.step.length cs, .int .i64 op.value] 37))
 have hz0 : (w.alloc (.cells #[.int .i64 op.kind, .slice D op.dims.length cD, .slice T op.at_.length ct, .slice O op.lo.length co, .slice I op.hi.length ci, .slice S op.step.length cs, .int .i64 op.value] 37)).heap.size = w.heap.size + 1 := by simp
 obtain ⟨w0, hw0⟩ : ∃ w0, w.alloc (.cells #[.int .i64 op.kind, .slice D op.dims.length cD, .slice T op.at_.length ct, .slice O op.lo.length co, .slice I op.hi.length ci, .slice S op.step.length cs, .int .i64 op.value] 37) = w0 := ⟨_, rfl⟩
 rw [hw0] at HX HB hz0
 have HF := Lib.hid (Ar.fits_any _ op _ cap ([] : List (List Int)) w0.heap.size w0 (Nat.le_refl _) (by first | omega | simp) (HOP.out w0 HB.out) (HAR.out w0 HB.out))
 have HM := Lib.hid (show op.dims.length ≤ cD ∧ op.at_.length ≤ ct ∧ op.lo.length ≤ co ∧ op.hi.length ≤ ci ∧ op.step.length ≤ cs from ⟨lD, lt, lo, li, ls⟩)
 have HDT := Lib.hid (fun h => AdjD'.dims_tail (op := op) (args := ([] : List (List Int))) h)
 have HDZ := Lib.hid (fun h => AdjD'.fit_sizes (op := op) (args := ([] : List (List Int))) h)
 clear iD it io ii is lD lt lo li ls hargs
 simp only [List.length_nil] at HF
 rw [hk] at HX HF HOP hw0 ⊢
 have b0 : w0.cell? ⟨w.heap.size, 0, none⟩ = some (.int .i64 2) := HX.out.cell 0
 have b1 : w0.cell? ⟨w.heap.size, 1, none⟩ = some (.slice D op.dims.length cD) := HX.out.cell 1
 have b2 : w0.cell? ⟨w.heap.size, 2, none⟩ = some (.slice T op.at_.length ct) := HX.out.cell 2
 have b3 : w0.cell? ⟨w.heap.size, 3, none⟩ = some (.slice O op.lo.length co) := HX.out.cell 3
 have b4 : w0.cell? ⟨w.heap.size, 4, none⟩ = some (.slice I op.hi.length ci) := HX.out.cell 4
 have b5 : w0.cell? ⟨w.heap.size, 5, none⟩ = some (.slice S op.step.length cs) := HX.out.cell 5
 have b6 : w0.cell? ⟨w.heap.size, 6, none⟩ = some (.int .i64 op.value) := HX.out.cell 6
 go_enter Try.func25, Try.ntmps25
 go_wp2_with fail
 ((with_reducible refine HF.out.mono ?_); rintro e w1 ⟨rfl, hb1⟩)
 have HB1 := Lib.hid (HB.out.trans (hb1.mono HB.out.size))
 have HX1 := Lib.hid (HX.out.below hb1 HX.out.lt)
 have hs1 : w.heap.size + 1 ≤ w1.heap.size := by rw [← hz0]; exact hb1.size
 clear hb1 HF hw0 b0 b1 b2 b3 b4 b5 b6
 by_cases hf : AdjD'.fitE op ([] : List (List Int)) ≠ 0
 ·have HV := Lib.hid (AdjD'.dims_fit hf)
  have hq : (AdjD'.fitE op ([] : List (List Int)) != 0) = true := by simpa using hf
  generalize AdjD'.fitE op ([] : List (List Int)) = f at hq HV hf
  clear hf HDT HDZ
  go_wp2_with fail
  go_ret2
  rw [HV.out]
  exact ⟨⟨_, rfl, Ar.FrAt.nil _ _⟩, HB1.out⟩
 have hf0 : AdjD'.fitE op ([] : List (List Int)) = 0 := by omega
 have HT := Lib.hid (HDT.out hf0)
 have HZ := Lib.hid (HDZ.out hf0)
 rw [hf0]
 have x0 : w1.cell? ⟨w.heap.size, 0, none⟩ = some (.int .i64 2) := HX1.out.cell 0
 have x1 : w1.cell? ⟨w.heap.size, 1, none⟩ = some (.slice D op.dims.length cD) := HX1.out.cell 1
 have x2 : w1.cell? ⟨w.heap.size, 2, none⟩ = some (.slice T op.at_.length ct) := HX1.out.cell 2
 have x3 : w1.cell? ⟨w.heap.size, 3, none⟩ = some (.slice O op.lo.length co) := HX1.out.cell 3
 have x4 : w1.cell? ⟨w.heap.size, 4, none⟩ = some (.slice I op.hi.length ci) := HX1.out.cell 4
 have x5 : w1.cell? ⟨w.heap.size, 5, none⟩ = some (.slice S op.step.length cs) := HX1.out.cell 5
 have x6 : w1.cell? ⟨w.heap.size, 6, none⟩ = some (.int .i64 op.value) := HX1.out.cell 6
 clear hf hf0 HDT HDZ
 have HCL := Lib.hid (Clone_any D cD op.dims w1.heap.size w1 (by have := hsh.1; omega) (HL.out w1 HB1.out).1 (Nat.le_refl _))
 go_wp2_with fail
 ((with_reducible refine HCL.out.mono ?_); rintro e w2 ⟨v, rfl, ho2, hb2⟩)
 have HB2 := Lib.hid (HB1.out.trans (hb2.mono HB1.out.size))
 have HSL := Lib.hid (Ar.fr_own (N := w.heap.size) ho2 (by omega))
 obtain ⟨A2, c2, rfl, i2, l2, m2⟩ := Ar.sl_own ho2
 clear ho2 hb2
 have HTA := Lib.hid (show AdjD.dims op ([] : List (List Int)) = AdjD'.tail (op.dims, 0) from by rw [HT.out, (show AdjD.ruled op [] = (op.dims, 0) by unfold AdjD.ruled; rw [if_pos hk])])
 have HSZ := Lib.hid (Size_any A2 c2 op.dims w2.heap.size w2 (by omega) i2)
 by_cases hsz : (AdjV.size op.dims).2 ≠ 0
 ·have hq2 : ((AdjV.size op.dims).2 != 0) = true := by simpa using hsz
  have HV := Lib.hid (show AdjD.dims op ([] : List (List Int)) = ([], (AdjV.size op.dims).2) by rw [HTA.out]; exact AdjD'.tail_size hsz)
  clear hsz
  go_wp2_with fail
  refine HSZ.out.mono ?_
  rintro e w7 ⟨rfl, rfl⟩
  simp only [Vw.sizeR]
  go_wp2_with fail
  go_ret2
  rw [HV.out]
  exact ⟨⟨_, rfl, Ar.FrAt.nil _ _⟩, HB2.out⟩
 ·have hq2 : ((AdjV.size op.dims).2 != 0) = false := by simpa using hsz
  have HV := Lib.hid (show AdjD.dims op ([] : List (List Int)) = (op.dims, 0) by rw [HTA.out]; exact AdjD'.tail_ok (by omega))
  have h0 : (AdjV.size op.dims).2 = 0 := by omega
  clear hsz
  go_wp2_with fail
  refine HSZ.out.mono ?_
  rintro e w7 ⟨rfl, rfl⟩
  simp only [Vw.sizeR]
  go_wp2_with fail
  go_ret2
  rw [HV.out]
  exact ⟨⟨_, rfl, HSL.out⟩, HB2.out⟩
set_option maxRecDepth 100000 in
set_option maxHeartbeats 8000000 in
theorem Ar.dims_same (val : Value) (op : AdjD.Op) (A : Option Addr) (cap : Nat) (args : List (List Int)) (B : Nat) (w : World) (hB : B ≤ w.heap.size) (hsh : Ar.Short op) (hn2 : 2 ≤ args.length) (hcap : args.length ≤ cap) (hcap2 : cap ≤ 9223372036854775807) (hop : Ar.OpAt w B val op) (hargs : Ar.ListsAt w B A args) (K : Int) (hKK : K = 3 ∨ K = 4 ∨ K = 5 ∨ K = 6 ∨ K = 7 ∨ K = 8) (hk : op.kind = K) :
    Calls Try.prog 25 #[val, .slice A args.length cap] w fun e w' => Ar.DimsOut w w' (AdjD.dims op args) e := by
 rcases hKK with rfl | rfl | rfl | rfl | rfl | rfl
 all_goals
  obtain ⟨n, hnn⟩ : ∃ n, args.length = n := ⟨_, rfl⟩
  have hargs2 := hargs
  obtain ⟨b, off, rfl, hbB, hc⟩ := hargs2 (by omega)
  obtain ⟨v0, cv0, A0, c0, rfl, i0, l0, m0⟩ := hc 0 (by omega)
  rw [Nat.add_zero] at cv0
  have HC := Lib.hid hc
  have HI0 := Lib.hid i0
  have HN := Lib.hid hnn
  have hbw : b < w.heap.size := by omega
  clear hc i0
  have HOP := Lib.hid (fun W (hb : Below w.heap.size w W) => (hop.below (hb.mono hB)).up (Nat.le_trans hB hb.size))
  have HAR := Lib.hid (fun W (hb : Below w.heap.size w W) => (hargs.below (hb.mono hB)).up (Nat.le_trans hB hb.size))
  obtain ⟨v1, v2, v3, v4, v5, rfl, ⟨D, cD, rfl, iD, lD, mD⟩, ⟨T, ct, rfl, it, lt, mt⟩, ⟨O, co, rfl, io, lo, mo⟩, ⟨I, ci, rfl, ii, li, mi⟩, ⟨S, cs, rfl, is, ls, ms⟩⟩ := hop
  have HL := Lib.hid (fun W (hb : Below w.heap.size w W) => And.intro ((iD.below (hb.mono hB)).up (Nat.le_trans hB hb.size)) (And.intro ((it.below (hb.mono hB)).up (Nat.le_trans hB hb.size)) (And.intro ((io.below (hb.mono hB)).up (Nat.le_trans hB hb.size)) (And.intro ((ii.below (hb.mono hB)).up (Nat.le_trans hB hb.size)) ((is.below (hb.mono hB)).up (Nat.le_trans hB hb.size))))))
  have HX := Lib.hid (Blk.new w 37 #[.int .i64 op.kind, .slice D op.dims.length cD, .slice T op.at_.length ct, .slice O op.lo.length co, .slice I op.hi.length ci, .slice S op.step.length cs, .int .i64 op.value])
  have HB := Lib.hid ((Below.refl w.heap.size w).alloc (Nat.le_refl _) (.cells #[.int .i64 op.kind, .slice D op.dims.length cD, .slice T op.at_.length ct, .slice O op.lo.length co, .slice I op.hi.length ci, .slice S op.step.length cs, .int .i64 op.value] 37))
  have hz0 : (w.alloc (.cells #[.int .i64 op.kind, .slice D op.dims.length cD, .slice T op.at_.length ct, .slice O op.lo.length co, .slice I op.hi.length ci, .slice S op.step.length cs, .int .i64 op.value] 37)).heap.size = w.heap.size + 1 := by simp
  obtain ⟨w0, hw0⟩ : ∃ w0, w.alloc (.cells #[.int .i64 op.kind, .slice D op.dims.length cD, .slice T op.at_.length ct, .slice O op.lo.length co, .slice I op.hi.length ci, .slice S op.step.length cs, .int .i64 op.value] 37) = w0 := ⟨_, rfl⟩
  rw [hw0] at HX HB hz0
  have HF := Lib.hid (Ar.fits_any _ op _ cap args w0.heap.size w0 (Nat.le_refl _) (by first | omega | simp) (HOP.out w0 HB.out) (HAR.out w0 HB.out))
  have HM := Lib.hid (show op.dims.length ≤ cD ∧ op.at_.length ≤ ct ∧ op.lo.length ≤ co ∧ op.hi.length ≤ ci ∧ op.step.length ≤ cs from ⟨lD, lt, lo, li, ls⟩)
  have HDT := Lib.hid (fun h => AdjD'.dims_tail (op := op) (args := args) h)
  have HDZ := Lib.hid (fun h => AdjD'.fit_sizes (op := op) (args := args) h)
  clear iD it io ii is lD lt lo li ls hargs
  rw [hnn] at HF hn2 hcap ⊢
  rw [hk] at HX HF HOP hw0 ⊢
  have b0 : w0.cell? ⟨w.heap.size, 0, none⟩ = some (.int .i64 _) := HX.out.cell 0
  have b1 : w0.cell? ⟨w.heap.size, 1, none⟩ = some (.slice D op.dims.length cD) := HX.out.cell 1
  have b2 : w0.cell? ⟨w.heap.size, 2, none⟩ = some (.slice T op.at_.length ct) := HX.out.cell 2
  have b3 : w0.cell? ⟨w.heap.size, 3, none⟩ = some (.slice O op.lo.length co) := HX.out.cell 3
  have b4 : w0.cell? ⟨w.heap.size, 4, none⟩ = some (.slice I op.hi.length ci) := HX.out.cell 4
  have b5 : w0.cell? ⟨w.heap.size, 5, none⟩ = some (.slice S op.step.length cs) := HX.out.cell 5
  have b6 : w0.cell? ⟨w.heap.size, 6, none⟩ = some (.int .i64 op.value) := HX.out.cell 6
  go_enter Try.func25, Try.ntmps25
  go_wp2_with fail
  ((with_reducible refine HF.out.mono ?_); rintro e w1 ⟨rfl, hb1⟩)
  have HB1 := Lib.hid (HB.out.trans (hb1.mono HB.out.size))
  have HX1 := Lib.hid (HX.out.below hb1 HX.out.lt)
  have hs1 : w.heap.size + 1 ≤ w1.heap.size := by rw [← hz0]; exact hb1.size
  clear hb1 HF hw0 b0 b1 b2 b3 b4 b5 b6
  by_cases hf : AdjD'.fitE op args ≠ 0
  ·have HV := Lib.hid (AdjD'.dims_fit hf)
   have hq : (AdjD'.fitE op args != 0) = true := by simpa using hf
   generalize AdjD'.fitE op args = f at hq HV hf
   clear hf HDT HDZ
   go_wp2_with fail
   go_ret2
   rw [HV.out]
   exact ⟨⟨_, rfl, Ar.FrAt.nil _ _⟩, HB1.out⟩
  have hf0 : AdjD'.fitE op args = 0 := by omega
  have HT := Lib.hid (HDT.out hf0)
  have HZ := Lib.hid (HDZ.out hf0)
  rw [hf0]
  have x0 : w1.cell? ⟨w.heap.size, 0, none⟩ = some (.int .i64 _) := HX1.out.cell 0
  have x1 : w1.cell? ⟨w.heap.size, 1, none⟩ = some (.slice D op.dims.length cD) := HX1.out.cell 1
  have x2 : w1.cell? ⟨w.heap.size, 2, none⟩ = some (.slice T op.at_.length ct) := HX1.out.cell 2
  have x3 : w1.cell? ⟨w.heap.size, 3, none⟩ = some (.slice O op.lo.length co) := HX1.out.cell 3
  have x4 : w1.cell? ⟨w.heap.size, 4, none⟩ = some (.slice I op.hi.length ci) := HX1.out.cell 4
  have x5 : w1.cell? ⟨w.heap.size, 5, none⟩ = some (.slice S op.step.length cs) := HX1.out.cell 5
  have x6 : w1.cell? ⟨w.heap.size, 6, none⟩ = some (.int .i64 op.value) := HX1.out.cell 6
  clear hf hf0 HDT HDZ
  have hg0 : args.getD 0 [] = args[0]'(by omega) := by simp [List.getD_eq_getElem?_getD, show 0 < args.length by omega]
  have hz6 := HZ.out (args[0]'(by omega)) (List.getElem_mem _)
  obtain ⟨a0, ha0⟩ : ∃ a0, args[0]'(by omega) = a0 := ⟨_, rfl⟩
  have HE0 := Lib.hid ha0
  rw [ha0] at hg0 hz6 HI0 l0 cv0
  have HRU := Lib.hid (show AdjD.ruled op args = if args.all (fun d => decide (d = a0)) then (a0, 0) else ([], 6) by
   unfold AdjD.ruled; rw [hg0]; simp [hk])
  have HAT := Lib.hid (show ∀ j (hj : j < args.length), args[j] ≠ a0 → AdjD.dims op args = ([], 6) from fun j hj hne => by
   rw [HT.out, HRU.out, if_neg (fun h => hne (by have := List.all_eq_true.1 h _ (List.getElem_mem hj); simpa using this))]; rfl)
  have HAL := Lib.hid (show (∀ j (hj : j < args.length), args[j] = a0) → AdjD.ruled op args = (a0, 0) from fun h => by
   rw [HRU.out, if_pos (List.all_eq_true.2 (fun x hx => by obtain ⟨j, hj, rfl⟩ := List.getElem_of_mem hx; simp [h j hj]))])
  have ca0 := (HB1.out.cell (p := ⟨b, off, none⟩) (by show b < w.heap.size; omega)).trans cv0
  clear cv0 hg0 ha0
  have hl6 := (AdjV.size_fine hz6).1
  clear hz6
  obtain ⟨m, rfl⟩ : ∃ m, n = m + 1 := ⟨n - 1, by omega⟩
  obtain ⟨wo, rfl⟩ : ∃ wo : World, wo = w1 := ⟨_, rfl⟩
  have HS0 := Lib.hid (show ∀ j (hj : j < args.length), j < 0 + 1 → args[j] = a0 ∨ j = 0 from fun j _ h => .inr (by omega))
  clear HRU
  go_wp2_with fail
  go_loopw [49] (fun kv wr => ∃ (k d : Nat), kv = .int .i64 (k : Int) ∧ k ≤ m ∧ (∀ j (hj : j < args.length), j < k + 1 → args[j] = a0 ∨ j = 0) ∧ wr = wo.drewN d) (fun kv _ => m - (intOf kv).toNat)
  case atStart => exact ⟨0, 0, rfl, by omega, HS0.out, rfl⟩
  case round =>
   obtain ⟨k, d, rfl, hkm, hall, hd⟩ := hrel
   have HAL2 := Lib.hid hall
   have HD := Lib.hid hd
   have HB3 := Lib.hid (show Below w.heap.size w wr by rw [hd]; exact below_drewN HB1.out d)
   have ca3 : wr.cell? ⟨b, off, none⟩ = some (.slice A0 a0.length c0) := by rw [hd]; exact ca0
   clear hall hd
   by_cases hk2 : k < m
   ·have hkl : k + 1 < args.length := by have := HN.out; omega
    obtain ⟨v, cv, Ai, ci2, rfl, hi, hl1, hl2⟩ := HC.out (k + 1) hkl
    have cv3 := (HB3.out.cell (p := ⟨b, off + (k + 1), none⟩) (by show b < w.heap.size; omega)).trans cv
    have hoff : off + 1 + k = off + (k + 1) := by omega
    rw [← hoff] at cv3
    have HQ := Lib.hid (Ar.equal_any Ai A0 ci2 c0 args[k + 1] a0 B B wr (by omega) (by omega) (hi.below (HB3.out.mono hB)) (HI0.out.below (HB3.out.mono hB)))
    have HNO := Lib.hid (fun h => HAT.out (k + 1) hkl h)
    have HNX := Lib.hid (show args[k + 1] = a0 → ∀ j (hj : j < args.length), j < k + 1 + 1 → args[j] = a0 ∨ j = 0 from fun h j hj hjk => by
     by_cases e : j = k + 1
     ·subst e; exact .inl h
     ·exact HAL2.out j hj (by omega))
    have i1 : (0 : Int) ≤ (k : Int) := by omega
    have i2 : (k : Int) < (m : Int) := by omega
    clear cv hi hoff
    generalize args[k + 1] = x at cv3 HQ HNO HNX hl1
    by_cases hx : x = a0
    ·have HNX2 := Lib.hid (HNX.out hx)
     rw [decide_eq_true hx] at HQ
     clear hx
     go_wp2_with fail
     ((with_reducible refine HQ.out.mono ?_); rintro e w4 ⟨rfl, d4, hw4⟩)
     have HD4 := Lib.hid (show w4 = wo.drewN (d + d4) by rw [hw4, HD.out, World.drewN_drewN])
     clear hw4
     go_wp2_with fail
     go_roundw
     case rel => exact ⟨k + 1, d + d4, by go_num, by omega, HNX2.out, HD4.out⟩
     case measure => simp [intOf]; omega
    ·have HV := Lib.hid (HNO.out hx)
     rw [decide_eq_false hx] at HQ
     clear hx
     go_wp2_with fail
     ((with_reducible refine HQ.out.mono ?_); rintro e w4 ⟨rfl, d4, hw4⟩)
     have HB4 := Lib.hid (show Below w.heap.size w w4 by rw [hw4]; exact below_drewN HB3.out d4)
     clear hw4
     go_wp2_with fail
     go_ret2
     rw [HV.out]
     exact ⟨⟨_, rfl, Ar.FrAt.nil _ _⟩, HB4.out⟩
   ·obtain rfl : k = m := by omega
    have HRU := Lib.hid (HAL.out (fun j hj => by
     rcases HAL2.out j hj (by have := HN.out; omega) with h | h
     ·exact h
     ·subst h; exact HE0.out))
    have HCL := Lib.hid (Clone_any A0 c0 a0 wr.heap.size wr (by omega) ((HI0.out.below (HB3.out.mono hB)).up (Nat.le_trans hB HB3.out.size)) (Nat.le_refl _))
    go_wp2_with fail
    ((with_reducible refine HCL.out.mono ?_); rintro e w2 ⟨v, rfl, ho2, hb2⟩)
    have HB2 := Lib.hid (HB3.out.trans (hb2.mono HB3.out.size))
    have HSL := Lib.hid (Ar.fr_own (N := w.heap.size) ho2 HB3.out.size)
    obtain ⟨A2, c2, rfl, i2, l2, m2⟩ := Ar.sl_own ho2
    clear ho2 hb2
    have HTA := Lib.hid (show AdjD.dims op args = AdjD'.tail (a0, 0) from by rw [HT.out, HRU.out])
    have HSZ := Lib.hid (Size_any A2 c2 a0 w2.heap.size w2 (by omega) i2)
    by_cases hsz : (AdjV.size a0).2 ≠ 0
    ·have hq2 : ((AdjV.size a0).2 != 0) = true := by simpa using hsz
     have HV := Lib.hid (show AdjD.dims op args = ([], (AdjV.size a0).2) by rw [HTA.out]; exact AdjD'.tail_size hsz)
     clear hsz
     go_wp2_with fail
     refine HSZ.out.mono ?_
     rintro e w7 ⟨rfl, rfl⟩
     simp only [Vw.sizeR]
     go_wp2_with fail
     go_ret2
     rw [HV.out]
     exact ⟨⟨_, rfl, Ar.FrAt.nil _ _⟩, HB2.out⟩
    ·have hq2 : ((AdjV.size a0).2 != 0) = false := by simpa using hsz
     have HV := Lib.hid (show AdjD.dims op args = (a0, 0) by rw [HTA.out]; exact AdjD'.tail_ok (by omega))
     have h0 : (AdjV.size a0).2 = 0 := by omega
     clear hsz
     go_wp2_with fail
     refine HSZ.out.mono ?_
     rintro e w7 ⟨rfl, rfl⟩
     simp only [Vw.sizeR]
     go_wp2_with fail
     go_ret2
     rw [HV.out]
     exact ⟨⟨_, rfl, HSL.out⟩, HB2.out⟩
end Go.Proofs.Ytapedmpbkffopaa
end
section
namespace Go.Proofs.Ytapedmpbkffopaa
set_option linter.unusedVariables false
open Go.RowKit Adj
set_option maxRecDepth 100000 in
set_option maxHeartbeats 8000000 in
theorem Ar.dims_sum (val : Value) (op : AdjD.Op) (A : Option Addr) (cap : Nat) (d : List Int) (B : Nat) (w : World) (hB : B ≤ w.heap.size) (hsh : Ar.Short op) (hcap : 1 ≤ cap) (hcap2 : cap ≤ 9223372036854775807) (hop : Ar.OpAt w B val op) (hargs : Ar.ListsAt w B A [d]) (hk : op.kind = 10) :
    Calls Try.prog 25 #[val, .slice A 1 cap] w fun e w' => Ar.DimsOut w w' (AdjD.dims op [d]) e := by
 have hargs2 := hargs
 obtain ⟨b, off, rfl, hbB, hc⟩ := hargs2 (by simp)
 obtain ⟨v0, cv0, A0, c0, rfl, i0, l0, m0⟩ := hc 0 (by simp)
 rw [Nat.add_zero] at cv0
 simp only [List.getElem_cons_zero] at cv0 i0 l0
 have HI0 := Lib.hid i0
 have hbw : b < w.heap.size := by omega
 clear hc i0
 have HOP := Lib.hid (fun W (hb : Below w.heap.size w W) => (hop.below (hb.mono hB)).up (Nat.le_trans hB hb.size))
 have HAR := Lib.hid (fun W (hb : Below w.heap.size w W) => (hargs.below (hb.mono hB)).up (Nat.le_trans hB hb.size))
 obtain ⟨v1, v2, v3, v4, v5, rfl, ⟨D, cD, rfl, iD, lD, mD⟩, ⟨T, ct, rfl, it, lt, mt⟩, ⟨O, co, rfl, io, lo, mo⟩, ⟨I, ci, rfl, ii, li, mi⟩, ⟨S, cs, rfl, is, ls, ms⟩⟩ := hop
 have HL := Lib.hid (fun W (hb : Below w.heap.size w W) => And.intro ((iD.below (hb.mono hB)).up (Nat.le_trans hB hb.size)) (And.intro ((it.below (hb.mono hB)).up (Nat.le_trans hB hb.size)) (And.intro ((io.below (hb.mono hB)).up (Nat.le_trans hB hb.size)) (And.intro ((ii.below (hb.mono hB)).up (Nat.le_trans hB hb.size)) ((is.below (hb.mono hB)).up (Nat.le_trans hB hb.size))))))
 have HX := Lib.hid (Blk.new w 37 #[.int .i64 op.kind, .slice D op.dims.length cD, .slice T op.at_.length ct, .slice O op.lo.length co, .slice I op.hi.length ci, .slice S op.step.length cs, .int .i64 op.value])
 have HB := Lib.hid ((Below.refl w.heap.size w).alloc (Nat.le_refl _) (.cells #[.int .i64 op.kind, .slice D op.dims.length cD, .slice T op.at_.length ct, .slice O op.lo.length co, .slice I op.hi.length ci, .slice S op.step.length cs, .int .i64 op.value] 37))
 have hz0 : (w.alloc (.cells #[.int .i64 op.kind, .slice D op.dims.length cD, .slice T op.at_.length ct, .slice O op.lo.length co, .slice I op.hi.length ci, .slice S op.step.length cs, .int .i64 op.value] 37)).heap.size = w.heap.size + 1 := by simp
 obtain ⟨w0, hw0⟩ : ∃ w0, w.alloc (.cells #[.int .i64 op.kind, .slice D op.dims.length cD, .slice T op.at_.length ct, .slice O op.lo.length co, .slice I op.hi.length ci, .slice S op.step.length cs, .int .i64 op.value] 37) = w0 := ⟨_, rfl⟩
 rw [hw0] at HX HB hz0
 have HF := Lib.hid (Ar.fits_any _ op _ cap [d] w0.heap.size w0 (Nat.le_refl _) (by first | omega | simp) (HOP.out w0 HB.out) (HAR.out w0 HB.out))
 have HM := Lib.hid (show op.dims.length ≤ cD ∧ op.at_.length ≤ ct ∧ op.lo.length ≤ co ∧ op.hi.length ≤ ci ∧ op.step.length ≤ cs from ⟨lD, lt, lo, li, ls⟩)
 have HDT := Lib.hid (fun h => AdjD'.dims_tail (op := op) (args := [d]) h)
 have HDZ := Lib.hid (fun h => AdjD'.fit_sizes (op := op) (args := [d]) h)
 clear iD it io ii is lD lt lo li ls hargs
 simp only [List.length_cons, List.length_nil, Nat.zero_add] at HF
 rw [hk] at HX HF HOP hw0 ⊢
 have b0 : w0.cell? ⟨w.heap.size, 0, none⟩ = some (.int .i64 10) := HX.out.cell 0
 have b1 : w0.cell? ⟨w.heap.size, 1, none⟩ = some (.slice D op.dims.length cD) := HX.out.cell 1
 have b2 : w0.cell? ⟨w.heap.size, 2, none⟩ = some (.slice T op.at_.length ct) := HX.out.cell 2
 have b3 : w0.cell? ⟨w.heap.size, 3, none⟩ = some (.slice O op.lo.length co) := HX.out.cell 3
 have b4 : w0.cell? ⟨w.heap.size, 4, none⟩ = some (.slice I op.hi.length ci) := HX.out.cell 4
 have b5 : w0.cell? ⟨w.heap.size, 5, none⟩ = some (.slice S op.step.length cs) := HX.out.cell 5
 have b6 : w0.cell? ⟨w.heap.size, 6, none⟩ = some (.int .i64 op.value) := HX.out.cell 6
 go_enter Try.func25, Try.ntmps25
 go_wp2_with fail
 ((with_reducible refine HF.out.mono ?_); rintro e w1 ⟨rfl, hb1⟩)
 have HB1 := Lib.hid (HB.out.trans (hb1.mono HB.out.size))
 have HX1 := Lib.hid (HX.out.below hb1 HX.out.lt)
 have hs1 : w.heap.size + 1 ≤ w1.heap.size := by rw [← hz0]; exact hb1.size
 clear hb1 HF hw0 b0 b1 b2 b3 b4 b5 b6
 by_cases hf : AdjD'.fitE op [d] ≠ 0
 ·have HV := Lib.hid (AdjD'.dims_fit hf)
  have hq : (AdjD'.fitE op [d] != 0) = true := by simpa using hf
  generalize AdjD'.fitE op [d] = f at hq HV hf
  clear hf HDT HDZ
  go_wp2_with fail
  go_ret2
  rw [HV.out]
  exact ⟨⟨_, rfl, Ar.FrAt.nil _ _⟩, HB1.out⟩
 have hf0 : AdjD'.fitE op [d] = 0 := by omega
 have HT := Lib.hid (HDT.out hf0)
 have HZ := Lib.hid (HDZ.out hf0)
 rw [hf0]
 have x0 : w1.cell? ⟨w.heap.size, 0, none⟩ = some (.int .i64 10) := HX1.out.cell 0
 have x1 : w1.cell? ⟨w.heap.size, 1, none⟩ = some (.slice D op.dims.length cD) := HX1.out.cell 1
 have x2 : w1.cell? ⟨w.heap.size, 2, none⟩ = some (.slice T op.at_.length ct) := HX1.out.cell 2
 have x3 : w1.cell? ⟨w.heap.size, 3, none⟩ = some (.slice O op.lo.length co) := HX1.out.cell 3
 have x4 : w1.cell? ⟨w.heap.size, 4, none⟩ = some (.slice I op.hi.length ci) := HX1.out.cell 4
 have x5 : w1.cell? ⟨w.heap.size, 5, none⟩ = some (.slice S op.step.length cs) := HX1.out.cell 5
 have x6 : w1.cell? ⟨w.heap.size, 6, none⟩ = some (.int .i64 op.value) := HX1.out.cell 6
 clear hf hf0 HDT HDZ
 have hz := HZ.out d (by simp)
 obtain ⟨hd6, hdp, _⟩ := AdjV.size_fine hz
 have HDP := Lib.hid hdp
 have HZD := Lib.hid hz
 have ca0 := (HB1.out.cell (p := ⟨b, off, none⟩) (by show b < w.heap.size; omega)).trans cv0
 have i1 : (0 : Int) < 1 := by omega
 clear cv0 hz hdp
 have HRU := Lib.hid (show AdjD.ruled op [d] = AdjD'.summed op.at_ d by unfold AdjD.ruled AdjD'.summed; simp [hk])
 obtain ⟨⟨l, x⟩, hR⟩ : ∃ R, AdjD'.summed op.at_ d = R := ⟨_, rfl⟩
 go_wp2_with fail
 refine wp_region_T (fun w' => w'.cell? ⟨w.heap.size, 2, none⟩ = some (.slice T op.at_.length ct) ∧ w'.cell? ⟨b, off, none⟩ = some (.slice A0 d.length c0)) 5 (fun _ => True) 5 11 rfl (by kernel_rfl) ⟨⟨x2, ca0⟩, trivial⟩ (fun hHeld => ?_)
 simp only [List.replicate_succ, List.replicate_zero]
 refine tk (v := ?_) [1] 0 67 hHeld ?_ ?_; rotate_left; (intro w h; (try dsimp only at h); go_simp; try with_reducible rfl); try simp only [Act.put, zA, zB, zC]
 refine tk (v := ?_) [] 1 68 hHeld ?_ ?_; rotate_left; (intro w h; (try dsimp only at h); go_simp; try with_reducible rfl); try simp only [Act.put, zA, zB, zC]
 refine tk (v := ?_) [3, 4] 2 69 hHeld ?_ ?_; rotate_left; (intro w h; (try dsimp only at h); go_simp; try with_reducible rfl); try simp only [Act.put, zA, zB, zC]
 refine tk (v := ?_) [4] 3 70 hHeld ?_ ?_; rotate_left; (intro w h; (try dsimp only at h); go_simp; try with_reducible rfl); try simp only [Act.put, zA, zB, zC]
 refine tk (v := ?_) [] 4 71 hHeld ?_ ?_; rotate_left; (intro w h; (try dsimp only at h); go_simp; try with_reducible rfl); try simp only [Act.put, zA, zB, zC]
 have HBq := Lib.hid (show Below w.heap.size w w1.drew from HB1.out.drew)
 clear hHeld x0 x1 x2 x3 x4 x5 x6 ca0
 generalize w1.drew = wq at HBq ⊢
 have HC := Lib.hid (Ar.summed_any T A0 ct c0 op.at_ d wq.heap.size wq (Nat.le_refl _) (by have := HM.out; have := hsh.2.2.1; omega) (by omega) (HL.out wq HBq.out).2.1 ((HI0.out.below (HBq.out.mono hB)).up (Nat.le_trans hB HBq.out.size)))
 rw [hR] at HC HRU
 dsimp only at HC
 clear hR
 refine wpT_one 5 (by kernel_rfl) (stepT_late rfl rfl (by kernel_rfl) (fun K hK => ?_))
 go_simp
 ((with_reducible refine HC.out.mono ?_); rintro e w2 ⟨v, rfl, hsl, hb2⟩)
 have HB2 := Lib.hid (HBq.out.trans (hb2.mono HBq.out.size))
 have HSL := Lib.hid (show Ar.FrAt w.heap.size w2 v l from ⟨hsl.1, fun h g hg => Nat.le_trans HBq.out.size (hsl.2 h g hg)⟩)
 obtain ⟨⟨A2, c2, rfl, i2, l2, m2⟩, hfr⟩ := hsl
 clear hb2 hfr
 try go_simp
 refine hK.out _ _ trivial (fun hHeld => ?_)
 clear hK K
 try simp only [zA, zB, zC]
 refine tp (v := ?_) 6 66 (Till.late (by kernel_rfl) hHeld) ?_ ?_; rotate_left; (intro w; go_simp; try with_reducible rfl); try simp only [Act.put, zA, zB, zC]
 refine tp (v := ?_) 7 73 (Till.late (by kernel_rfl) hHeld) ?_ ?_; rotate_left; (intro w; go_simp; try with_reducible rfl); try simp only [Act.put, zA, zB, zC]
 refine tp (v := ?_) 8 74 (Till.late (by kernel_rfl) hHeld) ?_ ?_; rotate_left; (intro w; go_simp; try with_reducible rfl); try simp only [Act.put, zA, zB, zC]
 refine wpT_tail [_, _] 9 [10] rfl (by kernel_rfl) ?_
 by_cases he : x = 0
 ·subst he
  have HTA := Lib.hid (show AdjD.dims op [d] = AdjD'.tail (l, 0) from by rw [HT.out, HRU.out])
  have HSZ := Lib.hid (Size_any A2 c2 l w2.heap.size w2 (by omega) i2)
  by_cases hsz : (AdjV.size l).2 ≠ 0
  ·have hq2 : ((AdjV.size l).2 != 0) = true := by simpa using hsz
   have HV := Lib.hid (show AdjD.dims op [d] = ([], (AdjV.size l).2) by rw [HTA.out]; exact AdjD'.tail_size hsz)
   clear hsz
   go_wp2_with fail
   refine HSZ.out.mono ?_
   rintro e w7 ⟨rfl, rfl⟩
   simp only [Vw.sizeR]
   go_wp2_with fail
   go_ret2
   rw [HV.out]
   exact ⟨⟨_, rfl, Ar.FrAt.nil _ _⟩, HB2.out⟩
  ·have hq2 : ((AdjV.size l).2 != 0) = false := by simpa using hsz
   have HV := Lib.hid (show AdjD.dims op [d] = (l, 0) by rw [HTA.out]; exact AdjD'.tail_ok (by omega))
   have h0 : (AdjV.size l).2 = 0 := by omega
   clear hsz
   go_wp2_with fail
   refine HSZ.out.mono ?_
   rintro e w7 ⟨rfl, rfl⟩
   simp only [Vw.sizeR]
   go_wp2_with fail
   go_ret2
   rw [HV.out]
   exact ⟨⟨_, rfl, HSL.out⟩, HB2.out⟩
 ·have hq : (x != 0) = true := by simpa using he
  have HV := Lib.hid (show AdjD.dims op [d] = ([], x) by rw [HT.out, HRU.out]; exact AdjD'.tail_err he)
  clear he
  go_wp2_with fail
  go_ret2
  rw [HV.out]
  exact ⟨⟨_, rfl, Ar.FrAt.nil _ _⟩, HB2.out⟩
set_option maxRecDepth 100000 in
set_option maxHeartbeats 8000000 in
theorem Ar.dims_pad (val : Value) (op : AdjD.Op) (A : Option Addr) (cap : Nat) (d : List Int) (B : Nat) (w : World) (hB : B ≤ w.heap.size) (hsh : Ar.Short op) (hcap : 1 ≤ cap) (hcap2 : cap ≤ 9223372036854775807) (hop : Ar.OpAt w B val op) (hargs : Ar.ListsAt w B A [d]) (hk : op.kind = 14) :
    Calls Try.prog 25 #[val, .slice A 1 cap] w fun e w' => Ar.DimsOut w w' (AdjD.dims op [d]) e := by
 have hargs2 := hargs
 obtain ⟨b, off, rfl, hbB, hc⟩ := hargs2 (by simp)
 obtain ⟨v0, cv0, A0, c0, rfl, i0, l0, m0⟩ := hc 0 (by simp)
 rw [Nat.add_zero] at cv0
 simp only [List.getElem_cons_zero] at cv0 i0 l0
 have HI0 := Lib.hid i0
 have hbw : b < w.heap.size := by omega
 clear hc i0
 have HOP := Lib.hid (fun W (hb : Below w.heap.size w W) => (hop.below (hb.mono hB)).up (Nat.le_trans hB hb.size))
 have HAR := Lib.hid (fun W (hb : Below w.heap.size w W) => (hargs.below (hb.mono hB)).up (Nat.le_trans hB hb.size))
 obtain ⟨v1, v2, v3, v4, v5, rfl, ⟨D, cD, rfl, iD, lD, mD⟩, ⟨T, ct, rfl, it, lt, mt⟩, ⟨O, co, rfl, io, lo, mo⟩, ⟨I, ci, rfl, ii, li, mi⟩, ⟨S, cs, rfl, is, ls, ms⟩⟩ := hop
 have HL := Lib.hid (fun W (hb : Below w.heap.size w W) => And.intro ((iD.below (hb.mono hB)).up (Nat.le_trans hB hb.size)) (And.intro ((it.below (hb.mono hB)).up (Nat.le_trans hB hb.size)) (And.intro ((io.below (hb.mono hB)).up (Nat.le_trans hB hb.size)) (And.intro ((ii.below (hb.mono hB)).up (Nat.le_trans hB hb.size)) ((is.below (hb.mono hB)).up (Nat.le_trans hB hb.size))))))
 have HX := Lib.hid (Blk.new w 37 #[.int .i64 op.kind, .slice D op.dims.length cD, .slice T op.at_.length ct, .slice O op.lo.length co, .slice I op.hi.length ci, .slice S op.step.length cs, .int .i64 op.value])
 have HB := Lib.hid ((Below.refl w.heap.size w).alloc (Nat.le_refl _) (.cells #[.int .i64 op.kind, .slice D op.dims.length cD, .slice T op.at_.length ct, .slice O op.lo.length co, .slice I op.hi.length ci, .slice S op.step.length cs, .int .i64 op.value] 37))
 have hz0 : (w.alloc (.cells #[.int .i64 op.kind, .slice D op.dims.length cD, .slice T op.at_.length ct, .slice O op.lo.length co, .slice I op.hi.length ci, .slice S op.step.length cs, .int .i64 op.value] 37)).heap.size = w.heap.size + 1 := by simp
 obtain ⟨w0, hw0⟩ : ∃ w0, w.alloc (.cells #[.int .i64 op.kind, .slice D op.dims.length cD, .slice T op.at_.length ct, .slice O op.lo.length co, .slice I op.hi.length ci, .slice S op.step.length cs, .int .i64 op.value] 37) = w0 := ⟨_, rfl⟩
 rw [hw0] at HX HB hz0
 have HF := Lib.hid (Ar.fits_any _ op _ cap [d] w0.heap.size w0 (Nat.le_refl _) (by first | omega | simp) (HOP.out w0 HB.out) (HAR.out w0 HB.out))
 have HM := Lib.hid (show op.dims.length ≤ cD ∧ op.at_.length ≤ ct ∧ op.lo.length ≤ co ∧ op.hi.length ≤ ci ∧ op.step.length ≤ cs from ⟨lD, lt, lo, li, ls⟩)
 have HDT := Lib.hid (fun h => AdjD'.dims_tail (op := op) (args := [d]) h)
 have HDZ := Lib.hid (fun h => AdjD'.fit_sizes (op := op) (args := [d]) h)
 clear iD it io ii is lD lt lo li ls hargs
 simp only [List.length_cons, List.length_nil, Nat.zero_add] at HF
 rw [hk] at HX HF HOP hw0 ⊢
 have b0 : w0.cell? ⟨w.heap.size, 0, none⟩ = some (.int .i64 14) := HX.out.cell 0
 have b1 : w0.cell? ⟨w.heap.size, 1, none⟩ = some (.slice D op.dims.length cD) := HX.out.cell 1
 have b2 : w0.cell? ⟨w.heap.size, 2, none⟩ = some (.slice T op.at_.length ct) := HX.out.cell 2
 have b3 : w0.cell? ⟨w.heap.size, 3, none⟩ = some (.slice O op.lo.length co) := HX.out.cell 3
 have b4 : w0.cell? ⟨w.heap.size, 4, none⟩ = some (.slice I op.hi.length ci) := HX.out.cell 4
 have b5 : w0.cell? ⟨w.heap.size, 5, none⟩ = some (.slice S op.step.length cs) := HX.out.cell 5
 have b6 : w0.cell? ⟨w.heap.size, 6, none⟩ = some (.int .i64 op.value) := HX.out.cell 6
 go_enter Try.func25, Try.ntmps25
 go_wp2_with fail
 ((with_reducible refine HF.out.mono ?_); rintro e w1 ⟨rfl, hb1⟩)
 have HB1 := Lib.hid (HB.out.trans (hb1.mono HB.out.size))
 have HX1 := Lib.hid (HX.out.below hb1 HX.out.lt)
 have hs1 : w.heap.size + 1 ≤ w1.heap.size := by rw [← hz0]; exact hb1.size
 clear hb1 HF hw0 b0 b1 b2 b3 b4 b5 b6
 by_cases hf : AdjD'.fitE op [d] ≠ 0
 ·have HV := Lib.hid (AdjD'.dims_fit hf)
  have hq : (AdjD'.fitE op [d] != 0) = true := by simpa using hf
  generalize AdjD'.fitE op [d] = f at hq HV hf
  clear hf HDT HDZ
  go_wp2_with fail
  go_ret2
  rw [HV.out]
  exact ⟨⟨_, rfl, Ar.FrAt.nil _ _⟩, HB1.out⟩
 have hf0 : AdjD'.fitE op [d] = 0 := by omega
 have HT := Lib.hid (HDT.out hf0)
 have HZ := Lib.hid (HDZ.out hf0)
 rw [hf0]
 have x0 : w1.cell? ⟨w.heap.size, 0, none⟩ = some (.int .i64 14) := HX1.out.cell 0
 have x1 : w1.cell? ⟨w.heap.size, 1, none⟩ = some (.slice D op.dims.length cD) := HX1.out.cell 1
 have x2 : w1.cell? ⟨w.heap.size, 2, none⟩ = some (.slice T op.at_.length ct) := HX1.out.cell 2
 have x3 : w1.cell? ⟨w.heap.size, 3, none⟩ = some (.slice O op.lo.length co) := HX1.out.cell 3
 have x4 : w1.cell? ⟨w.heap.size, 4, none⟩ = some (.slice I op.hi.length ci) := HX1.out.cell 4
 have x5 : w1.cell? ⟨w.heap.size, 5, none⟩ = some (.slice S op.step.length cs) := HX1.out.cell 5
 have x6 : w1.cell? ⟨w.heap.size, 6, none⟩ = some (.int .i64 op.value) := HX1.out.cell 6
 clear hf hf0 HDT HDZ
 have hz := HZ.out d (by simp)
 obtain ⟨hd6, hdp, _⟩ := AdjV.size_fine hz
 have HDP := Lib.hid hdp
 have HZD := Lib.hid hz
 have ca0 := (HB1.out.cell (p := ⟨b, off, none⟩) (by show b < w.heap.size; omega)).trans cv0
 have i1 : (0 : Int) < 1 := by omega
 clear cv0 hz hdp
 have HRU := Lib.hid (show AdjD.ruled op [d] = AdjD.padDims op d by unfold AdjD.ruled; simp [hk])
 obtain ⟨⟨l, x⟩, hR⟩ : ∃ R, AdjD.padDims op d = R := ⟨_, rfl⟩
 go_wp2_with fail
 refine wp_region_T (fun w' => w'.cell? ⟨w.heap.size, 0, none⟩ = some (.int .i64 14) ∧ w'.cell? ⟨w.heap.size, 1, none⟩ = some (.slice D op.dims.length cD) ∧ w'.cell? ⟨w.heap.size, 2, none⟩ = some (.slice T op.at_.length ct) ∧ w'.cell? ⟨w.heap.size, 3, none⟩ = some (.slice O op.lo.length co) ∧ w'.cell? ⟨w.heap.size, 4, none⟩ = some (.slice I op.hi.length ci) ∧ w'.cell? ⟨w.heap.size, 5, none⟩ = some (.slice S op.step.length cs) ∧ w'.cell? ⟨w.heap.size, 6, none⟩ = some (.int .i64 op.value) ∧ w'.cell? ⟨b, off, none⟩ = some (.slice A0 d.length c0)) 4 (fun _ => True) 4 10 rfl (by kernel_rfl) ⟨⟨x0, x1, x2, x3, x4, x5, x6, ca0⟩, trivial⟩ (fun hHeld => ?_)
 simp only [List.replicate_succ, List.replicate_zero]
 refine tk (v := ?_) [] 0 78 hHeld ?_ ?_; rotate_left; (intro w h; (try dsimp only at h); go_simp; try with_reducible rfl); try simp only [Act.put, zA, zB, zC]
 refine tk (v := ?_) [2, 3] 1 79 hHeld ?_ ?_; rotate_left; (intro w h; (try dsimp only at h); go_simp; try with_reducible rfl); try simp only [Act.put, zA, zB, zC]
 refine tk (v := ?_) [3] 2 80 hHeld ?_ ?_; rotate_left; (intro w h; (try dsimp only at h); go_simp; try with_reducible rfl); try simp only [Act.put, zA, zB, zC]
 refine tk (v := ?_) [] 3 81 hHeld ?_ ?_; rotate_left; (intro w h; (try dsimp only at h); go_simp; try with_reducible rfl); try simp only [Act.put, zA, zB, zC]
 have HBq := Lib.hid (show Below w.heap.size w w1.drew from HB1.out.drew)
 clear hHeld x0 x1 x2 x3 x4 x5 x6 ca0
 generalize w1.drew = wq at HBq ⊢
 have HC := Lib.hid (Ar.padded_any _ op A0 c0 d wq.heap.size wq (Nat.le_refl _) (by omega) HDP.out (HOP.out wq HBq.out) ((HI0.out.below (HBq.out.mono hB)).up (Nat.le_trans hB HBq.out.size)))
 rw [hR] at HC HRU
 dsimp only at HC
 clear hR
 refine wpT_one 4 (by kernel_rfl) (stepT_late rfl rfl (by kernel_rfl) (fun K hK => ?_))
 go_simp
 ((with_reducible refine HC.out.mono ?_); rintro e w2 ⟨v, rfl, hsl, hb2⟩)
 have HB2 := Lib.hid (HBq.out.trans (hb2.mono HBq.out.size))
 have HSL := Lib.hid (show Ar.FrAt w.heap.size w2 v l from ⟨hsl.1, fun h g hg => Nat.le_trans HBq.out.size (hsl.2 h g hg)⟩)
 obtain ⟨⟨A2, c2, rfl, i2, l2, m2⟩, hfr⟩ := hsl
 clear hb2 hfr
 try go_simp
 refine hK.out _ _ trivial (fun hHeld => ?_)
 clear hK K
 try simp only [zA, zB, zC]
 refine tp (v := ?_) 5 77 (Till.late (by kernel_rfl) hHeld) ?_ ?_; rotate_left; (intro w; go_simp; try with_reducible rfl); try simp only [Act.put, zA, zB, zC]
 refine tp (v := ?_) 6 83 (Till.late (by kernel_rfl) hHeld) ?_ ?_; rotate_left; (intro w; go_simp; try with_reducible rfl); try simp only [Act.put, zA, zB, zC]
 refine tp (v := ?_) 7 84 (Till.late (by kernel_rfl) hHeld) ?_ ?_; rotate_left; (intro w; go_simp; try with_reducible rfl); try simp only [Act.put, zA, zB, zC]
 refine wpT_tail [_, _] 8 [9] rfl (by kernel_rfl) ?_
 by_cases he : x = 0
 ·subst he
  have HTA := Lib.hid (show AdjD.dims op [d] = AdjD'.tail (l, 0) from by rw [HT.out, HRU.out])
  have HSZ := Lib.hid (Size_any A2 c2 l w2.heap.size w2 (by omega) i2)
  by_cases hsz : (AdjV.size l).2 ≠ 0
  ·have hq2 : ((AdjV.size l).2 != 0) = true := by simpa using hsz
   have HV := Lib.hid (show AdjD.dims op [d] = ([], (AdjV.size l).2) by rw [HTA.out]; exact AdjD'.tail_size hsz)
   clear hsz
   go_wp2_with fail
   refine HSZ.out.mono ?_
   rintro e w7 ⟨rfl, rfl⟩
   simp only [Vw.sizeR]
   go_wp2_with fail
   go_ret2
   rw [HV.out]
   exact ⟨⟨_, rfl, Ar.FrAt.nil _ _⟩, HB2.out⟩
  ·have hq2 : ((AdjV.size l).2 != 0) = false := by simpa using hsz
   have HV := Lib.hid (show AdjD.dims op [d] = (l, 0) by rw [HTA.out]; exact AdjD'.tail_ok (by omega))
   have h0 : (AdjV.size l).2 = 0 := by omega
   clear hsz
   go_wp2_with fail
   refine HSZ.out.mono ?_
   rintro e w7 ⟨rfl, rfl⟩
   simp only [Vw.sizeR]
   go_wp2_with fail
   go_ret2
   rw [HV.out]
   exact ⟨⟨_, rfl, HSL.out⟩, HB2.out⟩
 ·have hq : (x != 0) = true := by simpa using he
  have HV := Lib.hid (show AdjD.dims op [d] = ([], x) by rw [HT.out, HRU.out]; exact AdjD'.tail_err he)
  clear he
  go_wp2_with fail
  go_ret2
  rw [HV.out]
  exact ⟨⟨_, rfl, Ar.FrAt.nil _ _⟩, HB2.out⟩
end Go.Proofs.Ytapedmpbkffopaa
end
section
namespace Go.Proofs.Ytapedmpbkffopaa
set_option linter.unusedVariables false
open Go.RowKit Adj
namespace Ar
theorem lists2 {w : World} {B g : Nat} {v1 v2 : Value} {l1 l2 : List Int} (h : Blk w g 23 #[v1, v2]) (hg : g < B) (h1 : SlAt w B v1 l1) (h2 : SlAt w B v2 l2) : ListsAt w B (some ⟨g, 0, none⟩) [l1, l2] := fun _ =>
 ⟨g, 0, rfl, hg, fun i hi => by
  rw [Nat.zero_add]
  match i, hi with
  | 0, _ => exact ⟨v1, h.cell 0, h1⟩
  | 1, _ => exact ⟨v2, h.cell 1, h2⟩⟩
theorem lists3 {w : World} {B g : Nat} {v1 v2 v3 : Value} {l1 l2 l3 : List Int} (h : Blk w g 23 #[v1, v2, v3]) (hg : g < B) (h1 : SlAt w B v1 l1) (h2 : SlAt w B v2 l2) (h3 : SlAt w B v3 l3) : ListsAt w B (some ⟨g, 0, none⟩) [l1, l2, l3] := fun _ =>
 ⟨g, 0, rfl, hg, fun i hi => by
  rw [Nat.zero_add]
  match i, hi with
  | 0, _ => exact ⟨v1, h.cell 0, h1⟩
  | 1, _ => exact ⟨v2, h.cell 1, h2⟩
  | 2, _ => exact ⟨v3, h.cell 2, h3⟩⟩
theorem cat2 (l1 l2 : List Int) : cat [l1, l2] = l1 ++ l2 := by simp [cat]
theorem cat3 (l1 l2 l3 : List Int) : cat [l1, l2, l3] = l1 ++ l2 ++ l3 := by simp [cat]
theorem concat2_any (g : Nat) (l1 l2 : List Int) (w : World) (hbig : l1.length + l2.length ≤ 1099511627776) (h : ListsAt w w.heap.size (some ⟨g, 0, none⟩) [l1, l2]) :
    Calls Try.prog 41 #[.slice (some ⟨g, 0, none⟩) 2 2] w fun e w' => ∃ v, e = .returned v ∧ w'.ownsRow w.heap.size 3 1 v (l1 ++ l2).length (ints (l1 ++ l2)) ∧ Below w.heap.size w w' := by
 have h2 := concat_any (some ⟨g, 0, none⟩) 2 [l1, l2] w.heap.size w (Nat.le_refl _) (by simp) (by rw [cat2, List.length_append]; exact hbig) h
 rw [cat2] at h2
 exact h2
theorem concat3_any (g : Nat) (l1 l2 l3 : List Int) (w : World) (hbig : l1.length + l2.length + l3.length ≤ 1099511627776) (h : ListsAt w w.heap.size (some ⟨g, 0, none⟩) [l1, l2, l3]) :
    Calls Try.prog 41 #[.slice (some ⟨g, 0, none⟩) 3 3] w fun e w' => ∃ v, e = .returned v ∧ w'.ownsRow w.heap.size 3 1 v (l1 ++ l2 ++ l3).length (ints (l1 ++ l2 ++ l3)) ∧ Below w.heap.size w w' := by
 have h2 := concat_any (some ⟨g, 0, none⟩) 3 [l1, l2, l3] w.heap.size w (Nat.le_refl _) (by simp) (by rw [cat3, List.length_append, List.length_append]; exact hbig) h
 rw [cat3] at h2
 exact h2
theorem ints_drop {w : World} {B b o : Nat} {l : List Int} (h : Vw.IntsAt w B (some ⟨b, o, none⟩) l) (k : Nat) : Vw.IntsAt w B (some ⟨b, o + k, none⟩) (l.drop k) := fun hp => by
 rw [List.length_drop] at hp
 obtain ⟨b', o', e, hb, hc⟩ := h (by omega)
 injection e with e
 injection e with e1 e2
 subst e1 e2
 refine ⟨b, o + k, rfl, hb, fun i hi => ?_⟩
 have h2 := hc (k + i) (by rw [List.length_drop] at hi; omega)
 rw [← Nat.add_assoc] at h2
 simpa using h2
theorem ints_take {w : World} {B : Nat} {A : Option Addr} {l : List Int} (h : Vw.IntsAt w B A l) (k : Nat) : Vw.IntsAt w B A (l.take k) := fun hp => by
 rw [List.length_take] at hp
 obtain ⟨b, o, e, hb, hc⟩ := h (by omega)
 refine ⟨b, o, e, hb, fun i hi => ?_⟩
 rw [List.length_take] at hi
 have h2 := hc i (by omega)
 simpa using h2
end Ar
end Go.Proofs.Ytapedmpbkffopaa
end
section
namespace Go.Proofs.Ytapedmpbkffopaa
set_option linter.unusedVariables false
open Go.RowKit Adj
set_option maxRecDepth 100000 in
set_option maxHeartbeats 8000000 in
theorem Ar.dims_take (val : Value) (op : AdjD.Op) (A : Option Addr) (cap : Nat) (d f : List Int) (B : Nat) (w : World) (hB : B ≤ w.heap.size) (hsh : Ar.Short op) (hcap : 2 ≤ cap) (hcap2 : cap ≤ 9223372036854775807) (hop : Ar.OpAt w B val op) (hargs : Ar.ListsAt w B A [d, f]) (hk : op.kind = 18) :
    Calls Try.prog 25 #[val, .slice A 2 cap] w fun e w' => Ar.DimsOut w w' (AdjD.dims op [d, f]) e := by
 have hargs2 := hargs
 obtain ⟨b, off, rfl, hbB, hc⟩ := hargs2 (by simp)
 obtain ⟨v0, cv0, A0, c0, rfl, i0, l0, m0⟩ := hc 0 (by simp)
 obtain ⟨v1', cv1, A1, c1, rfl, i1', l1, m1⟩ := hc 1 (by simp)
 rw [Nat.add_zero] at cv0
 simp only [List.getElem_cons_zero, List.getElem_cons_succ] at cv0 i0 l0 cv1 i1' l1
 have HI0 := Lib.hid i0
 have HI1 := Lib.hid i1'
 have hbw : b < w.heap.size := by omega
 clear hc i0 i1'
 have HOP := Lib.hid (fun W (hb : Below w.heap.size w W) => (hop.below (hb.mono hB)).up (Nat.le_trans hB hb.size))
 have HAR := Lib.hid (fun W (hb : Below w.heap.size w W) => (hargs.below (hb.mono hB)).up (Nat.le_trans hB hb.size))
 obtain ⟨v1, v2, v3, v4, v5, rfl, ⟨D, cD, rfl, iD, lD, mD⟩, ⟨T, ct, rfl, it, lt, mt⟩, ⟨O, co, rfl, io, lo, mo⟩, ⟨I, ci, rfl, ii, li, mi⟩, ⟨S, cs, rfl, is, ls, ms⟩⟩ := hop
 have HL := Lib.hid (fun W (hb : Below w.heap.size w W) => And.intro ((iD.below (hb.mono hB)).up (Nat.le_trans hB hb.size)) (And.intro ((it.below (hb.mono hB)).up (Nat.le_trans hB hb.size)) (And.intro ((io.below (hb.mono hB)).up (Nat.le_trans hB hb.size)) (And.intro ((ii.below (hb.mono hB)).up (Nat.le_trans hB hb.size)) ((is.below (hb.mono hB)).up (Nat.le_trans hB hb.size))))))
 have HX := Lib.hid (Blk.new w 37 #[.int .i64 op.kind, .slice D op.dims.length cD, .slice T op.at_.length ct, .slice O op.lo.length co, .slice I op.hi.length ci, .slice S op.step.length cs, .int .i64 op.value])
 have HB := Lib.hid ((Below.refl w.heap.size w).alloc (Nat.le_refl _) (.cells #[.int .i64 op.kind, .slice D op.dims.length cD, .slice T op.at_.length ct, .slice O op.lo.length co, .slice I op.hi.length ci, .slice S op.step.length cs, .int .i64 op.value] 37))
 have hz0 : (w.alloc (.cells #[.int .i64 op.kind, .slice D op.dims.length cD, .slice T op.at_.length ct, .slice O op.lo.length co, .slice I op.hi.length ci, .slice S op.step.length cs, .int .i64 op.value] 37)).heap.size = w.heap.size + 1 := by simp
 obtain ⟨w0, hw0⟩ : ∃ w0, w.alloc (.cells #[.int .i64 op.kind, .slice D op.dims.length cD, .slice T op.at_.length ct, .slice O op.lo.length co, .slice I op.hi.length ci, .slice S op.step.length cs, .int .i64 op.value] 37) = w0 := ⟨_, rfl⟩
 rw [hw0] at HX HB hz0
 have HF := Lib.hid (Ar.fits_any _ op _ cap [d, f] w0.heap.size w0 (Nat.le_refl _) (by first | omega | simp) (HOP.out w0 HB.out) (HAR.out w0 HB.out))
 have HM := Lib.hid (show op.dims.length ≤ cD ∧ op.at_.length ≤ ct ∧ op.lo.length ≤ co ∧ op.hi.length ≤ ci ∧ op.step.length ≤ cs from ⟨lD, lt, lo, li, ls⟩)
 have HDT := Lib.hid (fun h => AdjD'.dims_tail (op := op) (args := [d, f]) h)
 have HDZ := Lib.hid (fun h => AdjD'.fit_sizes (op := op) (args := [d, f]) h)
 clear iD it io ii is lD lt lo li ls hargs
 simp only [List.length_cons, List.length_nil, Nat.zero_add, Nat.reduceAdd] at HF
 rw [hk] at HX HF HOP hw0 ⊢
 have b0 : w0.cell? ⟨w.heap.size, 0, none⟩ = some (.int .i64 18) := HX.out.cell 0
 have b1 : w0.cell? ⟨w.heap.size, 1, none⟩ = some (.slice D op.dims.length cD) := HX.out.cell 1
 have b2 : w0.cell? ⟨w.heap.size, 2, none⟩ = some (.slice T op.at_.length ct) := HX.out.cell 2
 have b3 : w0.cell? ⟨w.heap.size, 3, none⟩ = some (.slice O op.lo.length co) := HX.out.cell 3
 have b4 : w0.cell? ⟨w.heap.size, 4, none⟩ = some (.slice I op.hi.length ci) := HX.out.cell 4
 have b5 : w0.cell? ⟨w.heap.size, 5, none⟩ = some (.slice S op.step.length cs) := HX.out.cell 5
 have b6 : w0.cell? ⟨w.heap.size, 6, none⟩ = some (.int .i64 op.value) := HX.out.cell 6
 go_enter Try.func25, Try.ntmps25
 go_wp2_with fail
 ((with_reducible refine HF.out.mono ?_); rintro e w1 ⟨rfl, hb1⟩)
 have HB1 := Lib.hid (HB.out.trans (hb1.mono HB.out.size))
 have HX1 := Lib.hid (HX.out.below hb1 HX.out.lt)
 have hs1 : w.heap.size + 1 ≤ w1.heap.size := by rw [← hz0]; exact hb1.size
 clear hb1 HF hw0 b0 b1 b2 b3 b4 b5 b6
 by_cases hf : AdjD'.fitE op [d, f] ≠ 0
 ·have HV := Lib.hid (AdjD'.dims_fit hf)
  have hq : (AdjD'.fitE op [d, f] != 0) = true := by simpa using hf
  generalize AdjD'.fitE op [d, f] = f at hq HV hf
  clear hf HDT HDZ
  go_wp2_with fail
  go_ret2
  rw [HV.out]
  exact ⟨⟨_, rfl, Ar.FrAt.nil _ _⟩, HB1.out⟩
 have hf0 : AdjD'.fitE op [d, f] = 0 := by omega
 have HT := Lib.hid (HDT.out hf0)
 have HZ := Lib.hid (HDZ.out hf0)
 rw [hf0]
 have x0 : w1.cell? ⟨w.heap.size, 0, none⟩ = some (.int .i64 18) := HX1.out.cell 0
 have x1 : w1.cell? ⟨w.heap.size, 1, none⟩ = some (.slice D op.dims.length cD) := HX1.out.cell 1
 have x2 : w1.cell? ⟨w.heap.size, 2, none⟩ = some (.slice T op.at_.length ct) := HX1.out.cell 2
 have x3 : w1.cell? ⟨w.heap.size, 3, none⟩ = some (.slice O op.lo.length co) := HX1.out.cell 3
 have x4 : w1.cell? ⟨w.heap.size, 4, none⟩ = some (.slice I op.hi.length ci) := HX1.out.cell 4
 have x5 : w1.cell? ⟨w.heap.size, 5, none⟩ = some (.slice S op.step.length cs) := HX1.out.cell 5
 have x6 : w1.cell? ⟨w.heap.size, 6, none⟩ = some (.int .i64 op.value) := HX1.out.cell 6
 clear hf hf0 HDT HDZ
 have hz := HZ.out d (by simp)
 have hzf := HZ.out f (by simp)
 obtain ⟨hd6, hdp, _⟩ := AdjV.size_fine hz
 obtain ⟨hf6, hfp, _⟩ := AdjV.size_fine hzf
 have HDP := Lib.hid (And.intro hdp hfp)
 have ca0 := (HB1.out.cell (p := ⟨b, off, none⟩) (by show b < w.heap.size; omega)).trans cv0
 have ca1 := (HB1.out.cell (p := ⟨b, off + 1, none⟩) (by show b < w.heap.size; omega)).trans cv1
 have i1 : (0 : Int) < 2 := by omega
 have i2 : (1 : Int) < 2 := by omega
 clear cv0 cv1 hz hzf hdp hfp
 by_cases hd0 : d.length = 0
 ·have HV := Lib.hid (show AdjD.dims op [d, f] = ([], 6) by
    rw [HT.out]
    have : AdjD.ruled op [d, f] = ([], 6) := by unfold AdjD.ruled; simp [hk, hd0]
    rw [this]; rfl)
  rw [hd0] at ca0
  clear hd0
  go_wp2_with fail
  go_ret2
  rw [HV.out]
  exact ⟨⟨_, rfl, Ar.FrAt.nil _ _⟩, HB1.out⟩
 ·have q0 : ((d.length : Int) == 0) = false := by rw [beq_eq_false_iff_ne]; omega
  have HRU := Lib.hid (show AdjD.ruled op [d, f] = (f ++ d.drop 1, 0) by unfold AdjD.ruled; simp [hk, hd0])
  obtain ⟨b0, o0, rfl, hb0, _⟩ := HI0.out (by omega)
  have hl1 : (1 : Int) ≤ (d.length : Int) := by omega
  by_cases hc1 : c0 = 1
  ·have hd1 : d.length = 1 := by omega
   subst hc1
   have hdd : d.drop 1 = [] := List.drop_eq_nil_of_le (by omega)
   rw [hdd] at HRU
   rw [hd1] at ca0
   have HD1 := Lib.hid hd1
   clear hd0 hdd hd1 q0 l0 hl1 hd6 m0
   go_wp2_with fail
   refine wp_region_T (fun w' => w'.cell? ⟨b, off, none⟩ = some (.slice (some ⟨b0, o0, none⟩) 1 1) ∧ w'.cell? ⟨b, off + 1, none⟩ = some (.slice A1 f.length c1)) 7 (fun _ => True) 7 10 rfl (by kernel_rfl) ⟨⟨ca0, ca1⟩, trivial⟩ (fun hHeld => ?_)
   simp only [List.replicate_succ, List.replicate_zero]
   refine tk (v := ?_) [1, 2] 0 118 hHeld ?_ ?_; rotate_left; (intro w h; (try dsimp only at h); go_simp; try with_reducible rfl); try simp only [Act.put, zA, zB, zC]
   refine tk (v := ?_) [2] 1 119 hHeld ?_ ?_; rotate_left; (intro w h; (try dsimp only at h); go_simp; try with_reducible rfl); try simp only [Act.put, zA, zB, zC]
   refine tk (v := ?_) [] 2 120 hHeld ?_ ?_; rotate_left; (intro w h; (try dsimp only at h); go_simp; try with_reducible rfl); try simp only [Act.put, zA, zB, zC]
   refine tk (v := ?_) [4, 5, 6] 3 121 hHeld ?_ ?_; rotate_left; (intro w h; (try dsimp only at h); go_simp; try with_reducible rfl); try simp only [Act.put, zA, zB, zC]
   refine tk (v := ?_) [5, 6] 4 122 hHeld ?_ ?_; rotate_left; (intro w h; (try dsimp only at h); go_simp; try with_reducible rfl); try simp only [Act.put, zA, zB, zC]
   refine tk (v := ?_) [6] 5 123 hHeld ?_ ?_; rotate_left; (intro w h; (try dsimp only at h); go_simp; try with_reducible rfl); try simp only [Act.put, zA, zB, zC]
   refine tk (v := ?_) [] 6 124 hHeld ?_ ?_; rotate_left; (intro w h; (try dsimp only at h); go_simp; try with_reducible rfl); try simp only [Act.put, zA, zB, zC]
   have HBq := Lib.hid (show Below w.heap.size w w1.drew from HB1.out.drew)
   clear hHeld x0 x1 x2 x3 x4 x5 x6 ca0
   generalize w1.drew = wq at HBq ⊢
   have hI0 := (HI0.out.below (HBq.out.mono hB)).up (Nat.le_trans hB HBq.out.size)
   have HI0q := Lib.hid hI0
   have HK := Lib.hid (Blk.new wq 23 #[.slice A1 f.length c1, .slice (some ⟨b0, o0, none⟩) 0 0])
   have HBk := Lib.hid ((Below.refl wq.heap.size wq).alloc (Nat.le_refl _) (.cells #[.slice A1 f.length c1, .slice (some ⟨b0, o0, none⟩) 0 0] 23))
   have hzk : wq.heap.size < (wq.alloc (.cells #[.slice A1 f.length c1, .slice (some ⟨b0, o0, none⟩) 0 0] 23)).heap.size := by simp
   obtain ⟨wk, hwk⟩ : ∃ wk, wq.alloc (.cells #[.slice A1 f.length c1, .slice (some ⟨b0, o0, none⟩) 0 0] 23) = wk := ⟨_, rfl⟩
   rw [hwk] at HK HBk hzk
   have HBw := Lib.hid (HBq.out.trans (HBk.out.mono HBq.out.size))
   have HC := Lib.hid (Ar.concat2_any wq.heap.size (f) (([] : List Int)) wk (by first | (simp only [List.length_drop]; omega) | (simp; omega)) (Ar.lists2 HK.out hzk (⟨A1, c1, rfl, (HI1.out.below ((HBw.out).mono hB)).up (Nat.le_trans hB HBw.out.size), by omega, by omega⟩) (⟨some ⟨b0, o0, none⟩, 0, rfl, fun h => by simp at h, by simp, by omega⟩)))
   obtain ⟨L, hL⟩ : ∃ L, (f) ++ (([] : List Int)) = L := ⟨_, rfl⟩
   have hLl : L.length ≤ 8388608 := by rw [← hL, List.length_append]; first | (simp only [List.length_drop]; omega) | (simp; omega)
   rw [hL] at HC HRU
   clear hI0 hL
   refine wpT_tail [_, _, _] 7 [8, 9] rfl (by kernel_rfl) ?_
   go_wp2_with fail
   ((with_reducible refine HC.out.mono ?_); rintro e w2 ⟨v, rfl, ho2, hb2⟩)
   have HB2 := Lib.hid (HBw.out.trans (hb2.mono HBw.out.size))
   have HSL := Lib.hid (Ar.fr_own (N := w.heap.size) ho2 HBw.out.size)
   obtain ⟨A2, c2, rfl, i2, l2, m2⟩ := Ar.sl_own ho2
   clear ho2 hb2 hwk
   have HTA := Lib.hid (show AdjD.dims op [d, f] = AdjD'.tail (L, 0) from by rw [HT.out, HRU.out])
   have HSZ := Lib.hid (Size_any A2 c2 L w2.heap.size w2 (by omega) i2)
   by_cases hsz : (AdjV.size L).2 ≠ 0
   ·have hq2 : ((AdjV.size L).2 != 0) = true := by simpa using hsz
    have HV := Lib.hid (show AdjD.dims op [d, f] = ([], (AdjV.size L).2) by rw [HTA.out]; exact AdjD'.tail_size hsz)
    clear hsz
    go_wp2_with fail
    refine HSZ.out.mono ?_
    rintro e w7 ⟨rfl, rfl⟩
    simp only [Vw.sizeR]
    go_wp2_with fail
    go_ret2
    rw [HV.out]
    exact ⟨⟨_, rfl, Ar.FrAt.nil _ _⟩, HB2.out⟩
   ·have hq2 : ((AdjV.size L).2 != 0) = false := by simpa using hsz
    have HV := Lib.hid (show AdjD.dims op [d, f] = (L, 0) by rw [HTA.out]; exact AdjD'.tail_ok (by omega))
    have h0 : (AdjV.size L).2 = 0 := by omega
    clear hsz
    go_wp2_with fail
    refine HSZ.out.mono ?_
    rintro e w7 ⟨rfl, rfl⟩
    simp only [Vw.sizeR]
    go_wp2_with fail
    go_ret2
    rw [HV.out]
    exact ⟨⟨_, rfl, HSL.out⟩, HB2.out⟩
  ·have hc2 : 2 ≤ c0 := by omega
   clear hd0 hc1
   go_wp2_with fail
   refine wp_region_T (fun w' => w'.cell? ⟨b, off, none⟩ = some (.slice (some ⟨b0, o0, none⟩) d.length c0) ∧ w'.cell? ⟨b, off + 1, none⟩ = some (.slice A1 f.length c1)) 7 (fun _ => True) 7 10 rfl (by kernel_rfl) ⟨⟨ca0, ca1⟩, trivial⟩ (fun hHeld => ?_)
   simp only [List.replicate_succ, List.replicate_zero]
   refine tk (v := ?_) [1, 2] 0 118 hHeld ?_ ?_; rotate_left; (intro w h; (try dsimp only at h); go_simp; try with_reducible rfl); try simp only [Act.put, zA, zB, zC]
   refine tk (v := ?_) [2] 1 119 hHeld ?_ ?_; rotate_left; (intro w h; (try dsimp only at h); go_simp; try with_reducible rfl); try simp only [Act.put, zA, zB, zC]
   refine tk (v := ?_) [] 2 120 hHeld ?_ ?_; rotate_left; (intro w h; (try dsimp only at h); go_simp; try with_reducible rfl); try simp only [Act.put, zA, zB, zC]
   refine tk (v := ?_) [4, 5, 6] 3 121 hHeld ?_ ?_; rotate_left; (intro w h; (try dsimp only at h); go_simp; try with_reducible rfl); try simp only [Act.put, zA, zB, zC]
   refine tk (v := ?_) [5, 6] 4 122 hHeld ?_ ?_; rotate_left; (intro w h; (try dsimp only at h); go_simp; try with_reducible rfl); try simp only [Act.put, zA, zB, zC]
   refine tk (v := ?_) [6] 5 123 hHeld ?_ ?_; rotate_left; (intro w h; (try dsimp only at h); go_simp; try with_reducible rfl); try simp only [Act.put, zA, zB, zC]
   refine tk (v := ?_) [] 6 124 hHeld ?_ ?_; rotate_left; (intro w h; (try dsimp only at h); go_simp; try with_reducible rfl); try simp only [Act.put, zA, zB, zC]
   have HBq := Lib.hid (show Below w.heap.size w w1.drew from HB1.out.drew)
   clear hHeld x0 x1 x2 x3 x4 x5 x6 ca0
   generalize w1.drew = wq at HBq ⊢
   have hI0 := (HI0.out.below (HBq.out.mono hB)).up (Nat.le_trans hB HBq.out.size)
   have HI0q := Lib.hid hI0
   have HK := Lib.hid (Blk.new wq 23 #[.slice A1 f.length c1, .slice (some ⟨b0, o0 + 1, none⟩) (d.length - 1) (c0 - 1)])
   have HBk := Lib.hid ((Below.refl wq.heap.size wq).alloc (Nat.le_refl _) (.cells #[.slice A1 f.length c1, .slice (some ⟨b0, o0 + 1, none⟩) (d.length - 1) (c0 - 1)] 23))
   have hzk : wq.heap.size < (wq.alloc (.cells #[.slice A1 f.length c1, .slice (some ⟨b0, o0 + 1, none⟩) (d.length - 1) (c0 - 1)] 23)).heap.size := by simp
   obtain ⟨wk, hwk⟩ : ∃ wk, wq.alloc (.cells #[.slice A1 f.length c1, .slice (some ⟨b0, o0 + 1, none⟩) (d.length - 1) (c0 - 1)] 23) = wk := ⟨_, rfl⟩
   rw [hwk] at HK HBk hzk
   have HBw := Lib.hid (HBq.out.trans (HBk.out.mono HBq.out.size))
   have HC := Lib.hid (Ar.concat2_any wq.heap.size (f) (d.drop 1) wk (by first | (simp only [List.length_drop]; omega) | (simp; omega)) (Ar.lists2 HK.out hzk (⟨A1, c1, rfl, (HI1.out.below ((HBw.out).mono hB)).up (Nat.le_trans hB HBw.out.size), by omega, by omega⟩) (⟨some ⟨b0, o0 + 1, none⟩, c0 - 1, by rw [List.length_drop], ((Ar.ints_drop HI0q.out 1).below HBk.out).up (by omega), by rw [List.length_drop]; omega, by omega⟩)))
   obtain ⟨L, hL⟩ : ∃ L, (f) ++ (d.drop 1) = L := ⟨_, rfl⟩
   have hLl : L.length ≤ 8388608 := by rw [← hL, List.length_append]; first | (simp only [List.length_drop]; omega) | (simp; omega)
   rw [hL] at HC HRU
   clear hI0 hL
   refine wpT_tail [_, _, _] 7 [8, 9] rfl (by kernel_rfl) ?_
   go_wp2_with fail
   ((with_reducible refine HC.out.mono ?_); rintro e w2 ⟨v, rfl, ho2, hb2⟩)
   have HB2 := Lib.hid (HBw.out.trans (hb2.mono HBw.out.size))
   have HSL := Lib.hid (Ar.fr_own (N := w.heap.size) ho2 HBw.out.size)
   obtain ⟨A2, c2, rfl, i2, l2, m2⟩ := Ar.sl_own ho2
   clear ho2 hb2 hwk
   have HTA := Lib.hid (show AdjD.dims op [d, f] = AdjD'.tail (L, 0) from by rw [HT.out, HRU.out])
   have HSZ := Lib.hid (Size_any A2 c2 L w2.heap.size w2 (by omega) i2)
   by_cases hsz : (AdjV.size L).2 ≠ 0
   ·have hq2 : ((AdjV.size L).2 != 0) = true := by simpa using hsz
    have HV := Lib.hid (show AdjD.dims op [d, f] = ([], (AdjV.size L).2) by rw [HTA.out]; exact AdjD'.tail_size hsz)
    clear hsz
    go_wp2_with fail
    refine HSZ.out.mono ?_
    rintro e w7 ⟨rfl, rfl⟩
    simp only [Vw.sizeR]
    go_wp2_with fail
    go_ret2
    rw [HV.out]
    exact ⟨⟨_, rfl, Ar.FrAt.nil _ _⟩, HB2.out⟩
   ·have hq2 : ((AdjV.size L).2 != 0) = false := by simpa using hsz
    have HV := Lib.hid (show AdjD.dims op [d, f] = (L, 0) by rw [HTA.out]; exact AdjD'.tail_ok (by omega))
    have h0 : (AdjV.size L).2 = 0 := by omega
    clear hsz
    go_wp2_with fail
    refine HSZ.out.mono ?_
    rintro e w7 ⟨rfl, rfl⟩
    simp only [Vw.sizeR]
    go_wp2_with fail
    go_ret2
    rw [HV.out]
    exact ⟨⟨_, rfl, HSL.out⟩, HB2.out⟩
end Go.Proofs.Ytapedmpbkffopaa
end
