/-
  The walk of core.Wrong. Conditions: the code can be read.
-/
import Derived.Test.YtlnfmipcbhhkhaaCoreC
import Derived.Test.YtlnfmipcbhhkhaaCorePlain2
namespace Go.Proofs.Ytlnfmipcbhhkhaa
set_option linter.unusedVariables false
open Go.RowKit Adj

namespace Cr
/-- Code that a value holds. -/
def CodeAt (w : World) (B : Nat) (val : Value) (c : AdjC.Code) : Prop :=
  ∃ A n A' n', val = .agg #[.int .i64 c.pad, .int .i64 c.mem, .slice A c.mover.length n, .slice A' c.maker.length n'] ∧ IntsAt w B A (AdjC.flat c.mover) ∧ IntsAt w B A' (AdjC.flat c.maker) ∧
    c.mover.length ≤ n ∧ n ≤ 9223372036854775807 ∧ c.maker.length ≤ n' ∧ n' ≤ 9223372036854775807
theorem CodeAt.below {w w' : World} {B : Nat} {val : Value} {c : AdjC.Code} (h : CodeAt w B val c) (hb : Below B w w') : CodeAt w' B val c := by
  obtain ⟨A, n, A', n', hv, h1, h2, h3⟩ := h
  exact ⟨A, n, A', n', hv, h1.below hb, h2.below hb, h3⟩
theorem CodeAt.up {w : World} {B B' : Nat} {val : Value} {c : AdjC.Code} (h : CodeAt w B val c) (hb : B ≤ B') : CodeAt w B' val c := by
  obtain ⟨A, n, A', n', hv, h1, h2, h3⟩ := h
  exact ⟨A, n, A', n', hv, h1.up hb, h2.up hb, h3⟩
def bools (l : List Bool) : List Value := l.map .bool
theorem bools_set (l : List Bool) (j : Nat) (x : Bool) : (bools l).toArray.setIfInBounds j (.bool x) = (bools (l.set j x)).toArray := by
  unfold bools; simp [List.map_set]
theorem bools_nil (d : Int) : (bools (AdjC.tick d [] [])).toArray = #[.bool false, .bool false, .bool false, .bool false, .bool false, .bool false, .bool false, .bool false, .bool false, .bool false, .bool false, .bool false, .bool false, .bool false, .bool false, .bool false, .bool false, .bool false, .bool false, .bool false, .bool false, .bool false, .bool false, .bool false, .bool false, .bool false, .bool false, .bool false, .bool false, .bool false, .bool false, .bool false] := by rw [AdjC.tick_nil]; rfl
/-- What lies while Wrong goes through the code. -/
def Wr (w : World) (pad mem : Int) (V2 V3 : Value) (p q : List AdjC.I) (wr : World) : Prop :=
  Below w.heap.size w wr ∧ Blk wr w.heap.size 24 #[.int .i64 pad, .int .i64 mem, V2, V3] ∧ Blk wr (w.heap.size + 1) 58 (bools (AdjC.tick 3 p q)).toArray ∧
    Blk wr (w.heap.size + 1 + 1) 58 (bools (AdjC.tick 4 p q)).toArray ∧ Blk wr (w.heap.size + 1 + 1 + 1) 22 #[V2, V3]
section
variable {w wr wr' : World} {pad mem : Int} {V2 V3 : Value} {p q : List AdjC.I}
theorem Wr.lt (h : Wr w pad mem V2 V3 p q wr) : w.heap.size + 1 + 1 + 1 < wr.heap.size := h.2.2.2.2.lt
theorem Wr.alloc (h : Wr w pad mem V2 V3 p q wr) (o : Obj) : Wr w pad mem V2 V3 p q (wr.alloc o) :=
  ⟨h.1.alloc (by have := h.lt; omega) o, h.2.1.alloc o, h.2.2.1.alloc o, h.2.2.2.1.alloc o, h.2.2.2.2.alloc o⟩
theorem Wr.below (h : Wr w pad mem V2 V3 p q wr) (hb : Below wr.heap.size wr wr') : Wr w pad mem V2 V3 p q wr' :=
  ⟨h.1.trans (hb.mono (by have := h.lt; omega)), h.2.1.below hb h.2.1.lt, h.2.2.1.below hb h.2.2.1.lt, h.2.2.2.1.below hb h.2.2.2.1.lt, h.2.2.2.2.below hb h.2.2.2.2.lt⟩
theorem Wr.post {p' q' : List AdjC.I} {j : Nat} (h : Wr w pad mem V2 V3 p q wr) (h3 : AdjC.tick 3 p' q' = (AdjC.tick 3 p q).set j true) (h4 : AdjC.tick 4 p' q' = AdjC.tick 4 p q) : Wr w pad mem V2 V3 p' q' (wr.setCell ⟨w.heap.size + 1, j, none⟩ (.bool true)) := by
  refine ⟨h.1.setCell (p := ⟨w.heap.size + 1, j, none⟩) (by simp) _, h.2.1.far (p := ⟨w.heap.size + 1, j, none⟩) (by simp) _, ?_, ?_, h.2.2.2.2.far (p := ⟨w.heap.size + 1, j, none⟩) (by simp; omega) _⟩
  · rw [h3, ← bools_set]; exact h.2.2.1.set_ j _
  · rw [h4]; exact h.2.2.2.1.far (p := ⟨w.heap.size + 1, j, none⟩) (by simp) _
theorem Wr.wait {p' q' : List AdjC.I} {j : Nat} (h : Wr w pad mem V2 V3 p q wr) (h3 : AdjC.tick 3 p' q' = AdjC.tick 3 p q) (h4 : AdjC.tick 4 p' q' = (AdjC.tick 4 p q).set j true) : Wr w pad mem V2 V3 p' q' (wr.setCell ⟨w.heap.size + 1 + 1, j, none⟩ (.bool true)) := by
  refine ⟨h.1.setCell (p := ⟨w.heap.size + 1 + 1, j, none⟩) (by simp; omega) _, h.2.1.far (p := ⟨w.heap.size + 1 + 1, j, none⟩) (by simp; omega) _, ?_, ?_, h.2.2.2.2.far (p := ⟨w.heap.size + 1 + 1, j, none⟩) (by simp) _⟩
  · rw [h3]; exact h.2.2.1.far (p := ⟨w.heap.size + 1 + 1, j, none⟩) (by simp) _
  · rw [h4, ← bools_set]; exact h.2.2.2.1.set_ j _
theorem Wr.none_ {p' q' : List AdjC.I} (h : Wr w pad mem V2 V3 p q wr) (h3 : AdjC.tick 3 p' q' = AdjC.tick 3 p q) (h4 : AdjC.tick 4 p' q' = AdjC.tick 4 p q) : Wr w pad mem V2 V3 p' q' wr :=
  ⟨h.1, h.2.1, by rw [h3]; exact h.2.2.1, by rw [h4]; exact h.2.2.2.1, h.2.2.2.2⟩
theorem bools_cell {wr : World} {g : Nat} {t : TypeId} {l : List Bool} {j : Nat} (h : Blk wr g t (bools l).toArray) (hj : j < l.length) : wr.cell? ⟨g, j, none⟩ = some (.bool l[j]) := by
  rw [h.cell]; simp [bools, hj]
theorem Wr.set2 {g : Nat} (h : Wr w pad mem V2 V3 p q wr) (hg : w.heap.size + 1 + 1 + 1 < g) (x y : Value) : Wr w pad mem V2 V3 p q ((wr.setCell ⟨g, 0, none⟩ x).setCell ⟨g, 1, none⟩ y) :=
  ⟨(h.1.setCell (p := ⟨g, 0, none⟩) (by simp; omega) _).setCell (p := ⟨g, 1, none⟩) (by simp; omega) _, (h.2.1.far (p := ⟨g, 0, none⟩) (by simp; omega) _).far (p := ⟨g, 1, none⟩) (by simp; omega) _, (h.2.2.1.far (p := ⟨g, 0, none⟩) (by simp; omega) _).far (p := ⟨g, 1, none⟩) (by simp; omega) _,
    (h.2.2.2.1.far (p := ⟨g, 0, none⟩) (by simp; omega) _).far (p := ⟨g, 1, none⟩) (by simp; omega) _, (h.2.2.2.2.far (p := ⟨g, 0, none⟩) (by simp; omega) _).far (p := ⟨g, 1, none⟩) (by simp; omega) _⟩
theorem marks_alloc {b c i j : Nat} {p0 p1 w0 w1 : Value} {W : World} (h : (W.cell? ⟨b, i, none⟩ = some p0 ∧ W.cell? ⟨b, i + 1, none⟩ = some p1) ∧ W.cell? ⟨c, j, none⟩ = some w0 ∧ W.cell? ⟨c, j + 1, none⟩ = some w1) (hs : b < W.heap.size ∧ c < W.heap.size) (o : Obj) :
    ((W.alloc o).cell? ⟨b, i, none⟩ = some p0 ∧ (W.alloc o).cell? ⟨b, i + 1, none⟩ = some p1) ∧ (W.alloc o).cell? ⟨c, j, none⟩ = some w0 ∧ (W.alloc o).cell? ⟨c, j + 1, none⟩ = some w1 := by
  have g : ∀ b i, b < W.heap.size → (W.alloc o).cell? ⟨b, i, none⟩ = W.cell? ⟨b, i, none⟩ := fun b i hb => World.cell?_alloc_lt _ _ _ hb
  exact ⟨⟨(g _ _ hs.1).trans h.1.1, (g _ _ hs.1).trans h.1.2⟩, (g _ _ hs.2).trans h.2.1, (g _ _ hs.2).trans h.2.2⟩
theorem marks_set {b c i j g : Nat} {p0 p1 w0 w1 : Value} {W : World} (h : (W.cell? ⟨b, i, none⟩ = some p0 ∧ W.cell? ⟨b, i + 1, none⟩ = some p1) ∧ W.cell? ⟨c, j, none⟩ = some w0 ∧ W.cell? ⟨c, j + 1, none⟩ = some w1) (hb : b ≠ g) (hc : c ≠ g) (x y : Value) :
    (((W.setCell ⟨g, 0, none⟩ x).setCell ⟨g, 1, none⟩ y).cell? ⟨b, i, none⟩ = some p0 ∧ ((W.setCell ⟨g, 0, none⟩ x).setCell ⟨g, 1, none⟩ y).cell? ⟨b, i + 1, none⟩ = some p1) ∧ ((W.setCell ⟨g, 0, none⟩ x).setCell ⟨g, 1, none⟩ y).cell? ⟨c, j, none⟩ = some w0 ∧ ((W.setCell ⟨g, 0, none⟩ x).setCell ⟨g, 1, none⟩ y).cell? ⟨c, j + 1, none⟩ = some w1 := by
  have e : ∀ b i, b ≠ g → ((W.setCell ⟨g, 0, none⟩ x).setCell ⟨g, 1, none⟩ y).cell? ⟨b, i, none⟩ = W.cell? ⟨b, i, none⟩ := fun b i hb =>
    (World.cell?_setCell_other _ _ _ _ (fun e => hb (congrArg Addr.block e).symm)).trans (World.cell?_setCell_other _ _ _ _ (fun e => hb (congrArg Addr.block e).symm))
  exact ⟨⟨(e _ _ hb).trans h.1.1, (e _ _ hb).trans h.1.2⟩, (e _ _ hc).trans h.2.1, (e _ _ hc).trans h.2.2⟩
/-- Two pairs of marks, each in a block of its own. -/
def Two2 (g h : Nat) (p0 p1 w0 w1 : Bool) (wx : World) : Prop := g ≠ h ∧ Blk wx g 57 #[.bool p0, .bool p1] ∧ Blk wx h 57 #[.bool w0, .bool w1]
/-- The six cells of an instruction of a list. -/
theorem six_cells {B b off : Nat} {L : List AdjC.I} (h : IntsAt wr B (some ⟨b, off, none⟩) (AdjC.flat L)) {k : Nat} (hk : k < L.length) {x : AdjC.I} (hx : L[k] = x) :
    wr.cell? ⟨b, off + k * 6, none⟩ = some (.int .i64 x.d) ∧ wr.cell? ⟨b, off + k * 6 + 1, none⟩ = some (.int .i64 x.a) ∧ wr.cell? ⟨b, off + k * 6 + 2, none⟩ = some (.int .i64 x.b) ∧ wr.cell? ⟨b, off + k * 6 + 3, none⟩ = some (.int .i64 x.c) ∧
      wr.cell? ⟨b, off + k * 6 + 4, none⟩ = some (.int .i64 x.n) ∧ wr.cell? ⟨b, off + k * 6 + 5, none⟩ = some (.int .i64 x.v) := by
  subst hx
  have g : ∀ j v, j < 6 → (AdjC.six L[k])[j]? = some v → wr.cell? ⟨b, off + k * 6 + j, none⟩ = some (.int .i64 v) := fun j v hj hv => by
    have := h.at_ ((AdjC.flat_at L k j hk hj).trans hv)
    rwa [← Nat.add_assoc] at this
  exact ⟨g 0 _ (by omega) rfl, g 1 _ (by omega) rfl, g 2 _ (by omega) rfl, g 3 _ (by omega) rfl, g 4 _ (by omega) rfl, g 5 _ (by omega) rfl⟩
end
end Cr

set_option maxRecDepth 100000 in
set_option maxHeartbeats 8000000 in
theorem Wrong_any (val : Value) (c : AdjC.Code) (w : World) (h : Cr.CodeAt w w.heap.size val c) : Calls Try.prog 11 #[val] w fun e w' => e = .returned (.int .i64 (AdjC.wrong c)) ∧ Below w.heap.size w w' := by
  obtain ⟨pad, mem, mo, mk⟩ := c
  obtain ⟨A, n, A', n', rfl, hA, hA', m1, m2, m1', m2'⟩ := h
  simp only at *
  have HA := Lib.hid hA
  have HA' := Lib.hid hA'
  have HE1 := Lib.hid (AdjC.wrong_ends (c := ⟨pad, mem, mo, mk⟩))
  have HE2 := Lib.hid (AdjC.wrong_many (c := ⟨pad, mem, mo, mk⟩))
  have HB0 := Lib.hid (fun o => (Below.refl w.heap.size w).alloc (Nat.le_refl _) o)
  clear hA hA'
  go_enter Try.func11, Try.ntmps11
  go_upto_region 5 with (fail)
  all_goals first | (go_ret; exact ⟨ret_int (by first | exact (HE1.out (by first | omega | (simp only; omega))).symm | exact (HE2.out (by first | omega | (simp only; omega)) (by first | omega | (simp only; omega))).symm), HB0.out _⟩) | skip
  have hr1 : ¬ (pad < 0 ∨ 4096 < pad ∨ mem < 0 ∨ 1048576 < mem) := by omega
  have hr2 : ¬ (262144 < mo.length ∨ 262144 < mk.length) := by omega
  go_wp2_with fail
  have HW4 := Lib.hid (show Cr.Wr w pad mem (.slice A mo.length n) (.slice A' mk.length n') [] [] ((((w.alloc (.cells #[.int .i64 pad, .int .i64 mem, .slice A mo.length n, .slice A' mk.length n'] 24)).alloc (.cells #[.bool false, .bool false, .bool false, .bool false, .bool false, .bool false, .bool false, .bool false, .bool false, .bool false, .bool false, .bool false, .bool false, .bool false, .bool false, .bool false, .bool false, .bool false, .bool false, .bool false, .bool false, .bool false, .bool false, .bool false, .bool false, .bool false, .bool false, .bool false, .bool false, .bool false, .bool false, .bool false] 58)).alloc (.cells #[.bool false, .bool false, .bool false, .bool false, .bool false, .bool false, .bool false, .bool false, .bool false, .bool false, .bool false, .bool false, .bool false, .bool false, .bool false, .bool false, .bool false, .bool false, .bool false, .bool false, .bool false, .bool false, .bool false, .bool false, .bool false, .bool false, .bool false, .bool false, .bool false, .bool false, .bool false, .bool false] 58)).alloc (.cells #[.slice A mo.length n, .slice A' mk.length n'] 22)) from by
    refine ⟨(((HB0.out _).alloc (by simp) _).alloc (by simp; omega) _).alloc (by simp; omega) _, (((Blk.new _ _ _).alloc _).alloc _).alloc _, ?_, ?_, ?_⟩
    · rw [Cr.bools_nil]; exact (((Blk.new (w.alloc _) _ _).alloc _).alloc _ : Blk _ (w.alloc _).heap.size _ _) |> fun h => by rwa [World.size_alloc] at h
    · rw [Cr.bools_nil]; exact ((Blk.new ((w.alloc _).alloc _) _ _).alloc _ : Blk _ ((w.alloc _).alloc _).heap.size _ _) |> fun h => by rwa [World.size_alloc, World.size_alloc] at h
    · exact (Blk.new (((w.alloc _).alloc _).alloc _) _ _ : Blk _ (((w.alloc _).alloc _).alloc _).heap.size _ _) |> fun h => by rwa [World.size_alloc, World.size_alloc, World.size_alloc] at h)
  generalize (((w.alloc (.cells #[.int .i64 pad, .int .i64 mem, .slice A mo.length n, .slice A' mk.length n'] 24)).alloc (.cells #[.bool false, .bool false, .bool false, .bool false, .bool false, .bool false, .bool false, .bool false, .bool false, .bool false, .bool false, .bool false, .bool false, .bool false, .bool false, .bool false, .bool false, .bool false, .bool false, .bool false, .bool false, .bool false, .bool false, .bool false, .bool false, .bool false, .bool false, .bool false, .bool false, .bool false, .bool false, .bool false] 58)).alloc (.cells #[.bool false, .bool false, .bool false, .bool false, .bool false, .bool false, .bool false, .bool false, .bool false, .bool false, .bool false, .bool false, .bool false, .bool false, .bool false, .bool false, .bool false, .bool false, .bool false, .bool false, .bool false, .bool false, .bool false, .bool false, .bool false, .bool false, .bool false, .bool false, .bool false, .bool false, .bool false, .bool false] 58)).alloc (.cells #[.slice A mo.length n, .slice A' mk.length n'] 22) = W4 at HW4 ⊢
  clear HE1 HE2
  go_loopw [47] (fun i wr => ∃ e : Nat, e ≤ 2 ∧ i = .int .i64 e ∧ Cr.Wr w pad mem (.slice A mo.length n) (.slice A' mk.length n') (if 1 ≤ e then mo else []) (if 2 ≤ e then mk else []) wr ∧ (1 ≤ e → AdjC.firstBad (AdjC.wrongI pad mem true) mo = 0) ∧ (2 ≤ e → AdjC.firstBad (AdjC.wrongI pad mem false) mk = 0)) (fun i _ => 2 - (intOf i).toNat)
  case atStart => exact ⟨0, by omega, rfl, HW4.out, fun h => by omega, fun h => by omega⟩
  case round =>
    obtain ⟨e, he, rfl, hwr, hf0, hf1⟩ := hrel
    have he3 : e = 0 ∨ e = 1 ∨ e = 2 := by omega
    rcases he3 with rfl | rfl | rfl
    · have HR := Lib.hid (show Cr.Wr w pad mem (.slice A mo.length n) (.slice A' mk.length n') (mo.take 0) [] wr from hwr)
      have c0 : wr.cell? ⟨w.heap.size + 1 + 1 + 1, 0, none⟩ = some (.slice A mo.length n) := HR.out.2.2.2.2.cell 0
      have HF0 := Lib.hid hf0
      have HF1 := Lib.hid hf1
      rw [show (((0 : Nat) : Int)) = (0 : Int) from rfl]
      clear hwr hf0 hf1
      go_wp2_with fail
      clear c0
      obtain ⟨wo, hwo⟩ : ∃ wo : World, wo = wr := ⟨_, rfl⟩
      rw [← hwo] at HR ⊢
      clear hwo
      go_loopw [54] (fun i wr => ∃ k : Nat, k ≤ mo.length ∧ i = .int .i64 k ∧ Cr.Wr w pad mem (.slice A mo.length n) (.slice A' mk.length n') (mo.take k) [] wr ∧ AdjC.firstBad (AdjC.wrongI pad mem true) (mo.take k) = 0) (fun i _ => mo.length - (intOf i).toNat)
      case atStart => exact ⟨0, by omega, rfl, HR.out, rfl⟩
      case round =>
        obtain ⟨k, hk, rfl, hwr, hfb⟩ := hrel
        have HK := Lib.hid hwr
        have HFB := Lib.hid hfb
        clear hwr hfb
        by_cases hlt : k < mo.length
        · obtain ⟨b, off, rfl, hbl⟩ := HA.out.spot (by rw [AdjC.flat_length]; omega)
          obtain ⟨x, hx⟩ : ∃ x, mo[k] = x := ⟨_, rfl⟩
          obtain ⟨x0, x1, x2, x3, x4, x5⟩ := Cr.six_cells (HA.out.below HK.out.1) hlt hx
          have HTK := Lib.hid (show mo.take (k + 1) = mo.take k ++ [x] by rw [← hx]; exact List.take_succ_eq_append_getElem hlt)
          have HWI := Lib.hid (fun V2 V3 W => wrongIns_mover pad mem V2 V3 x W)
          simp only [Cr.insV] at HWI
          have hzr := HK.out.lt
          have y0 := fun o => (HK.out.alloc o).2.1.cell 0
          have y1 := fun o => (HK.out.alloc o).2.1.cell 1
          have y2 := fun o => (HK.out.alloc o).2.1.cell 2
          have y3 := fun o => (HK.out.alloc o).2.1.cell 3
          have HX := Lib.hid hx
          clear hx
          go_wp2_with fail
          ((with_reducible refine (HWI.out _ _ _).mono ?_); rintro e w5 ⟨rfl, hb5⟩)
          have HK5 := Lib.hid ((HK.out.alloc (.cells #[.int .i64 x.d, .int .i64 x.a, .int .i64 x.b, .int .i64 x.c, .int .i64 x.n, .int .i64 x.v] 42)).below hb5)
          have HX5 := Lib.hid ((Blk.new wr 42 #[.int .i64 x.d, .int .i64 x.a, .int .i64 x.b, .int .i64 x.c, .int .i64 x.n, .int .i64 x.v]).below hb5 (by simp))
          clear x0 x1 x2 x3 x4 x5 y0 y1 y2 y3 hb5
          by_cases hz : AdjC.wrongI pad mem true x = 0
          · rw [hz]
            have HFB2 := Lib.hid (show AdjC.firstBad (AdjC.wrongI pad mem true) (mo.take (k + 1)) = 0 by rw [HTK.out]; exact AdjC.firstBad_snoc HFB.out hz)
            have HZ := Lib.hid hz
            clear hz
            by_cases h3 : x.d = 3
            · obtain ⟨s, hs, hs16⟩ := AdjC.sem_range HZ.out (.inl h3)
              have z0 : w5.cell? ⟨wr.heap.size, 0, none⟩ = some (.int .i64 3) := by rw [← h3]; exact HX5.out.cell 0
              have z1 : w5.cell? ⟨wr.heap.size, 1, none⟩ = some (.int .i64 (s : Int)) := by rw [← hs]; exact HX5.out.cell 1
              have b0 := Cr.bools_cell (j := s * 2) HK5.out.2.2.1 (by rw [AdjC.tick_length]; omega)
              have f0 := HK5.out.2.2.1.frozen (s * 2)
              have HS := Lib.hid (HK5.out.post (j := s * 2) (p' := mo.take (k + 1)) (q' := []) (by rw [HTK.out]; exact AdjC.tick_set0 h3 hs hs16) (by rw [HTK.out]; exact AdjC.tick_same0 (by rw [h3]; decide)))
              clear h3 hs
              go_wp2_with fail
              go_roundw
              case rel => exact ⟨k + 1, by omega, by go_num, HS.out, HFB2.out⟩
              case measure => simp [intOf]; omega
            · by_cases h4 : x.d = 4
              · obtain ⟨s, hs, hs16⟩ := AdjC.sem_range HZ.out (.inr h4)
                have z0 : w5.cell? ⟨wr.heap.size, 0, none⟩ = some (.int .i64 4) := by rw [← h4]; exact HX5.out.cell 0
                have z1 : w5.cell? ⟨wr.heap.size, 1, none⟩ = some (.int .i64 (s : Int)) := by rw [← hs]; exact HX5.out.cell 1
                have b0 := Cr.bools_cell (j := s * 2) HK5.out.2.2.2.1 (by rw [AdjC.tick_length]; omega)
                have f0 := HK5.out.2.2.2.1.frozen (s * 2)
                have HS := Lib.hid (HK5.out.wait (j := s * 2) (p' := mo.take (k + 1)) (q' := []) (by rw [HTK.out]; exact AdjC.tick_same0 (by rw [h4]; decide)) (by rw [HTK.out]; exact AdjC.tick_set0 h4 hs hs16))
                clear h4 hs h3
                go_wp2_with fail
                go_roundw
                case rel => exact ⟨k + 1, by omega, by go_num, HS.out, HFB2.out⟩
                case measure => simp [intOf]; omega
              · have z0 := HX5.out.cell 0
                have t3 : (x.d == 3) = false := by simpa using h3
                have t4 : (x.d == 4) = false := by simpa using h4
                have HS := Lib.hid (HK5.out.none_ (p' := mo.take (k + 1)) (q' := []) (by rw [HTK.out]; exact AdjC.tick_same0 h3) (by rw [HTK.out]; exact AdjC.tick_same0 h4))
                clear h3 h4
                go_wp2_with fail
                go_roundw
                case rel => exact ⟨k + 1, by omega, by go_num, HS.out, HFB2.out⟩
                case measure => simp [intOf]; omega
          · have HW := Lib.hid (show AdjC.wrong ⟨pad, mem, mo, mk⟩ = AdjC.wrongI pad mem true x by
              have hb := AdjC.firstBad_at hlt HFB.out (by rw [HX.out]; exact hz)
              rw [HX.out] at hb
              rw [← hb]
              exact AdjC.wrong_mover hr1 hr2 (by rw [hb]; exact hz))
            have hq : (AdjC.wrongI pad mem true x != 0) = true := by simpa using hz
            clear hz
            go_wp2_with fail
            go_ret
            exact ⟨ret_int HW.out.symm, HK5.out.1⟩
        · have hkk : k = mo.length := by omega
          subst hkk
          have HFB2 := Lib.hid (show AdjC.firstBad (AdjC.wrongI pad mem true) mo = 0 by have h := HFB.out; rwa [List.take_of_length_le (Nat.le_refl _)] at h)
          have HK2 := Lib.hid (show Cr.Wr w pad mem (.slice A mo.length n) (.slice A' mk.length n') mo [] wr by have h := HK.out; rwa [List.take_of_length_le (Nat.le_refl _)] at h)
          go_wp2_with fail
          go_roundw
          case rel => exact ⟨1, by omega, rfl, HK2.out, fun _ => HFB2.out, fun h => by omega⟩
          case measure => simp [intOf]
    · have HR := Lib.hid (show Cr.Wr w pad mem (.slice A mo.length n) (.slice A' mk.length n') mo (mk.take 0) wr from hwr)
      have c0 : wr.cell? ⟨w.heap.size + 1 + 1 + 1, 1, none⟩ = some (.slice A' mk.length n') := HR.out.2.2.2.2.cell 1
      have HF0 := Lib.hid hf0
      have HF1 := Lib.hid hf1
      rw [show (((1 : Nat) : Int)) = (1 : Int) from rfl]
      clear hwr hf0 hf1
      go_wp2_with fail
      clear c0
      obtain ⟨wo, hwo⟩ : ∃ wo : World, wo = wr := ⟨_, rfl⟩
      rw [← hwo] at HR ⊢
      clear hwo
      go_loopw [54] (fun i wr => ∃ k : Nat, k ≤ mk.length ∧ i = .int .i64 k ∧ Cr.Wr w pad mem (.slice A mo.length n) (.slice A' mk.length n') mo (mk.take k) wr ∧ AdjC.firstBad (AdjC.wrongI pad mem false) (mk.take k) = 0) (fun i _ => mk.length - (intOf i).toNat)
      case atStart => exact ⟨0, by omega, rfl, HR.out, rfl⟩
      case round =>
        obtain ⟨k, hk, rfl, hwr, hfb⟩ := hrel
        have HK := Lib.hid hwr
        have HFB := Lib.hid hfb
        clear hwr hfb
        by_cases hlt : k < mk.length
        · obtain ⟨b, off, rfl, hbl⟩ := HA'.out.spot (by rw [AdjC.flat_length]; omega)
          obtain ⟨x, hx⟩ : ∃ x, mk[k] = x := ⟨_, rfl⟩
          obtain ⟨x0, x1, x2, x3, x4, x5⟩ := Cr.six_cells (HA'.out.below HK.out.1) hlt hx
          have HTK := Lib.hid (show mk.take (k + 1) = mk.take k ++ [x] by rw [← hx]; exact List.take_succ_eq_append_getElem hlt)
          have HWI := Lib.hid (fun V2 V3 W => wrongIns_maker pad mem V2 V3 x W)
          simp only [Cr.insV] at HWI
          have hzr := HK.out.lt
          have y0 := fun o => (HK.out.alloc o).2.1.cell 0
          have y1 := fun o => (HK.out.alloc o).2.1.cell 1
          have y2 := fun o => (HK.out.alloc o).2.1.cell 2
          have y3 := fun o => (HK.out.alloc o).2.1.cell 3
          have HX := Lib.hid hx
          clear hx
          go_wp2_with fail
          ((with_reducible refine (HWI.out _ _ _).mono ?_); rintro e w5 ⟨rfl, hb5⟩)
          have HK5 := Lib.hid ((HK.out.alloc (.cells #[.int .i64 x.d, .int .i64 x.a, .int .i64 x.b, .int .i64 x.c, .int .i64 x.n, .int .i64 x.v] 42)).below hb5)
          have HX5 := Lib.hid ((Blk.new wr 42 #[.int .i64 x.d, .int .i64 x.a, .int .i64 x.b, .int .i64 x.c, .int .i64 x.n, .int .i64 x.v]).below hb5 (by simp))
          clear x0 x1 x2 x3 x4 x5 y0 y1 y2 y3 hb5
          by_cases hz : AdjC.wrongI pad mem false x = 0
          · rw [hz]
            have HFB2 := Lib.hid (show AdjC.firstBad (AdjC.wrongI pad mem false) (mk.take (k + 1)) = 0 by rw [HTK.out]; exact AdjC.firstBad_snoc HFB.out hz)
            have HZ := Lib.hid hz
            clear hz
            by_cases h3 : x.d = 3
            · obtain ⟨s, hs, hs16⟩ := AdjC.sem_range HZ.out (.inl h3)
              have z0 : w5.cell? ⟨wr.heap.size, 0, none⟩ = some (.int .i64 3) := by rw [← h3]; exact HX5.out.cell 0
              have z1 : w5.cell? ⟨wr.heap.size, 1, none⟩ = some (.int .i64 (s : Int)) := by rw [← hs]; exact HX5.out.cell 1
              have b0 := Cr.bools_cell (j := s * 2 + 1) HK5.out.2.2.1 (by rw [AdjC.tick_length]; omega)
              have f0 := HK5.out.2.2.1.frozen (s * 2 + 1)
              have HS := Lib.hid (HK5.out.post (j := s * 2 + 1) (p' := mo) (q' := mk.take (k + 1)) (by rw [HTK.out]; exact AdjC.tick_set1 h3 hs hs16) (by rw [HTK.out]; exact AdjC.tick_same1 (by rw [h3]; decide)))
              clear h3 hs
              go_wp2_with fail
              go_roundw
              case rel => exact ⟨k + 1, by omega, by go_num, HS.out, HFB2.out⟩
              case measure => simp [intOf]; omega
            · by_cases h4 : x.d = 4
              · obtain ⟨s, hs, hs16⟩ := AdjC.sem_range HZ.out (.inr h4)
                have z0 : w5.cell? ⟨wr.heap.size, 0, none⟩ = some (.int .i64 4) := by rw [← h4]; exact HX5.out.cell 0
                have z1 : w5.cell? ⟨wr.heap.size, 1, none⟩ = some (.int .i64 (s : Int)) := by rw [← hs]; exact HX5.out.cell 1
                have b0 := Cr.bools_cell (j := s * 2 + 1) HK5.out.2.2.2.1 (by rw [AdjC.tick_length]; omega)
                have f0 := HK5.out.2.2.2.1.frozen (s * 2 + 1)
                have HS := Lib.hid (HK5.out.wait (j := s * 2 + 1) (p' := mo) (q' := mk.take (k + 1)) (by rw [HTK.out]; exact AdjC.tick_same1 (by rw [h4]; decide)) (by rw [HTK.out]; exact AdjC.tick_set1 h4 hs hs16))
                clear h4 hs h3
                go_wp2_with fail
                go_roundw
                case rel => exact ⟨k + 1, by omega, by go_num, HS.out, HFB2.out⟩
                case measure => simp [intOf]; omega
              · have z0 := HX5.out.cell 0
                have t3 : (x.d == 3) = false := by simpa using h3
                have t4 : (x.d == 4) = false := by simpa using h4
                have HS := Lib.hid (HK5.out.none_ (p' := mo) (q' := mk.take (k + 1)) (by rw [HTK.out]; exact AdjC.tick_same1 h3) (by rw [HTK.out]; exact AdjC.tick_same1 h4))
                clear h3 h4
                go_wp2_with fail
                go_roundw
                case rel => exact ⟨k + 1, by omega, by go_num, HS.out, HFB2.out⟩
                case measure => simp [intOf]; omega
          · have HW := Lib.hid (show AdjC.wrong ⟨pad, mem, mo, mk⟩ = AdjC.wrongI pad mem false x by
              have hb := AdjC.firstBad_at hlt HFB.out (by rw [HX.out]; exact hz)
              rw [HX.out] at hb
              rw [← hb]
              exact AdjC.wrong_maker hr1 hr2 (HF0.out (by omega)) (by rw [hb]; exact hz))
            have hq : (AdjC.wrongI pad mem false x != 0) = true := by simpa using hz
            clear hz
            go_wp2_with fail
            go_ret
            exact ⟨ret_int HW.out.symm, HK5.out.1⟩
        · have hkk : k = mk.length := by omega
          subst hkk
          have HFB2 := Lib.hid (show AdjC.firstBad (AdjC.wrongI pad mem false) mk = 0 by have h := HFB.out; rwa [List.take_of_length_le (Nat.le_refl _)] at h)
          have HK2 := Lib.hid (show Cr.Wr w pad mem (.slice A mo.length n) (.slice A' mk.length n') mo mk wr by have h := HK.out; rwa [List.take_of_length_le (Nat.le_refl _)] at h)
          go_wp2_with fail
          go_roundw
          case rel => exact ⟨2, by omega, rfl, HK2.out, fun _ => HF0.out (by omega), fun _ => HFB2.out⟩
          case measure => simp [intOf]
    · have HR := Lib.hid (show Cr.Wr w pad mem (.slice A mo.length n) (.slice A' mk.length n') mo mk wr from hwr)
      have HE := Lib.hid (AdjC.wrong_last (c := ⟨pad, mem, mo, mk⟩) hr1 hr2 (hf0 (by omega)) (hf1 (by omega)))
      rw [show (((2 : Nat) : Int)) = (2 : Int) from rfl]
      clear hwr hf0 hf1
      go_wp2_with fail
      obtain ⟨wo, hwo⟩ : ∃ wo : World, wo = wr := ⟨_, rfl⟩
      rw [← hwo] at HR ⊢
      clear hwo
      go_loopw [83] (fun i wr => ∃ k : Nat, k ≤ 16 ∧ i = .int .i64 k ∧ Cr.Wr w pad mem (.slice A mo.length n) (.slice A' mk.length n') mo mk wr ∧ ∀ j : Nat, j < k → AdjC.tangled ⟨pad, mem, mo, mk⟩ (j : Int) = false) (fun i _ => 16 - (intOf i).toNat)
      case atStart => exact ⟨0, by omega, rfl, HR.out, fun j hj => by omega⟩
      case round =>
        obtain ⟨k, hk, rfl, hwr, hno⟩ := hrel
        have HK := Lib.hid hwr
        have HNO := Lib.hid hno
        clear hwr hno
        by_cases hlt : k < 16
        · have hT : AdjC.tangled ⟨pad, mem, mo, mk⟩ (k : Int) = (AdjC.uses mo 3 k && AdjC.uses mk 3 k || (AdjC.uses mo 4 k && AdjC.uses mk 4 k || (AdjC.uses mo 3 k && AdjC.uses mo 4 k || AdjC.uses mk 3 k && AdjC.uses mk 4 k))) := rfl
          obtain ⟨tg, htg⟩ : ∃ tg, AdjC.tangled ⟨pad, mem, mo, mk⟩ (k : Int) = tg := ⟨_, rfl⟩
          rw [htg] at hT
          have HTG := Lib.hid htg
          clear htg
          have P0 := Cr.bools_cell (j := k * 2) HK.out.2.2.1 (by rw [AdjC.tick_length]; omega)
          have P1 := Cr.bools_cell (j := k * 2 + 1) HK.out.2.2.1 (by rw [AdjC.tick_length]; omega)
          have W0 := Cr.bools_cell (j := k * 2) HK.out.2.2.2.1 (by rw [AdjC.tick_length]; omega)
          have W1 := Cr.bools_cell (j := k * 2 + 1) HK.out.2.2.2.1 (by rw [AdjC.tick_length]; omega)
          rw [AdjC.tick_even hlt] at P0 W0
          rw [AdjC.tick_odd hlt] at P1 W1
          generalize AdjC.uses mo 3 (k : Int) = p0 at hT P0
          generalize AdjC.uses mk 3 (k : Int) = p1 at hT P1
          generalize AdjC.uses mo 4 (k : Int) = w0 at hT W0
          generalize AdjC.uses mk 4 (k : Int) = w1 at hT W1
          have HT := Lib.hid hT
          clear hT
          have hzr := HK.out.lt
          go_upto_region 25 with (fail)
          go_cut [11, 12] (fun s11 s12 wx => ∃ g h : Nat, s11 = .pointer (some ⟨g, 0, none⟩) ∧ s12 = .pointer (some ⟨h, 0, none⟩) ∧ Cr.Two2 g h p0 p1 w0 w1 wx ∧ Cr.Wr w pad mem (.slice A mo.length n) (.slice A' mk.length n') mo mk wx)
          case first =>
            refine wp_region_T (fun w' => (w'.cell? ⟨w.heap.size + 1, k * 2, none⟩ = some (.bool p0) ∧ w'.cell? ⟨w.heap.size + 1, k * 2 + 1, none⟩ = some (.bool p1)) ∧ w'.cell? ⟨w.heap.size + 1 + 1, k * 2, none⟩ = some (.bool w0) ∧ w'.cell? ⟨w.heap.size + 1 + 1, k * 2 + 1, none⟩ = some (.bool w1)) 9 (fun _ => True) 9 10 rfl (by kernel_rfl) ⟨⟨⟨P0, P1⟩, W0, W1⟩, trivial⟩ (fun hHeld => ?_)
            simp only [List.replicate_succ, List.replicate_zero]
            refine wpT_take 0 86 (v := ?_) hHeld.1 hHeld.2 rfl rfl (by kernel_rfl) (fun _ _ _ h => h) rfl ?_ ?_
            rotate_left
            · (intro w hSw; (try dsimp only at hSw); go_simp; try with_reducible rfl)
            try simp only [Act.put, List.setIfInBounds_toArray, List.set_cons_zero, List.set_cons_succ]
            refine wpT_take 1 87 (v := ?_) hHeld.1 hHeld.2 rfl rfl (by kernel_rfl) (fun _ _ _ h => h) rfl ?_ ?_
            rotate_left
            · (intro w hSw; (try dsimp only at hSw); go_simp; try with_reducible rfl)
            try simp only [Act.put, List.setIfInBounds_toArray, List.set_cons_zero, List.set_cons_succ]
            refine wpT_take 2 88 (v := ?_) hHeld.1 hHeld.2 rfl rfl (by kernel_rfl) (fun _ _ _ h => h) rfl ?_ ?_
            rotate_left
            · (intro w hSw; (try dsimp only at hSw); go_simp; try with_reducible rfl)
            try simp only [Act.put, List.setIfInBounds_toArray, List.set_cons_zero, List.set_cons_succ]
            refine wpT_take 3 89 (v := ?_) hHeld.1 hHeld.2 rfl rfl (by kernel_rfl) (fun _ _ _ h => h) rfl ?_ ?_
            rotate_left
            · (intro w hSw; (try dsimp only at hSw); go_simp; try with_reducible rfl)
            try simp only [Act.put, List.setIfInBounds_toArray, List.set_cons_zero, List.set_cons_succ]
            refine wpT_take 4 90 (v := ?_) hHeld.1 hHeld.2 rfl rfl (by kernel_rfl) (fun _ _ _ h => h) rfl ?_ ?_
            rotate_left
            · (intro w hSw; (try dsimp only at hSw); go_simp; try with_reducible rfl)
            try simp only [Act.put, List.setIfInBounds_toArray, List.set_cons_zero, List.set_cons_succ]
            refine wpT_take 5 91 (v := ?_) hHeld.1 hHeld.2 rfl rfl (by kernel_rfl) (fun _ _ _ h => h) rfl ?_ ?_
            rotate_left
            · (intro w hSw; (try dsimp only at hSw); go_simp; try with_reducible rfl)
            try simp only [Act.put, List.setIfInBounds_toArray, List.set_cons_zero, List.set_cons_succ]
            have HKd := Lib.hid (show Cr.Wr w pad mem (.slice A mo.length n) (.slice A' mk.length n') mo mk wr.drew from ⟨HK.out.1.drew, HK.out.2.1.drew, HK.out.2.2.1.drew, HK.out.2.2.2.1.drew, HK.out.2.2.2.2.drew⟩)
            have hzd : wr.drew.heap.size = wr.heap.size := rfl
            generalize wr.drew = W at HKd hHeld hzd ⊢
            have hzW : w.heap.size + 1 + 1 + 1 < W.heap.size := by omega
            clear P0 P1 W0 W1 hzd
            refine wpT_two 6 7 (by kernel_rfl) (stepT_early rfl rfl (fun K hK => ?_)) (stepT_early rfl rfl (fun K hK => ?_))
            · go_simp
              refine hK.out _ _ ⟨Cr.marks_alloc hHeld.1 (by omega) _, trivial⟩ (fun hHeld2 => ?_)
              clear hK K hHeld
              have hHeld := hHeld2
              clear hHeld2
              try simp only [List.setIfInBounds_toArray, List.set_cons_zero, List.set_cons_succ]
              refine wpT_one 7 (by kernel_rfl) (stepT_early rfl rfl (fun K hK => ?_))
              go_simp
              refine hK.out _ _ ⟨Cr.marks_alloc hHeld.1 (by simp; omega) _, trivial⟩ (fun hHeld2 => ?_)
              clear hK K hHeld
              have hHeld := hHeld2
              clear hHeld2
              try simp only [List.setIfInBounds_toArray, List.set_cons_zero, List.set_cons_succ]
              have HG := Lib.hid ((Blk.new W 57 #[.bool false, .bool false]).alloc (.cells #[.bool false, .bool false] 57))
              have HH := Lib.hid (show Blk ((W.alloc (.cells #[.bool false, .bool false] 57)).alloc (.cells #[.bool false, .bool false] 57)) (W.heap.size + 1) 57 #[.bool false, .bool false] from by
                have h := Blk.new (W.alloc (.cells #[.bool false, .bool false] 57)) 57 #[.bool false, .bool false]
                rwa [World.size_alloc] at h)
              have HKe := Lib.hid ((HKd.out.alloc (.cells #[.bool false, .bool false] 57)).alloc (.cells #[.bool false, .bool false] 57))
              generalize (W.alloc (.cells #[.bool false, .bool false] 57)).alloc (.cells #[.bool false, .bool false] 57) = W2 at HG HH HKe hHeld ⊢
              have q0 := HG.out.cell 0
              have q1 := HG.out.cell 1
              have f0 := HG.out.frozen 0
              have f1 := HG.out.frozen 1
              refine wpT_one 8 (by kernel_rfl) (stepT_early rfl rfl (fun K hK => ?_))
              go_simp
              refine hK.out _ _ ⟨Cr.marks_set hHeld.1 (g := W.heap.size) (by omega) (by omega) _ _, trivial⟩ (fun hHeld2 => ?_)
              clear hK K hHeld hHeld2 q0 q1 f0 f1
              try simp only [List.setIfInBounds_toArray, List.set_cons_zero, List.set_cons_succ]
              have HKf := Lib.hid (HKe.out.set2 (g := W.heap.size) (by omega) (.bool p0) (.bool p1))
              have HGf := Lib.hid (((HG.out.set_ 0 (.bool p0)).set_ 1 (.bool p1)))
              have HHf := Lib.hid ((HH.out.far (p := ⟨W.heap.size, 0, none⟩) (by simp) (.bool p0)).far (p := ⟨W.heap.size, 1, none⟩) (by simp) (.bool p1))
              generalize (W2.setCell ⟨W.heap.size, 0, none⟩ (.bool p0)).setCell ⟨W.heap.size, 1, none⟩ (.bool p1) = W3 at HKf HGf HHf ⊢
              have q0 := HHf.out.cell 0
              have q1 := HHf.out.cell 1
              have f0 := HHf.out.frozen 0
              have f1 := HHf.out.frozen 1
              refine wpT_tail [_] 9 [] rfl (by kernel_rfl) ?_
              go_wp2_with fail
              go_meet
              case rel => exact ⟨W.heap.size, W.heap.size + 1, rfl, rfl, ⟨by omega, (HGf.out.far (p := ⟨W.heap.size + 1, 0, none⟩) (by simp) _).far (p := ⟨W.heap.size + 1, 1, none⟩) (by simp) _, ((HHf.out.set_ 0 (.bool w0)).set_ 1 (.bool w1))⟩, HKf.out.set2 (g := W.heap.size + 1) (by omega) _ _⟩
            · go_simp
              refine hK.out _ _ ⟨Cr.marks_alloc hHeld.1 (by omega) _, trivial⟩ (fun hHeld2 => ?_)
              clear hK K hHeld
              have hHeld := hHeld2
              clear hHeld2
              try simp only [List.setIfInBounds_toArray, List.set_cons_zero, List.set_cons_succ]
              refine wpT_one 6 (by kernel_rfl) (stepT_early rfl rfl (fun K hK => ?_))
              go_simp
              refine hK.out _ _ ⟨Cr.marks_alloc hHeld.1 (by simp; omega) _, trivial⟩ (fun hHeld2 => ?_)
              clear hK K hHeld
              have hHeld := hHeld2
              clear hHeld2
              try simp only [List.setIfInBounds_toArray, List.set_cons_zero, List.set_cons_succ]
              have HG := Lib.hid ((Blk.new W 57 #[.bool false, .bool false]).alloc (.cells #[.bool false, .bool false] 57))
              have HH := Lib.hid (show Blk ((W.alloc (.cells #[.bool false, .bool false] 57)).alloc (.cells #[.bool false, .bool false] 57)) (W.heap.size + 1) 57 #[.bool false, .bool false] from by
                have h := Blk.new (W.alloc (.cells #[.bool false, .bool false] 57)) 57 #[.bool false, .bool false]
                rwa [World.size_alloc] at h)
              have HKe := Lib.hid ((HKd.out.alloc (.cells #[.bool false, .bool false] 57)).alloc (.cells #[.bool false, .bool false] 57))
              generalize (W.alloc (.cells #[.bool false, .bool false] 57)).alloc (.cells #[.bool false, .bool false] 57) = W2 at HG HH HKe hHeld ⊢
              have q0 := HH.out.cell 0
              have q1 := HH.out.cell 1
              have f0 := HH.out.frozen 0
              have f1 := HH.out.frozen 1
              refine wpT_one 8 (by kernel_rfl) (stepT_early rfl rfl (fun K hK => ?_))
              go_simp
              refine hK.out _ _ ⟨Cr.marks_set hHeld.1 (g := W.heap.size + 1) (by omega) (by omega) _ _, trivial⟩ (fun hHeld2 => ?_)
              clear hK K hHeld hHeld2 q0 q1 f0 f1
              try simp only [List.setIfInBounds_toArray, List.set_cons_zero, List.set_cons_succ]
              have HKf := Lib.hid (HKe.out.set2 (g := W.heap.size + 1) (by omega) (.bool p0) (.bool p1))
              have HGf := Lib.hid (((HH.out.set_ 0 (.bool p0)).set_ 1 (.bool p1)))
              have HHf := Lib.hid ((HG.out.far (p := ⟨W.heap.size + 1, 0, none⟩) (by simp) (.bool p0)).far (p := ⟨W.heap.size + 1, 1, none⟩) (by simp) (.bool p1))
              generalize (W2.setCell ⟨W.heap.size + 1, 0, none⟩ (.bool p0)).setCell ⟨W.heap.size + 1, 1, none⟩ (.bool p1) = W3 at HKf HGf HHf ⊢
              have q0 := HHf.out.cell 0
              have q1 := HHf.out.cell 1
              have f0 := HHf.out.frozen 0
              have f1 := HHf.out.frozen 1
              refine wpT_tail [_] 9 [] rfl (by kernel_rfl) ?_
              go_wp2_with fail
              go_meet
              case rel => exact ⟨W.heap.size + 1, W.heap.size, rfl, rfl, ⟨by omega, (HGf.out.far (p := ⟨W.heap.size, 0, none⟩) (by simp) _).far (p := ⟨W.heap.size, 1, none⟩) (by simp) _, ((HHf.out.set_ 0 (.bool w0)).set_ 1 (.bool w1))⟩, HKf.out.set2 (g := W.heap.size) (by omega) _ _⟩
          case rest =>
            obtain ⟨g, h, rfl, rfl, ⟨hgh, hg, hh⟩, hw⟩ := hcut
            have HK2 := Lib.hid hw
            have a0 := hg.cell 0
            have a1 := hg.cell 1
            have a2 := hh.cell 0
            have a3 := hh.cell 1
            have HT2 := HT.out
            clear hg hh hw HK HT P0 P1 W0 W1
            by_cases ht : tg = true
            · have HE2 := Lib.hid (show AdjC.wrong ⟨pad, mem, mo, mk⟩ = 11 by rw [HE.out, if_pos (AdjC.tangled_any hlt (by rw [HTG.out]; exact ht))])
              rw [ht] at HT2
              clear ht
              cases p0 <;> cases p1 <;> cases w0 <;> cases w1 <;> first | (exact absurd HT2 (by decide)) | skip
              all_goals
                clear HT2
                go_wp2_with fail
                go_ret
                exact ⟨ret_int HE2.out.symm, HK2.out.1⟩
            · have ht0 : tg = false := by simpa using ht
              have HNO2 := Lib.hid (show ∀ j : Nat, j < k + 1 → AdjC.tangled ⟨pad, mem, mo, mk⟩ (j : Int) = false from fun j hj => by
                by_cases e : j = k
                · subst e; rw [HTG.out]; exact ht0
                · exact HNO.out j (by omega))
              rw [ht0] at HT2
              clear ht ht0
              cases p0 <;> cases p1 <;> cases w0 <;> cases w1 <;> first | (exact absurd HT2 (by decide)) | skip
              all_goals
                clear HT2
                go_wp2_with fail
                go_roundw
                case rel => exact ⟨k + 1, by omega, by go_num, HK2.out, HNO2.out⟩
                case measure => simp [intOf]; omega
        · have hkk : k = 16 := by omega
          subst hkk
          have HE2 := Lib.hid (show AdjC.wrong ⟨pad, mem, mo, mk⟩ = 0 by rw [HE.out, if_neg (by rw [AdjC.tangled_none HNO.out]; decide)])
          go_wp2_with fail
          go_ret
          exact ⟨ret_int HE2.out.symm, HK.out.1⟩
end Go.Proofs.Ytlnfmipcbhhkhaa
