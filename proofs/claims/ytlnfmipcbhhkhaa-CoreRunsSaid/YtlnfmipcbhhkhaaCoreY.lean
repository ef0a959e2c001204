/-
  The walk of the reference's Run. Conditions: the code, memory and picks can be read.
-/
import Derived.Test.YtlnfmipcbhhkhaaCoreW
import Derived.Test.YtlnfmipcbhhkhaaCoreG
namespace Go.Proofs.Ytlnfmipcbhhkhaa
set_option linter.unusedVariables false
open Go.RowKit Adj

namespace Cr
theorem reads_ints {w : World} {B : Nat} {A : Option Addr} {l : List Int} (h : IntsAt w B A l) : Adj.Reads w B 1 A l.length (ints l) :=
  ⟨by rw [ints_length, Nat.mul_one], fun hn => by
    obtain ⟨b, off, e, hb, hc⟩ := h (by rw [ints_length]; exact hn)
    exact ⟨⟨b, off, none⟩, e, hb, fun j u hu => by rw [Addr.add_lit]; exact hc j u hu⟩⟩
/-- The reference's machine at work. -/
structure Rs (w : World) (gs gp gm : Nat) (Ap Am : Option Addr) (s : AdjC.St) (wr : World) : Prop where
  bel : Below w.heap.size w wr
  apart : w.heap.size ≤ gs ∧ (0 < s.pad.length → w.heap.size ≤ gp) ∧ (0 < s.mem.length → w.heap.size ≤ gm) ∧ gp ≠ gm ∧ (0 < s.pad.length → gs ≠ gp) ∧ (0 < s.mem.length → gs ≠ gm)
  pad : Mm wr Ap gp s.pad
  mem : Mm wr Am gm s.mem
  sems : Blk wr gs 47 (ints s.sems).toArray
section
variable {w wr wr' : World} {gs gp gm : Nat} {Ap Am : Option Addr} {s : AdjC.St}
theorem Rs.below (h : Rs w gs gp gm Ap Am s wr) (hb : Below wr.heap.size wr wr') : Rs w gs gp gm Ap Am s wr' := ⟨h.bel.trans (hb.mono h.bel.size), h.apart, h.pad.below hb, h.mem.below hb, h.sems.below hb h.sems.lt⟩
theorem Rs.sem_at (h : Rs w gs gp gm Ap Am s wr) (hl : s.sems.length = 16) (j : Nat) (hj : j < 16) : wr.cell? ⟨gs, j, none⟩ = some (.int .i64 (AdjC.at_ s.sems (j : Int))) := by
  rw [h.sems.cell]
  unfold ints AdjC.at_
  rw [Int.toNat_natCast, List.getD_eq_getElem?_getD, List.getElem?_eq_getElem (by omega)]
  simp [show j < s.sems.length by omega]
theorem Rs.set_sem (h : Rs w gs gp gm Ap Am s wr) (hl : s.sems.length = 16) {j : Nat} (hj : j < 16) (v : Int) : Rs w gs gp gm Ap Am { s with sems := AdjC.put s.sems (j : Int) v } (wr.setCell ⟨gs, j, none⟩ (.int .i64 v)) := by
  refine ⟨h.bel.setCell (p := ⟨gs, j, none⟩) h.apart.1 _, h.apart, ?_, ?_, ?_⟩
  · exact fun hp => (h.pad.far (p := ⟨gs, j, none⟩) (Ne.symm (h.apart.2.2.2.2.1 hp)) _) hp
  · exact fun hp => (h.mem.far (p := ⟨gs, j, none⟩) (Ne.symm (h.apart.2.2.2.2.2 hp)) _) hp
  · have h2 := h.sems.set_ j (.int .i64 v)
    rw [ints_set] at h2
    unfold AdjC.put
    rw [Int.toNat_natCast]; exact h2
theorem Rs.done (h : Rs w gs gp gm Ap Am s wr) {s2 : AdjC.St} (h1 : s2.pad.length = s.pad.length) (h2 : s2.mem.length = s.mem.length) (h3 : s2.sems = s.sems) (hd : Dm wr gp gm Ap Am s2.pad s2.mem wr') : Rs w gs gp gm Ap Am s2 wr' := by
  refine ⟨h.bel.trans (hd.frm.from h.bel.size (fun hp => h.apart.2.1 (by omega)) (fun hp => h.apart.2.2.1 (by omega))), ?_, hd.pad, hd.mem, ?_⟩
  · rw [h1, h2]; exact h.apart
  · rw [h3]; exact hd.frm.blk h.sems (fun hp => h.apart.2.2.2.2.1 (by omega)) (fun hp => h.apart.2.2.2.2.2 (by omega))
theorem Rs.start {w wc : World} {c : AdjC.Code} {mem : List Int} {pn gp gm : Nat} {Ap Am : Option Addr} (hB : Below w.heap.size w wc) (hc : c.pad = (pn : Int)) (hp : Mm wc Ap gp (List.replicate pn 0)) (hm : Mm wc Am gm mem) (hne : gp ≠ gm) (h1 : w.heap.size ≤ gp ∧ gp < wc.heap.size) (h2 : 0 < mem.length → w.heap.size ≤ gm ∧ gm < wc.heap.size) :
    Rs w wc.heap.size gp gm Ap Am (AdjC.start c mem) (wc.alloc (.cells #[.int .i64 0, .int .i64 0, .int .i64 0, .int .i64 0, .int .i64 0, .int .i64 0, .int .i64 0, .int .i64 0, .int .i64 0, .int .i64 0, .int .i64 0, .int .i64 0, .int .i64 0, .int .i64 0, .int .i64 0, .int .i64 0] 47)) := by
  have hst : AdjC.start c mem = ⟨List.replicate pn 0, mem, List.replicate 16 0, 0, 0⟩ := by unfold AdjC.start; rw [hc, Int.toNat_natCast]
  rw [hst]
  exact ⟨hB.alloc hB.size _, ⟨hB.size, fun _ => h1.1, fun h => (h2 h).1, hne, fun _ => by omega, fun h => by have := h2 h; omega⟩, hp.alloc _, hm.alloc _, Blk.new wc _ _⟩
end
/-- Which engine goes on was told. -/
def Chose (c : AdjC.Code) (mem picks : List Int) (s : AdjC.St) (mv : Bool) (t : Nat) : Prop :=
  (mv = true → AdjC.canA c s = true ∧ AdjC.Comes c mem picks (AdjC.stepA c s, t)) ∧ (mv = false → AdjC.canB c s = true ∧ AdjC.Comes c mem picks (AdjC.stepB c s, t))
theorem six_alloc {b q : Nat} {v0 v1 v2 v3 v4 v5 : Value} {W : World} (h : W.cell? ⟨b, q, none⟩ = some v0 ∧ W.cell? ⟨b, q + 1, none⟩ = some v1 ∧ W.cell? ⟨b, q + 2, none⟩ = some v2 ∧ W.cell? ⟨b, q + 3, none⟩ = some v3 ∧ W.cell? ⟨b, q + 4, none⟩ = some v4 ∧ W.cell? ⟨b, q + 5, none⟩ = some v5) (hs : b < W.heap.size) (o : Obj) :
    (W.alloc o).cell? ⟨b, q, none⟩ = some v0 ∧ (W.alloc o).cell? ⟨b, q + 1, none⟩ = some v1 ∧ (W.alloc o).cell? ⟨b, q + 2, none⟩ = some v2 ∧ (W.alloc o).cell? ⟨b, q + 3, none⟩ = some v3 ∧ (W.alloc o).cell? ⟨b, q + 4, none⟩ = some v4 ∧ (W.alloc o).cell? ⟨b, q + 5, none⟩ = some v5 := by
  have e : ∀ i, (W.alloc o).cell? ⟨b, i, none⟩ = W.cell? ⟨b, i, none⟩ := fun i => World.cell?_alloc_lt _ _ _ hs
  obtain ⟨h0, h1, h2, h3, h4, h5⟩ := h
  exact ⟨(e _).trans h0, (e _).trans h1, (e _).trans h2, (e _).trans h3, (e _).trans h4, (e _).trans h5⟩
/-- What is left of an engine's code, in a slice. -/
def Tail (w : World) (L : List AdjC.I) (v : Value) : Prop := ∃ A cap, v = .slice A L.length cap ∧ IntsAt w w.heap.size A (AdjC.flat L) ∧ L.length ≤ cap ∧ cap ≤ 9223372036854775807
theorem flat_cons (x : AdjC.I) (L : List AdjC.I) : AdjC.flat (x :: L) = AdjC.six x ++ AdjC.flat L := rfl
/-- A slice with its first instruction off. -/
theorem tail_next {w : World} {x : AdjC.I} {L : List AdjC.I} {b off cap : Nat} (h : IntsAt w w.heap.size (some ⟨b, off, none⟩) (AdjC.flat (x :: L))) (hc : (x :: L).length ≤ cap) (hm : cap ≤ 9223372036854775807) :
    (cap = 1 → Tail w L (.slice (some ⟨b, off, none⟩) L.length 0)) ∧ (cap ≠ 1 → Tail w L (.slice (some ⟨b, off + 6, none⟩) L.length (cap - 1))) := by
  rw [List.length_cons] at hc
  constructor
  · intro h1
    have h0 : L = [] := List.eq_nil_of_length_eq_zero (by omega)
    subst h0
    exact ⟨_, _, rfl, fun hp => by simp [AdjC.flat, ints] at hp, by simp, by omega⟩
  · intro h1
    refine ⟨_, _, rfl, ?_, by omega, by omega⟩
    have h2 := RowAt.drop (k := 6) h
    rw [flat_cons] at h2
    have e : (ints (AdjC.six x ++ AdjC.flat L)).drop 6 = ints (AdjC.flat L) := by
      unfold ints
      rw [List.map_append, List.drop_append_of_le_length (by simp [AdjC.six]), List.drop_eq_nil_of_le (by simp [AdjC.six]), List.nil_append]
    rw [e] at h2
    exact h2
end Cr
namespace Cr
/-- An instruction has been taken: what lies now. -/
structure Pk (w w1 : World) (c : AdjC.Code) (mem picks : List Int) (gk t gs gp gm xb : Nat) (Ap Am : Option Addr) (x : AdjC.I) (s1 : AdjC.St) (va vb : Value) (wx : World) : Prop where
  right : ∃ mv, AdjC.wrongI c.pad c.mem mv x = 0
  comes : AdjC.Comes c mem picks (AdjC.doI x s1, t)
  less : AdjC.left c (AdjC.doI x s1) < gk
  sems : s1.sems.length = 16
  range : ∀ v ∈ s1.sems, 0 ≤ v ∧ v ≤ 524288
  pad : (s1.pad.length : Int) = c.pad
  mem : (s1.mem.length : Int) = c.mem
  ta : Tail w (c.mover.drop s1.i) va
  tb : Tail w (c.maker.drop s1.j) vb
  rs : Rs w1 gs gp gm Ap Am s1 wx
  ins : Blk wx xb 42 #[.int .i64 x.d, .int .i64 x.a, .int .i64 x.b, .int .i64 x.c, .int .i64 x.n, .int .i64 x.v]
  apart : xb ≠ gs ∧ (0 < s1.pad.length → xb ≠ gp) ∧ (0 < s1.mem.length → xb ≠ gm)
theorem sems_same {x : AdjC.I} {s : AdjC.St} (h : ¬ (x.d = 3 ∨ x.d = 4)) : (AdjC.doI x s).sems = s.sems := by
  unfold AdjC.doI
  repeat' split
  all_goals first | rfl | (exfalso; omega)
theorem pk_mover {w w1 : World} {c : AdjC.Code} {mem picks : List Int} {gk t gs gp gm xb : Nat} {Ap Am : Option Addr} {x : AdjC.I} {s : AdjC.St} {va vb : Value} {wx : World} (hw : AdjC.wrong c = 0) (ho : AdjC.Ok c s) (hlt : s.i < c.mover.length) (hx : c.mover[s.i] = x) (hc : AdjC.canA c s = true)
    (hco : AdjC.Comes c mem picks (AdjC.stepA c s, t)) (hk : gk = AdjC.left c s) (ta : Tail w (c.mover.drop (s.i + 1)) va) (tb : Tail w (c.maker.drop s.j) vb) (rs : Rs w1 gs gp gm Ap Am s wx)
    (ins : Blk wx xb 42 #[.int .i64 x.d, .int .i64 x.a, .int .i64 x.b, .int .i64 x.c, .int .i64 x.n, .int .i64 x.v]) (ap : xb ≠ gs ∧ (0 < s.pad.length → xb ≠ gp) ∧ (0 < s.mem.length → xb ≠ gm)) :
    Pk w w1 c mem picks gk t gs gp gm xb Ap Am x { s with i := s.i + 1 } va vb wx := by
  have hst : AdjC.stepA c s = AdjC.doI x { s with i := s.i + 1 } := by rw [AdjC.stepA_at hlt, hx]; exact doI_i x s (s.i + 1)
  have hl := AdjC.left_stepA hc
  have h2 := ho.i
  have h3 := ho.j
  have h4 := (AdjC.wrong_zero hw).2.1
  exact ⟨⟨true, by rw [← hx]; exact (AdjC.wrong_zero hw).2.2.1 _ (List.getElem_mem hlt)⟩, by rw [← hst]; exact hco, by rw [← hst]; omega, ho.sems, fun v hv => (by have h1 := ho.range v hv; omega), ho.pad, ho.mem, ta, tb, ⟨rs.bel, rs.apart, rs.pad, rs.mem, rs.sems⟩, ins, ap⟩
theorem pk_maker {w w1 : World} {c : AdjC.Code} {mem picks : List Int} {gk t gs gp gm xb : Nat} {Ap Am : Option Addr} {x : AdjC.I} {s : AdjC.St} {va vb : Value} {wx : World} (hw : AdjC.wrong c = 0) (ho : AdjC.Ok c s) (hlt : s.j < c.maker.length) (hx : c.maker[s.j] = x) (hc : AdjC.canB c s = true)
    (hco : AdjC.Comes c mem picks (AdjC.stepB c s, t)) (hk : gk = AdjC.left c s) (ta : Tail w (c.mover.drop s.i) va) (tb : Tail w (c.maker.drop (s.j + 1)) vb) (rs : Rs w1 gs gp gm Ap Am s wx)
    (ins : Blk wx xb 42 #[.int .i64 x.d, .int .i64 x.a, .int .i64 x.b, .int .i64 x.c, .int .i64 x.n, .int .i64 x.v]) (ap : xb ≠ gs ∧ (0 < s.pad.length → xb ≠ gp) ∧ (0 < s.mem.length → xb ≠ gm)) :
    Pk w w1 c mem picks gk t gs gp gm xb Ap Am x { s with j := s.j + 1 } va vb wx := by
  have hst : AdjC.stepB c s = AdjC.doI x { s with j := s.j + 1 } := by rw [AdjC.stepB_at hlt, hx]; exact doI_j x s (s.j + 1)
  have hl := AdjC.left_stepB hc
  have h2 := ho.i
  have h3 := ho.j
  have h4 := (AdjC.wrong_zero hw).2.1
  exact ⟨⟨false, by rw [← hx]; exact (AdjC.wrong_zero hw).2.2.2.1 _ (List.getElem_mem hlt)⟩, by rw [← hst]; exact hco, by rw [← hst]; omega, ho.sems, fun v hv => (by have h1 := ho.range v hv; omega), ho.pad, ho.mem, ta, tb, ⟨rs.bel, rs.apart, rs.pad, rs.mem, rs.sems⟩, ins, ap⟩
end Cr
set_option maxRecDepth 100000 in
set_option maxHeartbeats 8000000 in
theorem refRun_any (val : Value) (c : AdjC.Code) (MA PA : Option Addr) (mcap pcap : Nat) (mem picks : List Int) (w : World) (h : Cr.CodeAt w w.heap.size val c) (hm : IntsAt w w.heap.size MA mem) (hp : IntsAt w w.heap.size PA picks)
    (hml : mem.length ≤ 9223372036854775807) (hpl : picks.length ≤ 9223372036854775807) :
    Calls Try.prog 9 #[val, .slice MA mem.length mcap, .slice PA picks.length pcap] w (Cr.RunV w (AdjC.run c mem picks)) := by
  have HT := Lib.hid (fun W (hb : Below w.heap.size w W) => refWrong_any val c W ((h.below hb).up hb.size))
  have HC := Lib.hid h
  obtain ⟨A, n, A', n', rfl, hA, hA', m1, m2, m1', m2'⟩ := h
  have HA := Lib.hid hA
  have HA' := Lib.hid hA'
  have HM := Lib.hid hm
  have HP := Lib.hid hp
  have HB0 := Lib.hid ((Below.refl w.heap.size w).alloc (Nat.le_refl _) (.cells #[.int .i64 c.pad, .int .i64 c.mem, .slice A c.mover.length n, .slice A' c.maker.length n'] 24))
  have HX0 := Lib.hid (Blk.new w 24 #[.int .i64 c.pad, .int .i64 c.mem, .slice A c.mover.length n, .slice A' c.maker.length n'])
  clear hA hA' hm hp
  go_enter Try.func9, Try.ntmps9
  go_wp2_with fail
  ((with_reducible refine (HT.out _ HB0.out).mono ?_); rintro e w1 ⟨rfl, hb1⟩)
  have HB1 := Lib.hid (HB0.out.trans (hb1.mono HB0.out.size))
  have HX1 := Lib.hid (HX0.out.below hb1 HX0.out.lt)
  have hlt1 : w.heap.size < w1.heap.size := HX1.out.lt
  clear hb1 HT
  by_cases hz : AdjC.wrong c = 0
  rotate_left
  · have HW := Lib.hid (AdjC.run_wrong (mem := mem) (picks := picks) hz)
    have hzn : (AdjC.wrong c != 0) = true := by simpa using hz
    obtain ⟨wr, hwr⟩ : ∃ wr, AdjC.wrong c = wr := ⟨_, rfl⟩
    rw [hwr] at HW hzn ⊢
    clear hz hwr
    go_wp2_with fail
    go_ret2
    rw [HW.out]
    exact ⟨_, rfl, HB1.out, Cr.words_nil _⟩
  rw [hz]
  have HZ := Lib.hid hz
  clear hz
  have x1 := HX1.out.cell 1
  by_cases hml2 : (mem.length : Int) = c.mem
  rotate_left
  · have HT := Lib.hid (AdjC.run_shape (picks := picks) HZ.out hml2)
    have hq : ((mem.length : Int) != c.mem) = true := by simpa using hml2
    clear hml2
    go_wp2_with fail
    go_ret2
    rw [HT.out]
    exact ⟨_, rfl, HB1.out, Cr.words_nil _⟩
  have hz1 := (AdjC.wrong_zero HZ.out).1
  have hz2 := (AdjC.wrong_zero HZ.out).2.1
  obtain ⟨pn, hpn⟩ : ∃ pn : Nat, c.pad = (pn : Int) := ⟨c.pad.toNat, by omega⟩
  have HPN := Lib.hid hpn
  have hpn4 : pn ≤ 4096 := by omega
  have hme : mem.length ≤ 1048576 := by omega
  have HML := Lib.hid hml2
  rw [← hml2] at x1
  clear hml2 hpn hz1
  go_upto_region 6 with (fail)
  have x0 := HX1.out.cell 0
  rw [HPN.out] at x0
  have HMR := Lib.hid (fun (W : World) (hb : Below w1.heap.size w1 W) => Cr.reads_ints (HM.out.below (HB1.out.trans (hb.mono HB1.out.size))))
  obtain ⟨i0, hi, hz0, hz1, hzb⟩ := info_parts Try.infoWord
  have HI := Lib.hid (And.intro hi (And.intro hz0 (And.intro hz1 hzb)))
  clear hi hz0 hz1 hzb
  go_cut [9, 10] (fun s9 s10 wx => ∃ gp gm Ap Am cp cm, s9 = .slice Ap pn cp ∧ s10 = .slice Am mem.length cm ∧ Below w1.heap.size w1 wx ∧ Cr.Mm wx Ap gp (List.replicate pn 0) ∧ Cr.Mm wx Am gm mem ∧ gp ≠ gm ∧ (w1.heap.size ≤ gp ∧ gp < wx.heap.size) ∧ (0 < mem.length → w1.heap.size ≤ gm ∧ gm < wx.heap.size) ∧ mem.length ≤ cm ∧ cm ≤ 9223372036854775807)
  case first =>
    as_aux_lemma =>
      refine wp_region_T (fun w' => w'.cell? ⟨w.heap.size, 0, none⟩ = some (.int .i64 (pn : Int))) 6 (fun _ => True) 6 8 rfl (by kernel_rfl) ⟨x0, trivial⟩ (fun hHeld => ?_)
      simp only [List.replicate_succ, List.replicate_zero]
      refine wpT_take 0 27 (v := ?_) hHeld.1 hHeld.2 rfl rfl (by kernel_rfl) (fun _ _ _ h => h) rfl ?_ ?_
      rotate_left
      · (intro w hSw; (try dsimp only at hSw); go_simp; try with_reducible rfl)
      try simp only [Act.put, List.setIfInBounds_toArray, List.set_cons_zero, List.set_cons_succ]
      refine wpT_take 1 28 (v := ?_) hHeld.1 hHeld.2 rfl rfl (by kernel_rfl) (fun _ _ _ h => h) rfl ?_ ?_
      rotate_left
      · (intro w hSw; (try dsimp only at hSw); go_simp; try with_reducible rfl)
      try simp only [Act.put, List.setIfInBounds_toArray, List.set_cons_zero, List.set_cons_succ]
      refine wpT_takeP 4 31 (v := ?_) ⟨fun _ => hHeld.1, fun _ => hHeld.2⟩ rfl rfl (by kernel_rfl) (fun _ _ _ h => h) rfl ?_ ?_
      rotate_left
      · (intro w; go_simp; try with_reducible rfl)
      try simp only [Act.put, List.setIfInBounds_toArray, List.set_cons_zero, List.set_cons_succ]
      have HB2 := Lib.hid (Below.refl w1.heap.size w1).drew
      have hl2 : w.heap.size < w1.drew.heap.size := hlt1
      generalize w1.drew = W2 at HB2 hHeld hl2 ⊢
      have hmk := fun W => run_make_word pn (by omega) W
      refine wpT_two 2 3 (by kernel_rfl) (stepT_early rfl rfl (fun K hK => ?_)) (stepT_early rfl rfl (fun K hK => ?_))
      · go_simp
        refine hK.out _ _ ⟨(World.cell?_alloc_lt _ _ _ (by have := HB2.out.size; show w.heap.size < _; omega)).trans hHeld.1, trivial⟩ (fun hHeld2 => ?_)
        clear hK K hHeld
        have hHeld := hHeld2
        clear hHeld2
        try simp only [List.setIfInBounds_toArray, List.set_cons_zero, List.set_cons_succ]
        clear hmk
        have HB3 := Lib.hid (HB2.out.alloc HB2.out.size (.cells (ints (List.replicate pn 0)).toArray 2))
        have HG3 := Lib.hid (Blk.new W2 2 (ints (List.replicate pn 0)).toArray)
        have hg1 : w1.heap.size ≤ W2.heap.size := HB2.out.size
        have hg2 : W2.heap.size < (W2.alloc (.cells (ints (List.replicate pn 0)).toArray 2)).heap.size := by simp
        skip
        generalize hgpe : W2.heap.size = gp at HG3 hg1 hg2  ⊢
        generalize W2.alloc (.cells (ints (List.replicate pn 0)).toArray 2) = W3 at HB3 HG3 hg2 hHeld  ⊢
        refine wpT_one 3 (by kernel_rfl) (stepT_early rfl rfl (fun K hK => ?_))
        go_simp
        refine hK.out _ _ ⟨(World.cell?_alloc_lt _ _ _ (by have := HB3.out.size; show w.heap.size < _; omega)).trans hHeld.1, trivial⟩ (fun hHeld2 => ?_)
        clear hK K hHeld
        have hHeld := hHeld2
        clear hHeld2
        try simp only [List.setIfInBounds_toArray, List.set_cons_zero, List.set_cons_succ]
        have HB4 := Lib.hid (HB3.out.alloc HB3.out.size (.cells #[] 2))
        have HO4 := Lib.hid (Cr.own_none W3 2)
        have he1 : w1.heap.size ≤ W3.heap.size := HB3.out.size
        have he2 : W3.heap.size < (W3.alloc (.cells #[] 2)).heap.size := by simp
        have HG4 := Lib.hid (HG3.out.alloc (.cells #[] 2))
        generalize hebe : W3.heap.size = eb at HO4 he1 he2 HG4 hg2 ⊢
        generalize W3.alloc (.cells #[] 2) = W4 at HB4 HO4 he2 hHeld HG4 hg2 ⊢
        refine wpT_one 5 (by kernel_rfl) (stepT_early rfl rfl (fun K hK => ?_))
        refine wp_append_any W4 _ _ 31 rfl _ 2 i0 (.int .i64 0) 1 8 Try.underlying31 HI.out.1 HI.out.2.1 HI.out.2.2.1 HI.out.2.2.2 rfl (by decide) _ _ _ rfl HO4.out _ MA mem.length mcap (ints mem) rfl (HMR.out _ HB4.out) (Cr.ints_ones mem) (by unfold maxLen; omega) (by omega) (by omega) ?_
        intro v' W5 hown hgrow hnew
        have hcell0 := hHeld.1
        refine hK.out _ _ ⟨(World.cell?_of_block (hgrow.block w.heap.size (by have := HB4.out.size; omega) (fun h => by have h2 : some w.heap.size = some eb := h; injection h2 with h2; omega))).trans hHeld.1, trivial⟩ (fun hHeld2 => ?_)
        clear hK K hHeld
        have hHeld := hHeld2
        clear hHeld2
        try simp only [List.setIfInBounds_toArray, List.set_cons_zero, List.set_cons_succ]
        clear hcell0
        have HB5 := Lib.hid (HB4.out.grown hgrow HB4.out.size (fun k hk => by have h2 : some eb = some k := hk; injection h2 with h2; omega))
        obtain ⟨MA2, mc2, rfl, c1, c2, hmm⟩ := Cr.own_mm (l := mem) (by simpa using hown)
        have hne : ∀ g, Value.ownBlock (.slice (some ⟨g, 0, none⟩) mem.length mc2) = some g := fun g => rfl
        have HG5 := Lib.hid (HG4.out.grown hgrow (fun h => by have h2 : some gp = some eb := h; injection h2 with h2; omega))
        have HMM := Lib.hid (show mem = [] ∨ ∃ g, (w1.heap.size ≤ g ∧ g ≠ gp ∧ g < W5.heap.size) ∧ Cr.Mm W5 MA2 g mem from hmm.imp id (fun ⟨g, h1, h2, h3⟩ => ⟨g, ⟨by omega, by omega, h2⟩, h3⟩))
        clear hown hgrow hmm hnew
        refine wpT_tail [_, _] 6 [7] rfl (by kernel_rfl) ?_
        clear hHeld
        go_wp2_with fail
        go_meet
        case rel =>
          have hpad : Cr.Mm W5 (some ⟨gp, 0, none⟩) gp (List.replicate pn 0) := fun _ => ⟨rfl, _, HG5.out, fun j x hx => by
            unfold ints
            simp only [List.getElem?_toArray, List.getElem?_map]
            rw [hx]; rfl⟩
          rcases HMM.out with h | ⟨g, h1, h2⟩
          · exact ⟨gp, gp + 1, _, _, _, _, rfl, rfl, HB5.out, hpad, fun hp => by rw [h] at hp; simp at hp, by omega, ⟨hg1, HG5.out.lt⟩, fun hp => by rw [h] at hp; simp at hp, c1, c2⟩
          · exact ⟨gp, g, _, _, _, _, rfl, rfl, HB5.out, hpad, h2, Ne.symm h1.2.1, ⟨hg1, HG5.out.lt⟩, fun _ => ⟨h1.1, h1.2.2⟩, c1, c2⟩
      · go_simp
        refine hK.out _ _ ⟨(World.cell?_alloc_lt _ _ _ (by have := HB2.out.size; show w.heap.size < _; omega)).trans hHeld.1, trivial⟩ (fun hHeld2 => ?_)
        clear hK K hHeld
        have hHeld := hHeld2
        clear hHeld2
        try simp only [List.setIfInBounds_toArray, List.set_cons_zero, List.set_cons_succ]
        have HB3 := Lib.hid (HB2.out.alloc HB2.out.size (.cells #[] 2))
        have HO3 := Lib.hid (Cr.own_none W2 2)
        have he1 : w1.heap.size ≤ W2.heap.size := HB2.out.size
        have he2 : W2.heap.size < (W2.alloc (.cells #[] 2)).heap.size := by simp
        skip
        generalize hebe : W2.heap.size = eb at HO3 he1 he2  ⊢
        generalize W2.alloc (.cells #[] 2) = W3 at HB3 HO3 he2 hHeld  ⊢
        refine wpT_two 2 5 (by kernel_rfl) (stepT_early rfl rfl (fun K hK => ?_)) (stepT_early rfl rfl (fun K hK => ?_))
        · go_simp
          refine hK.out _ _ ⟨(World.cell?_alloc_lt _ _ _ (by have := HB3.out.size; show w.heap.size < _; omega)).trans hHeld.1, trivial⟩ (fun hHeld2 => ?_)
          clear hK K hHeld
          have hHeld := hHeld2
          clear hHeld2
          try simp only [List.setIfInBounds_toArray, List.set_cons_zero, List.set_cons_succ]
          clear hmk
          have HB4 := Lib.hid (HB3.out.alloc HB3.out.size (.cells (ints (List.replicate pn 0)).toArray 2))
          have HG4 := Lib.hid (Blk.new W3 2 (ints (List.replicate pn 0)).toArray)
          have hg1 : w1.heap.size ≤ W3.heap.size := HB3.out.size
          have hg2 : W3.heap.size < (W3.alloc (.cells (ints (List.replicate pn 0)).toArray 2)).heap.size := by simp
          have HO4 := Lib.hid (HO3.out.alloc (.cells (ints (List.replicate pn 0)).toArray 2))
          generalize hgpe : W3.heap.size = gp at HG4 hg1 hg2 HO4 he2 ⊢
          generalize W3.alloc (.cells (ints (List.replicate pn 0)).toArray 2) = W4 at HB4 HG4 hg2 hHeld HO4 he2 ⊢
          refine wpT_one 5 (by kernel_rfl) (stepT_early rfl rfl (fun K hK => ?_))
          refine wp_append_any W4 _ _ 31 rfl _ 2 i0 (.int .i64 0) 1 8 Try.underlying31 HI.out.1 HI.out.2.1 HI.out.2.2.1 HI.out.2.2.2 rfl (by decide) _ _ _ rfl HO4.out _ MA mem.length mcap (ints mem) rfl (HMR.out _ HB4.out) (Cr.ints_ones mem) (by unfold maxLen; omega) (by omega) (by omega) ?_
          intro v' W5 hown hgrow hnew
          have hcell0 := hHeld.1
          refine hK.out _ _ ⟨(World.cell?_of_block (hgrow.block w.heap.size (by have := HB4.out.size; omega) (fun h => by have h2 : some w.heap.size = some eb := h; injection h2 with h2; omega))).trans hHeld.1, trivial⟩ (fun hHeld2 => ?_)
          clear hK K hHeld
          have hHeld := hHeld2
          clear hHeld2
          try simp only [List.setIfInBounds_toArray, List.set_cons_zero, List.set_cons_succ]
          clear hcell0
          have HB5 := Lib.hid (HB4.out.grown hgrow HB4.out.size (fun k hk => by have h2 : some eb = some k := hk; injection h2 with h2; omega))
          obtain ⟨MA2, mc2, rfl, c1, c2, hmm⟩ := Cr.own_mm (l := mem) (by simpa using hown)
          have HG5 := Lib.hid (HG4.out.grown hgrow (fun h => by have h2 : some gp = some eb := h; injection h2 with h2; omega))
          have HMM := Lib.hid (show mem = [] ∨ ∃ g, (w1.heap.size ≤ g ∧ g ≠ gp ∧ g < W5.heap.size) ∧ Cr.Mm W5 MA2 g mem from by
            rcases hmm with h | ⟨g, h1, h2, h3⟩
            · exact .inl h
            · rcases Nat.eq_zero_or_pos mem.length with h0 | h0
              · exact .inl (List.length_eq_zero_iff.1 h0)
              · have hA := h3.some_ h0
                subst hA
                refine .inr ⟨g, ⟨by omega, ?_, h2⟩, h3⟩
                rcases hnew with h | h
                · have h4 : some g = some eb := h
                  injection h4 with h4; omega
                · have h4 : some g = some W4.heap.size := h
                  injection h4 with h4; omega)
          clear hown hgrow hmm hnew
          refine wpT_tail [_, _] 6 [7] rfl (by kernel_rfl) ?_
          clear hHeld
          go_wp2_with fail
          go_meet
          case rel =>
            have hpad : Cr.Mm W5 (some ⟨gp, 0, none⟩) gp (List.replicate pn 0) := fun _ => ⟨rfl, _, HG5.out, fun j x hx => by
              unfold ints
              simp only [List.getElem?_toArray, List.getElem?_map]
              rw [hx]; rfl⟩
            rcases HMM.out with h | ⟨g, h1, h2⟩
            · exact ⟨gp, gp + 1, _, _, _, _, rfl, rfl, HB5.out, hpad, fun hp => by rw [h] at hp; simp at hp, by omega, ⟨hg1, HG5.out.lt⟩, fun hp => by rw [h] at hp; simp at hp, c1, c2⟩
            · exact ⟨gp, g, _, _, _, _, rfl, rfl, HB5.out, hpad, h2, Ne.symm h1.2.1, ⟨hg1, HG5.out.lt⟩, fun _ => ⟨h1.1, h1.2.2⟩, c1, c2⟩
        · refine wp_append_any W3 _ _ 31 rfl _ 2 i0 (.int .i64 0) 1 8 Try.underlying31 HI.out.1 HI.out.2.1 HI.out.2.2.1 HI.out.2.2.2 rfl (by decide) _ _ _ rfl HO3.out _ MA mem.length mcap (ints mem) rfl (HMR.out _ HB3.out) (Cr.ints_ones mem) (by unfold maxLen; omega) (by omega) (by omega) ?_
          intro v' W4 hown hgrow hnew
          have hcell0 := hHeld.1
          refine hK.out _ _ ⟨(World.cell?_of_block (hgrow.block w.heap.size (by have := HB3.out.size; omega) (fun h => by have h2 : some w.heap.size = some eb := h; injection h2 with h2; omega))).trans hHeld.1, trivial⟩ (fun hHeld2 => ?_)
          clear hK K hHeld
          have hHeld := hHeld2
          clear hHeld2
          try simp only [List.setIfInBounds_toArray, List.set_cons_zero, List.set_cons_succ]
          clear hcell0
          have HB4 := Lib.hid (HB3.out.grown hgrow HB3.out.size (fun k hk => by have h2 : some eb = some k := hk; injection h2 with h2; omega))
          obtain ⟨MA2, mc2, rfl, c1, c2, hmm⟩ := Cr.own_mm (l := mem) (by simpa using hown)
          have hmm2 : mem = [] ∨ ∃ g, (w1.heap.size ≤ g ∧ g < W4.heap.size) ∧ Cr.Mm W4 MA2 g mem := hmm.imp id (fun ⟨g, h1, h2, h3⟩ => ⟨g, ⟨by omega, h2⟩, h3⟩)
          have HMA := Lib.hid hmm2
          clear hown hgrow hmm hmm2 hnew
          refine wpT_one 2 (by kernel_rfl) (stepT_early rfl rfl (fun K hK => ?_))
          go_simp
          refine hK.out _ _ ⟨(World.cell?_alloc_lt _ _ _ (by have := HB4.out.size; show w.heap.size < _; omega)).trans hHeld.1, trivial⟩ (fun hHeld2 => ?_)
          clear hK K hHeld
          have hHeld := hHeld2
          clear hHeld2
          try simp only [List.setIfInBounds_toArray, List.set_cons_zero, List.set_cons_succ]
          clear hmk
          have HB5 := Lib.hid (HB4.out.alloc HB4.out.size (.cells (ints (List.replicate pn 0)).toArray 2))
          have HG5 := Lib.hid (Blk.new W4 2 (ints (List.replicate pn 0)).toArray)
          have hg1 : w1.heap.size ≤ W4.heap.size := HB4.out.size
          have hg2 : W4.heap.size < (W4.alloc (.cells (ints (List.replicate pn 0)).toArray 2)).heap.size := by simp
          have HMM := Lib.hid (show mem = [] ∨ ∃ g, (w1.heap.size ≤ g ∧ g ≠ W4.heap.size ∧ g < (W4.alloc (.cells (ints (List.replicate pn 0)).toArray 2)).heap.size) ∧ Cr.Mm (W4.alloc (.cells (ints (List.replicate pn 0)).toArray 2)) MA2 g mem from HMA.out.imp id (fun ⟨g, h1, h3⟩ => ⟨g, ⟨h1.1, by omega, by rw [World.size_alloc]; omega⟩, h3.alloc _⟩))
          generalize hgpe : W4.heap.size = gp at HG5 hg1 hg2 HMM ⊢
          generalize W4.alloc (.cells (ints (List.replicate pn 0)).toArray 2) = W5 at HB5 HG5 hg2 hHeld HMM ⊢
          refine wpT_tail [_, _] 6 [7] rfl (by kernel_rfl) ?_
          clear hHeld
          go_wp2_with fail
          go_meet
          case rel =>
            have hpad : Cr.Mm W5 (some ⟨gp, 0, none⟩) gp (List.replicate pn 0) := fun _ => ⟨rfl, _, HG5.out, fun j x hx => by
              unfold ints
              simp only [List.getElem?_toArray, List.getElem?_map]
              rw [hx]; rfl⟩
            rcases HMM.out with h | ⟨g, h1, h2⟩
            · exact ⟨gp, gp + 1, _, _, _, _, rfl, rfl, HB5.out, hpad, fun hp => by rw [h] at hp; simp at hp, by omega, ⟨hg1, HG5.out.lt⟩, fun hp => by rw [h] at hp; simp at hp, c1, c2⟩
            · exact ⟨gp, g, _, _, _, _, rfl, rfl, HB5.out, hpad, h2, Ne.symm h1.2.1, ⟨hg1, HG5.out.lt⟩, fun _ => ⟨h1.1, h1.2.2⟩, c1, c2⟩
  case rest =>
    obtain ⟨gp, gm, Ap, Am, cp, cm, rfl, rfl, hb2, hpad, hmem, hne, hgp, hgm, hc1, hc2⟩ := hcut
    have HB2 := Lib.hid hb2
    have HPA := Lib.hid hpad
    have HME := Lib.hid hmem
    have HGP := Lib.hid (And.intro hne (And.intro hgp hgm))
    have HX2 := Lib.hid (HX1.out.below hb2 HX1.out.lt)
    have y2 := fun o => (HX2.out.alloc o).cell 2
    have y3 := fun o => (HX2.out.alloc o).cell 3
    have hl2 : w.heap.size < wc.heap.size := HX2.out.lt
    clear hb2 hpad hmem hne hgp hgm x0 x1 HMR HB0 HX0
    have HRS := Lib.hid (Cr.Rs.start (c := c) HB2.out HPN.out HPA.out HME.out HGP.out.1 HGP.out.2.1 HGP.out.2.2)
    go_upto_region 8 with (fail)
    go_quiet (fail)
    have HS := Lib.hid (HRS.out.below (below_drewN (Below.refl _ _) nq))
    generalize hgs : wc.heap.size = gs at HS ⊢
    generalize (wc.alloc (.cells #[.int .i64 0, .int .i64 0, .int .i64 0, .int .i64 0, .int .i64 0, .int .i64 0, .int .i64 0, .int .i64 0, .int .i64 0, .int .i64 0, .int .i64 0, .int .i64 0, .int .i64 0, .int .i64 0, .int .i64 0, .int .i64 0] 47)).drewN nq = wd at HS ⊢
    have HCO := Lib.hid (AdjC.Comes.start (c := c) (mem := mem) (picks := picks) HZ.out HML.out)
    have HTA := Lib.hid (show Cr.Tail w (c.mover.drop 0) (.slice A c.mover.length n) from ⟨A, n, by rw [List.drop_zero], by rw [List.drop_zero]; exact HA.out, by rw [List.drop_zero]; exact m1, m2⟩)
    have HTB := Lib.hid (show Cr.Tail w (c.maker.drop 0) (.slice A' c.maker.length n') from ⟨A', n', by rw [List.drop_zero], by rw [List.drop_zero]; exact HA'.out, by rw [List.drop_zero]; exact m1', m2'⟩)
    clear HRS HPA HME HGP HX2 y2 y3 hgs hl2 HX1 HM HC
    go_wp2_with fail
    go_loopg [12, 13, 14] (AdjC.left c (AdjC.start c mem)) (fun kk av bv tv wr => ∃ (s : AdjC.St) (t : Nat), tv = .int .i64 (t : Int) ∧ kk = AdjC.left c s ∧ AdjC.Comes c mem picks (s, t) ∧ Cr.Rs w1 gs gp gm Ap Am s wr ∧ Cr.Tail w (c.mover.drop s.i) av ∧ Cr.Tail w (c.maker.drop s.j) bv)
    case atStart => exact ⟨_, 0, rfl, rfl, HCO.out, HS.out, HTA.out, HTB.out⟩
    case round =>
      obtain ⟨s, t, rfl, hkk, hcm, hs, hta, htb⟩ := hrel
      have HKK := Lib.hid hkk
      have HS1 := Lib.hid hs
      have HCM := Lib.hid hcm
      have HOK := Lib.hid hcm.2.1
      have ht : t ≤ 524288 := by
        have h1 := hcm.2.2
        have h2 := hcm.2.1.i
        have h3 := hcm.2.1.j
        simp only at h1 h2 h3
        omega
      obtain ⟨A1, k1, rfl, i1, l1, n1⟩ := hta
      obtain ⟨A2, k2, rfl, i2, l2, n2⟩ := htb
      have HGA0 : ∀ W, Below w.heap.size w W → Calls Try.prog 21 #[.slice A1 (c.mover.drop s.i).length k1, Cr.semsV s.sems] W fun e w' => e = .returned (.bool (AdjC.canA c s)) ∧ Below W.heap.size W w' := fun W hb => by
        rw [← Cr.goes_mover]
        exact goes_any (c.mover.drop s.i) A1 k1 s.sems W ((i1.below hb).up hb.size) (fun x hx hd => AdjC.right_sem ((AdjC.wrong_zero HZ.out).2.2.1 x (List.mem_of_mem_drop (List.mem_of_mem_head? hx))) (.inr hd)) (by rw [List.length_drop]; omega)
      have HGB0 : ∀ W, Below w.heap.size w W → Calls Try.prog 21 #[.slice A2 (c.maker.drop s.j).length k2, Cr.semsV s.sems] W fun e w' => e = .returned (.bool (AdjC.canB c s)) ∧ Below W.heap.size W w' := fun W hb => by
        rw [← Cr.goes_maker]
        exact goes_any (c.maker.drop s.j) A2 k2 s.sems W ((i2.below hb).up hb.size) (fun x hx hd => AdjC.right_sem ((AdjC.wrong_zero HZ.out).2.2.2.1 x (List.mem_of_mem_drop (List.mem_of_mem_head? hx))) (.inr hd)) (by rw [List.length_drop]; omega)
      unfold Cr.semsV at HGA0 HGB0
      obtain ⟨LA, hLA⟩ : ∃ L, c.mover.drop s.i = L := ⟨_, rfl⟩
      obtain ⟨LB, hLB⟩ : ∃ L, c.maker.drop s.j = L := ⟨_, rfl⟩
      rw [hLA] at HGA0 i1 l1 ⊢
      rw [hLB] at HGB0 i2 l2 ⊢
      have HLA := Lib.hid hLA
      have HLB := Lib.hid hLB
      have HI1 := Lib.hid i1
      have HI2 := Lib.hid i2
      have HGA := Lib.hid (fun W (hb : Below w1.heap.size w1 W) => HGA0 W (HB1.out.trans (hb.mono HB1.out.size)))
      have HGB := Lib.hid (fun W (hb : Below w1.heap.size w1 W) => HGB0 W (HB1.out.trans (hb.mono HB1.out.size)))
      have HSL := Lib.hid hcm.2.1.sems
      clear hkk hs hcm HGA0 HGB0 hLA hLB i1 i2 HS HCO HTA HTB
      by_cases hgo : AdjC.canA c s = false ∧ AdjC.canB c s = false
      ·
        as_aux_lemma =>
          obtain ⟨ha, hb⟩ := hgo
          rw [ha] at HGA
          rw [hb] at HGB
          have HA1 := Lib.hid ha
          have HB1' := Lib.hid hb
          clear ha hb
          have z0 := HS1.out.sem_at HSL.out 0 (by omega)
          have z1 := HS1.out.sem_at HSL.out 1 (by omega)
          have z2 := HS1.out.sem_at HSL.out 2 (by omega)
          have z3 := HS1.out.sem_at HSL.out 3 (by omega)
          have z4 := HS1.out.sem_at HSL.out 4 (by omega)
          have z5 := HS1.out.sem_at HSL.out 5 (by omega)
          have z6 := HS1.out.sem_at HSL.out 6 (by omega)
          have z7 := HS1.out.sem_at HSL.out 7 (by omega)
          have z8 := HS1.out.sem_at HSL.out 8 (by omega)
          have z9 := HS1.out.sem_at HSL.out 9 (by omega)
          have z10 := HS1.out.sem_at HSL.out 10 (by omega)
          have z11 := HS1.out.sem_at HSL.out 11 (by omega)
          have z12 := HS1.out.sem_at HSL.out 12 (by omega)
          have z13 := HS1.out.sem_at HSL.out 13 (by omega)
          have z14 := HS1.out.sem_at HSL.out 14 (by omega)
          have z15 := HS1.out.sem_at HSL.out 15 (by omega)
          go_wp2_with fail
          ((with_reducible refine (HGA.out _ HS1.out.bel).mono ?_); rintro e w2 ⟨rfl, hb2⟩)
          have HS2 := Lib.hid (HS1.out.below hb2)
          clear hb2
          clear z0 z1 z2 z3 z4 z5 z6 z7 z8 z9 z10 z11 z12 z13 z14 z15
          have z0 := HS2.out.sem_at HSL.out 0 (by omega)
          have z1 := HS2.out.sem_at HSL.out 1 (by omega)
          have z2 := HS2.out.sem_at HSL.out 2 (by omega)
          have z3 := HS2.out.sem_at HSL.out 3 (by omega)
          have z4 := HS2.out.sem_at HSL.out 4 (by omega)
          have z5 := HS2.out.sem_at HSL.out 5 (by omega)
          have z6 := HS2.out.sem_at HSL.out 6 (by omega)
          have z7 := HS2.out.sem_at HSL.out 7 (by omega)
          have z8 := HS2.out.sem_at HSL.out 8 (by omega)
          have z9 := HS2.out.sem_at HSL.out 9 (by omega)
          have z10 := HS2.out.sem_at HSL.out 10 (by omega)
          have z11 := HS2.out.sem_at HSL.out 11 (by omega)
          have z12 := HS2.out.sem_at HSL.out 12 (by omega)
          have z13 := HS2.out.sem_at HSL.out 13 (by omega)
          have z14 := HS2.out.sem_at HSL.out 14 (by omega)
          have z15 := HS2.out.sem_at HSL.out 15 (by omega)
          go_wp2_with fail
          ((with_reducible refine (HGB.out _ HS2.out.bel).mono ?_); rintro e w3 ⟨rfl, hb3⟩)
          have HS3 := Lib.hid (HS2.out.below hb3)
          clear hb3
          clear z0 z1 z2 z3 z4 z5 z6 z7 z8 z9 z10 z11 z12 z13 z14 z15
          by_cases hla : 0 < LA.length
          · have HTR := Lib.hid (AdjC.run_stuck HZ.out HML.out HCM.out HA1.out HB1'.out (.inl (by have h1 := HLA.out; rw [← h1, List.length_drop] at hla; simp only; omega)))
            go_wp2_with fail
            go_ret2
            rw [HTR.out]
            exact ⟨_, rfl, HB1.out.trans (HS3.out.bel.mono HB1.out.size), Cr.words_nil _⟩
          · by_cases hlb : 0 < LB.length
            · have HTR := Lib.hid (AdjC.run_stuck HZ.out HML.out HCM.out HA1.out HB1'.out (.inr (by have h1 := HLB.out; rw [← h1, List.length_drop] at hlb; simp only; omega)))
              have q1 : decide (0 < LA.length) = false := decide_eq_false (by omega)
              have q2 : decide ((0 : Int) < (LA.length : Int)) = false := decide_eq_false (by omega)
              clear hla
              go_wp2_with fail
              go_ret2
              rw [HTR.out]
              exact ⟨_, rfl, HB1.out.trans (HS3.out.bel.mono HB1.out.size), Cr.words_nil _⟩
            · have HTR := Lib.hid (AdjC.run_ends HZ.out HML.out HCM.out HA1.out HB1'.out (by have h1 := HLA.out; have h2 := HLB.out; rw [← h1, List.length_drop] at hla; rw [← h2, List.length_drop] at hlb; simp only; omega))
              have HLM := Lib.hid (show s.mem.length = mem.length by have h1 := HOK.out.mem; have h2 := HML.out; omega)
              have q1 : decide (0 < LA.length) = false := decide_eq_false (by omega)
              have q2 : decide ((0 : Int) < (LA.length : Int)) = false := decide_eq_false (by omega)
              have q3 : decide (0 < LB.length) = false := decide_eq_false (by omega)
              have q4 : decide ((0 : Int) < (LB.length : Int)) = false := decide_eq_false (by omega)
              clear hla hlb
              go_wp2_with fail
              go_ret2
              rw [HTR.out]
              refine ⟨_, rfl, HB1.out.trans (HS3.out.bel.mono HB1.out.size), ?_⟩
              rw [← HLM.out]
              exact Cr.words_mem HS3.out.mem (by rw [HLM.out]; exact hc1) hc2
      · go_upto_region 10 with (fail)
        go_cut [44] (fun s44 wx => s44 = .bool true ∧ Cr.Rs w1 gs gp gm Ap Am s wx)
        case first =>
          as_aux_lemma =>
            rcases Bool.eq_false_or_eq_true (AdjC.canA c s) with ha | ha
            · rw [ha] at HGA
              clear ha hgo
              have z0 := HS1.out.sem_at HSL.out 0 (by omega)
              have z1 := HS1.out.sem_at HSL.out 1 (by omega)
              have z2 := HS1.out.sem_at HSL.out 2 (by omega)
              have z3 := HS1.out.sem_at HSL.out 3 (by omega)
              have z4 := HS1.out.sem_at HSL.out 4 (by omega)
              have z5 := HS1.out.sem_at HSL.out 5 (by omega)
              have z6 := HS1.out.sem_at HSL.out 6 (by omega)
              have z7 := HS1.out.sem_at HSL.out 7 (by omega)
              have z8 := HS1.out.sem_at HSL.out 8 (by omega)
              have z9 := HS1.out.sem_at HSL.out 9 (by omega)
              have z10 := HS1.out.sem_at HSL.out 10 (by omega)
              have z11 := HS1.out.sem_at HSL.out 11 (by omega)
              have z12 := HS1.out.sem_at HSL.out 12 (by omega)
              have z13 := HS1.out.sem_at HSL.out 13 (by omega)
              have z14 := HS1.out.sem_at HSL.out 14 (by omega)
              have z15 := HS1.out.sem_at HSL.out 15 (by omega)
              go_wp2_with fail
              ((with_reducible refine (HGA.out _ HS1.out.bel).mono ?_); rintro e w2 ⟨rfl, hb2⟩)
              have HS2 := Lib.hid (HS1.out.below hb2)
              clear hb2
              clear z0 z1 z2 z3 z4 z5 z6 z7 z8 z9 z10 z11 z12 z13 z14 z15
              go_wp2_with fail
              go_meet
              case rel => exact ⟨rfl, HS2.out⟩
            · have hb : AdjC.canB c s = true := by
                rcases Bool.eq_false_or_eq_true (AdjC.canB c s) with hb | hb
                · exact hb
                · exact absurd ⟨ha, hb⟩ hgo
              rw [ha] at HGA
              rw [hb] at HGB
              clear ha hb hgo
              have z0 := HS1.out.sem_at HSL.out 0 (by omega)
              have z1 := HS1.out.sem_at HSL.out 1 (by omega)
              have z2 := HS1.out.sem_at HSL.out 2 (by omega)
              have z3 := HS1.out.sem_at HSL.out 3 (by omega)
              have z4 := HS1.out.sem_at HSL.out 4 (by omega)
              have z5 := HS1.out.sem_at HSL.out 5 (by omega)
              have z6 := HS1.out.sem_at HSL.out 6 (by omega)
              have z7 := HS1.out.sem_at HSL.out 7 (by omega)
              have z8 := HS1.out.sem_at HSL.out 8 (by omega)
              have z9 := HS1.out.sem_at HSL.out 9 (by omega)
              have z10 := HS1.out.sem_at HSL.out 10 (by omega)
              have z11 := HS1.out.sem_at HSL.out 11 (by omega)
              have z12 := HS1.out.sem_at HSL.out 12 (by omega)
              have z13 := HS1.out.sem_at HSL.out 13 (by omega)
              have z14 := HS1.out.sem_at HSL.out 14 (by omega)
              have z15 := HS1.out.sem_at HSL.out 15 (by omega)
              go_wp2_with fail
              ((with_reducible refine (HGA.out _ HS1.out.bel).mono ?_); rintro e w2 ⟨rfl, hb2⟩)
              have HS2 := Lib.hid (HS1.out.below hb2)
              clear hb2
              clear z0 z1 z2 z3 z4 z5 z6 z7 z8 z9 z10 z11 z12 z13 z14 z15
              have z0 := HS2.out.sem_at HSL.out 0 (by omega)
              have z1 := HS2.out.sem_at HSL.out 1 (by omega)
              have z2 := HS2.out.sem_at HSL.out 2 (by omega)
              have z3 := HS2.out.sem_at HSL.out 3 (by omega)
              have z4 := HS2.out.sem_at HSL.out 4 (by omega)
              have z5 := HS2.out.sem_at HSL.out 5 (by omega)
              have z6 := HS2.out.sem_at HSL.out 6 (by omega)
              have z7 := HS2.out.sem_at HSL.out 7 (by omega)
              have z8 := HS2.out.sem_at HSL.out 8 (by omega)
              have z9 := HS2.out.sem_at HSL.out 9 (by omega)
              have z10 := HS2.out.sem_at HSL.out 10 (by omega)
              have z11 := HS2.out.sem_at HSL.out 11 (by omega)
              have z12 := HS2.out.sem_at HSL.out 12 (by omega)
              have z13 := HS2.out.sem_at HSL.out 13 (by omega)
              have z14 := HS2.out.sem_at HSL.out 14 (by omega)
              have z15 := HS2.out.sem_at HSL.out 15 (by omega)
              go_wp2_with fail
              ((with_reducible refine (HGB.out _ HS2.out.bel).mono ?_); rintro e w3 ⟨rfl, hb3⟩)
              have HS3 := Lib.hid (HS2.out.below hb3)
              clear hb3
              clear z0 z1 z2 z3 z4 z5 z6 z7 z8 z9 z10 z11 z12 z13 z14 z15
              go_wp2_with fail
              go_meet
              case rel => exact ⟨rfl, HS3.out⟩
        case rest =>
          obtain ⟨rfl, hs2⟩ := hcut
          have HS2 := Lib.hid hs2
          clear hs2 HS1
          go_upto_region 11 with (fail)
          go_cut [15] (fun s15 wx => s15 = .bool (AdjC.canA c s) ∧ Cr.Rs w1 gs gp gm Ap Am s wx)
          case first =>
            as_aux_lemma =>
              have z0 := HS2.out.sem_at HSL.out 0 (by omega)
              have z1 := HS2.out.sem_at HSL.out 1 (by omega)
              have z2 := HS2.out.sem_at HSL.out 2 (by omega)
              have z3 := HS2.out.sem_at HSL.out 3 (by omega)
              have z4 := HS2.out.sem_at HSL.out 4 (by omega)
              have z5 := HS2.out.sem_at HSL.out 5 (by omega)
              have z6 := HS2.out.sem_at HSL.out 6 (by omega)
              have z7 := HS2.out.sem_at HSL.out 7 (by omega)
              have z8 := HS2.out.sem_at HSL.out 8 (by omega)
              have z9 := HS2.out.sem_at HSL.out 9 (by omega)
              have z10 := HS2.out.sem_at HSL.out 10 (by omega)
              have z11 := HS2.out.sem_at HSL.out 11 (by omega)
              have z12 := HS2.out.sem_at HSL.out 12 (by omega)
              have z13 := HS2.out.sem_at HSL.out 13 (by omega)
              have z14 := HS2.out.sem_at HSL.out 14 (by omega)
              have z15 := HS2.out.sem_at HSL.out 15 (by omega)
              go_wp2_with fail
              ((with_reducible refine (HGA.out _ HS2.out.bel).mono ?_); rintro e w3 ⟨rfl, hb3⟩)
              have HS3 := Lib.hid (HS2.out.below hb3)
              clear hb3
              clear z0 z1 z2 z3 z4 z5 z6 z7 z8 z9 z10 z11 z12 z13 z14 z15
              go_wp2_with fail
              go_meet
              case rel => exact ⟨rfl, HS3.out⟩
          case rest =>
            obtain ⟨rfl, hs3⟩ := hcut
            have HS3 := Lib.hid hs3
            clear hs3 HS2
            go_upto_region 12 with (fail)
            go_cut [55] (fun s55 wx => s55 = .bool (AdjC.canA c s && AdjC.canB c s) ∧ Cr.Rs w1 gs gp gm Ap Am s wx)
            case first =>
              as_aux_lemma =>
                rcases Bool.eq_false_or_eq_true (AdjC.canA c s) with ha | ha
                · rw [ha] at HGA
                  have HAB := Lib.hid (show (AdjC.canA c s && AdjC.canB c s) = AdjC.canB c s by rw [ha]; rfl)
                  clear ha hgo
                  have z0 := HS3.out.sem_at HSL.out 0 (by omega)
                  have z1 := HS3.out.sem_at HSL.out 1 (by omega)
                  have z2 := HS3.out.sem_at HSL.out 2 (by omega)
                  have z3 := HS3.out.sem_at HSL.out 3 (by omega)
                  have z4 := HS3.out.sem_at HSL.out 4 (by omega)
                  have z5 := HS3.out.sem_at HSL.out 5 (by omega)
                  have z6 := HS3.out.sem_at HSL.out 6 (by omega)
                  have z7 := HS3.out.sem_at HSL.out 7 (by omega)
                  have z8 := HS3.out.sem_at HSL.out 8 (by omega)
                  have z9 := HS3.out.sem_at HSL.out 9 (by omega)
                  have z10 := HS3.out.sem_at HSL.out 10 (by omega)
                  have z11 := HS3.out.sem_at HSL.out 11 (by omega)
                  have z12 := HS3.out.sem_at HSL.out 12 (by omega)
                  have z13 := HS3.out.sem_at HSL.out 13 (by omega)
                  have z14 := HS3.out.sem_at HSL.out 14 (by omega)
                  have z15 := HS3.out.sem_at HSL.out 15 (by omega)
                  go_wp2_with fail
                  ((with_reducible refine (HGA.out _ HS3.out.bel).mono ?_); rintro e w4 ⟨rfl, hb4⟩)
                  have HS4 := Lib.hid (HS3.out.below hb4)
                  clear hb4
                  clear z0 z1 z2 z3 z4 z5 z6 z7 z8 z9 z10 z11 z12 z13 z14 z15
                  have z0 := HS4.out.sem_at HSL.out 0 (by omega)
                  have z1 := HS4.out.sem_at HSL.out 1 (by omega)
                  have z2 := HS4.out.sem_at HSL.out 2 (by omega)
                  have z3 := HS4.out.sem_at HSL.out 3 (by omega)
                  have z4 := HS4.out.sem_at HSL.out 4 (by omega)
                  have z5 := HS4.out.sem_at HSL.out 5 (by omega)
                  have z6 := HS4.out.sem_at HSL.out 6 (by omega)
                  have z7 := HS4.out.sem_at HSL.out 7 (by omega)
                  have z8 := HS4.out.sem_at HSL.out 8 (by omega)
                  have z9 := HS4.out.sem_at HSL.out 9 (by omega)
                  have z10 := HS4.out.sem_at HSL.out 10 (by omega)
                  have z11 := HS4.out.sem_at HSL.out 11 (by omega)
                  have z12 := HS4.out.sem_at HSL.out 12 (by omega)
                  have z13 := HS4.out.sem_at HSL.out 13 (by omega)
                  have z14 := HS4.out.sem_at HSL.out 14 (by omega)
                  have z15 := HS4.out.sem_at HSL.out 15 (by omega)
                  go_wp2_with fail
                  ((with_reducible refine (HGB.out _ HS4.out.bel).mono ?_); rintro e w5 ⟨rfl, hb5⟩)
                  have HS5 := Lib.hid (HS4.out.below hb5)
                  clear hb5
                  clear z0 z1 z2 z3 z4 z5 z6 z7 z8 z9 z10 z11 z12 z13 z14 z15
                  go_wp2_with fail
                  go_meet
                  case rel => exact ⟨by rw [HAB.out], HS5.out⟩
                · rw [ha] at HGA
                  have HAB := Lib.hid (show (AdjC.canA c s && AdjC.canB c s) = false by rw [ha]; rfl)
                  clear ha hgo
                  have z0 := HS3.out.sem_at HSL.out 0 (by omega)
                  have z1 := HS3.out.sem_at HSL.out 1 (by omega)
                  have z2 := HS3.out.sem_at HSL.out 2 (by omega)
                  have z3 := HS3.out.sem_at HSL.out 3 (by omega)
                  have z4 := HS3.out.sem_at HSL.out 4 (by omega)
                  have z5 := HS3.out.sem_at HSL.out 5 (by omega)
                  have z6 := HS3.out.sem_at HSL.out 6 (by omega)
                  have z7 := HS3.out.sem_at HSL.out 7 (by omega)
                  have z8 := HS3.out.sem_at HSL.out 8 (by omega)
                  have z9 := HS3.out.sem_at HSL.out 9 (by omega)
                  have z10 := HS3.out.sem_at HSL.out 10 (by omega)
                  have z11 := HS3.out.sem_at HSL.out 11 (by omega)
                  have z12 := HS3.out.sem_at HSL.out 12 (by omega)
                  have z13 := HS3.out.sem_at HSL.out 13 (by omega)
                  have z14 := HS3.out.sem_at HSL.out 14 (by omega)
                  have z15 := HS3.out.sem_at HSL.out 15 (by omega)
                  go_wp2_with fail
                  ((with_reducible refine (HGA.out _ HS3.out.bel).mono ?_); rintro e w4 ⟨rfl, hb4⟩)
                  have HS4 := Lib.hid (HS3.out.below hb4)
                  clear hb4
                  clear z0 z1 z2 z3 z4 z5 z6 z7 z8 z9 z10 z11 z12 z13 z14 z15
                  go_wp2_with fail
                  go_meet
                  case rel => exact ⟨by rw [HAB.out], HS4.out⟩
            case rest =>
              obtain ⟨rfl, hs4⟩ := hcut
              have HS4 := Lib.hid hs4
              clear hs4 HS3
              go_upto_if 55 with (fail)
              go_cut [14, 15, 55] (fun s14 s15 s55 wx => ∃ (mv : Bool) (t' : Nat), s14 = .int .i64 (t' : Int) ∧ s15 = .bool mv ∧ Cr.Chose c mem picks s mv t' ∧ Cr.Rs w1 gs gp gm Ap Am s wx)
              case first =>
                as_aux_lemma =>
                  rcases Bool.eq_false_or_eq_true (AdjC.canA c s) with ha | ha <;> rcases Bool.eq_false_or_eq_true (AdjC.canB c s) with hb | hb
                  · have HCB := Lib.hid (HCM.out.both HZ.out ha hb)
                    have HAA := Lib.hid (And.intro ha hb)
                    rw [ha, hb]
                    clear ha hb hgo HGA HGB HI1 HI2 HLA HLB
                    rcases List.eq_nil_or_concat picks with hpe | ⟨_, _, hpe⟩
                    · have HPK := Lib.hid (show AdjC.picked picks t = true by unfold AdjC.picked; rw [if_pos hpe])
                      rw [HPK.out, if_pos rfl] at HCB
                      have hl1 : decide (0 < picks.length) = false := by rw [hpe]; rfl
                      have hl2 : decide ((0 : Int) < (picks.length : Int)) = false := by rw [hpe]; rfl
                      clear hpe
                      go_wp2_with fail
                      go_meet
                      case rel => exact ⟨true, t + 1, by go_num, rfl, ⟨fun _ => ⟨HAA.out.1, HCB.out⟩, (fun h => by cases h)⟩, HS4.out⟩
                    · have hl1 : 0 < picks.length := by rw [hpe]; simp
                      clear hpe
                      obtain ⟨pb, poff, rfl, hpb⟩ := HP.out.spot hl1
                      obtain ⟨q, hq⟩ : ∃ q, t % picks.length = q := ⟨_, rfl⟩
                      have hql : q < picks.length := by rw [← hq]; exact Nat.mod_lt _ hl1
                      obtain ⟨p, hp⟩ : ∃ p, picks[q] = p := ⟨_, rfl⟩
                      have hcell := (((HP.out.below HB1.out).up HB1.out.size).below HS4.out.bel).get hql
                      rw [hp] at hcell
                      have HPK := Lib.hid (show AdjC.picked picks t = decide (p % 2 = 0) by
                        unfold AdjC.picked
                        rw [if_neg (by intro h; rw [h] at hl1; simp at hl1), hq, List.getD_eq_getElem?_getD, List.getElem?_eq_getElem hql, hp]; rfl)
                      have e1 : (t : Int) % (picks.length : Int) = (q : Int) := by rw [← hq]; exact (Int.natCast_emod _ _).symm
                      have e2 : (t : Int).tmod (picks.length : Int) = (q : Int) := by rw [Int.tmod_eq_emod_of_nonneg (by omega)]; exact e1
                      have HQ := Lib.hid hq
                      have HPP := Lib.hid hp
                      clear hq hp
                      by_cases hpz : p % 2 = 0
                      · have HPK2 := Lib.hid (show AdjC.picked picks t = true by rw [HPK.out]; simpa using hpz)
                        rw [HPK2.out, if_pos rfl] at HCB
                        have g1 : (p.tmod 2 == 0) = true := by
                          have : p.tmod 2 = 0 := Int.tmod_eq_zero_of_dvd (Int.dvd_of_emod_eq_zero hpz)
                          simpa using this
                        clear hpz
                        go_wp2_with fail
                        go_meet
                        case rel => exact ⟨true, t + 1, by go_num, rfl, ⟨fun _ => ⟨HAA.out.1, HCB.out⟩, (fun h => by cases h)⟩, HS4.out⟩
                      · have HPK2 := Lib.hid (show AdjC.picked picks t = false by rw [HPK.out]; simpa using hpz)
                        rw [HPK2.out, if_neg (by decide)] at HCB
                        have g1 : (p.tmod 2 == 0) = false := by
                          have : p.tmod 2 ≠ 0 := fun h => hpz (Int.emod_eq_zero_of_dvd (Int.dvd_of_tmod_eq_zero h))
                          simpa using this
                        clear hpz
                        go_wp2_with fail
                        go_meet
                        case rel => exact ⟨false, t + 1, by go_num, rfl, ⟨(fun h => by cases h), fun _ => ⟨HAA.out.2, HCB.out⟩⟩, HS4.out⟩
                  · have HCB := Lib.hid (HCM.out.one HZ.out ha hb)
                    have HAA := Lib.hid ha
                    rw [ha, hb]
                    clear ha hb hgo HGA HGB HI1 HI2 HLA HLB
                    go_wp2_with fail
                    go_meet
                    case rel => exact ⟨true, t, rfl, rfl, ⟨fun _ => ⟨HAA.out, HCB.out⟩, (fun h => by cases h)⟩, HS4.out⟩
                  · have HCB := Lib.hid (HCM.out.two HZ.out ha hb)
                    have HAA := Lib.hid hb
                    rw [ha, hb]
                    clear ha hb hgo HGA HGB HI1 HI2 HLA HLB
                    go_wp2_with fail
                    go_meet
                    case rel => exact ⟨false, t, rfl, rfl, ⟨(fun h => by cases h), fun _ => ⟨HAA.out, HCB.out⟩⟩, HS4.out⟩
                  · exact absurd ⟨ha, hb⟩ hgo
              case rest =>
                obtain ⟨mv, t', rfl, rfl, hch, hs5⟩ := hcut
                have HCH := Lib.hid hch
                have HS5 := Lib.hid hs5
                clear hch hs5 HS4 HGA HGB hgo
                have hxb : wc.heap.size < (wc.alloc (.cells #[.int .i64 0, .int .i64 0, .int .i64 0, .int .i64 0, .int .i64 0, .int .i64 0] 42)).heap.size := by simp
                go_upto_if 70 with (fail)
                generalize hxbe : wc.heap.size = xb at hxb ⊢
                go_cut [12, 13, 70] (fun s12 s13 s70 wx => ∃ (x : AdjC.I) (s1 : AdjC.St), Cr.Pk w w1 c mem picks gk t' gs gp gm xb Ap Am x s1 s12 s13 wx)
                case first =>
                  as_aux_lemma =>
                    cases mv with
                    | true =>
                      obtain ⟨hca, hco⟩ := HCH.out.1 rfl
                      obtain ⟨hlt, hrd⟩ := AdjC.canA_at hca
                      have hLL := HLA.out
                      rw [List.drop_eq_getElem_cons hlt] at hLL
                      obtain ⟨x, hx⟩ : ∃ x, c.mover[s.i] = x := ⟨_, rfl⟩
                      obtain ⟨L', hL'⟩ : ∃ L', c.mover.drop (s.i + 1) = L' := ⟨_, rfl⟩
                      rw [hx, hL'] at hLL
                      have HXX := Lib.hid hx
                      have HLL := Lib.hid hL'
                      have HTAA := Lib.hid (show Cr.Tail w (c.mover.drop s.i) (.slice A1 LA.length k1) from ⟨A1, k1, by rw [HLA.out], by rw [HLA.out]; exact HI1.out, by rw [HLA.out]; exact l1, n1⟩)
                      have HTBB := Lib.hid (show Cr.Tail w (c.maker.drop s.j) (.slice A2 LB.length k2) from ⟨A2, k2, by rw [HLB.out], by rw [HLB.out]; exact HI2.out, by rw [HLB.out]; exact l2, n2⟩)
                      clear hx hL' HLA
                      subst hLL
                      obtain ⟨b, off, rfl, hbl⟩ := HI1.out.spot (by rw [AdjC.flat_length]; simp)
                      obtain ⟨x0, x1, x2, x3, x4, x5⟩ := Cr.six_cells (((HI1.out.below HB1.out).up HB1.out.size).below HS5.out.bel) (k := 0) (by simp) rfl
                      simp only [List.getElem_cons_zero, Nat.zero_mul, Nat.add_zero] at x0 x1 x2 x3 x4 x5
                      have hbW : b < wc.heap.size := by have h1 := HB1.out.size; have h2 := HS5.out.bel.size; omega
                      have HTN := Lib.hid (Cr.tail_next HI1.out l1 n1)
                      rw [← HLL.out] at HTN
                      have y := Cr.six_alloc ⟨x0, x1, x2, x3, x4, x5⟩ hbW (.cells #[.int .i64 0, .int .i64 0, .int .i64 0, .int .i64 0, .int .i64 0, .int .i64 0] 42)
                      clear x0 x1 x2 x3 x4 x5 hrd
                      simp only [List.length_cons] at l1 ⊢
                      by_cases hk1 : k1 = 1
                      · have HT9 := Lib.hid (HTN.out.1 hk1)
                        subst hk1
                        have HT8 := Lib.hid (show Cr.Tail w (c.mover.drop (s.i + 1)) (.slice (some ⟨b, off, none⟩) 0 0) from by
                          have h1 := HT9.out
                          have h2 := HLL.out
                          rw [h2, show L'.length = 0 by omega] at h1
                          rw [h2]; exact h1)
                        clear HT9
                        go_wp2_with fail
                        have i1 : (1 : Int) ≤ (L'.length : Int) + 1 := by omega
                        refine wp_region_T (fun w' => w'.cell? ⟨b, off, none⟩ = some (.int .i64 x.d) ∧ w'.cell? ⟨b, off + 1, none⟩ = some (.int .i64 x.a) ∧ w'.cell? ⟨b, off + 2, none⟩ = some (.int .i64 x.b) ∧ w'.cell? ⟨b, off + 3, none⟩ = some (.int .i64 x.c) ∧ w'.cell? ⟨b, off + 4, none⟩ = some (.int .i64 x.n) ∧ w'.cell? ⟨b, off + 5, none⟩ = some (.int .i64 x.v)) 5 (fun _ => True) 5 7 rfl (by kernel_rfl) ⟨y, trivial⟩ (fun hHeld => ?_)
                        simp only [List.replicate_succ, List.replicate_zero]
                        refine wpT_take 0 71 (v := ?_) hHeld.1 hHeld.2 rfl rfl (by kernel_rfl) (fun _ _ _ h => h) rfl ?_ ?_
                        rotate_left
                        · (intro w hSw; (try dsimp only at hSw); go_simp; try with_reducible rfl)
                        try simp only [Act.put, List.setIfInBounds_toArray, List.set_cons_zero, List.set_cons_succ]
                        refine wpT_take 1 72 (v := ?_) hHeld.1 hHeld.2 rfl rfl (by kernel_rfl) (fun _ _ _ h => h) rfl ?_ ?_
                        rotate_left
                        · (intro w hSw; (try dsimp only at hSw); go_simp; try with_reducible rfl)
                        try simp only [Act.put, List.setIfInBounds_toArray, List.set_cons_zero, List.set_cons_succ]
                        refine wpT_take 2 73 (v := ?_) hHeld.1 hHeld.2 rfl rfl (by kernel_rfl) (fun _ _ _ h => h) rfl ?_ ?_
                        rotate_left
                        · (intro w hSw; (try dsimp only at hSw); go_simp; try with_reducible rfl)
                        try simp only [Act.put, List.setIfInBounds_toArray, List.set_cons_zero, List.set_cons_succ]
                        refine wpT_takeP 3 74 (v := ?_) ⟨fun _ => hHeld.1, fun _ => hHeld.2⟩ rfl rfl (by kernel_rfl) (fun _ _ _ h => h) rfl ?_ ?_
                        rotate_left
                        · (intro w; go_simp; try with_reducible rfl)
                        try simp only [Act.put, List.setIfInBounds_toArray, List.set_cons_zero, List.set_cons_succ]
                        refine wpT_takeP 4 75 (v := ?_) ⟨fun _ => hHeld.1, fun _ => hHeld.2⟩ rfl rfl (by kernel_rfl) (fun _ _ _ h => h) rfl ?_ ?_
                        rotate_left
                        · (intro w; go_simp; try with_reducible rfl)
                        try simp only [Act.put, List.setIfInBounds_toArray, List.set_cons_zero, List.set_cons_succ]
                        refine wpT_tail [_, _] 5 [6] rfl (by kernel_rfl) ?_
                        clear y hHeld i1
                        have HAP := Lib.hid (show xb ≠ gs ∧ (0 < s.pad.length → xb ≠ gp) ∧ (0 < s.mem.length → xb ≠ gm) from hxbe ▸ ⟨by have := HS5.out.sems.lt; omega, fun h => by have := HS5.out.pad.lt h; omega, fun h => by have := HS5.out.mem.lt h; omega⟩)
                        go_wp2_with fail
                        go_meet
                        case rel =>
                          refine ⟨x, _, Cr.pk_mover HZ.out HOK.out hlt HXX.out hca hco HKK.out HT8.out HTBB.out ?_ ?_ HAP.out⟩
                          · exact (HS5.out.below ((Below.refl _ _).alloc (Nat.le_refl _) _)).below (Below.refl _ _).drew
                          · rw [← hxbe]; exact (Blk.new wc _ _).drew
                      · have HT9 := Lib.hid (HTN.out.2 hk1)
                        have HT8 := Lib.hid (show Cr.Tail w (c.mover.drop (s.i + 1)) (.slice (some ⟨b, off + 6, none⟩) L'.length (k1 - 1)) from by
                          have h1 := HT9.out
                          have h2 := HLL.out
                          rw [h2] at h1
                          rw [h2]; exact h1)
                        clear HT9
                        have q1 : (k1 == 1) = false := by simpa using hk1
                        go_wp2_with fail
                        have i1 : (1 : Int) ≤ (L'.length : Int) + 1 := by omega
                        refine wp_region_T (fun w' => w'.cell? ⟨b, off, none⟩ = some (.int .i64 x.d) ∧ w'.cell? ⟨b, off + 1, none⟩ = some (.int .i64 x.a) ∧ w'.cell? ⟨b, off + 2, none⟩ = some (.int .i64 x.b) ∧ w'.cell? ⟨b, off + 3, none⟩ = some (.int .i64 x.c) ∧ w'.cell? ⟨b, off + 4, none⟩ = some (.int .i64 x.n) ∧ w'.cell? ⟨b, off + 5, none⟩ = some (.int .i64 x.v)) 5 (fun _ => True) 5 7 rfl (by kernel_rfl) ⟨y, trivial⟩ (fun hHeld => ?_)
                        simp only [List.replicate_succ, List.replicate_zero]
                        refine wpT_take 0 71 (v := ?_) hHeld.1 hHeld.2 rfl rfl (by kernel_rfl) (fun _ _ _ h => h) rfl ?_ ?_
                        rotate_left
                        · (intro w hSw; (try dsimp only at hSw); go_simp; try with_reducible rfl)
                        try simp only [Act.put, List.setIfInBounds_toArray, List.set_cons_zero, List.set_cons_succ]
                        refine wpT_take 1 72 (v := ?_) hHeld.1 hHeld.2 rfl rfl (by kernel_rfl) (fun _ _ _ h => h) rfl ?_ ?_
                        rotate_left
                        · (intro w hSw; (try dsimp only at hSw); go_simp; try with_reducible rfl)
                        try simp only [Act.put, List.setIfInBounds_toArray, List.set_cons_zero, List.set_cons_succ]
                        refine wpT_take 2 73 (v := ?_) hHeld.1 hHeld.2 rfl rfl (by kernel_rfl) (fun _ _ _ h => h) rfl ?_ ?_
                        rotate_left
                        · (intro w hSw; (try dsimp only at hSw); go_simp; try with_reducible rfl)
                        try simp only [Act.put, List.setIfInBounds_toArray, List.set_cons_zero, List.set_cons_succ]
                        refine wpT_takeP 3 74 (v := ?_) ⟨fun _ => hHeld.1, fun _ => hHeld.2⟩ rfl rfl (by kernel_rfl) (fun _ _ _ h => h) rfl ?_ ?_
                        rotate_left
                        · (intro w; go_simp; try with_reducible rfl)
                        try simp only [Act.put, List.setIfInBounds_toArray, List.set_cons_zero, List.set_cons_succ]
                        refine wpT_takeP 4 75 (v := ?_) ⟨fun _ => hHeld.1, fun _ => hHeld.2⟩ rfl rfl (by kernel_rfl) (fun _ _ _ h => h) rfl ?_ ?_
                        rotate_left
                        · (intro w; go_simp; try with_reducible rfl)
                        try simp only [Act.put, List.setIfInBounds_toArray, List.set_cons_zero, List.set_cons_succ]
                        refine wpT_tail [_, _] 5 [6] rfl (by kernel_rfl) ?_
                        clear y hHeld i1
                        have HAP := Lib.hid (show xb ≠ gs ∧ (0 < s.pad.length → xb ≠ gp) ∧ (0 < s.mem.length → xb ≠ gm) from hxbe ▸ ⟨by have := HS5.out.sems.lt; omega, fun h => by have := HS5.out.pad.lt h; omega, fun h => by have := HS5.out.mem.lt h; omega⟩)
                        go_wp2_with fail
                        go_meet
                        case rel =>
                          refine ⟨x, _, Cr.pk_mover HZ.out HOK.out hlt HXX.out hca hco HKK.out HT8.out HTBB.out ?_ ?_ HAP.out⟩
                          · exact (HS5.out.below ((Below.refl _ _).alloc (Nat.le_refl _) _)).below (Below.refl _ _).drew
                          · rw [← hxbe]; exact (Blk.new wc _ _).drew
                    | false =>
                      obtain ⟨hca, hco⟩ := HCH.out.2 rfl
                      obtain ⟨hlt, hrd⟩ := AdjC.canB_at hca
                      have hLL := HLB.out
                      rw [List.drop_eq_getElem_cons hlt] at hLL
                      obtain ⟨x, hx⟩ : ∃ x, c.maker[s.j] = x := ⟨_, rfl⟩
                      obtain ⟨L', hL'⟩ : ∃ L', c.maker.drop (s.j + 1) = L' := ⟨_, rfl⟩
                      rw [hx, hL'] at hLL
                      have HXX := Lib.hid hx
                      have HLL := Lib.hid hL'
                      have HTAA := Lib.hid (show Cr.Tail w (c.mover.drop s.i) (.slice A1 LA.length k1) from ⟨A1, k1, by rw [HLA.out], by rw [HLA.out]; exact HI1.out, by rw [HLA.out]; exact l1, n1⟩)
                      have HTBB := Lib.hid (show Cr.Tail w (c.maker.drop s.j) (.slice A2 LB.length k2) from ⟨A2, k2, by rw [HLB.out], by rw [HLB.out]; exact HI2.out, by rw [HLB.out]; exact l2, n2⟩)
                      clear hx hL' HLB
                      subst hLL
                      obtain ⟨b, off, rfl, hbl⟩ := HI2.out.spot (by rw [AdjC.flat_length]; simp)
                      obtain ⟨x0, x1, x2, x3, x4, x5⟩ := Cr.six_cells (((HI2.out.below HB1.out).up HB1.out.size).below HS5.out.bel) (k := 0) (by simp) rfl
                      simp only [List.getElem_cons_zero, Nat.zero_mul, Nat.add_zero] at x0 x1 x2 x3 x4 x5
                      have hbW : b < wc.heap.size := by have h1 := HB1.out.size; have h2 := HS5.out.bel.size; omega
                      have HTN := Lib.hid (Cr.tail_next HI2.out l2 n2)
                      rw [← HLL.out] at HTN
                      have y := Cr.six_alloc ⟨x0, x1, x2, x3, x4, x5⟩ hbW (.cells #[.int .i64 0, .int .i64 0, .int .i64 0, .int .i64 0, .int .i64 0, .int .i64 0] 42)
                      clear x0 x1 x2 x3 x4 x5 hrd
                      simp only [List.length_cons] at l2 ⊢
                      by_cases hk1 : k2 = 1
                      · have HT9 := Lib.hid (HTN.out.1 hk1)
                        subst hk1
                        have HT8 := Lib.hid (show Cr.Tail w (c.maker.drop (s.j + 1)) (.slice (some ⟨b, off, none⟩) 0 0) from by
                          have h1 := HT9.out
                          have h2 := HLL.out
                          rw [h2, show L'.length = 0 by omega] at h1
                          rw [h2]; exact h1)
                        clear HT9
                        go_wp2_with fail
                        have i1 : (1 : Int) ≤ (L'.length : Int) + 1 := by omega
                        refine wp_region_T (fun w' => w'.cell? ⟨b, off, none⟩ = some (.int .i64 x.d) ∧ w'.cell? ⟨b, off + 1, none⟩ = some (.int .i64 x.a) ∧ w'.cell? ⟨b, off + 2, none⟩ = some (.int .i64 x.b) ∧ w'.cell? ⟨b, off + 3, none⟩ = some (.int .i64 x.c) ∧ w'.cell? ⟨b, off + 4, none⟩ = some (.int .i64 x.n) ∧ w'.cell? ⟨b, off + 5, none⟩ = some (.int .i64 x.v)) 5 (fun _ => True) 5 7 rfl (by kernel_rfl) ⟨y, trivial⟩ (fun hHeld => ?_)
                        simp only [List.replicate_succ, List.replicate_zero]
                        refine wpT_take 0 76 (v := ?_) hHeld.1 hHeld.2 rfl rfl (by kernel_rfl) (fun _ _ _ h => h) rfl ?_ ?_
                        rotate_left
                        · (intro w hSw; (try dsimp only at hSw); go_simp; try with_reducible rfl)
                        try simp only [Act.put, List.setIfInBounds_toArray, List.set_cons_zero, List.set_cons_succ]
                        refine wpT_take 1 77 (v := ?_) hHeld.1 hHeld.2 rfl rfl (by kernel_rfl) (fun _ _ _ h => h) rfl ?_ ?_
                        rotate_left
                        · (intro w hSw; (try dsimp only at hSw); go_simp; try with_reducible rfl)
                        try simp only [Act.put, List.setIfInBounds_toArray, List.set_cons_zero, List.set_cons_succ]
                        refine wpT_take 2 78 (v := ?_) hHeld.1 hHeld.2 rfl rfl (by kernel_rfl) (fun _ _ _ h => h) rfl ?_ ?_
                        rotate_left
                        · (intro w hSw; (try dsimp only at hSw); go_simp; try with_reducible rfl)
                        try simp only [Act.put, List.setIfInBounds_toArray, List.set_cons_zero, List.set_cons_succ]
                        refine wpT_takeP 3 79 (v := ?_) ⟨fun _ => hHeld.1, fun _ => hHeld.2⟩ rfl rfl (by kernel_rfl) (fun _ _ _ h => h) rfl ?_ ?_
                        rotate_left
                        · (intro w; go_simp; try with_reducible rfl)
                        try simp only [Act.put, List.setIfInBounds_toArray, List.set_cons_zero, List.set_cons_succ]
                        refine wpT_takeP 4 80 (v := ?_) ⟨fun _ => hHeld.1, fun _ => hHeld.2⟩ rfl rfl (by kernel_rfl) (fun _ _ _ h => h) rfl ?_ ?_
                        rotate_left
                        · (intro w; go_simp; try with_reducible rfl)
                        try simp only [Act.put, List.setIfInBounds_toArray, List.set_cons_zero, List.set_cons_succ]
                        refine wpT_tail [_, _] 5 [6] rfl (by kernel_rfl) ?_
                        clear y hHeld i1
                        have HAP := Lib.hid (show xb ≠ gs ∧ (0 < s.pad.length → xb ≠ gp) ∧ (0 < s.mem.length → xb ≠ gm) from hxbe ▸ ⟨by have := HS5.out.sems.lt; omega, fun h => by have := HS5.out.pad.lt h; omega, fun h => by have := HS5.out.mem.lt h; omega⟩)
                        go_wp2_with fail
                        go_meet
                        case rel =>
                          refine ⟨x, _, Cr.pk_maker HZ.out HOK.out hlt HXX.out hca hco HKK.out HTAA.out HT8.out ?_ ?_ HAP.out⟩
                          · exact (HS5.out.below ((Below.refl _ _).alloc (Nat.le_refl _) _)).below (Below.refl _ _).drew
                          · rw [← hxbe]; exact (Blk.new wc _ _).drew
                      · have HT9 := Lib.hid (HTN.out.2 hk1)
                        have HT8 := Lib.hid (show Cr.Tail w (c.maker.drop (s.j + 1)) (.slice (some ⟨b, off + 6, none⟩) L'.length (k2 - 1)) from by
                          have h1 := HT9.out
                          have h2 := HLL.out
                          rw [h2] at h1
                          rw [h2]; exact h1)
                        clear HT9
                        have q1 : (k2 == 1) = false := by simpa using hk1
                        go_wp2_with fail
                        have i1 : (1 : Int) ≤ (L'.length : Int) + 1 := by omega
                        refine wp_region_T (fun w' => w'.cell? ⟨b, off, none⟩ = some (.int .i64 x.d) ∧ w'.cell? ⟨b, off + 1, none⟩ = some (.int .i64 x.a) ∧ w'.cell? ⟨b, off + 2, none⟩ = some (.int .i64 x.b) ∧ w'.cell? ⟨b, off + 3, none⟩ = some (.int .i64 x.c) ∧ w'.cell? ⟨b, off + 4, none⟩ = some (.int .i64 x.n) ∧ w'.cell? ⟨b, off + 5, none⟩ = some (.int .i64 x.v)) 5 (fun _ => True) 5 7 rfl (by kernel_rfl) ⟨y, trivial⟩ (fun hHeld => ?_)
                        simp only [List.replicate_succ, List.replicate_zero]
                        refine wpT_take 0 76 (v := ?_) hHeld.1 hHeld.2 rfl rfl (by kernel_rfl) (fun _ _ _ h => h) rfl ?_ ?_
                        rotate_left
                        · (intro w hSw; (try dsimp only at hSw); go_simp; try with_reducible rfl)
                        try simp only [Act.put, List.setIfInBounds_toArray, List.set_cons_zero, List.set_cons_succ]
                        refine wpT_take 1 77 (v := ?_) hHeld.1 hHeld.2 rfl rfl (by kernel_rfl) (fun _ _ _ h => h) rfl ?_ ?_
                        rotate_left
                        · (intro w hSw; (try dsimp only at hSw); go_simp; try with_reducible rfl)
                        try simp only [Act.put, List.setIfInBounds_toArray, List.set_cons_zero, List.set_cons_succ]
                        refine wpT_take 2 78 (v := ?_) hHeld.1 hHeld.2 rfl rfl (by kernel_rfl) (fun _ _ _ h => h) rfl ?_ ?_
                        rotate_left
                        · (intro w hSw; (try dsimp only at hSw); go_simp; try with_reducible rfl)
                        try simp only [Act.put, List.setIfInBounds_toArray, List.set_cons_zero, List.set_cons_succ]
                        refine wpT_takeP 3 79 (v := ?_) ⟨fun _ => hHeld.1, fun _ => hHeld.2⟩ rfl rfl (by kernel_rfl) (fun _ _ _ h => h) rfl ?_ ?_
                        rotate_left
                        · (intro w; go_simp; try with_reducible rfl)
                        try simp only [Act.put, List.setIfInBounds_toArray, List.set_cons_zero, List.set_cons_succ]
                        refine wpT_takeP 4 80 (v := ?_) ⟨fun _ => hHeld.1, fun _ => hHeld.2⟩ rfl rfl (by kernel_rfl) (fun _ _ _ h => h) rfl ?_ ?_
                        rotate_left
                        · (intro w; go_simp; try with_reducible rfl)
                        try simp only [Act.put, List.setIfInBounds_toArray, List.set_cons_zero, List.set_cons_succ]
                        refine wpT_tail [_, _] 5 [6] rfl (by kernel_rfl) ?_
                        clear y hHeld i1
                        have HAP := Lib.hid (show xb ≠ gs ∧ (0 < s.pad.length → xb ≠ gp) ∧ (0 < s.mem.length → xb ≠ gm) from hxbe ▸ ⟨by have := HS5.out.sems.lt; omega, fun h => by have := HS5.out.pad.lt h; omega, fun h => by have := HS5.out.mem.lt h; omega⟩)
                        go_wp2_with fail
                        go_meet
                        case rel =>
                          refine ⟨x, _, Cr.pk_maker HZ.out HOK.out hlt HXX.out hca hco HKK.out HTAA.out HT8.out ?_ ?_ HAP.out⟩
                          · exact (HS5.out.below ((Below.refl _ _).alloc (Nat.le_refl _) _)).below (Below.refl _ _).drew
                          · rw [← hxbe]; exact (Blk.new wc _ _).drew
                case rest =>
                  obtain ⟨x, s1, hpk⟩ := hcut
                  have HK := Lib.hid hpk
                  have HSH := Lib.hid (AdjC.doI_shape x s1)
                  have n0 := hpk.ins.cell 0
                  have n1 := hpk.ins.cell 1
                  clear hpk HS5 HCH hxb hxbe HI1 HI2 HLA HLB HKK HOK HCM HSL
                  by_cases hd : x.d = 3
                  ·
                    as_aux_lemma =>
                      obtain ⟨mv', hmv⟩ := HK.out.right
                      obtain ⟨sm, hs, hs16⟩ := AdjC.sem_range hmv (.inl hd)
                      have HDL := Lib.hid (show AdjC.doI x s1 = { s1 with sems := AdjC.put s1.sems (sm : Int) (AdjC.at_ s1.sems (sm : Int) + 1) } from by
                        unfold AdjC.doI; rw [if_neg (by omega), if_neg (by omega), if_pos hd, hs])
                      have hv := HK.out.range _ (AdjC.at_mem (l := s1.sems) (k := (sm : Int)) (by rw [HK.out.sems]; omega))
                      have z := HK.out.rs.sem_at HK.out.sems sm hs16
                      have f := HK.out.rs.sems.frozen sm
                      obtain ⟨u, hu⟩ : ∃ u, AdjC.at_ s1.sems (sm : Int) = u := ⟨_, rfl⟩
                      rw [hu] at z hv HDL
                      clear hu
                      have HSX := Lib.hid (HK.out.rs.set_sem HK.out.sems hs16 (u + 1))
                      rw [hs] at n1
                      rw [hd] at n0
                      clear hd hs
                      go_wp2_with fail
                      go_roundg (AdjC.left c (AdjC.doI x s1))
                      case measure => exact HK.out.less
                      case rel => exact ⟨_, t', rfl, rfl, HK.out.comes, by rw [HDL.out]; exact HSX.out, by rw [HSH.out.2.2.2.1]; exact HK.out.ta, by rw [HSH.out.2.2.2.2]; exact HK.out.tb⟩
                  by_cases hd4 : x.d = 4
                  ·
                    as_aux_lemma =>
                      have hd := hd4
                      clear hd4
                      obtain ⟨mv', hmv⟩ := HK.out.right
                      obtain ⟨sm, hs, hs16⟩ := AdjC.sem_range hmv (.inr hd)
                      have HDL := Lib.hid (show AdjC.doI x s1 = { s1 with sems := AdjC.put s1.sems (sm : Int) (AdjC.at_ s1.sems (sm : Int) - 1) } from by
                        unfold AdjC.doI; rw [if_neg (by omega), if_neg (by omega), if_neg (by omega), if_pos hd, hs])
                      have hv := HK.out.range _ (AdjC.at_mem (l := s1.sems) (k := (sm : Int)) (by rw [HK.out.sems]; omega))
                      have z := HK.out.rs.sem_at HK.out.sems sm hs16
                      have f := HK.out.rs.sems.frozen sm
                      obtain ⟨u, hu⟩ : ∃ u, AdjC.at_ s1.sems (sm : Int) = u := ⟨_, rfl⟩
                      rw [hu] at z hv HDL
                      clear hu
                      have HSX := Lib.hid (HK.out.rs.set_sem HK.out.sems hs16 (u - 1))
                      rw [hs] at n1
                      rw [hd] at n0
                      clear hd hs
                      go_wp2_with fail
                      go_roundg (AdjC.left c (AdjC.doI x s1))
                      case measure => exact HK.out.less
                      case rel => exact ⟨_, t', rfl, rfl, HK.out.comes, by rw [HDL.out]; exact HSX.out, by rw [HSH.out.2.2.2.1]; exact HK.out.ta, by rw [HSH.out.2.2.2.2]; exact HK.out.tb⟩
                  obtain ⟨mv', hmv⟩ := HK.out.right
                  have hp1 : s1.pad.length = pn := by have h1 := HK.out.pad; have h2 := HPN.out; omega
                  have hm1 : s1.mem.length = mem.length := by have h1 := HK.out.mem; have h2 := HML.out; omega
                  have HDO := Lib.hid (Do_any wc gp gm Ap Am cp cm s1 x mv' c.pad c.mem hmv (by omega) HK.out.rs.pad HK.out.rs.mem HK.out.rs.apart.2.2.2.1 HK.out.pad HK.out.mem (by omega) (by omega))
                  rw [hp1, hm1] at HDO
                  simp only [Cr.insV] at HDO
                  have HSE := Lib.hid (show (AdjC.doI x s1).sems = s1.sems from Cr.sems_same (by omega))
                  have t3 : (x.d == 3) = false := by simpa using hd
                  have t4 : (x.d == 4) = false := by simpa using hd4
                  have n2 := HK.out.ins.cell 2
                  have n3 := HK.out.ins.cell 3
                  have n4 := HK.out.ins.cell 4
                  have n5 := HK.out.ins.cell 5
                  clear hd hd4 hp1 hm1 hmv
                  go_wp2_with fail
                  ((with_reducible refine HDO.out.mono ?_); rintro e w9 ⟨rfl, hdm⟩)
                  have HR9 := Lib.hid (HK.out.rs.done (s2 := AdjC.doI x s1) HSH.out.1 HSH.out.2.1 HSE.out hdm)
                  clear hdm n0 n1 n2 n3 n4 n5 t3 t4
                  go_wp2_with fail
                  go_roundg (AdjC.left c (AdjC.doI x s1))
                  case measure => exact HK.out.less
                  case rel => exact ⟨_, t', rfl, rfl, HK.out.comes, HR9.out, by rw [HSH.out.2.2.2.1]; exact HK.out.ta, by rw [HSH.out.2.2.2.2]; exact HK.out.tb⟩
end Go.Proofs.Ytlnfmipcbhhkhaa
