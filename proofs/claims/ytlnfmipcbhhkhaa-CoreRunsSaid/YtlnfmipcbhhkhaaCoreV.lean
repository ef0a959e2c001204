/-
  The walk of the reference's Do. Conditions: the pad and memory lie there, the instruction is right.
-/
import Derived.Test.YtlnfmipcbhhkhaaCoreU
namespace Go.Proofs.Ytlnfmipcbhhkhaa
set_option linter.unusedVariables false
open Go.RowKit Adj

namespace Cr
/-- All but two blocks (those that hold something) are as they were. -/
structure Frm (W W' : World) (gp gm pl ml : Nat) : Prop where
  os : W'.os = W.os
  tape : W'.tape = W.tape
  output : W'.output = W.output
  size : W.heap.size ≤ W'.heap.size
  block : ∀ g, g < W.heap.size → (0 < pl → g ≠ gp) → (0 < ml → g ≠ gm) → W'.heap[g]? = W.heap[g]?
theorem Frm.refl (W : World) (gp gm pl ml : Nat) : Frm W W gp gm pl ml := ⟨rfl, rfl, rfl, Nat.le_refl _, fun _ _ _ _ => rfl⟩
theorem Frm.below {W W1 W2 : World} {gp gm pl ml : Nat} (h : Frm W W1 gp gm pl ml) (hb : Below W1.heap.size W1 W2) : Frm W W2 gp gm pl ml :=
  ⟨hb.os.trans h.os, hb.tape.trans h.tape, hb.output.trans h.output, Nat.le_trans h.size hb.size, fun g h1 h2 h3 => (hb.block g (Nat.lt_of_lt_of_le h1 h.size)).trans (h.block g h1 h2 h3)⟩
theorem Frm.put {W W1 : World} {gp gm pl ml : Nat} (h : Frm W W1 gp gm pl ml) (hp : 0 < pl) (j : Nat) (v : Value) : Frm W (W1.setCell ⟨gp, j, none⟩ v) gp gm pl ml :=
  ⟨h.os, h.tape, h.output, by simpa using h.size, fun g h1 h2 h3 => (Below.heap_setCell W1 ⟨gp, j, none⟩ v g (h2 hp)).trans (h.block g h1 h2 h3)⟩
theorem Frm.putM {W W1 : World} {gp gm pl ml : Nat} (h : Frm W W1 gp gm pl ml) (hp : 0 < ml) (j : Nat) (v : Value) : Frm W (W1.setCell ⟨gm, j, none⟩ v) gp gm pl ml :=
  ⟨h.os, h.tape, h.output, by simpa using h.size, fun g h1 h2 h3 => (Below.heap_setCell W1 ⟨gm, j, none⟩ v g (h3 hp)).trans (h.block g h1 h2 h3)⟩
theorem Frm.blk {W W' : World} {gp gm pl ml g : Nat} {t : TypeId} {cs : Array Value} (h : Frm W W' gp gm pl ml) (hb : Blk W g t cs) (h1 : 0 < pl → g ≠ gp) (h2 : 0 < ml → g ≠ gm) : Blk W' g t cs := (h.block g hb.lt h1 h2).trans hb
theorem Frm.from {W W' : World} {B gp gm pl ml : Nat} (h : Frm W W' gp gm pl ml) (hB : B ≤ W.heap.size) (h1 : 0 < pl → B ≤ gp) (h2 : 0 < ml → B ≤ gm) : Below B W W' :=
  ⟨h.os, h.tape, h.output, h.size, fun g hg => h.block g (by omega) (fun hp => by have := h1 hp; omega) (fun hp => by have := h2 hp; omega)⟩
/-- What Do leaves. -/
structure Dm (W : World) (gp gm : Nat) (Ap Am : Option Addr) (pad mem : List Int) (wr : World) : Prop where
  frm : Frm W wr gp gm pad.length mem.length
  pad : Mm wr Ap gp pad
  mem : Mm wr Am gm mem
/-- While Do works. -/
structure De (W : World) (gp gm : Nat) (Ap Am OA : Option Addr) (ob : Nat) (x : AdjC.I) (old pad mem : List Int) (wr : World) : Prop where
  dm : Dm W gp gm Ap Am pad mem wr
  ins : Blk wr W.heap.size 42 #[.int .i64 x.d, .int .i64 x.a, .int .i64 x.b, .int .i64 x.c, .int .i64 x.n, .int .i64 x.v]
  olds : Mm wr OA ob old
  high : 0 < old.length → W.heap.size < ob
  low : 0 < pad.length → gp < W.heap.size
  lowm : 0 < mem.length → gm < W.heap.size
  ne : gp ≠ gm
section
variable {W wr wr' : World} {gp gm ob : Nat} {Ap Am OA : Option Addr} {x : AdjC.I} {old pad mem : List Int}
theorem De.below (h : De W gp gm Ap Am OA ob x old pad mem wr) (hb : Below wr.heap.size wr wr') : De W gp gm Ap Am OA ob x old pad mem wr' :=
  ⟨⟨h.dm.frm.below hb, h.dm.pad.below hb, h.dm.mem.below hb⟩, h.ins.below hb h.ins.lt, h.olds.below hb, h.high, h.low, h.lowm, h.ne⟩
theorem De.drew (h : De W gp gm Ap Am OA ob x old pad mem wr) : De W gp gm Ap Am OA ob x old pad mem wr.drew := h.below (Below.refl _ _).drew
theorem De.drewN (h : De W gp gm Ap Am OA ob x old pad mem wr) (m : Nat) : De W gp gm Ap Am OA ob x old pad mem (wr.drewN m) := h.below (below_drewN (Below.refl _ _) m)
theorem De.put (h : De W gp gm Ap Am OA ob x old pad mem wr) {j : Nat} (hj : j < pad.length) (v : Int) : De W gp gm Ap Am OA ob x old (AdjC.put pad (j : Int) v) mem (wr.setCell ⟨gp, j, none⟩ (.int .i64 v)) := by
  have hg := h.low (by omega)
  refine ⟨⟨by rw [AdjC.put_length]; exact h.dm.frm.put (by omega) j _, h.dm.pad.put hj v, h.dm.mem.far (p := ⟨gp, j, none⟩) (Ne.symm h.ne) _⟩, h.ins.far (p := ⟨gp, j, none⟩) (by simp; omega) _, ?_, h.high, fun _ => hg, h.lowm, h.ne⟩
  rcases Nat.eq_zero_or_pos old.length with h0 | h0
  · exact fun hp => absurd hp (by omega)
  · exact h.olds.far (p := ⟨gp, j, none⟩) (by have := h.high h0; simp; omega) _
theorem De.putM (h : De W gp gm Ap Am OA ob x old pad mem wr) {j : Nat} (hj : j < mem.length) (v : Int) : De W gp gm Ap Am OA ob x old pad (AdjC.put mem (j : Int) v) (wr.setCell ⟨gm, j, none⟩ (.int .i64 v)) := by
  have hg := h.lowm (by omega)
  refine ⟨⟨by rw [AdjC.put_length]; exact h.dm.frm.putM (by omega) j _, h.dm.pad.far (p := ⟨gm, j, none⟩) h.ne _, h.dm.mem.put hj v⟩, h.ins.far (p := ⟨gm, j, none⟩) (by simp; omega) _, ?_, h.high, h.low, fun _ => hg, h.ne⟩
  rcases Nat.eq_zero_or_pos old.length with h0 | h0
  · exact fun hp => absurd hp (by omega)
  · exact h.olds.far (p := ⟨gm, j, none⟩) (by have := h.high h0; simp; omega) _
theorem mm_reads (h : Mm wr Ap gp pad) : Adj.Reads wr wr.heap.size 1 Ap pad.length (ints pad) :=
  ⟨by rw [ints_length, Nat.mul_one], fun hn => by
    obtain ⟨e, cur, hb, hc⟩ := h hn
    refine ⟨⟨gp, 0, none⟩, e, hb.lt, fun j u hu => ?_⟩
    unfold ints at hu
    rw [List.getElem?_map] at hu
    obtain ⟨z, hz, rfl⟩ := Option.map_eq_some_iff.1 hu
    rw [Addr.add_lit, Nat.zero_add, hb.cell]
    exact hc j z hz⟩
theorem at_put_same {l : List Int} {k : Nat} (hk : k < l.length) (v : Int) : AdjC.at_ (AdjC.put l (k : Int) v) (k : Int) = v := by
  unfold AdjC.at_ AdjC.put
  rw [Int.toNat_natCast, List.getD_eq_getElem?_getD, List.getElem?_set_self hk]; rfl
theorem put_put (l : List Int) (k u v : Int) : AdjC.put (AdjC.put l k u) k v = AdjC.put l k v := by
  unfold AdjC.put; rw [List.set_set]
theorem put_at {l : List Int} {k : Nat} (hk : k < l.length) : AdjC.put l (k : Int) (AdjC.at_ l (k : Int)) = l := by
  unfold AdjC.at_ AdjC.put
  rw [Int.toNat_natCast, List.getD_eq_getElem?_getD, List.getElem?_eq_getElem hk]
  simp
end
end Cr
set_option maxRecDepth 100000 in
set_option maxHeartbeats 8000000 in
theorem Do_load (W : World) (gp gm : Nat) (Ap Am : Option Addr) (cp cm : Nat) (pad mem : List Int) (a b2 c' v : Int) (n : Nat) (hp : Cr.Mm W Ap gp pad) (hm : Cr.Mm W Am gm mem) (hne : gp ≠ gm) (hl : pad.length ≤ 4096) (hlm : mem.length ≤ 1048576) (hn : n ≤ 4096) (hpa : 0 < n → 0 ≤ a ∧ a + (n : Int) ≤ (pad.length : Int)) (hre : ∀ i : Int, 0 ≤ i → i < (n : Int) → (0 ≤ b2 + i * c' ∧ b2 + i * c' < (mem.length : Int)) ∧ -8589934592 ≤ i * c' ∧ i * c' ≤ 8589934592) :
    Calls Try.prog 22 #[Cr.insV ⟨1, a, b2, c', (n : Int), v⟩, .slice Ap pad.length cp, .slice Am mem.length cm] W fun e w' => e = .returned (.tuple #[]) ∧ Cr.Dm W gp gm Ap Am (AdjC.loadK ⟨1, a, b2, c', (n : Int), v⟩ pad mem n) mem w' := by
  rw [Cr.insV_eq]
  simp only
  have HP := Lib.hid hp
  have HM := Lib.hid hm
  have HF := Lib.hid (And.intro hpa hre)
  clear hp hm hpa hre
  obtain ⟨i0, hi, hz0, hz1, hzb⟩ := info_parts Try.infoWord
  have HPR := Lib.hid (fun o o' => Cr.mm_reads ((HP.out.alloc o).alloc o'))
  have HOW := Lib.hid (show ((W.alloc (.cells #[.int .i64 1, .int .i64 a, .int .i64 b2, .int .i64 c', .int .i64 (n : Int), .int .i64 v] 42)).alloc (.cells #[] 2)).ownsRow (W.heap.size + 1) 2 1 (.slice (some ⟨W.heap.size + 1, 0, none⟩) 0 0) 0 [] from by
    have h := Cr.own_none (W.alloc (.cells #[.int .i64 1, .int .i64 a, .int .i64 b2, .int .i64 c', .int .i64 (n : Int), .int .i64 v] 42)) 2
    rwa [World.size_alloc] at h)
  go_enter Try.func22, Try.ntmps22
  go_wp2_with (at_builtin; refine wpList_append_any _ rfl _ _ 31 rfl _ 2 i0 (.int .i64 0) 1 8 Try.underlying31 hi hz0 hz1 hzb rfl (by decide) _ _ _ rfl HOW.out _ _ pad.length cp (ints pad) rfl (HPR.out _ _) (Cr.ints_ones pad) (by unfold maxLen; omega) (by omega) (by simp) ?_)
  intro v' w1 hown' hgrow _
  have hbel : Below (W.heap.size + 1) (W.alloc (.cells #[.int .i64 1, .int .i64 a, .int .i64 b2, .int .i64 c', .int .i64 (n : Int), .int .i64 v] 42)) w1 := (((Below.refl _ _).alloc (by simp) (.cells #[] 2))).grown hgrow (by simp) (fun k hk => by simp [Value.ownBlock] at hk; omega)
  obtain ⟨OA, ocap, rfl, oc1, oc2, hoo⟩ := Cr.own_mm (l := pad) (by simpa using hown')
  have HDE := Lib.hid (show ∃ ob, Cr.De W gp gm Ap Am OA ob ⟨1, a, b2, c', (n : Int), v⟩ pad pad mem w1 from by
    have hb2 : Below W.heap.size W w1 := ((Below.refl _ _).alloc (Nat.le_refl _) _).trans (hbel.mono (by omega))
    have hi2 : Blk w1 W.heap.size 42 #[.int .i64 1, .int .i64 a, .int .i64 b2, .int .i64 c', .int .i64 (n : Int), .int .i64 v] := (Blk.new W _ _).below hbel (by omega)
    have mk : ∀ ob, Cr.Mm w1 OA ob pad → (0 < pad.length → W.heap.size < ob) → Cr.De W gp gm Ap Am OA ob ⟨1, a, b2, c', (n : Int), v⟩ pad pad mem w1 := fun ob h1 h2 =>
      ⟨⟨(Cr.Frm.refl W gp gm _ _).below hb2, HP.out.below hb2, HM.out.below hb2⟩, hi2, h1, h2, fun h => HP.out.lt h, fun h => HM.out.lt h, hne⟩
    rcases hoo with h0 | ⟨g, h1, h2, h3⟩
    · exact ⟨0, mk 0 (fun h => by rw [h0] at h; simp at h) (fun h => by rw [h0] at h; simp at h)⟩
    · exact ⟨g, mk g h3 (fun _ => by omega)⟩)
  obtain ⟨ob, hde⟩ := HDE.out
  have HD := Lib.hid hde
  clear hown' hgrow hbel hoo hi hz0 hz1 hzb HDE hde HPR HOW
  have n4 := HD.out.ins.cell 4
  have n0 := HD.out.ins.cell 0
  go_wp2_with fail
  clear n4 n0
  go_loopw [7] (fun i wr => ∃ j : Nat, j ≤ n ∧ i = .int .i64 (j : Int) ∧ Cr.De W gp gm Ap Am OA ob ⟨1, a, b2, c', (n : Int), v⟩ pad (AdjC.loadK ⟨1, a, b2, c', (n : Int), v⟩ pad mem j) mem wr) (fun i _ => n - (intOf i).toNat)
  case atStart => exact ⟨0, by omega, rfl, HD.out⟩
  case round =>
    obtain ⟨j, hj, rfl, he⟩ := hrel
    have HJ := Lib.hid he
    clear he
    have n0 := HJ.out.ins.cell 0
    have n4 := HJ.out.ins.cell 4
    by_cases hlt : j < n
    rotate_left
    · obtain rfl : j = n := by omega
      go_wp2_with fail
      go_end0
      exact ⟨rfl, HJ.out.dm⟩
    have n1 := HJ.out.ins.cell 1
    have n2 := HJ.out.ins.cell 2
    have n3 := HJ.out.ins.cell 3
    have n5 := HJ.out.ins.cell 5
    obtain ⟨p, rfl⟩ : ∃ p : Nat, a = (p : Int) := ⟨a.toNat, by have := HF.out.1 (by omega); omega⟩
    have hpn : p + n ≤ pad.length := by have := HF.out.1 (by omega); omega
    obtain ⟨hq1, hq2⟩ := HF.out.2 (j : Int) (by omega) (by omega)
    obtain ⟨m, hm⟩ : ∃ m : Int, (j : Int) * c' = m := ⟨_, rfl⟩
    rw [hm] at hq1 hq2
    obtain ⟨q, hq⟩ : ∃ q : Nat, b2 + m = (q : Int) := ⟨(b2 + m).toNat, by omega⟩
    have hqm : q < mem.length := by omega
    have HNX := Lib.hid (Cr.loadK_next ⟨1, (p : Int), b2, c', (n : Int), v⟩ pad mem j p q rfl (by simp only; rw [hm, hq]))
    have hpj : p + j < pad.length := by omega
    have hAP := HJ.out.dm.pad.some_ (by simp only [AdjC.loadK_length]; omega)
    have hAM := HJ.out.dm.mem.some_ (by  omega)
    subst hAP hAM
    have b6 := HJ.out.dm.mem.cell (k := q) hqm
    go_wp2_with fail
    have wm : IntKind.i64.wrap m = m := IntWalk.i64_in _ (by omega)
    have wq : IntKind.i64.wrap (q : Int) = (q : Int) := IntWalk.i64_in _ (by omega)
    have i1 : (q : Int) < (mem.length : Int) := by omega
    refine wp_region_T (fun w' => w'.cell? ⟨W.heap.size, 1, none⟩ = some (.int .i64 (p : Int)) ∧ w'.cell? ⟨W.heap.size, 2, none⟩ = some (.int .i64 b2) ∧ w'.cell? ⟨W.heap.size, 3, none⟩ = some (.int .i64 c') ∧ w'.cell? ⟨gm, q, none⟩ = some (.int .i64 (AdjC.at_ mem (q : Int)))) 15 (fun _ => True) 15 17 rfl (by kernel_rfl) ⟨⟨n1, n2, n3, b6⟩, trivial⟩ (fun hHeld => ?_)
    simp only [List.replicate_succ, List.replicate_zero]
    refine wpT_take 0 21 (v := ?_) hHeld.1 hHeld.2 rfl rfl (by kernel_rfl) (fun _ _ _ h => h) rfl ?_ ?_
    rotate_left
    · (intro w hSw; (try dsimp only at hSw); go_simp; try with_reducible rfl)
    try simp only [Act.put, List.setIfInBounds_toArray, List.set_cons_zero, List.set_cons_succ]
    refine wpT_take 1 22 (v := ?_) hHeld.1 hHeld.2 rfl rfl (by kernel_rfl) (fun _ _ _ h => h) rfl ?_ ?_
    rotate_left
    · (intro w hSw; (try dsimp only at hSw); go_simp; try with_reducible rfl)
    try simp only [Act.put, List.setIfInBounds_toArray, List.set_cons_zero, List.set_cons_succ]
    refine wpT_take 2 23 (v := ?_) hHeld.1 hHeld.2 rfl rfl (by kernel_rfl) (fun _ _ _ h => h) rfl ?_ ?_
    rotate_left
    · (intro w hSw; (try dsimp only at hSw); go_simp; try with_reducible rfl)
    try simp only [Act.put, List.setIfInBounds_toArray, List.set_cons_zero, List.set_cons_succ]
    refine wpT_take 3 24 (v := ?_) hHeld.1 hHeld.2 rfl rfl (by kernel_rfl) (fun _ _ _ h => h) rfl ?_ ?_
    rotate_left
    · (intro w hSw; (try dsimp only at hSw); go_simp; try with_reducible rfl)
    try simp only [Act.put, List.setIfInBounds_toArray, List.set_cons_zero, List.set_cons_succ]
    refine wpT_take 4 25 (v := ?_) hHeld.1 hHeld.2 rfl rfl (by kernel_rfl) (fun _ _ _ h => h) rfl ?_ ?_
    rotate_left
    · (intro w hSw; (try dsimp only at hSw); go_simp; try with_reducible rfl)
    try simp only [Act.put, List.setIfInBounds_toArray, List.set_cons_zero, List.set_cons_succ]
    refine wpT_take 5 26 (v := ?_) hHeld.1 hHeld.2 rfl rfl (by kernel_rfl) (fun _ _ _ h => h) rfl ?_ ?_
    rotate_left
    · (intro w hSw; (try dsimp only at hSw); go_simp; try with_reducible rfl)
    try simp only [Act.put, List.setIfInBounds_toArray, List.set_cons_zero, List.set_cons_succ]
    refine wpT_take 6 27 (v := ?_) hHeld.1 hHeld.2 rfl rfl (by kernel_rfl) (fun _ _ _ h => h) rfl ?_ ?_
    rotate_left
    · (intro w hSw; (try dsimp only at hSw); go_simp; try with_reducible rfl)
    try simp only [Act.put, List.setIfInBounds_toArray, List.set_cons_zero, List.set_cons_succ]
    refine wpT_take 7 28 (v := ?_) hHeld.1 hHeld.2 rfl rfl (by kernel_rfl) (fun _ _ _ h => h) rfl ?_ ?_
    rotate_left
    · (intro w hSw; (try dsimp only at hSw); go_simp; try with_reducible rfl)
    try simp only [Act.put, List.setIfInBounds_toArray, List.set_cons_zero, List.set_cons_succ]
    refine wpT_take 8 29 (v := ?_) hHeld.1 hHeld.2 rfl rfl (by kernel_rfl) (fun _ _ _ h => h) rfl ?_ ?_
    rotate_left
    · (intro w hSw; (try dsimp only at hSw); go_simp; try with_reducible rfl)
    try simp only [Act.put, List.setIfInBounds_toArray, List.set_cons_zero, List.set_cons_succ]
    refine wpT_take 9 30 (v := ?_) hHeld.1 hHeld.2 rfl rfl (by kernel_rfl) (fun _ _ _ h => h) rfl ?_ ?_
    rotate_left
    · (intro w hSw; (try dsimp only at hSw); go_simp; try with_reducible rfl)
    try simp only [Act.put, List.setIfInBounds_toArray, List.set_cons_zero, List.set_cons_succ]
    refine wpT_take 10 31 (v := ?_) hHeld.1 hHeld.2 rfl rfl (by kernel_rfl) (fun _ _ _ h => h) rfl ?_ ?_
    rotate_left
    · (intro w hSw; (try dsimp only at hSw); go_simp; try with_reducible rfl)
    try simp only [Act.put, List.setIfInBounds_toArray, List.set_cons_zero, List.set_cons_succ]
    refine wpT_take 11 32 (v := ?_) hHeld.1 hHeld.2 rfl rfl (by kernel_rfl) (fun _ _ _ h => h) rfl ?_ ?_
    rotate_left
    · (intro w hSw; (try dsimp only at hSw); go_simp; try with_reducible rfl)
    try simp only [Act.put, List.setIfInBounds_toArray, List.set_cons_zero, List.set_cons_succ]
    refine wpT_take 12 33 (v := ?_) hHeld.1 hHeld.2 rfl rfl (by kernel_rfl) (fun _ _ _ h => h) rfl ?_ ?_
    rotate_left
    · (intro w hSw; (try dsimp only at hSw); go_simp; try with_reducible rfl)
    try simp only [Act.put, List.setIfInBounds_toArray, List.set_cons_zero, List.set_cons_succ]
    refine wpT_take 13 34 (v := ?_) hHeld.1 hHeld.2 rfl rfl (by kernel_rfl) (fun _ _ _ h => h) rfl ?_ ?_
    rotate_left
    · (intro w hSw; (try dsimp only at hSw); go_simp; try with_reducible rfl)
    try simp only [Act.put, List.setIfInBounds_toArray, List.set_cons_zero, List.set_cons_succ]
    refine wpT_take 14 35 (v := ?_) hHeld.1 hHeld.2 rfl rfl (by kernel_rfl) (fun _ _ _ h => h) rfl ?_ ?_
    rotate_left
    · (intro w hSw; (try dsimp only at hSw); go_simp; try with_reducible rfl)
    try simp only [Act.put, List.setIfInBounds_toArray, List.set_cons_zero, List.set_cons_succ]
    have HJD := Lib.hid HJ.out.drew
    generalize wr.drew = wd at HJD hHeld ⊢
    have f5 := HJD.out.dm.pad.frozen (k := p + j) (by simp only [AdjC.loadK_length]; omega)
    have q5 := HJD.out.dm.pad.cell (k := p + j) (by simp only [AdjC.loadK_length]; omega)
    have HPU := Lib.hid (HJD.out.put (j := p + j) (by simp only [AdjC.loadK_length]; omega) (AdjC.at_ mem (q : Int)))
    refine wpT_tail [_, _] 15 [16] rfl (by kernel_rfl) ?_
    have HM9 := Lib.hid hm
    have HQ9 := Lib.hid hq
    clear hHeld hm hq wm wq i1 n0 n1 n2 n3 n4 n5 b6
    go_wp2_with fail
    go_roundw
    case rel => exact ⟨j + 1, by omega, by go_num, by rw [HNX.out]; exact HPU.out⟩
    case measure => simp [intOf]; omega
set_option maxRecDepth 100000 in
set_option maxHeartbeats 8000000 in
theorem Do_store (W : World) (gp gm : Nat) (Ap Am : Option Addr) (cp cm : Nat) (pad mem : List Int) (a b2 c' v : Int) (n : Nat) (hp : Cr.Mm W Ap gp pad) (hm : Cr.Mm W Am gm mem) (hne : gp ≠ gm) (hl : pad.length ≤ 4096) (hlm : mem.length ≤ 1048576) (hn : n ≤ 4096) (hpa : 0 < n → 0 ≤ a ∧ a + (n : Int) ≤ (pad.length : Int)) (hre : ∀ i : Int, 0 ≤ i → i < (n : Int) → (0 ≤ b2 + i * c' ∧ b2 + i * c' < (mem.length : Int)) ∧ -8589934592 ≤ i * c' ∧ i * c' ≤ 8589934592) :
    Calls Try.prog 22 #[Cr.insV ⟨2, a, b2, c', (n : Int), v⟩, .slice Ap pad.length cp, .slice Am mem.length cm] W fun e w' => e = .returned (.tuple #[]) ∧ Cr.Dm W gp gm Ap Am pad (AdjC.storeK ⟨2, a, b2, c', (n : Int), v⟩ pad mem n) w' := by
  rw [Cr.insV_eq]
  simp only
  have HP := Lib.hid hp
  have HM := Lib.hid hm
  have HF := Lib.hid (And.intro hpa hre)
  clear hp hm hpa hre
  obtain ⟨i0, hi, hz0, hz1, hzb⟩ := info_parts Try.infoWord
  have HPR := Lib.hid (fun o o' => Cr.mm_reads ((HP.out.alloc o).alloc o'))
  have HOW := Lib.hid (show ((W.alloc (.cells #[.int .i64 2, .int .i64 a, .int .i64 b2, .int .i64 c', .int .i64 (n : Int), .int .i64 v] 42)).alloc (.cells #[] 2)).ownsRow (W.heap.size + 1) 2 1 (.slice (some ⟨W.heap.size + 1, 0, none⟩) 0 0) 0 [] from by
    have h := Cr.own_none (W.alloc (.cells #[.int .i64 2, .int .i64 a, .int .i64 b2, .int .i64 c', .int .i64 (n : Int), .int .i64 v] 42)) 2
    rwa [World.size_alloc] at h)
  go_enter Try.func22, Try.ntmps22
  go_wp2_with (at_builtin; refine wpList_append_any _ rfl _ _ 31 rfl _ 2 i0 (.int .i64 0) 1 8 Try.underlying31 hi hz0 hz1 hzb rfl (by decide) _ _ _ rfl HOW.out _ _ pad.length cp (ints pad) rfl (HPR.out _ _) (Cr.ints_ones pad) (by unfold maxLen; omega) (by omega) (by simp) ?_)
  intro v' w1 hown' hgrow _
  have hbel : Below (W.heap.size + 1) (W.alloc (.cells #[.int .i64 2, .int .i64 a, .int .i64 b2, .int .i64 c', .int .i64 (n : Int), .int .i64 v] 42)) w1 := (((Below.refl _ _).alloc (by simp) (.cells #[] 2))).grown hgrow (by simp) (fun k hk => by simp [Value.ownBlock] at hk; omega)
  obtain ⟨OA, ocap, rfl, oc1, oc2, hoo⟩ := Cr.own_mm (l := pad) (by simpa using hown')
  have HDE := Lib.hid (show ∃ ob, Cr.De W gp gm Ap Am OA ob ⟨2, a, b2, c', (n : Int), v⟩ pad pad mem w1 from by
    have hb2 : Below W.heap.size W w1 := ((Below.refl _ _).alloc (Nat.le_refl _) _).trans (hbel.mono (by omega))
    have hi2 : Blk w1 W.heap.size 42 #[.int .i64 2, .int .i64 a, .int .i64 b2, .int .i64 c', .int .i64 (n : Int), .int .i64 v] := (Blk.new W _ _).below hbel (by omega)
    have mk : ∀ ob, Cr.Mm w1 OA ob pad → (0 < pad.length → W.heap.size < ob) → Cr.De W gp gm Ap Am OA ob ⟨2, a, b2, c', (n : Int), v⟩ pad pad mem w1 := fun ob h1 h2 =>
      ⟨⟨(Cr.Frm.refl W gp gm _ _).below hb2, HP.out.below hb2, HM.out.below hb2⟩, hi2, h1, h2, fun h => HP.out.lt h, fun h => HM.out.lt h, hne⟩
    rcases hoo with h0 | ⟨g, h1, h2, h3⟩
    · exact ⟨0, mk 0 (fun h => by rw [h0] at h; simp at h) (fun h => by rw [h0] at h; simp at h)⟩
    · exact ⟨g, mk g h3 (fun _ => by omega)⟩)
  obtain ⟨ob, hde⟩ := HDE.out
  have HD := Lib.hid hde
  clear hown' hgrow hbel hoo hi hz0 hz1 hzb HDE hde HPR HOW
  have n4 := HD.out.ins.cell 4
  have n0 := HD.out.ins.cell 0
  go_wp2_with fail
  clear n4 n0
  go_loopw [7] (fun i wr => ∃ j : Nat, j ≤ n ∧ i = .int .i64 (j : Int) ∧ Cr.De W gp gm Ap Am OA ob ⟨2, a, b2, c', (n : Int), v⟩ pad pad (AdjC.storeK ⟨2, a, b2, c', (n : Int), v⟩ pad mem j) wr) (fun i _ => n - (intOf i).toNat)
  case atStart => exact ⟨0, by omega, rfl, HD.out⟩
  case round =>
    obtain ⟨j, hj, rfl, he⟩ := hrel
    have HJ := Lib.hid he
    clear he
    have n0 := HJ.out.ins.cell 0
    have n4 := HJ.out.ins.cell 4
    by_cases hlt : j < n
    rotate_left
    · obtain rfl : j = n := by omega
      go_wp2_with fail
      go_end0
      exact ⟨rfl, HJ.out.dm⟩
    have n1 := HJ.out.ins.cell 1
    have n2 := HJ.out.ins.cell 2
    have n3 := HJ.out.ins.cell 3
    have n5 := HJ.out.ins.cell 5
    obtain ⟨p, rfl⟩ : ∃ p : Nat, a = (p : Int) := ⟨a.toNat, by have := HF.out.1 (by omega); omega⟩
    have hpn : p + n ≤ pad.length := by have := HF.out.1 (by omega); omega
    obtain ⟨hq1, hq2⟩ := HF.out.2 (j : Int) (by omega) (by omega)
    obtain ⟨m, hm⟩ : ∃ m : Int, (j : Int) * c' = m := ⟨_, rfl⟩
    rw [hm] at hq1 hq2
    obtain ⟨q, hq⟩ : ∃ q : Nat, b2 + m = (q : Int) := ⟨(b2 + m).toNat, by omega⟩
    have hqm : q < mem.length := by omega
    have HNX := Lib.hid (Cr.storeK_next ⟨2, (p : Int), b2, c', (n : Int), v⟩ pad mem j p q rfl (by simp only; rw [hm, hq]))
    have hpj : p + j < pad.length := by omega
    have hAP := HJ.out.dm.pad.some_ (by  omega)
    have hAM := HJ.out.dm.mem.some_ (by simp only [AdjC.storeK_length]; omega)
    subst hAP hAM
    have b6 := HJ.out.dm.pad.cell (k := p + j) hpj
    go_wp2_with fail
    have wm : IntKind.i64.wrap m = m := IntWalk.i64_in _ (by omega)
    have wq : IntKind.i64.wrap (q : Int) = (q : Int) := IntWalk.i64_in _ (by omega)
    have wp : IntKind.i64.wrap ((p : Int) + (j : Int)) = (p : Int) + (j : Int) := IntWalk.i64_in _ (by omega)
    have i1 : (0 : Int) ≤ (p : Int) + (j : Int) := by omega
    have i2 : (p : Int) + (j : Int) < (pad.length : Int) := by omega
    have i3 : ((p : Int) + (j : Int)).toNat = p + j := by omega
    refine wp_region_T (fun w' => w'.cell? ⟨W.heap.size, 1, none⟩ = some (.int .i64 (p : Int)) ∧ w'.cell? ⟨W.heap.size, 2, none⟩ = some (.int .i64 b2) ∧ w'.cell? ⟨W.heap.size, 3, none⟩ = some (.int .i64 c') ∧ w'.cell? ⟨gp, p + j, none⟩ = some (.int .i64 (AdjC.at_ pad ((p + j : Nat) : Int)))) 15 (fun _ => True) 15 17 rfl (by kernel_rfl) ⟨⟨n1, n2, n3, b6⟩, trivial⟩ (fun hHeld => ?_)
    simp only [List.replicate_succ, List.replicate_zero]
    refine wpT_take 0 39 (v := ?_) hHeld.1 hHeld.2 rfl rfl (by kernel_rfl) (fun _ _ _ h => h) rfl ?_ ?_
    rotate_left
    · (intro w hSw; (try dsimp only at hSw); go_simp; try with_reducible rfl)
    try simp only [Act.put, List.setIfInBounds_toArray, List.set_cons_zero, List.set_cons_succ]
    refine wpT_take 1 40 (v := ?_) hHeld.1 hHeld.2 rfl rfl (by kernel_rfl) (fun _ _ _ h => h) rfl ?_ ?_
    rotate_left
    · (intro w hSw; (try dsimp only at hSw); go_simp; try with_reducible rfl)
    try simp only [Act.put, List.setIfInBounds_toArray, List.set_cons_zero, List.set_cons_succ]
    refine wpT_take 2 41 (v := ?_) hHeld.1 hHeld.2 rfl rfl (by kernel_rfl) (fun _ _ _ h => h) rfl ?_ ?_
    rotate_left
    · (intro w hSw; (try dsimp only at hSw); go_simp; try with_reducible rfl)
    try simp only [Act.put, List.setIfInBounds_toArray, List.set_cons_zero, List.set_cons_succ]
    refine wpT_take 3 42 (v := ?_) hHeld.1 hHeld.2 rfl rfl (by kernel_rfl) (fun _ _ _ h => h) rfl ?_ ?_
    rotate_left
    · (intro w hSw; (try dsimp only at hSw); go_simp; try with_reducible rfl)
    try simp only [Act.put, List.setIfInBounds_toArray, List.set_cons_zero, List.set_cons_succ]
    refine wpT_take 4 43 (v := ?_) hHeld.1 hHeld.2 rfl rfl (by kernel_rfl) (fun _ _ _ h => h) rfl ?_ ?_
    rotate_left
    · (intro w hSw; (try dsimp only at hSw); go_simp; try with_reducible rfl)
    try simp only [Act.put, List.setIfInBounds_toArray, List.set_cons_zero, List.set_cons_succ]
    refine wpT_take 5 44 (v := ?_) hHeld.1 hHeld.2 rfl rfl (by kernel_rfl) (fun _ _ _ h => h) rfl ?_ ?_
    rotate_left
    · (intro w hSw; (try dsimp only at hSw); go_simp; try with_reducible rfl)
    try simp only [Act.put, List.setIfInBounds_toArray, List.set_cons_zero, List.set_cons_succ]
    refine wpT_take 6 45 (v := ?_) hHeld.1 hHeld.2 rfl rfl (by kernel_rfl) (fun _ _ _ h => h) rfl ?_ ?_
    rotate_left
    · (intro w hSw; (try dsimp only at hSw); go_simp; try with_reducible rfl)
    try simp only [Act.put, List.setIfInBounds_toArray, List.set_cons_zero, List.set_cons_succ]
    refine wpT_take 7 46 (v := ?_) hHeld.1 hHeld.2 rfl rfl (by kernel_rfl) (fun _ _ _ h => h) rfl ?_ ?_
    rotate_left
    · (intro w hSw; (try dsimp only at hSw); go_simp; try with_reducible rfl)
    try simp only [Act.put, List.setIfInBounds_toArray, List.set_cons_zero, List.set_cons_succ]
    refine wpT_take 8 47 (v := ?_) hHeld.1 hHeld.2 rfl rfl (by kernel_rfl) (fun _ _ _ h => h) rfl ?_ ?_
    rotate_left
    · (intro w hSw; (try dsimp only at hSw); go_simp; try with_reducible rfl)
    try simp only [Act.put, List.setIfInBounds_toArray, List.set_cons_zero, List.set_cons_succ]
    refine wpT_take 9 48 (v := ?_) hHeld.1 hHeld.2 rfl rfl (by kernel_rfl) (fun _ _ _ h => h) rfl ?_ ?_
    rotate_left
    · (intro w hSw; (try dsimp only at hSw); go_simp; try with_reducible rfl)
    try simp only [Act.put, List.setIfInBounds_toArray, List.set_cons_zero, List.set_cons_succ]
    refine wpT_take 10 49 (v := ?_) hHeld.1 hHeld.2 rfl rfl (by kernel_rfl) (fun _ _ _ h => h) rfl ?_ ?_
    rotate_left
    · (intro w hSw; (try dsimp only at hSw); go_simp; try with_reducible rfl)
    try simp only [Act.put, List.setIfInBounds_toArray, List.set_cons_zero, List.set_cons_succ]
    refine wpT_take 11 50 (v := ?_) hHeld.1 hHeld.2 rfl rfl (by kernel_rfl) (fun _ _ _ h => h) rfl ?_ ?_
    rotate_left
    · (intro w hSw; (try dsimp only at hSw); go_simp; try with_reducible rfl)
    try simp only [Act.put, List.setIfInBounds_toArray, List.set_cons_zero, List.set_cons_succ]
    refine wpT_take 12 51 (v := ?_) hHeld.1 hHeld.2 rfl rfl (by kernel_rfl) (fun _ _ _ h => h) rfl ?_ ?_
    rotate_left
    · (intro w hSw; (try dsimp only at hSw); go_simp; try with_reducible rfl)
    try simp only [Act.put, List.setIfInBounds_toArray, List.set_cons_zero, List.set_cons_succ]
    refine wpT_take 13 52 (v := ?_) hHeld.1 hHeld.2 rfl rfl (by kernel_rfl) (fun _ _ _ h => h) rfl ?_ ?_
    rotate_left
    · (intro w hSw; (try dsimp only at hSw); go_simp; try with_reducible rfl)
    try simp only [Act.put, List.setIfInBounds_toArray, List.set_cons_zero, List.set_cons_succ]
    refine wpT_take 14 53 (v := ?_) hHeld.1 hHeld.2 rfl rfl (by kernel_rfl) (fun _ _ _ h => h) rfl ?_ ?_
    rotate_left
    · (intro w hSw; (try dsimp only at hSw); go_simp; try with_reducible rfl)
    try simp only [Act.put, List.setIfInBounds_toArray, List.set_cons_zero, List.set_cons_succ]
    have HJD := Lib.hid HJ.out.drew
    generalize wr.drew = wd at HJD hHeld ⊢
    have f5 := HJD.out.dm.mem.frozen (k := q) (by simp only [AdjC.storeK_length]; omega)
    have q5 := HJD.out.dm.mem.cell (k := q) (by simp only [AdjC.storeK_length]; omega)
    have HPU := Lib.hid (HJD.out.putM (j := q) (by simp only [AdjC.storeK_length]; omega) (AdjC.at_ pad ((p + j : Nat) : Int)))
    refine wpT_tail [_, _] 15 [16] rfl (by kernel_rfl) ?_
    have HM9 := Lib.hid hm
    have HQ9 := Lib.hid hq
    clear hHeld hm hq wm wq wp i1 i2 i3 n0 n1 n2 n3 n4 n5 b6
    go_wp2_with fail
    go_roundw
    case rel => exact ⟨j + 1, by omega, by go_num, by rw [HNX.out]; exact HPU.out⟩
    case measure => simp [intOf]; omega
set_option maxRecDepth 100000 in
set_option maxHeartbeats 8000000 in
theorem Do_set (W : World) (gp gm : Nat) (Ap Am : Option Addr) (cp cm : Nat) (pad mem : List Int) (a b2 c' v : Int) (n : Nat) (hp : Cr.Mm W Ap gp pad) (hm : Cr.Mm W Am gm mem) (hne : gp ≠ gm) (hl : pad.length ≤ 4096) (hlm : mem.length ≤ 1048576) (hn : n ≤ 4096) (hpa : 0 < n → 0 ≤ a ∧ a + (n : Int) ≤ (pad.length : Int)) :
    Calls Try.prog 22 #[Cr.insV ⟨5, a, b2, c', (n : Int), v⟩, .slice Ap pad.length cp, .slice Am mem.length cm] W fun e w' => e = .returned (.tuple #[]) ∧ Cr.Dm W gp gm Ap Am (AdjC.eachK ⟨5, a, b2, c', (n : Int), v⟩ pad n) mem w' := by
  rw [Cr.insV_eq]
  simp only
  have HP := Lib.hid hp
  have HM := Lib.hid hm
  have HF := Lib.hid hpa
  clear hp hm hpa
  obtain ⟨i0, hi, hz0, hz1, hzb⟩ := info_parts Try.infoWord
  have HPR := Lib.hid (fun o o' => Cr.mm_reads ((HP.out.alloc o).alloc o'))
  have HOW := Lib.hid (show ((W.alloc (.cells #[.int .i64 5, .int .i64 a, .int .i64 b2, .int .i64 c', .int .i64 (n : Int), .int .i64 v] 42)).alloc (.cells #[] 2)).ownsRow (W.heap.size + 1) 2 1 (.slice (some ⟨W.heap.size + 1, 0, none⟩) 0 0) 0 [] from by
    have h := Cr.own_none (W.alloc (.cells #[.int .i64 5, .int .i64 a, .int .i64 b2, .int .i64 c', .int .i64 (n : Int), .int .i64 v] 42)) 2
    rwa [World.size_alloc] at h)
  go_enter Try.func22, Try.ntmps22
  go_wp2_with (at_builtin; refine wpList_append_any _ rfl _ _ 31 rfl _ 2 i0 (.int .i64 0) 1 8 Try.underlying31 hi hz0 hz1 hzb rfl (by decide) _ _ _ rfl HOW.out _ _ pad.length cp (ints pad) rfl (HPR.out _ _) (Cr.ints_ones pad) (by unfold maxLen; omega) (by omega) (by simp) ?_)
  intro v' w1 hown' hgrow _
  have hbel : Below (W.heap.size + 1) (W.alloc (.cells #[.int .i64 5, .int .i64 a, .int .i64 b2, .int .i64 c', .int .i64 (n : Int), .int .i64 v] 42)) w1 := (((Below.refl _ _).alloc (by simp) (.cells #[] 2))).grown hgrow (by simp) (fun k hk => by simp [Value.ownBlock] at hk; omega)
  obtain ⟨OA, ocap, rfl, oc1, oc2, hoo⟩ := Cr.own_mm (l := pad) (by simpa using hown')
  have HDE := Lib.hid (show ∃ ob, Cr.De W gp gm Ap Am OA ob ⟨5, a, b2, c', (n : Int), v⟩ pad pad mem w1 from by
    have hb2 : Below W.heap.size W w1 := ((Below.refl _ _).alloc (Nat.le_refl _) _).trans (hbel.mono (by omega))
    have hi2 : Blk w1 W.heap.size 42 #[.int .i64 5, .int .i64 a, .int .i64 b2, .int .i64 c', .int .i64 (n : Int), .int .i64 v] := (Blk.new W _ _).below hbel (by omega)
    have mk : ∀ ob, Cr.Mm w1 OA ob pad → (0 < pad.length → W.heap.size < ob) → Cr.De W gp gm Ap Am OA ob ⟨5, a, b2, c', (n : Int), v⟩ pad pad mem w1 := fun ob h1 h2 =>
      ⟨⟨(Cr.Frm.refl W gp gm _ _).below hb2, HP.out.below hb2, HM.out.below hb2⟩, hi2, h1, h2, fun h => HP.out.lt h, fun h => HM.out.lt h, hne⟩
    rcases hoo with h0 | ⟨g, h1, h2, h3⟩
    · exact ⟨0, mk 0 (fun h => by rw [h0] at h; simp at h) (fun h => by rw [h0] at h; simp at h)⟩
    · exact ⟨g, mk g h3 (fun _ => by omega)⟩)
  obtain ⟨ob, hde⟩ := HDE.out
  have HD := Lib.hid hde
  clear hown' hgrow hbel hoo hi hz0 hz1 hzb HDE hde HPR HOW
  have n4 := HD.out.ins.cell 4
  have n0 := HD.out.ins.cell 0
  go_wp2_with fail
  clear n4 n0
  go_loopw [7] (fun i wr => ∃ j : Nat, j ≤ n ∧ i = .int .i64 (j : Int) ∧ Cr.De W gp gm Ap Am OA ob ⟨5, a, b2, c', (n : Int), v⟩ pad (AdjC.eachK ⟨5, a, b2, c', (n : Int), v⟩ pad j) mem wr) (fun i _ => n - (intOf i).toNat)
  case atStart => exact ⟨0, by omega, rfl, HD.out⟩
  case round =>
    obtain ⟨j, hj, rfl, he⟩ := hrel
    have HJ := Lib.hid he
    clear he
    have n0 := HJ.out.ins.cell 0
    have n4 := HJ.out.ins.cell 4
    by_cases hlt : j < n
    rotate_left
    · obtain rfl : j = n := by omega
      go_wp2_with fail
      go_end0
      exact ⟨rfl, HJ.out.dm⟩
    have n1 := HJ.out.ins.cell 1
    have n2 := HJ.out.ins.cell 2
    have n3 := HJ.out.ins.cell 3
    have n5 := HJ.out.ins.cell 5
    obtain ⟨p, rfl⟩ : ∃ p : Nat, a = (p : Int) := ⟨(a : Int).toNat, by have := HF.out (by omega); omega⟩
    have hpn : p + n ≤ pad.length := by have := HF.out (by omega); omega
    have hpj : p + j < pad.length := by omega
    have hAP := HJ.out.dm.pad.some_ (by simp only [AdjC.eachK_length]; omega)
    have hOA := HJ.out.olds.some_ (by omega)
    subst hAP hOA
    have HNX := Lib.hid (Cr.eachK_next ⟨5, (p : Int), b2, c', (n : Int), v⟩ pad j p rfl)
    have HWV := Lib.hid (show AdjC.word ⟨5, (p : Int), b2, c', (n : Int), v⟩ pad (j : Int) = AdjC.wordV 5 v (AdjC.at_ pad ((p : Int) + (j : Int))) (AdjC.at_ pad (b2 + (j : Int))) (AdjC.at_ pad (c' + (j : Int))) from rfl)
    rw [HWV.out] at HNX
    have f5 := HJ.out.dm.pad.frozen (k := p + j) (by simp only [AdjC.eachK_length]; omega)
    have q5 := HJ.out.dm.pad.cell (k := p + j) (by simp only [AdjC.eachK_length]; omega)
    have HPU := Lib.hid (HJ.out.put (j := p + j) (by simp only [AdjC.eachK_length]; omega) v)
    go_wp2_with fail
    go_roundw
    case rel => exact ⟨j + 1, by omega, by go_num, by rw [HNX.out]; exact HPU.out⟩
    case measure => simp [intOf]; omega
end Go.Proofs.Ytlnfmipcbhhkhaa
