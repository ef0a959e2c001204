/-
  PROVED: RoomLivesUptoSaid: for every graph, where what is read is of bulk at most 1048576, the law RoomLives returns true: Lives answers what the document says. Condition: the bound of the statement itself.
-/
import Derived.Test.YtapedmpbkffopaaZ02
import Derived.Test.YtapedmpbkffopaaZ23
import Derived.Test.YtapedmpbkffopaaZ29
import Derived.Test.YtapedmpbkffopaaChecked
import Derived.Test.YtapedmpbkffopaaRows
namespace Go.Proofs.Ytapedmpbkffopaa.roomLives
open Go.ChangeShapes Go.WideShapes Go.ChangeAt Go.RowKit Adj
set_option linter.unusedVariables false
theorem own : ownKnob Try.prog.godebug = none := by kernel_rfl
theorem laid : laidOutB Try.prog = true := by kernel_rfl
theorem trodAll_one {H : Type} {enc : TypeId × Value → H} {P : Program} {w : World} {base : Nat} {spare : Bool} {held : Nat → Bool} {t0 : TypeId} {args : Array Value} {ds : List (DataW H)} {ps : List MemPlace} (h : DataW.TrodAll enc P w base held spare [t0] args.toList ds ps) :
    ∃ v0 d0 p0, args = #[v0] ∧ ds = [d0] ∧ ps = p0 ∧ DataW.Trod enc P w base held spare t0 v0 d0 p0 := by
 match hv : args.toList, ds, h with
 | [v0], [d0], h =>
  obtain ⟨p0, q0, h0, h1, hp⟩ := h
  obtain ⟨rfl⟩ : q0 = [] := h1
  refine ⟨v0, d0, p0, ?_, rfl, by simpa using hp, h0⟩
  apply Array.ext'
  simpa using hv
 | [], _, h => simp [DataW.TrodAll] at h
 | _ :: _ :: _, [_], h => obtain ⟨_, _, _, h1, _⟩ := h; exact h1.elim
 | [_], [], h => exact h.elim
 | _ :: _ :: _, [], h => exact h.elim
 | [_], _ :: _ :: _, h => obtain ⟨_, _, _, h1, _⟩ := h; exact h1.elim
 | _ :: _ :: _, _ :: _ :: _, h =>
  obtain ⟨_, _, _, h1, _⟩ := h
  exact h1.elim
theorem lives_below {w w' : World} {A : Option Addr} {n : Nat} {F : Nat → Int × Int × Int} (h : Gr.LivesAt w A n F) (hb : Below w.heap.size w w') : Gr.LivesAt w' A n F := fun hp => by
 obtain ⟨b, off, e, hlt, hc⟩ := h hp
 refine ⟨b, off, e, Nat.lt_of_lt_of_le hlt hb.size, fun i hi => ?_⟩
 obtain ⟨c0, c1, c2⟩ := hc i hi
 have k : ∀ o, w'.cell? ⟨b, o, none⟩ = w.cell? ⟨b, o, none⟩ := fun o => hb.cell (p := ⟨b, o, none⟩) hlt
 exact ⟨(k _).trans c0, (k _).trans c1, (k _).trans c2⟩
set_option maxRecDepth 100000 in
set_option maxHeartbeats 4000000 in
theorem walk (val : Value) (g : AdjD.Graph) (w : World) (h : Gr.GraphAt w w.heap.size val g) (hsh : Gr.GShort g) :
    Calls Try.prog 3 #[val] w fun e w' => e = .returned (.bool true) ∧ Below w.heap.size w w' := by
 have HG := Lib.hid (fun W (hb : Below w.heap.size w W) => (h.below hb).up hb.size)
 obtain ⟨A, c, vo, rfl, _, _, _, O, co, rfl, _⟩ := h
 have HL := Lib.hid (fun W (hb : Below w.heap.size w W) => Gr.lives_any _ g W.heap.size W (Nat.le_refl _) hsh (HG.out W hb))
 have HR := Lib.hid (fun W (hb : Below w.heap.size w W) => Gr.lives2_any _ g W.heap.size W (Nat.le_refl _) hsh (HG.out W hb))
 have HX := Lib.hid (Blk.new w 25 #[.slice A g.nodes.length c, .slice O g.outs.length co])
 have HB := Lib.hid ((Below.refl w.heap.size w).alloc (Nat.le_refl _) (.cells #[.slice A g.nodes.length c, .slice O g.outs.length co] 25))
 obtain ⟨w0, hw0⟩ : ∃ w0, w.alloc (.cells #[.slice A g.nodes.length c, .slice O g.outs.length co] 25) = w0 := ⟨_, rfl⟩
 rw [hw0] at HX HB
 have HL0 := Lib.hid (HL.out w0 HB.out)
 have b0 : w0.cell? ⟨w.heap.size, 0, none⟩ = some (.slice A g.nodes.length c) := HX.out.cell 0
 have b1 : w0.cell? ⟨w.heap.size, 1, none⟩ = some (.slice O g.outs.length co) := HX.out.cell 1
 clear hsh
 go_enter Try.func3, Try.ntmps3
 go_wp2_with fail
 ((with_reducible refine HL0.out.mono ?_); rintro e w1 ⟨⟨A1, n1, c1, rfl, hA1, hA2⟩, hb1⟩)
 have HB1 := Lib.hid (HB.out.trans (hb1.mono HB.out.size))
 have HX1 := Lib.hid (HX.out.below hb1 HX.out.lt)
 have HR1 := Lib.hid (HR.out w1 HB1.out)
 have y0 : w1.cell? ⟨w.heap.size, 0, none⟩ = some (.slice A g.nodes.length c) := HX1.out.cell 0
 have y1 : w1.cell? ⟨w.heap.size, 1, none⟩ = some (.slice O g.outs.length co) := HX1.out.cell 1
 have HP := Lib.hid (And.intro hA1 hA2)
 clear hb1 hA1 hA2 b0 b1
 go_wp2_with fail
 ((with_reducible refine HR1.out.mono ?_); rintro e w2 ⟨⟨A2, n2, c2, rfl, hA1, hA2⟩, hb2⟩)
 have HB2 := Lib.hid (HB1.out.trans (hb2.mono HB1.out.size))
 have HB12 := Lib.hid hb2
 have HQ := Lib.hid (And.intro hA1 hA2)
 have hn : n2 = n1 := by
  by_cases he : (AdjD.look g).2 = 0
  ·rw [(HP.out.1 he).1, (HQ.out.1 he).1]
  ·rw [HP.out.2 he, HQ.out.2 he]
 subst hn
 have HC := Lib.hid (show ∀ i, i < n2 → ∃ b off b' off', (∃ e1 : A1 = some ⟨b, off, none⟩, ∃ e2 : A2 = some ⟨b', off', none⟩, b < w2.heap.size ∧ b' < w2.heap.size) ∧ ∃ x y z : Int, (w2.cell? ⟨b, off + i * 3, none⟩ = some (.int .i64 x) ∧ w2.cell? ⟨b, off + i * 3 + 1, none⟩ = some (.int .i64 y) ∧ w2.cell? ⟨b, off + i * 3 + 2, none⟩ = some (.int .i64 z)) ∧ (w2.cell? ⟨b', off' + i * 3, none⟩ = some (.int .i64 x) ∧ w2.cell? ⟨b', off' + i * 3 + 1, none⟩ = some (.int .i64 y) ∧ w2.cell? ⟨b', off' + i * 3 + 2, none⟩ = some (.int .i64 z)) from fun i hi => by
  by_cases he : (AdjD.look g).2 = 0
  ·obtain ⟨b, off, e1, l1, h1⟩ := (lives_below (HP.out.1 he).2 HB12.out) (by omega)
   obtain ⟨b', off', e2, l2, h2⟩ := (HQ.out.1 he).2 (by omega)
   exact ⟨b, off, b', off', ⟨e1, e2, l1, l2⟩, _, _, _, h1 i hi, h2 i hi⟩
  ·have := HP.out.2 he; omega)
 have HS := Lib.hid (show n2 ≤ 65536 by
  by_cases he : (AdjD.look g).2 = 0
  ·have := (AdjD.look_fine he).2.1; rw [(HP.out.1 he).1]; omega
  ·rw [HP.out.2 he]; omega)
 have hs := HS.out
 generalize (AdjD.look g).2 = er at HP HQ ⊢
 have q1 : (er != er) = false := by simp
 obtain ⟨wo, hwo⟩ : ∃ wo : World, wo = w2 := ⟨_, rfl⟩
 subst hwo
 have HBZ := Lib.hid (Below.refl wo.heap.size wo)
 clear hA1 hA2 hb2 y0 y1
 go_wp2_with fail
 go_loopw [30] (fun kv wr => ∃ k : Nat, kv = .int .i64 (k : Int) ∧ k ≤ n2 ∧ Below wo.heap.size wo wr) (fun kv _ => n2 - (intOf kv).toNat)
 case atStart => exact ⟨0, rfl, by omega, HBZ.out⟩
 case round =>
  obtain ⟨k, rfl, hk, hb⟩ := hrel
  have HBR := Lib.hid hb
  clear hb
  by_cases hkn : k < n2
  ·obtain ⟨b, off, b', off', ⟨rfl, rfl, l1, l2⟩, x, y, z, ⟨c0, c1', c2'⟩, d0, d1, d2⟩ := HC.out k hkn
   have i1 : (0 : Int) ≤ (k : Int) := by omega
   have i2 : (k : Int) < (n2 : Int) := by omega
   have e0 : wr.cell? ⟨b, off + k * 3, none⟩ = some (.int .i64 x) := (HBR.out.cell (p := ⟨b, off + k * 3, none⟩) l1).trans c0
   have e1 : wr.cell? ⟨b, off + k * 3 + 1, none⟩ = some (.int .i64 y) := (HBR.out.cell (p := ⟨b, off + k * 3 + 1, none⟩) l1).trans c1'
   have e2 : wr.cell? ⟨b, off + k * 3 + 2, none⟩ = some (.int .i64 z) := (HBR.out.cell (p := ⟨b, off + k * 3 + 2, none⟩) l1).trans c2'
   have g0 : wr.cell? ⟨b', off' + k * 3, none⟩ = some (.int .i64 x) := (HBR.out.cell (p := ⟨b', off' + k * 3, none⟩) l2).trans d0
   have g1 : wr.cell? ⟨b', off' + k * 3 + 1, none⟩ = some (.int .i64 y) := (HBR.out.cell (p := ⟨b', off' + k * 3 + 1, none⟩) l2).trans d1
   have g2 : wr.cell? ⟨b', off' + k * 3 + 2, none⟩ = some (.int .i64 z) := (HBR.out.cell (p := ⟨b', off' + k * 3 + 2, none⟩) l2).trans d2
   clear c0 c1' c2' d0 d1 d2
   go_wp2_with fail
   refine wp_region_T (fun w' => w'.cell? ⟨b, off + k * 3, none⟩ = some (.int .i64 x) ∧ w'.cell? ⟨b, off + k * 3 + 1, none⟩ = some (.int .i64 y) ∧ w'.cell? ⟨b, off + k * 3 + 2, none⟩ = some (.int .i64 z) ∧ w'.cell? ⟨b', off' + k * 3, none⟩ = some (.int .i64 x) ∧ w'.cell? ⟨b', off' + k * 3 + 1, none⟩ = some (.int .i64 y) ∧ w'.cell? ⟨b', off' + k * 3 + 2, none⟩ = some (.int .i64 z)) 8 (fun _ => True) 8 9 rfl (by kernel_rfl) ⟨⟨e0, e1, e2, g0, g1, g2⟩, trivial⟩ (fun hHeld => ?_)
   simp only [List.replicate_succ, List.replicate_zero]
   refine tk (v := ?_) [2, 3] 0 33 hHeld ?_ ?_; rotate_left; (intro w h; (try dsimp only at h); go_simp; try with_reducible rfl); try simp only [Act.put, zA, zB, zC]
   refine tk (v := ?_) [2, 3] 1 34 hHeld ?_ ?_; rotate_left; (intro w h; (try dsimp only at h); go_simp; try with_reducible rfl); try simp only [Act.put, zA, zB, zC]
   refine tk (v := ?_) [3] 2 35 hHeld ?_ ?_; rotate_left; (intro w h; (try dsimp only at h); go_simp; try with_reducible rfl); try simp only [Act.put, zA, zB, zC]
   refine tk (v := ?_) [] 3 36 hHeld ?_ ?_; rotate_left; (intro w h; (try dsimp only at h); go_simp; try with_reducible rfl); try simp only [Act.put, zA, zB, zC]
   refine tk (v := ?_) [6, 7] 4 37 hHeld ?_ ?_; rotate_left; (intro w h; (try dsimp only at h); go_simp; try with_reducible rfl); try simp only [Act.put, zA, zB, zC]
   refine tk (v := ?_) [6, 7] 5 38 hHeld ?_ ?_; rotate_left; (intro w h; (try dsimp only at h); go_simp; try with_reducible rfl); try simp only [Act.put, zA, zB, zC]
   refine tk (v := ?_) [7] 6 39 hHeld ?_ ?_; rotate_left; (intro w h; (try dsimp only at h); go_simp; try with_reducible rfl); try simp only [Act.put, zA, zB, zC]
   refine tk (v := ?_) [] 7 40 hHeld ?_ ?_; rotate_left; (intro w h; (try dsimp only at h); go_simp; try with_reducible rfl); try simp only [Act.put, zA, zB, zC]
   clear hHeld e0 e1 e2 g0 g1 g2
   have HBD := Lib.hid (show Below wo.heap.size wo wr.drew from HBR.out.drew)
   generalize wr.drew = wd at HBD ⊢
   refine wpT_tail [_] 8 [] rfl (by kernel_rfl) ?_
   go_wp2_with fail
   go_roundw
   case rel => exact ⟨k + 1, by go_num, by omega, HBD.out⟩
   case measure => simp [intOf]; omega
  ·have HBF := Lib.hid (HB2.out.trans (HBR.out.mono HB2.out.size))
   go_wp2_with fail
   go_ret
   exact ⟨rfl, HBF.out⟩
set_option maxRecDepth 100000 in
theorem lifted (os : Os) (started : os.Started) (H : Type) (enc : TypeId × Value → H) (F : Stop.Interp) :
    ReturnsInHanded {} Try.checked os 3 .any ((Rows.OpenSpec.upto Rows.roomLivesSpec).pre6 enc Try.prog Try.f3 Rows.roomLivesUptoRow.domain false) (((Rows.OpenSpec.upto Rows.roomLivesSpec).at F).post enc Try.prog Try.f3 false true false false) := by
 refine Adj.law_upto (C := Try.checked) (t := Rows.roomLivesSpec) (s := Rows.OpenSpec.upto Rows.roomLivesSpec) (k := Rows.uptoSmall) rfl own started (by kernel_rfl) Try.func3 laid rfl rfl rfl Try.underlying4
     (by rw [Try.params3]; intro t ht; simp only [List.mem_cons, List.not_mem_nil, or_false] at ht; subst ht; exact ⟨by kernel_rfl, of_decide_eq_true (by kernel_rfl)⟩)
     (by intro ds hd; match ds, hd with | [d1], _ => exact ⟨rfl, rfl, rfl⟩)
     (fun W args v W' h => h)
     (OpenSpec.witness (enc := enc) (C := Try.checked) (s := Rows.OpenSpec.upto Rows.roomLivesSpec) (k := Rows.uptoSmall) rfl false ⟨#[], #[.agg #[.slice none 0 0, .slice none 0 0]], []⟩ 8 (by kernel_rfl) (by kernel_rfl) (by kernel_rfl)
      (x := ([.agg [.nil, .nil]], [], [])) (by kernel_rfl) rfl (by kernel_rfl)) ?_
 intro W base args ds before hval0 hA0 _ hk
 have hval : ∀ (j : Nat) t v, Try.f3.params[j]? = some t → args[j]? = some v → Value.okWide Try.prog W .any base t v := hval0
 have hA : DataW.TrodAll enc Try.prog W 0 (fun _ => true) true Try.f3.params.toList args.toList ds before := hA0
 rw [Try.params3] at hA hval
 obtain ⟨v0, d0, p0, rfl, rfl, rfl, h0⟩ := trodAll_one hA
 have hb : Rows.uptoBulkAll [d0] ≤ 1048576 := of_decide_eq_true hk
 have hb0 : Rows.uptoBulk d0 ≤ 1048576 := Nat.le_trans (Bk.all_mem (by simp)) hb
 obtain ⟨g, hg, hsh⟩ := Op.graph (hval 0 25 v0 rfl rfl) h0 hb0
 exact walk v0 g W hg hsh
theorem proved : Rows.RoomLivesUptoSaid :=
 OpenClaim.holds_of_cond 3 Try.f3 rfl rfl rfl rfl rfl rfl rfl ⟨rfl, rfl, rfl, rfl, rfl⟩ rfl rfl rfl rfl rfl (by kernel_rfl) Try.func3 (by kernel_rfl)
  (of_decide_eq_true (by kernel_rfl)) (by unfold Func.isWrapper; first | (rw [if_pos (by decide +kernel)]; kernel_rfl) | (rw [if_neg (by decide +kernel)]; exact ⟨rfl, rfl⟩))
  (fun os started H enc _ F => lifted os started H enc F)
#print axioms proved
end Go.Proofs.Ytapedmpbkffopaa.roomLives
