/-
  What array.pair holds while it goes on; the walks of its closures. Conditions: where the theorems name them.
-/
import Derived.Test.YtapedmpbkffopaaZ13
section
namespace Go.Proofs.Ytapedmpbkffopaa
set_option linter.unusedVariables false
open Go.RowKit Adj
namespace Ar
theorem own_blk {w : World} {base s n : Nat} {e t : TypeId} {v : Value} {xs : List Value} {P : Nat} {cs : Array Value} (h : w.ownsRow base e s v n xs) (hb : Blk w P t cs) (hne : e ≠ t) : v.ownBlock ≠ some P := by
 intro hv
 rcases h.2 with ⟨rfl, _⟩ | ⟨g, c, cur, rfl, _, hh, _⟩
 ·cases hv
 ·have e1 : g = P := by simpa [Value.ownBlock] using hv
  subst e1
  have hb2 : w.heap[g]? = some (.cells cs t (0, 0)) := hb
  rw [hh] at hb2
  injection hb2 with hb2
  injection hb2 with _ ht
  exact hne ht
theorem own_keep {w w' : World} {base size n : Nat} {e : TypeId} {v : Value} {xs : List Value} (h : w.ownsRow base e size v n xs) (hk : ∀ g, v.ownBlock = some g → w'.heap[g]? = w.heap[g]?) : w'.ownsRow base e size v n xs := by
 refine ⟨h.1, h.2.imp id ?_⟩
 rintro ⟨g, cap, cur, rfl, h2, h3, h4⟩
 exact ⟨g, cap, cur, rfl, h2, (hk g rfl).trans h3, h4⟩
theorem own_lt {w : World} {base size n : Nat} {e : TypeId} {v : Value} {xs : List Value} (h : w.ownsRow base e size v n xs) {g : Nat} (hg : v.ownBlock = some g) : base ≤ g ∧ g < w.heap.size := h.lt g hg
structure Pg (N P : Nat) (u0 u1 dv : Value) (ds : List Int) (x3 x4 x5 x6 : Int) (W : World) : Prop where
 blk : Blk W P 62 #[u0, u1, dv, .int .i64 x3, .int .i64 x4, .int .i64 x5, .int .i64 x6]
 own : W.ownsRow N 3 1 dv ds.length (ints ds)
 b3 : 0 ≤ x3 ∧ x3 ≤ 65537
 b4 : 0 ≤ x4 ∧ x4 ≤ 65537
 b5 : 0 ≤ x5 ∧ x5 ≤ 65537
 b6 : 0 ≤ x6 ∧ x6 ≤ 65537
section
variable {N P : Nat} {u0 u1 dv : Value} {ds : List Int} {x3 x4 x5 x6 : Int} {W W' : World}
theorem Pg.below (h : Pg N P u0 u1 dv ds x3 x4 x5 x6 W) (hb : Below W.heap.size W W') : Pg N P u0 u1 dv ds x3 x4 x5 x6 W' :=
 ⟨h.blk.below hb h.blk.lt, own_keep h.own (fun g hg => hb.block g (own_lt h.own hg).2), h.b3, h.b4, h.b5, h.b6⟩
theorem Pg.apart (h : Pg N P u0 u1 dv ds x3 x4 x5 x6 W) : dv.ownBlock ≠ some P := own_blk h.own h.blk (by decide)
def capped (x d : Int) : Int := if 65537 < x * d then 65537 else x * d
theorem capped_in {x d : Int} (hx : 0 ≤ x ∧ x ≤ 65537) (hd : 0 ≤ d ∧ d ≤ 4096) : 0 ≤ x * d ∧ x * d ≤ 268439552 ∧ 0 ≤ capped x d ∧ capped x d ≤ 65537 := by
 have h1 : 0 ≤ x * d := Int.mul_nonneg hx.1 hd.1
 have h2 : x * d ≤ 65537 * 4096 := Int.mul_le_mul hx.2 hd.2 hd.1 (by omega)
 unfold capped
 split <;> omega
theorem Pg.set3 (h : Pg N P u0 u1 dv ds x3 x4 x5 x6 W) {d : Int} (hd : 0 ≤ d ∧ d ≤ 4096) : Pg N P u0 u1 dv ds (capped x3 d) x4 x5 x6 (W.setCell ⟨P, 3, none⟩ (.int .i64 (capped x3 d))) :=
 ⟨h.blk.set_ 3 _, own_keep h.own (fun g hg => Below.heap_setCell W ⟨P, 3, none⟩ _ g (fun e => h.apart (by rw [hg, e]))), (capped_in h.b3 hd).2.2, h.b4, h.b5, h.b6⟩
theorem Pg.set4 (h : Pg N P u0 u1 dv ds x3 x4 x5 x6 W) {d : Int} (hd : 0 ≤ d ∧ d ≤ 4096) : Pg N P u0 u1 dv ds x3 (capped x4 d) x5 x6 (W.setCell ⟨P, 4, none⟩ (.int .i64 (capped x4 d))) :=
 ⟨h.blk.set_ 4 _, own_keep h.own (fun g hg => Below.heap_setCell W ⟨P, 4, none⟩ _ g (fun e => h.apart (by rw [hg, e]))), h.b3, (capped_in h.b4 hd).2.2, h.b5, h.b6⟩
theorem Pg.set5 (h : Pg N P u0 u1 dv ds x3 x4 x5 x6 W) {d : Int} (hd : 0 ≤ d ∧ d ≤ 4096) : Pg N P u0 u1 dv ds x3 x4 (capped x5 d) x6 (W.setCell ⟨P, 5, none⟩ (.int .i64 (capped x5 d))) :=
 ⟨h.blk.set_ 5 _, own_keep h.own (fun g hg => Below.heap_setCell W ⟨P, 5, none⟩ _ g (fun e => h.apart (by rw [hg, e]))), h.b3, h.b4, (capped_in h.b5 hd).2.2, h.b6⟩
theorem Pg.set6 (h : Pg N P u0 u1 dv ds x3 x4 x5 x6 W) {d : Int} (hd : 0 ≤ d ∧ d ≤ 4096) : Pg N P u0 u1 dv ds x3 x4 x5 (capped x6 d) (W.setCell ⟨P, 6, none⟩ (.int .i64 (capped x6 d))) :=
 ⟨h.blk.set_ 6 _, own_keep h.own (fun g hg => Below.heap_setCell W ⟨P, 6, none⟩ _ g (fun e => h.apart (by rw [hg, e]))), h.b3, h.b4, h.b5, (capped_in h.b6 hd).2.2⟩
theorem Pg.push (h : Pg N P u0 u1 dv ds x3 x4 x5 x6 W) {v' : Value} {x : Int} (how : W'.ownsRow N 3 1 v' (ds.length + 1) (ints ds ++ [.int .i64 x])) (hgr : W.grownBy W' dv.ownBlock) :
    Pg N P u0 u1 v' (ds ++ [x]) x3 x4 x5 x6 (W'.setCell ⟨P, 2, none⟩ v') := by
 have hb : Blk W' P 62 #[u0, u1, dv, .int .i64 x3, .int .i64 x4, .int .i64 x5, .int .i64 x6] := h.blk.grown hgr (fun e => h.apart e.symm)
 have ho : W'.ownsRow N 3 1 v' (ds ++ [x]).length (ints (ds ++ [x])) := by rw [List.length_append, Vw.ints_snoc]; exact how
 have ha := own_blk ho hb (by decide)
 exact ⟨hb.set_ 2 _, own_keep ho (fun g hg => Below.heap_setCell W' ⟨P, 2, none⟩ _ g (fun e => ha (by rw [hg, e]))), h.b3, h.b4, h.b5, h.b6⟩
end
structure Fr (w : World) (P : Nat) (dv : Value) (w' : World) (dv' : Value) : Prop where
 keep : ∀ g, g < w.heap.size → g ≠ P → dv.ownBlock ≠ some g → w'.heap[g]? = w.heap[g]?
 own : ∀ g, dv'.ownBlock = some g → dv.ownBlock = some g ∨ w.heap.size ≤ g
 size : w.heap.size ≤ w'.heap.size
theorem Fr.refl (w : World) (P : Nat) (dv : Value) : Fr w P dv w dv := ⟨fun _ _ _ _ => rfl, fun _ h => .inl h, Nat.le_refl _⟩
section
variable {w wr w6 w7 : World} {P : Nat} {dv dw v2 : Value} {o : Obj} {own0 : Option Nat}
theorem Fr.grow (h : Fr w P dv wr dw) (hg : (wr.alloc o).grownBy w6 own0) (hr : ∀ g, own0 = some g → w.heap.size ≤ g) : Fr w P dv w6 dw := by
 have h1 := h.size
 have h2 := hg.size
 simp at h2
 refine ⟨fun g a b c => ?_, h.own, by omega⟩
 refine (hg.block g (by simp; omega) (fun e => ?_)).trans ((Below.heap_alloc wr o g (by omega)).trans (h.keep g a b c))
 have := hr g e.symm; omega
theorem Fr.push (h : Fr w P dv w6 dw) (hg : (w6.alloc o).grownBy w7 dw.ownBlock) (hw : v2.ownBlock = dw.ownBlock ∨ v2.ownBlock = some (w6.alloc o).heap.size) : Fr w P dv w7 v2 := by
 have h1 := h.size
 have h2 := hg.size
 simp at h2
 refine ⟨fun g a b c => ?_, fun g e => ?_, by omega⟩
 ·refine (hg.block g (by simp; omega) (fun e => ?_)).trans ((Below.heap_alloc w6 o g (by omega)).trans (h.keep g a b c))
  rcases h.own g e.symm with e2 | e2
  ·exact c e2
  ·omega
 ·rcases hw with e2 | e2
  ·exact h.own g (by rw [← e2]; exact e)
  ·rw [e2] at e
   injection e with e
   simp at e
   right; omega
theorem Fr.set (h : Fr w P dv w7 v2) (i : Nat) (u : Value) : Fr w P dv (w7.setCell ⟨P, i, none⟩ u) v2 :=
 ⟨fun g a b c => (Below.heap_setCell w7 ⟨P, i, none⟩ u g b).trans (h.keep g a b c), h.own, by simp; exact h.size⟩
theorem Fr.keeps (h : Fr w P dv w7 v2) {base size n : Nat} {e : TypeId} {v : Value} {xs : List Value} (ho : w.ownsRow base e size v n xs) (hP : v.ownBlock ≠ some P) (ha : ∀ g, v.ownBlock = some g → dv.ownBlock ≠ some g) : w7.ownsRow base e size v n xs :=
 own_keep ho (fun g hg => h.keep g (own_lt ho hg).2 (fun e => hP (by rw [hg, e])) (ha g hg))
end
end Ar
set_option maxRecDepth 100000 in
theorem Ar.growC_any (P i : Nat) (x d : Int) (w : World) (hc : w.cell? ⟨P, i, none⟩ = some (.int .i64 x)) (hf : w.frozen? ⟨P, i, none⟩ = false) (hx : 0 ≤ x ∧ x ≤ 65537) (hd : 0 ≤ d ∧ d ≤ 4096) :
    Calls Try.prog 54 #[.pointer (some ⟨P, i, none⟩), .int .i64 d] w fun e w' => e = .returned (.tuple #[]) ∧ w' = w.setCell ⟨P, i, none⟩ (.int .i64 (Ar.capped x d)) := by
 obtain ⟨h1, h2, h3, h4⟩ := Ar.capped_in hx hd
 have HC := Lib.hid (show Ar.capped x d = if 65537 < x * d then 65537 else x * d from rfl)
 generalize hm : x * d = m at h1 h2 HC
 have qw : IntKind.i64.wrap m = m := IntWalk.i64_in _ (by omega)
 generalize Ar.capped x d = y at HC h3 h4 ⊢
 by_cases h : 65537 < m
 ·have hy : y = 65537 := by rw [HC.out, if_pos h]
  subst hy
  go_enter Try.func54, Try.ntmps54
  go_wp2_with fail
  all_goals first | (exfalso; omega) | (go_end0; exact ⟨rfl, rfl⟩)
 ·have hy : y = m := by rw [HC.out, if_neg h]
  subst hy
  go_enter Try.func54, Try.ntmps54
  go_wp2_with fail
  all_goals first | (exfalso; omega) | (go_end0; exact ⟨rfl, rfl⟩)
theorem Ar.blk_grown {w w' : World} {P : Nat} {t e : TypeId} {cs : Array Value} {v : Value} {base sz n : Nat} {xs : List Value} (h : Blk w P t cs) (ho : w.ownsRow base e sz v n xs) (hne : e ≠ t) (hg : w.grownBy w' v.ownBlock) : Blk w' P t cs :=
 h.grown hg (fun e => own_blk ho h hne e.symm)
set_option maxRecDepth 100000 in
set_option maxHeartbeats 8000000 in
theorem Ar.free4_any (N P Gv : Nat) (u0 u1 dv : Value) (ds : List Int) (x3 x4 x5 x6 : Int) (A A' : Option Addr) (ca cd : Nat) (ins d : List Int) (w : World) (hN : N ≤ P) (hPw : P < w.heap.size) (hl : ins.length ≤ 9223372036854775807) (hd : d.length ≤ 65536) (hds : ds.length ≤ 65536) (hdd : ∀ x ∈ d, 0 ≤ x ∧ x ≤ 4096)
    (h1 : Vw.IntsAt w N A ins) (h2 : Vw.IntsAt w N A' d) (hp : Ar.Pg N P u0 u1 dv ds x3 x4 x5 x6 w) (hgv : Blk w Gv 78 #[.func (.func 54) #[] #[]]) :
    Calls Try.prog 55 #[.slice A ins.length ca, .slice A' d.length cd, .pointer (some ⟨P, 4, none⟩), .pointer (some ⟨P, 0, none⟩), .pointer (some ⟨Gv, 0, none⟩)] w fun e w' => ∃ v dv' y, e = .returned v ∧ w'.ownsRow w.heap.size 3 1 v (AdjD.free d ins).length (ints (AdjD.free d ins)) ∧ (∀ g, v.ownBlock = some g → dv'.ownBlock ≠ some g) ∧ Ar.Fr w P dv w' dv' ∧ Ar.Pg N P u0 u1 dv' (ds ++ AdjD.chosen d (AdjD.free d ins)) x3 y x5 x6 w' ∧ Blk w' Gv 78 #[.func (.func 54) #[] #[]] ∧ Below N w w' := by
 have hNw : N ≤ w.heap.size := by omega
 have HC := Lib.hid (fun x W (hb : Below N w W) => Contains_any x A ca ins N W hl (h1.below hb))
 have HD := Lib.hid (fun W (hb : Below N w W) => (h2.below hb))
 have HDD := Lib.hid hdd
 have HP0 := Lib.hid hp
 have HG0 := Lib.hid hgv
 have HI := Lib.hid (info_parts Try.infoOf3)
 have HB0 := Lib.hid (Below.refl N w)
 have hcf : ∀ (args : Array Value) (W : World), (callFunc 54 args).run Try.prog W = .ok (.enter 54 args) W := fun _ _ => rfl
 obtain ⟨n, hnn⟩ : ∃ n, d.length = n := ⟨_, rfl⟩
 have HN := Lib.hid hnn
 rw [hnn] at hd ⊢
 clear h1 h2 hdd hp hgv hnn
 go_enter Try.func55, Try.ntmps55
 go_wp2_with fail
 go_loopw [9, 14] (fun lv kv wr => ∃ (k : Nat) (dw : Value) (y : Int), kv = .int .i64 (k : Int) ∧ k ≤ n ∧ Below N w wr ∧ Ar.Pg N P u0 u1 dw (ds ++ AdjD.chosen d (AdjD'.keepTo d ins k)) x3 y x5 x6 wr ∧ wr.ownsRow w.heap.size 3 1 lv (AdjD'.keepTo d ins k).length (ints (AdjD'.keepTo d ins k)) ∧ (∀ g, lv.ownBlock = some g → dw.ownBlock ≠ some g) ∧ Blk wr Gv 78 #[.func (.func 54) #[] #[]] ∧ w.heap.size ≤ wr.heap.size ∧ Ar.Fr w P dv wr dw) (fun _ kv _ => n - (intOf kv).toNat)
 case atStart =>
  refine ⟨0, dv, x4, rfl, by omega, HB0.out, ?_, ⟨rfl, .inl ⟨rfl, rfl⟩⟩, (fun g h => by cases h), HG0.out, Nat.le_refl _, Ar.Fr.refl _ _ _⟩
  have : ds ++ AdjD.chosen d (AdjD'.keepTo d ins 0) = ds := by show ds ++ [] = ds; rw [List.append_nil]
  rw [this]; exact HP0.out
 case round =>
  obtain ⟨k, dw, y, rfl, hk, hb, hpg, hown, hap, hgv, hsz, hfr⟩ := hrel
  have HF := Lib.hid hfr
  have HB := Lib.hid hb
  have HPG := Lib.hid hpg
  have HO := Lib.hid hown
  have HAP := Lib.hid hap
  have HG := Lib.hid hgv
  have HCK := Lib.hid (HC.out (k : Int) wr hb)
  obtain ⟨Al, cl, hlv, hcl⟩ := Vw.own_any hown
  subst hlv
  clear hb hpg hown hap hgv hfr
  by_cases hkn : k < n
  ·have hkl : k < d.length := by have := HN.out; omega
   obtain ⟨bd, od, rfl, hbd, gd⟩ := HD.out _ HB.out (by omega)
   have c1 := gd k hkl
   have hxd := HDD.out d[k] (List.getElem_mem hkl)
   have HKN := Lib.hid (AdjD'.keep_next d ins k)
   have HCS := Lib.hid (AdjD'.chosen_snoc d (AdjD'.keepTo d ins k) k hkl)
   have hkl2 := AdjD'.keep_len d ins k
   have hcl2 := AdjD.chosen_length d (AdjD'.keepTo d ins k)
   have i1 : (0 : Int) ≤ (k : Int) := by omega
   have i2 : (k : Int) < (n : Int) := by omega
   have hkk : (AdjD'.keepTo d ins k).length ≤ 65536 := by omega
   have hdl : (ds ++ AdjD.chosen d (AdjD'.keepTo d ins k)).length ≤ 131072 := by rw [List.length_append]; omega
   clear gd hcl2 hkl2
   generalize d[k] = x at c1 HCS hxd
   by_cases hin : (k : Int) ∈ ins
   ·rw [decide_eq_true hin] at HCK
    have HX := Lib.hid (show AdjD'.keepTo d ins (k + 1) = AdjD'.keepTo d ins k by rw [HKN.out, if_pos hin])
    clear hin
    go_wp2_with fail
    ((with_reducible refine HCK.out.mono ?_); rintro e w3 ⟨rfl, hw3⟩)
    rw [← hw3]
    clear hw3
    go_wp2_with fail
    go_roundw
    case rel => exact ⟨k + 1, dw, y, by go_num, by omega, HB.out, by rw [HX.out]; exact HPG.out, by rw [HX.out]; exact HO.out, HAP.out, HG.out, hsz, HF.out⟩
    case measure => simp [intOf]; omega
   ·rw [decide_eq_false hin] at HCK
    have HX := Lib.hid (show AdjD'.keepTo d ins (k + 1) = AdjD'.keepTo d ins k ++ [(k : Int)] by rw [HKN.out, if_neg hin])
    clear hin
    have HCX := Lib.hid (show ds ++ AdjD.chosen d (AdjD'.keepTo d ins (k + 1)) = (ds ++ AdjD.chosen d (AdjD'.keepTo d ins k)) ++ [x] by rw [HX.out, HCS.out, List.append_assoc])
    obtain ⟨i0, g1, g2, g3, g4⟩ := HI.out
    generalize ds ++ AdjD.chosen d (AdjD'.keepTo d ins k) = cs at HPG HCX hdl
    generalize AdjD'.keepTo d ins k = L at HO HX hkk HAP ⊢
    go_wp2_with fail
    ((with_reducible refine HCK.out.mono ?_); rintro e w3 ⟨rfl, hw3⟩)
    rw [← hw3]
    clear hw3
    go_wp2_with (at_builtin; refine wpList_append_any _ rfl _ _ 23 rfl w.heap.size 3 i0 (.int .i64 0) 1 8 Try.underlying23 g1 g2 g3 g4 rfl (by decide) _ _ _ rfl (HO.out.alloc _) _ (some ⟨wr.heap.size, 0, none⟩) 1 1 [.int .i64 (k : Int)] rfl (Ar.reads_cells (Blk.new wr 3 #[.int .i64 (k : Int)]) rfl) (by intro u hu; simp at hu; subst hu; rfl) (by unfold maxLen; omega) (by omega) (by simp; omega) ?_)
    intro v' w6 how hgr hwhere
    have HPa := HPG.out.below (Below.alloc (Below.refl wr.heap.size wr) (Nat.le_refl _) (.cells #[.int .i64 (k : Int)] 3))
    have HGa := HG.out.alloc (.cells #[.int .i64 (k : Int)] 3)
    have hoa := HO.out.alloc (.cells #[.int .i64 (k : Int)] 3)
    have HP6 := Lib.hid (show Ar.Pg N P u0 u1 dw cs x3 y x5 x6 w6 from ⟨Ar.blk_grown HPa.blk hoa (by decide) hgr, Ar.own_keep HPa.own (fun g hg => hgr.block g (Ar.own_lt HPa.own hg).2 (fun e => HAP.out g e.symm hg)), HPa.b3, HPa.b4, HPa.b5, HPa.b6⟩)
    have HG6 := Lib.hid (Ar.blk_grown HGa hoa (by decide) hgr)
    have HB6 := Lib.hid ((HB.out.alloc (Nat.le_trans hNw hsz) (.cells #[.int .i64 (k : Int)] 3)).grown hgr (by simp; omega) (fun g hg => by have := (Ar.own_lt hoa hg).1; omega))
    have HO6 := Lib.hid (show w6.ownsRow w.heap.size 3 1 v' (AdjD'.keepTo d ins (k + 1)).length (ints (AdjD'.keepTo d ins (k + 1))) by
     rw [HX.out, List.length_append, Vw.ints_snoc]; exact how)
    have HF6 := Lib.hid (HF.out.grow hgr (fun g hg => (Ar.own_lt hoa hg).1))
    have hs6 : wr.heap.size + 1 ≤ w6.heap.size := by have := hgr.size; simpa using this
    have HAP6 := Lib.hid (show ∀ g, v'.ownBlock = some g → dw.ownBlock ≠ some g from fun g hg hd2 => by
     rcases hwhere with e | e
     ·exact HAP.out g (by rw [← e]; exact hg) hd2
     ·rw [e] at hg
      injection hg with hg
      have := (Ar.own_lt HPG.out.own hd2).2
      first | omega | (simp at hg; omega))
    obtain ⟨Av, cv, hv, hcv⟩ := Vw.own_any how
    subst hv
    clear how hgr hwhere HPa HGa hoa
    have hp2 : w6.cell? ⟨P, 2, none⟩ = some dw := HP6.out.blk.cell 2
    have hf2 : w6.frozen? ⟨P, 2, none⟩ = false := HP6.out.blk.frozen 2
    obtain ⟨Aw, cw, hdw, hcw⟩ := Vw.own_any HP6.out.own
    subst hdw
    have hPlt : P < w6.heap.size := HP6.out.blk.lt
    have hfn : w6.cell? ⟨Gv, 0, none⟩ = some (.func (.func 54) #[] #[]) := HG6.out.cell 0
    go_wp2_with (at_builtin; refine wpList_append_any _ rfl _ _ 23 rfl N 3 i0 (.int .i64 0) 1 8 Try.underlying23 g1 g2 g3 g4 rfl (by decide) _ _ _ rfl (HP6.out.own.alloc _) _ (some ⟨w6.heap.size, 0, none⟩) 1 1 [.int .i64 x] rfl (Ar.reads_cells (Blk.new w6 3 #[.int .i64 x]) rfl) (by intro u hu; simp at hu; subst hu; rfl) (by unfold maxLen; omega) (by omega) (by simp; omega) ?_)
    intro v2 w7 how hgr hwhere
    have hPb := HP6.out.below (Below.alloc (Below.refl w6.heap.size w6) (Nat.le_refl _) (.cells #[.int .i64 x] 3))
    have hGb := HG6.out.alloc (.cells #[.int .i64 x] 3)
    have hoa := HO6.out.alloc (.cells #[.int .i64 x] 3)
    have HP8 := Lib.hid (hPb.push how hgr)
    have HF8 := Lib.hid ((HF6.out.push hgr (by rcases hwhere with e | e; exact .inl e; exact .inr (e.trans (by simp)))).set 2 v2)
    have hb7 := Ar.blk_grown hPb.blk hPb.own (by decide) hgr
    have hg7 := Ar.blk_grown hGb hPb.own (by decide) hgr
    have ho7 : w7.ownsRow w.heap.size 3 1 (.slice Av (L.length + 1) cv) (AdjD'.keepTo d ins (k + 1)).length (ints (AdjD'.keepTo d ins (k + 1))) := Ar.own_keep hoa (fun g hg => hgr.block g (Ar.own_lt hoa hg).2 (fun e => HAP6.out g hg e.symm))
    have hPG : Gv ≠ P := fun e => by
     have h1 := HP6.out.blk
     rw [← e] at h1
     have h2 : w6.heap[Gv]? = some (.cells _ _ (0, 0)) := HG6.out
     have h3 : w6.heap[Gv]? = some (.cells _ _ (0, 0)) := h1
     rw [h2] at h3
     injection h3 with h3
     injection h3 with _ h3
     exact absurd h3 (by decide)
    have HG8 := Lib.hid (hg7.far (p := ⟨P, 2, none⟩) hPG v2)
    have HO8 := Lib.hid (show (w7.setCell ⟨P, 2, none⟩ v2).ownsRow w.heap.size 3 1 (.slice Av (L.length + 1) cv) (AdjD'.keepTo d ins (k + 1)).length (ints (AdjD'.keepTo d ins (k + 1))) from
     Ar.own_keep ho7 (fun g hg => Below.heap_setCell w7 ⟨P, 2, none⟩ v2 g (fun e => Ar.own_blk ho7 hb7 (by decide) (by rw [hg, e]))))
    have HB8 := Lib.hid (((HB6.out.alloc (by omega) (.cells #[.int .i64 x] 3)).grown hgr (by simp; omega) (fun g hg => (Ar.own_lt hPb.own hg).1)).setCell (p := ⟨P, 2, none⟩) hN v2)
    have HAP8 := Lib.hid (show ∀ g, (Value.slice Av (L.length + 1) cv).ownBlock = some g → v2.ownBlock ≠ some g from fun g hg hd2 => by
     rcases hwhere with e | e
     ·exact HAP6.out g hg (by rw [← e]; exact hd2)
     ·rw [e] at hd2
      injection hd2 with hd2
      have := (Ar.own_lt HO6.out hg).2
      first | omega | (simp at hd2; omega))
    have hs8 : wr.heap.size ≤ (w7.setCell ⟨P, 2, none⟩ v2).heap.size := by
     have h1 := hgr.size
     have h2 : (w7.setCell ⟨P, 2, none⟩ v2).heap.size = w7.heap.size := by simp
     simp at h1
     omega
    have hp7 : w7.cell? ⟨P, 2, none⟩ = some (.slice Aw cs.length cw) := hb7.cell 2
    have hf7 : w7.frozen? ⟨P, 2, none⟩ = false := hb7.frozen 2
    obtain ⟨A2, c2, hv2, hcv2⟩ := Vw.own_any how
    subst hv2
    clear how hgr hwhere hPb hGb hoa hb7 hg7 ho7 hp2 hf2 hfn
    obtain ⟨W8, hW8⟩ : ∃ W8, w7.setCell ⟨P, 2, none⟩ (.slice A2 (cs.length + 1) c2) = W8 := ⟨_, rfl⟩
    rw [hW8] at HP8 HG8 HO8 HB8 hs8 HF8
    have hfn : W8.cell? ⟨Gv, 0, none⟩ = some (.func (.func 54) #[] #[]) := HG8.out.cell 0
    have HGR := Lib.hid (Ar.growC_any P 4 y x W8 (HP8.out.blk.cell 4) (HP8.out.blk.frozen 4) HP8.out.b4 hxd)
    have HP9 := Lib.hid (HP8.out.set4 hxd)
    have HF9 := Lib.hid (HF8.out.set 4 (.int .i64 (Ar.capped y x)))
    have HG9 := Lib.hid (HG8.out.far (p := ⟨P, 4, none⟩) hPG (.int .i64 (Ar.capped y x)))
    have HO9 := Lib.hid (show (W8.setCell ⟨P, 4, none⟩ (.int .i64 (Ar.capped y x))).ownsRow w.heap.size 3 1 (.slice Av (L.length + 1) cv) (AdjD'.keepTo d ins (k + 1)).length (ints (AdjD'.keepTo d ins (k + 1))) from
     Ar.own_keep HO8.out (fun g hg => Below.heap_setCell W8 ⟨P, 4, none⟩ _ g (fun e => Ar.own_blk HO8.out HP8.out.blk (by decide) (by rw [hg, e]))))
    have HB9 := Lib.hid (HB8.out.setCell (p := ⟨P, 4, none⟩) hN (.int .i64 (Ar.capped y x)))
    have hs9 : w.heap.size ≤ (W8.setCell ⟨P, 4, none⟩ (.int .i64 (Ar.capped y x))).heap.size := by simp; omega
    clear hPG hs8 hs6
    go_wp2_with fail
    ((with_reducible refine HGR.out.mono ?_); rintro e w9 ⟨rfl, hw9⟩)
    rw [hw9]
    clear hw9
    obtain ⟨W9, hW9⟩ : ∃ W9, W8.setCell ⟨P, 4, none⟩ (.int .i64 (Ar.capped y x)) = W9 := ⟨_, rfl⟩
    rw [hW9] at HP9 HG9 HO9 HB9 hs9 HF9 ⊢
    clear hW9 hW8 hp7 hf7 hfn
    go_wp2_with fail
    go_roundw
    case rel => exact ⟨k + 1, _, _, by go_num, by omega, HB9.out, by rw [HCX.out]; exact HP9.out, HO9.out, HAP8.out, HG9.out, hs9, HF9.out⟩
    case measure => simp [intOf]; omega
  ·obtain rfl : k = n := by omega
   have HX := Lib.hid (show AdjD'.keepTo d ins k = AdjD.free d ins by rw [← HN.out]; rfl)
   rw [HX.out] at HO HPG HAP ⊢
   go_wp2_with fail
   go_ret
   exact ⟨_, _, _, rfl, HO.out, HAP.out, HF.out, HPG.out, HG.out, HB.out⟩
set_option maxRecDepth 100000 in
set_option maxHeartbeats 8000000 in
theorem Ar.free5_any (N P Gv : Nat) (u0 u1 dv : Value) (ds : List Int) (x3 x4 x5 x6 : Int) (A A' : Option Addr) (ca cd : Nat) (ins d : List Int) (w : World) (hN : N ≤ P) (hPw : P < w.heap.size) (hl : ins.length ≤ 9223372036854775807) (hd : d.length ≤ 65536) (hds : ds.length ≤ 65536) (hdd : ∀ x ∈ d, 0 ≤ x ∧ x ≤ 4096)
    (h1 : Vw.IntsAt w N A ins) (h2 : Vw.IntsAt w N A' d) (hp : Ar.Pg N P u0 u1 dv ds x3 x4 x5 x6 w) (hgv : Blk w Gv 78 #[.func (.func 54) #[] #[]]) :
    Calls Try.prog 55 #[.slice A ins.length ca, .slice A' d.length cd, .pointer (some ⟨P, 5, none⟩), .pointer (some ⟨P, 0, none⟩), .pointer (some ⟨Gv, 0, none⟩)] w fun e w' => ∃ v dv' y, e = .returned v ∧ w'.ownsRow w.heap.size 3 1 v (AdjD.free d ins).length (ints (AdjD.free d ins)) ∧ (∀ g, v.ownBlock = some g → dv'.ownBlock ≠ some g) ∧ Ar.Fr w P dv w' dv' ∧ Ar.Pg N P u0 u1 dv' (ds ++ AdjD.chosen d (AdjD.free d ins)) x3 x4 y x6 w' ∧ Blk w' Gv 78 #[.func (.func 54) #[] #[]] ∧ Below N w w' := by
 have hNw : N ≤ w.heap.size := by omega
 have HC := Lib.hid (fun x W (hb : Below N w W) => Contains_any x A ca ins N W hl (h1.below hb))
 have HD := Lib.hid (fun W (hb : Below N w W) => (h2.below hb))
 have HDD := Lib.hid hdd
 have HP0 := Lib.hid hp
 have HG0 := Lib.hid hgv
 have HI := Lib.hid (info_parts Try.infoOf3)
 have HB0 := Lib.hid (Below.refl N w)
 have hcf : ∀ (args : Array Value) (W : World), (callFunc 54 args).run Try.prog W = .ok (.enter 54 args) W := fun _ _ => rfl
 obtain ⟨n, hnn⟩ : ∃ n, d.length = n := ⟨_, rfl⟩
 have HN := Lib.hid hnn
 rw [hnn] at hd ⊢
 clear h1 h2 hdd hp hgv hnn
 go_enter Try.func55, Try.ntmps55
 go_wp2_with fail
 go_loopw [9, 14] (fun lv kv wr => ∃ (k : Nat) (dw : Value) (y : Int), kv = .int .i64 (k : Int) ∧ k ≤ n ∧ Below N w wr ∧ Ar.Pg N P u0 u1 dw (ds ++ AdjD.chosen d (AdjD'.keepTo d ins k)) x3 x4 y x6 wr ∧ wr.ownsRow w.heap.size 3 1 lv (AdjD'.keepTo d ins k).length (ints (AdjD'.keepTo d ins k)) ∧ (∀ g, lv.ownBlock = some g → dw.ownBlock ≠ some g) ∧ Blk wr Gv 78 #[.func (.func 54) #[] #[]] ∧ w.heap.size ≤ wr.heap.size ∧ Ar.Fr w P dv wr dw) (fun _ kv _ => n - (intOf kv).toNat)
 case atStart =>
  refine ⟨0, dv, x5, rfl, by omega, HB0.out, ?_, ⟨rfl, .inl ⟨rfl, rfl⟩⟩, (fun g h => by cases h), HG0.out, Nat.le_refl _, Ar.Fr.refl _ _ _⟩
  have : ds ++ AdjD.chosen d (AdjD'.keepTo d ins 0) = ds := by show ds ++ [] = ds; rw [List.append_nil]
  rw [this]; exact HP0.out
 case round =>
  obtain ⟨k, dw, y, rfl, hk, hb, hpg, hown, hap, hgv, hsz, hfr⟩ := hrel
  have HF := Lib.hid hfr
  have HB := Lib.hid hb
  have HPG := Lib.hid hpg
  have HO := Lib.hid hown
  have HAP := Lib.hid hap
  have HG := Lib.hid hgv
  have HCK := Lib.hid (HC.out (k : Int) wr hb)
  obtain ⟨Al, cl, hlv, hcl⟩ := Vw.own_any hown
  subst hlv
  clear hb hpg hown hap hgv hfr
  by_cases hkn : k < n
  ·have hkl : k < d.length := by have := HN.out; omega
   obtain ⟨bd, od, rfl, hbd, gd⟩ := HD.out _ HB.out (by omega)
   have c1 := gd k hkl
   have hxd := HDD.out d[k] (List.getElem_mem hkl)
   have HKN := Lib.hid (AdjD'.keep_next d ins k)
   have HCS := Lib.hid (AdjD'.chosen_snoc d (AdjD'.keepTo d ins k) k hkl)
   have hkl2 := AdjD'.keep_len d ins k
   have hcl2 := AdjD.chosen_length d (AdjD'.keepTo d ins k)
   have i1 : (0 : Int) ≤ (k : Int) := by omega
   have i2 : (k : Int) < (n : Int) := by omega
   have hkk : (AdjD'.keepTo d ins k).length ≤ 65536 := by omega
   have hdl : (ds ++ AdjD.chosen d (AdjD'.keepTo d ins k)).length ≤ 131072 := by rw [List.length_append]; omega
   clear gd hcl2 hkl2
   generalize d[k] = x at c1 HCS hxd
   by_cases hin : (k : Int) ∈ ins
   ·rw [decide_eq_true hin] at HCK
    have HX := Lib.hid (show AdjD'.keepTo d ins (k + 1) = AdjD'.keepTo d ins k by rw [HKN.out, if_pos hin])
    clear hin
    go_wp2_with fail
    ((with_reducible refine HCK.out.mono ?_); rintro e w3 ⟨rfl, hw3⟩)
    rw [← hw3]
    clear hw3
    go_wp2_with fail
    go_roundw
    case rel => exact ⟨k + 1, dw, y, by go_num, by omega, HB.out, by rw [HX.out]; exact HPG.out, by rw [HX.out]; exact HO.out, HAP.out, HG.out, hsz, HF.out⟩
    case measure => simp [intOf]; omega
   ·rw [decide_eq_false hin] at HCK
    have HX := Lib.hid (show AdjD'.keepTo d ins (k + 1) = AdjD'.keepTo d ins k ++ [(k : Int)] by rw [HKN.out, if_neg hin])
    clear hin
    have HCX := Lib.hid (show ds ++ AdjD.chosen d (AdjD'.keepTo d ins (k + 1)) = (ds ++ AdjD.chosen d (AdjD'.keepTo d ins k)) ++ [x] by rw [HX.out, HCS.out, List.append_assoc])
    obtain ⟨i0, g1, g2, g3, g4⟩ := HI.out
    generalize ds ++ AdjD.chosen d (AdjD'.keepTo d ins k) = cs at HPG HCX hdl
    generalize AdjD'.keepTo d ins k = L at HO HX hkk HAP ⊢
    go_wp2_with fail
    ((with_reducible refine HCK.out.mono ?_); rintro e w3 ⟨rfl, hw3⟩)
    rw [← hw3]
    clear hw3
    go_wp2_with (at_builtin; refine wpList_append_any _ rfl _ _ 23 rfl w.heap.size 3 i0 (.int .i64 0) 1 8 Try.underlying23 g1 g2 g3 g4 rfl (by decide) _ _ _ rfl (HO.out.alloc _) _ (some ⟨wr.heap.size, 0, none⟩) 1 1 [.int .i64 (k : Int)] rfl (Ar.reads_cells (Blk.new wr 3 #[.int .i64 (k : Int)]) rfl) (by intro u hu; simp at hu; subst hu; rfl) (by unfold maxLen; omega) (by omega) (by simp; omega) ?_)
    intro v' w6 how hgr hwhere
    have HPa := HPG.out.below (Below.alloc (Below.refl wr.heap.size wr) (Nat.le_refl _) (.cells #[.int .i64 (k : Int)] 3))
    have HGa := HG.out.alloc (.cells #[.int .i64 (k : Int)] 3)
    have hoa := HO.out.alloc (.cells #[.int .i64 (k : Int)] 3)
    have HP6 := Lib.hid (show Ar.Pg N P u0 u1 dw cs x3 x4 y x6 w6 from ⟨Ar.blk_grown HPa.blk hoa (by decide) hgr, Ar.own_keep HPa.own (fun g hg => hgr.block g (Ar.own_lt HPa.own hg).2 (fun e => HAP.out g e.symm hg)), HPa.b3, HPa.b4, HPa.b5, HPa.b6⟩)
    have HG6 := Lib.hid (Ar.blk_grown HGa hoa (by decide) hgr)
    have HB6 := Lib.hid ((HB.out.alloc (Nat.le_trans hNw hsz) (.cells #[.int .i64 (k : Int)] 3)).grown hgr (by simp; omega) (fun g hg => by have := (Ar.own_lt hoa hg).1; omega))
    have HO6 := Lib.hid (show w6.ownsRow w.heap.size 3 1 v' (AdjD'.keepTo d ins (k + 1)).length (ints (AdjD'.keepTo d ins (k + 1))) by
     rw [HX.out, List.length_append, Vw.ints_snoc]; exact how)
    have HF6 := Lib.hid (HF.out.grow hgr (fun g hg => (Ar.own_lt hoa hg).1))
    have hs6 : wr.heap.size + 1 ≤ w6.heap.size := by have := hgr.size; simpa using this
    have HAP6 := Lib.hid (show ∀ g, v'.ownBlock = some g → dw.ownBlock ≠ some g from fun g hg hd2 => by
     rcases hwhere with e | e
     ·exact HAP.out g (by rw [← e]; exact hg) hd2
     ·rw [e] at hg
      injection hg with hg
      have := (Ar.own_lt HPG.out.own hd2).2
      first | omega | (simp at hg; omega))
    obtain ⟨Av, cv, hv, hcv⟩ := Vw.own_any how
    subst hv
    clear how hgr hwhere HPa HGa hoa
    have hp2 : w6.cell? ⟨P, 2, none⟩ = some dw := HP6.out.blk.cell 2
    have hf2 : w6.frozen? ⟨P, 2, none⟩ = false := HP6.out.blk.frozen 2
    obtain ⟨Aw, cw, hdw, hcw⟩ := Vw.own_any HP6.out.own
    subst hdw
    have hPlt : P < w6.heap.size := HP6.out.blk.lt
    have hfn : w6.cell? ⟨Gv, 0, none⟩ = some (.func (.func 54) #[] #[]) := HG6.out.cell 0
    go_wp2_with (at_builtin; refine wpList_append_any _ rfl _ _ 23 rfl N 3 i0 (.int .i64 0) 1 8 Try.underlying23 g1 g2 g3 g4 rfl (by decide) _ _ _ rfl (HP6.out.own.alloc _) _ (some ⟨w6.heap.size, 0, none⟩) 1 1 [.int .i64 x] rfl (Ar.reads_cells (Blk.new w6 3 #[.int .i64 x]) rfl) (by intro u hu; simp at hu; subst hu; rfl) (by unfold maxLen; omega) (by omega) (by simp; omega) ?_)
    intro v2 w7 how hgr hwhere
    have hPb := HP6.out.below (Below.alloc (Below.refl w6.heap.size w6) (Nat.le_refl _) (.cells #[.int .i64 x] 3))
    have hGb := HG6.out.alloc (.cells #[.int .i64 x] 3)
    have hoa := HO6.out.alloc (.cells #[.int .i64 x] 3)
    have HP8 := Lib.hid (hPb.push how hgr)
    have HF8 := Lib.hid ((HF6.out.push hgr (by rcases hwhere with e | e; exact .inl e; exact .inr (e.trans (by simp)))).set 2 v2)
    have hb7 := Ar.blk_grown hPb.blk hPb.own (by decide) hgr
    have hg7 := Ar.blk_grown hGb hPb.own (by decide) hgr
    have ho7 : w7.ownsRow w.heap.size 3 1 (.slice Av (L.length + 1) cv) (AdjD'.keepTo d ins (k + 1)).length (ints (AdjD'.keepTo d ins (k + 1))) := Ar.own_keep hoa (fun g hg => hgr.block g (Ar.own_lt hoa hg).2 (fun e => HAP6.out g hg e.symm))
    have hPG : Gv ≠ P := fun e => by
     have h1 := HP6.out.blk
     rw [← e] at h1
     have h2 : w6.heap[Gv]? = some (.cells _ _ (0, 0)) := HG6.out
     have h3 : w6.heap[Gv]? = some (.cells _ _ (0, 0)) := h1
     rw [h2] at h3
     injection h3 with h3
     injection h3 with _ h3
     exact absurd h3 (by decide)
    have HG8 := Lib.hid (hg7.far (p := ⟨P, 2, none⟩) hPG v2)
    have HO8 := Lib.hid (show (w7.setCell ⟨P, 2, none⟩ v2).ownsRow w.heap.size 3 1 (.slice Av (L.length + 1) cv) (AdjD'.keepTo d ins (k + 1)).length (ints (AdjD'.keepTo d ins (k + 1))) from
     Ar.own_keep ho7 (fun g hg => Below.heap_setCell w7 ⟨P, 2, none⟩ v2 g (fun e => Ar.own_blk ho7 hb7 (by decide) (by rw [hg, e]))))
    have HB8 := Lib.hid (((HB6.out.alloc (by omega) (.cells #[.int .i64 x] 3)).grown hgr (by simp; omega) (fun g hg => (Ar.own_lt hPb.own hg).1)).setCell (p := ⟨P, 2, none⟩) hN v2)
    have HAP8 := Lib.hid (show ∀ g, (Value.slice Av (L.length + 1) cv).ownBlock = some g → v2.ownBlock ≠ some g from fun g hg hd2 => by
     rcases hwhere with e | e
     ·exact HAP6.out g hg (by rw [← e]; exact hd2)
     ·rw [e] at hd2
      injection hd2 with hd2
      have := (Ar.own_lt HO6.out hg).2
      first | omega | (simp at hd2; omega))
    have hs8 : wr.heap.size ≤ (w7.setCell ⟨P, 2, none⟩ v2).heap.size := by
     have h1 := hgr.size
     have h2 : (w7.setCell ⟨P, 2, none⟩ v2).heap.size = w7.heap.size := by simp
     simp at h1
     omega
    have hp7 : w7.cell? ⟨P, 2, none⟩ = some (.slice Aw cs.length cw) := hb7.cell 2
    have hf7 : w7.frozen? ⟨P, 2, none⟩ = false := hb7.frozen 2
    obtain ⟨A2, c2, hv2, hcv2⟩ := Vw.own_any how
    subst hv2
    clear how hgr hwhere hPb hGb hoa hb7 hg7 ho7 hp2 hf2 hfn
    obtain ⟨W8, hW8⟩ : ∃ W8, w7.setCell ⟨P, 2, none⟩ (.slice A2 (cs.length + 1) c2) = W8 := ⟨_, rfl⟩
    rw [hW8] at HP8 HG8 HO8 HB8 hs8 HF8
    have hfn : W8.cell? ⟨Gv, 0, none⟩ = some (.func (.func 54) #[] #[]) := HG8.out.cell 0
    have HGR := Lib.hid (Ar.growC_any P 5 y x W8 (HP8.out.blk.cell 5) (HP8.out.blk.frozen 5) HP8.out.b5 hxd)
    have HP9 := Lib.hid (HP8.out.set5 hxd)
    have HF9 := Lib.hid (HF8.out.set 5 (.int .i64 (Ar.capped y x)))
    have HG9 := Lib.hid (HG8.out.far (p := ⟨P, 5, none⟩) hPG (.int .i64 (Ar.capped y x)))
    have HO9 := Lib.hid (show (W8.setCell ⟨P, 5, none⟩ (.int .i64 (Ar.capped y x))).ownsRow w.heap.size 3 1 (.slice Av (L.length + 1) cv) (AdjD'.keepTo d ins (k + 1)).length (ints (AdjD'.keepTo d ins (k + 1))) from
     Ar.own_keep HO8.out (fun g hg => Below.heap_setCell W8 ⟨P, 5, none⟩ _ g (fun e => Ar.own_blk HO8.out HP8.out.blk (by decide) (by rw [hg, e]))))
    have HB9 := Lib.hid (HB8.out.setCell (p := ⟨P, 5, none⟩) hN (.int .i64 (Ar.capped y x)))
    have hs9 : w.heap.size ≤ (W8.setCell ⟨P, 5, none⟩ (.int .i64 (Ar.capped y x))).heap.size := by simp; omega
    clear hPG hs8 hs6
    go_wp2_with fail
    ((with_reducible refine HGR.out.mono ?_); rintro e w9 ⟨rfl, hw9⟩)
    rw [hw9]
    clear hw9
    obtain ⟨W9, hW9⟩ : ∃ W9, W8.setCell ⟨P, 5, none⟩ (.int .i64 (Ar.capped y x)) = W9 := ⟨_, rfl⟩
    rw [hW9] at HP9 HG9 HO9 HB9 hs9 HF9 ⊢
    clear hW9 hW8 hp7 hf7 hfn
    go_wp2_with fail
    go_roundw
    case rel => exact ⟨k + 1, _, _, by go_num, by omega, HB9.out, by rw [HCX.out]; exact HP9.out, HO9.out, HAP8.out, HG9.out, hs9, HF9.out⟩
    case measure => simp [intOf]; omega
  ·obtain rfl : k = n := by omega
   have HX := Lib.hid (show AdjD'.keepTo d ins k = AdjD.free d ins by rw [← HN.out]; rfl)
   rw [HX.out] at HO HPG HAP ⊢
   go_wp2_with fail
   go_ret
   exact ⟨_, _, _, rfl, HO.out, HAP.out, HF.out, HPG.out, HG.out, HB.out⟩
end Go.Proofs.Ytapedmpbkffopaa
end
