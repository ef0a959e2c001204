/-
  The walks of the reference's Next and All. Conditions: the lists can be read; the dimensions are right.
-/
import Derived.Test.YtkbmnefjnfihbaaViewT
import Derived.Test.YtkbmnefjnfihbaaReadsV
import Derived.Test.YtkbmnefjnfihbaaViewPlain9
namespace Go.Proofs.Ytkbmnefjnfihbaa
set_option linter.unusedVariables false
open Go.RowKit Adj

namespace Vw
theorem reads_of {w : World} {B : Nat} {A : Option Addr} {l : List Int} (h : IntsAt w B A l) : Reads w B 1 A l.length (ints l) := by
  refine ⟨by rw [ints_length, Nat.mul_one], fun hn => ?_⟩
  obtain ⟨b, off, rfl, hb, hc⟩ := h hn
  exact ⟨_, rfl, hb, news h⟩
/-- What Next answers. -/
def NextOut (w : World) (l m : List Int) (e : Ending) (w' : World) : Prop :=
  ∃ (v : Value) (r : List Int) (ok : Bool), e = .returned (.tuple #[v, .bool ok]) ∧ r.length = m.length ∧ (AdjV.nx l m = if ok then some r else none) ∧ w'.ownsRow w.heap.size 3 1 v m.length (ints r) ∧ Below w.heap.size w w'
/-- What Next has laid, k of them not yet gone through. -/
structure NextI (w : World) (l m : List Int) (v : Value) (k : Nat) (W : World) : Prop where
  own : W.ownsRow w.heap.size 3 1 v m.length (ints (m.take k ++ List.replicate (m.length - k) 0))
  none_ : AdjV.nx (l.drop k) (m.drop k) = none
  below : Below w.heap.size w W
theorem own_drewN {w : World} {base : Nat} {e : TypeId} {v : Value} {n : Nat} {xs : List Value} (h : w.ownsRow base e 1 v n xs) (q : Nat) : (w.drewN q).ownsRow base e 1 v n xs := h
theorem NextI.put {w : World} {l m : List Int} {g c k : Nat} {W : World} (h : NextI w l m (.slice (some ⟨g, 0, none⟩) m.length c) (k + 1) W) (hk : k < m.length) (x : Int) :
    (W.setCell ⟨g, k, none⟩ (.int .i64 x)).ownsRow w.heap.size 3 1 (.slice (some ⟨g, 0, none⟩) m.length c) m.length (ints (m.take k ++ x :: List.replicate (m.length - (k + 1)) 0)) ∧ Below w.heap.size w (W.setCell ⟨g, k, none⟩ (.int .i64 x)) := by
  have hs := h.own.stored k (.int .i64 x)
  have e : (ints (m.take (k + 1) ++ List.replicate (m.length - (k + 1)) 0)).set k (.int .i64 x) = ints (m.take k ++ x :: List.replicate (m.length - (k + 1)) 0) := by
    unfold ints
    rw [← List.map_set, AdjV.take_next m k hk, List.append_assoc, List.singleton_append, List.set_append_right _ _ (by rw [List.length_take]; omega)]
    congr 2
    rw [List.length_take, Nat.min_eq_left (by omega), Nat.sub_self]
    rfl
  rw [e] at hs
  have hlt := h.own.lt g rfl
  exact ⟨hs.1, h.below.setCell (p := ⟨g, k, none⟩) hlt.1 _⟩
theorem next_zero {m : List Int} {k : Nat} (hk : k < m.length) : m.take k ++ (0 : Int) :: List.replicate (m.length - (k + 1)) 0 = m.take k ++ List.replicate (m.length - k) 0 := by
  congr 1
  rw [show m.length - k = (m.length - (k + 1)) + 1 by omega, List.replicate_succ]
theorem next_put {m : List Int} {k : Nat} {x : Int} (hk : k < m.length) : (ints (m.take k ++ x :: List.replicate (m.length - (k + 1)) 0)).set k (.int .i64 0) = ints (m.take k ++ List.replicate (m.length - k) 0) := by
  rw [← next_zero hk]
  unfold ints
  rw [← List.map_set, List.set_append_right _ _ (by rw [List.length_take]; omega)]
  congr 2
  rw [List.length_take, Nat.min_eq_left (by omega), Nat.sub_self]
  rfl
theorem next_at {m : List Int} {k : Nat} (hk : k < m.length) : (ints (m.take (k + 1) ++ List.replicate (m.length - (k + 1)) 0))[k]? = some (.int .i64 m[k]) := by
  have := ints_at (m.take (k + 1) ++ List.replicate (m.length - (k + 1)) 0) k (by simp; omega)
  rw [this, List.getElem_append_left (by rw [List.length_take]; omega), List.getElem_take]
end Vw

set_option maxHeartbeats 2000000 in
theorem Next_any (DA A : Option Addr) (cd ca : Nat) (l m : List Int) (B : Nat) (w : World) (hl : m.length = l.length) (h6 : l.length ≤ 6) (hB : B ≤ w.heap.size) (hd : Vw.IntsAt w B DA l) (hm : Vw.IntsAt w B A m) (hx : ∀ x ∈ m, 0 ≤ x ∧ x ≤ 4096) :
    Calls Try.prog 59 #[.slice DA l.length cd, .slice A m.length ca] w (Vw.NextOut w l m) := by
  obtain ⟨i0, hi, hz0, hz1, hz2⟩ := info_parts Try.infoOf3
  have hbel := (Below.refl w.heap.size w).alloc (Nat.le_refl _) (.cells #[] 3)
  have HD := Lib.hid (hd.below (hbel.mono hB))
  have HM := Lib.hid (Vw.reads_of (hm.below (hbel.mono hB)))
  have HX := Lib.hid hx
  have HL := Lib.hid hl
  have hl6 : m.length ≤ 6 := by omega
  clear hd hm hx hl
  go_enter Try.func59, Try.ntmps59
  go_wp2_with (at_builtin; refine wpList_append_any _ rfl (.tmp 8) (.tmp 9) _ rfl w.heap.size 3 i0 (.int .i64 0) 1 8 Try.underlying22 hi hz0 hz1 hz2 rfl (by decide) _ _ _ rfl (Vw.own_nothing w 3) B A m.length ca (ints m) rfl HM.out (Vw.ints_one m) (by unfold maxLen; omega) (by omega) (by simp) ?_)
  intro v w1 hown hgrow _
  have HI := Lib.hid (show Vw.NextI w l m v m.length w1 from ⟨by simpa using hown, by rw [HL.out]; exact AdjV.nx_end l _, hbel.grown hgrow (by simp) (fun k hk => by simp [Value.ownBlock] at hk; omega)⟩)
  clear hown hgrow
  go_wp2_with fail
  go_loopw [7] (fun i wr => ∃ k : Nat, k ≤ l.length ∧ i = .int .i64 ((k : Int) - 1) ∧ Vw.NextI w l m v k wr) (fun i _ => (intOf i + 1).toNat)
  case atStart => exact ⟨l.length, Nat.le_refl _, by go_num, by rw [← HL.out]; exact HI.out⟩
  case round =>
    obtain ⟨k, hk, rfl, hI⟩ := hrel
    cases k with
    | zero =>
      have HE := Lib.hid hI
      have e0 : ((0 : Nat) : Int) - 1 = -1 := by omega
      rw [e0]
      clear hI
      go_wp2_with fail
      go_ret2
      refine ⟨v, _, false, rfl, ?_, ?_, HE.out.own, HE.out.below⟩
      · simp
      · simpa using HE.out.none_
    | succ k =>
      have hkm : k < m.length := by have := HL.out; omega
      obtain ⟨g, c, rfl⟩ : ∃ g c, v = .slice (some ⟨g, 0, none⟩) m.length c := by
        obtain ⟨g, c, h, _, _⟩ := hI.own.form (by omega)
        exact ⟨g, c, h⟩
      have hck := (hI.own.cellAt k (by omega)).trans (Vw.next_at hkm)
      have hcf := hI.own.frozenAt k
      have hgl := hI.own.lt g rfl
      obtain ⟨b, off, rfl, hb, hcs⟩ := HD.out (by omega)
      have hdk := (hI.below.cell (p := ⟨b, off + k, none⟩) (by simp; omega)).trans (((hbel.cell (p := ⟨b, off + k, none⟩) (by simp; omega))).symm.trans (hcs k (by omega)))
      have hxk := HX.out _ (List.getElem_mem hkm)
      have HST := Lib.hid (AdjV.nx_step (l := l) (m := m) (k := k) (by omega) hkm hI.none_)
      have HP := Lib.hid (fun x => hI.put hkm x)
      have HP2 := Lib.hid (show ((wr.setCell ⟨g, k, none⟩ (.int .i64 (m[k] + 1))).setCell ⟨g, k, none⟩ (.int .i64 0)).ownsRow w.heap.size 3 1 (.slice (some ⟨g, 0, none⟩) m.length c) m.length (ints (m.take k ++ List.replicate (m.length - k) 0)) ∧
          Below w.heap.size w ((wr.setCell ⟨g, k, none⟩ (.int .i64 (m[k] + 1))).setCell ⟨g, k, none⟩ (.int .i64 0)) from by
        obtain ⟨o1, o2⟩ := hI.put hkm (m[k] + 1)
        have o3 := o1.stored k (.int .i64 0)
        refine ⟨?_, o2.setCell (p := ⟨g, k, none⟩) hgl.1 _⟩
        have o4 := o3.1
        rw [Vw.next_put hkm] at o4
        exact o4)
      have HDR := Lib.hid (fun r => AdjV.nx_drop (l := l) (m := m) (r := r) k (by omega) (by omega))
      have e0 : (((k + 1 : Nat) : Int)) - 1 = (k : Int) := by omega
      rw [e0]
      clear hcs hI
      generalize hmk : m[k] = a at hck hxk HST HP2
      generalize hlk : l[k] = d at hdk HST
      have hi1 : (0 : Int) ≤ (k : Int) := by omega
      have hi2 : (k : Int) < (m.length : Int) := by omega
      have hi3 : (k : Int) < (l.length : Int) := by omega
      clear hmk hlk
      have hgb : g ≠ b := by omega
      have hdk2 : (wr.setCell ⟨g, k, none⟩ (.int .i64 (a + 1))).cell? ⟨b, off + k, none⟩ = some (.int .i64 d) := (World.cell?_of_block (Below.heap_setCell wr ⟨g, k, none⟩ _ b (by simp; omega))).trans hdk
      have HGL := Lib.hid hgl
      clear hdk hgl
      by_cases hlt : a + 1 < d
      · go_wp2_with fail
        go_region
        go_wp2_with fail
        go_ret2
        refine ⟨_, _, true, rfl, ?_, ?_, (HP.out _).1, (HP.out _).2.drew⟩
        · simp; omega
        · rw [HDR.out _ (HST.out.trans (if_pos hlt)), HL.out]; rfl
      · go_wp2_with fail
        go_region
        go_wp2_with fail
        go_roundw
        case rel => exact ⟨k, by omega, by go_num, HP2.out.1, HST.out.trans (if_neg (by omega)), HP2.out.2.drew⟩
        case measure => (simp [intOf] <;> omega)

theorem Try.infoOf22 : (Try.prog.info? 22).map (fun i => (i.zero, i.size, i.bytes)) = some (some (.slice none 0 0), 1, 24) := by kernel_rfl
namespace Vw
theorem own_types {w : World} {base base' : Nat} {e e' : TypeId} {size size' n n' : Nat} {v v' : Value} {xs xs' : List Value} (h : w.ownsRow base e size v n xs) (h' : w.ownsRow base' e' size' v' n' xs') (hne : e ≠ e') :
    v.ownBlock = none ∨ v.ownBlock ≠ v'.ownBlock := by
  rcases h.2 with ⟨rfl, _⟩ | ⟨g, cap, cur, rfl, _, hg, _⟩
  · exact .inl rfl
  · refine .inr fun e1 => ?_
    rcases h'.2 with ⟨rfl, _⟩ | ⟨g', cap', cur', rfl, _, hg', _⟩
    · simp [Value.ownBlock] at e1
    · simp only [Value.ownBlock, Option.some.injEq] at e1
      subst e1
      rw [hg] at hg'
      simp only [Option.some.injEq, Obj.cells.injEq] at hg'
      exact hne hg'.2.1
/-- Rows of ints of the call's own: the first indices of dimensions l. -/
def RowsOf (N : Nat) (l : List Int) (vals : List Value) (W : World) : Prop := ∀ p (h : p < vals.length), W.ownsRow N 3 1 vals[p] l.length (ints (AdjV.idx l p))
theorem RowsOf.snoc {N : Nat} {l : List Int} {vals : List Value} {W : World} {v : Value} (h : RowsOf N l vals W) (hv : W.ownsRow N 3 1 v l.length (ints (AdjV.idx l vals.length))) : RowsOf N l (vals ++ [v]) W := by
  intro p hp
  by_cases h1 : p < vals.length
  · rw [List.getElem_append_left h1]; exact h p h1
  · have : p = vals.length := by simp at hp; omega
    subst this
    rw [List.getElem_append_right (Nat.le_refl _)]
    simpa using hv
theorem RowsOf.map {N : Nat} {l : List Int} {vals : List Value} {W W' : World} (h : RowsOf N l vals W) (hk : ∀ v n xs, W.ownsRow N 3 1 v n xs → W'.ownsRow N 3 1 v n xs) : RowsOf N l vals W' := fun p hp => hk _ _ _ (h p hp)
/-- What All has laid. -/
structure AllI (w : World) (l : List Int) (out at_ : Value) (ok : Bool) (k : Nat) (W : World) : Prop where
  vals : ∃ vals : List Value, vals.length = k + 1 ∧ W.ownsRow w.heap.size 22 1 out (k + 1) vals ∧ RowsOf w.heap.size l vals W
  here : ok = true → W.ownsRow w.heap.size 3 1 at_ l.length (ints (AdjV.idx l k))
  last : ok = false → (k : Int) + 1 = AdjV.prod l
  less : (k : Int) < AdjV.prod l
  below : Below w.heap.size w W
def AllOut (w : World) (l : List Int) (e : Ending) (w' : World) : Prop :=
  ∃ (v : Value) (n : Nat) (vals : List Value), e = .returned v ∧ (n : Int) = AdjV.prod l ∧ vals.length = n ∧ w'.ownsRow w.heap.size 22 1 v n vals ∧ RowsOf w.heap.size l vals w' ∧ Below w.heap.size w w'
def lenOf : Value → Nat
  | .slice _ n _ => n
  | _ => 0
def flag : Value → Nat
  | .bool true => 1
  | _ => 0
theorem vals_one {vals : List Value} {N : Nat} {l : List Int} {W : World} (h : RowsOf N l vals W) : ∀ u ∈ vals, u.oneCell' = true := by
  intro u hu
  obtain ⟨i, hi, rfl⟩ := List.getElem_of_mem hu
  obtain ⟨A, c, hv, _⟩ := own_any (h i hi)
  rw [hv]; rfl
end Vw

theorem Vw.AllI.start {w : World} {l : List Int} (hpos : ∀ d ∈ l, 1 ≤ d) (hp : 0 < AdjV.prod l) (hl : l.length ≤ 6) : Vw.AllI w l (.slice (some ⟨w.heap.size + 1, 0, none⟩) 1 1) (.slice (some ⟨w.heap.size, 0, none⟩) l.length l.length) true 0
    ((w.alloc (.cells (ints (List.replicate l.length 0)).toArray 3)).alloc (.cells #[.slice (some ⟨w.heap.size, 0, none⟩) l.length l.length] 22)) := by
  have h1 : (w.alloc (.cells (ints (List.replicate l.length 0)).toArray 3)).ownsRow w.heap.size 3 1 (.slice (some ⟨w.heap.size, 0, none⟩) l.length l.length) l.length (ints (AdjV.idx l 0)) := by
    have := World.ownsRow_lit (base := w.heap.size) (e := 3) (size := 1) w (ints (List.replicate l.length 0)).toArray l.length (Nat.le_refl _) (by unfold maxLen; omega) (by simp [ints])
    rw [AdjV.idx_zero hpos]
    simpa using this
  have h2 := World.ownsRow_lit (base := w.heap.size) (e := 22) (size := 1) (w.alloc (.cells (ints (List.replicate l.length 0)).toArray 3)) #[.slice (some ⟨w.heap.size, 0, none⟩) l.length l.length] 1 (by simp) (by unfold maxLen; omega) (by simp)
  refine ⟨⟨[.slice (some ⟨w.heap.size, 0, none⟩) l.length l.length], rfl, by simpa using h2, ?_⟩, fun _ => h1.alloc _, (fun h => by cases h), by omega, ((Below.refl _ _).alloc (Nat.le_refl _) _).alloc (by simp) _⟩
  intro p hp
  have : p = 0 := by simpa using hp
  subst this
  exact h1.alloc _

theorem Vw.AllI.more {w w1 w2 : World} {l : List Int} {vals : List Value} {k c2 : Nat} {O v' : Value} {A2 : Option Addr} (hpos : ∀ d ∈ l, 1 ≤ d) (hvl : vals.length = k + 1) (ho : w1.ownsRow w.heap.size 22 1 O (k + 1) vals) (hr : Vw.RowsOf w.heap.size l vals w1)
    (hk : w1.ownsRow w.heap.size 3 1 (.slice A2 l.length c2) l.length (ints (AdjV.idx l ((k : Int) + 1)))) (hlt : (k : Int) + 1 < AdjV.prod l) (hb : Below w.heap.size w w1)
    (hown : w2.ownsRow w.heap.size 22 1 v' (k + 1 + 1) (vals ++ [.slice A2 l.length c2])) (hg : (w1.alloc (.cells #[.slice A2 l.length c2] 22)).grownBy w2 O.ownBlock) :
    Vw.AllI w l v' (.slice A2 l.length c2) true (k + 1) w2 := by
  have hkeep : ∀ v n xs, w1.ownsRow w.heap.size 3 1 v n xs → w2.ownsRow w.heap.size 3 1 v n xs := fun v n xs h => (h.alloc _).kept hg (Vw.own_types (h.alloc (.cells #[.slice A2 l.length c2] 22)) (ho.alloc _) (by decide))
  have hh : w2.ownsRow w.heap.size 3 1 (.slice A2 l.length c2) l.length (ints (AdjV.idx l ((k + 1 : Nat) : Int))) := by
    have := hkeep _ _ _ hk
    rwa [show ((k + 1 : Nat) : Int) = (k : Int) + 1 by omega]
  refine ⟨⟨_, by simp [hvl], hown, (hr.map hkeep).snoc (by rw [hvl]; exact hh)⟩, fun _ => hh, (fun h => by cases h), by omega, ?_⟩
  exact (hb.alloc hb.size _).grown hg (by have := hb.size; simp; omega) (fun q hq => (ho.lt q hq).1)

set_option maxHeartbeats 2000000 in
theorem All_any (DA : Option Addr) (cd : Nat) (l : List Int) (B : Nat) (w : World) (hc : l.length ≤ cd) (hc2 : cd ≤ 9223372036854775807) (h0 : (AdjV.size l).2 = 0) (hp : 0 < AdjV.prod l) (hB : B ≤ w.heap.size) (hd : Vw.IntsAt w B DA l) :
    Calls Try.prog 48 #[.slice DA l.length cd] w (Vw.AllOut w l) := by
  obtain ⟨i0, hi, hz0, hz1, hz2⟩ := info_parts Try.infoOf22
  obtain ⟨z1, z2, z3, z4, z5⟩ := AdjV.size_fine h0
  have hpos := AdjV.no_zero_of_pos h0 hp
  have HP := Lib.hid hpos
  have HZ := Lib.hid z2
  have HSZ := Lib.hid (refSize_any DA cd l B w (by omega) hd)
  have hR : Vw.sizeR l = .tuple #[.int .i64 (AdjV.size l).1, .int .i64 0] := by unfold Vw.sizeR; rw [h0]
  have HR := Lib.hid hR
  have HD := Lib.hid hd
  have hl16 : l.length ≤ 65536 := by omega
  have HMKI := Lib.hid (fun W => run_make_int l.length hl16 W)
  have hq : ((AdjV.size l).1 == 0) = false := by simp; omega
  have HZ3 := Lib.hid z3
  clear hd hR h0 z2 hpos z3
  go_enter Try.func48, Try.ntmps48
  go_wp2_with fail
  refine HSZ.out.mono ?_
  rintro e w1 ⟨rfl, rfl⟩
  rw [HR.out]
  have hmk := HMKI.out
  have HI0 := Lib.hid (Vw.AllI.start (w := w) (l := l) HP.out hp z1)
  go_wp2_with fail
  clear hmk
  go_loopw [5, 6, 7] (fun a o m wr => ∃ (k : Nat) (ok : Bool), m = .bool ok ∧ Vw.AllI w l o a ok k wr) (fun _ o m _ => 2 * (65536 - Vw.lenOf o) + Vw.flag m)
  case atStart => exact ⟨0, true, rfl, HI0.out⟩
  case round =>
    obtain ⟨k, ok, rfl, hI⟩ := hrel
    obtain ⟨vals, hvl, hvo, hvr⟩ := hI.vals
    obtain ⟨AO, co, rfl, _⟩ := Vw.own_any hvo
    have HV := Lib.hid (And.intro hvl (And.intro hvo hvr))
    have hless := hI.less
    clear hvl hvo hvr
    cases ok with
    | false =>
      have HL := Lib.hid (hI.last rfl)
      have HB := Lib.hid hI.below
      clear hI
      go_wp2_with fail
      go_ret
      exact ⟨_, k + 1, vals, rfl, by have := HL.out; omega, HV.out.1, HV.out.2.1, HV.out.2.2, HB.out⟩
    | true =>
      obtain ⟨AA, ca, rfl, _⟩ := Vw.own_any (hI.here rfl)
      have HB := Lib.hid hI.below
      have hN := Next_any DA AA cd ca l (AdjV.idx l k) wr.heap.size wr (AdjV.idx_length _ _) z1 (Nat.le_refl _) ((HD.out.below (HB.out.mono hB)).up (Nat.le_trans hB HB.out.size)) (Vw.IntsAt.of_own (hI.here rfl)).2 (fun x hx => by
        obtain ⟨i, hi, rfl⟩ := List.getElem_of_mem hx
        have hin := (AdjV.plc_idx l HP.out k (by omega)).1
        have h1 := AdjV.inside_at hin i (by rw [← AdjV.idx_length l k]; exact hi) hi
        have h2 := HZ.out _ (List.getElem_mem (show i < l.length by rw [← AdjV.idx_length l k]; exact hi))
        omega)
      rw [AdjV.idx_length] at hN
      have HN := Lib.hid hN
      have HHE := Lib.hid (hI.here rfl)
      have HNX := Lib.hid (AdjV.nx_idx HP.out (p := (k : Int)) (by omega) hless)
      clear hI hN
      go_wp2_with fail
      refine HN.out.mono ?_
      rintro e w1 ⟨v, r, ok2, rfl, hrl, hnx, hown, hb⟩
      rw [AdjV.idx_length] at hrl hown
      obtain ⟨A2, c2, rfl, _⟩ := Vw.own_any hown
      have hb2 := HB.out.trans (hb.mono HB.out.size)
      have HB2 := Lib.hid hb2
      have HBW := Lib.hid hb
      have HVW := Lib.hid (show w1.ownsRow w.heap.size 22 1 (.slice AO (k + 1) co) (k + 1) vals ∧ Vw.RowsOf w.heap.size l vals w1 from ⟨Vw.own_kept HV.out.2.1 hb, HV.out.2.2.map fun v n xs h => Vw.own_kept h hb⟩)
      cases ok2 with
      | false =>
        have HE := Lib.hid (HNX.out.2 (by rw [hnx]; rfl))
        have HK := Lib.hid (Vw.own_base hown HB.out.size)
        clear hrl hnx hown hb hb2
        go_wp2_with fail
        go_roundw
        case rel => exact ⟨k, false, rfl, ⟨vals, HV.out.1, HVW.out.1, HVW.out.2⟩, (fun h => by cases h), fun _ => HE.out, hless, HB2.out⟩
        case measure => (simp [Vw.lenOf, Vw.flag] <;> omega)
      | true =>
        obtain ⟨e1, e2⟩ := HNX.out.1 r (by rw [hnx]; rfl)
        subst e1
        have HK := Lib.hid (Vw.own_base hown HB.out.size)
        have hk1 : k + 1 + 1 ≤ 65536 := by omega
        have hvl2 := HV.out.1
        clear hrl hnx hown hb hb2
        go_wp2_with (at_builtin; refine wpList_append_own _ rfl _ _ 58 rfl w.heap.size 22 i0 (.slice none 0 0) 1 24 Try.underlying58 hi hz0 hz1 hz2 rfl (by decide) _ _ _ rfl (HVW.out.1.alloc _) ⟨w1.heap.size, 0, none⟩ 1 1 [.slice A2 l.length c2] rfl rfl (cell_one_new _ _ _) (by intro u hu; rw [List.mem_singleton.1 hu]; rfl) (by unfold maxLen; omega) (by omega) (by have := HB2.out.size; simp; omega) ?_)
        intro v' w2 hown' hgrow _
        have HF := Lib.hid (Vw.AllI.more HP.out hvl2 HVW.out.1 HVW.out.2 HK.out e2 HB2.out hown' hgrow)
        obtain ⟨A3, c3, rfl, _⟩ := Vw.own_any hown'
        clear hown' hgrow
        go_wp2_with fail
        first
          | exact ⟨⟨k + 1, true, rfl, HF.out⟩, by simp [Vw.lenOf, Vw.flag]; omega⟩
          | (go_roundw
             case rel => exact ⟨k + 1, true, rfl, HF.out⟩
             case measure => (simp [Vw.lenOf, Vw.flag] <;> omega))
end Go.Proofs.Ytkbmnefjnfihbaa
