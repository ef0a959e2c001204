/-
  The walk of the reference's Index. Conditions: the dimensions can be read.
-/
import Derived.Test.YtkbmnefjnfihbaaViewD
namespace Go.Proofs.Ytkbmnefjnfihbaa
set_option linter.unusedVariables false
open Go.RowKit Adj

namespace Vw
theorem own_ge {w : World} {base : Nat} {e : TypeId} {A : Option Addr} {n c : Nat} {xs : List Value} (h : w.ownsRow base e 1 (.slice A n c) n xs) (hn : 0 < n) : ∀ b off, A = some ⟨b, off, none⟩ → base ≤ b := by
  intro b off hA
  obtain ⟨g, cap, hv, hge, hlt⟩ := h.form hn
  injection hv with h1
  rw [hA] at h1
  injection h1 with h1
  injection h1 with h1
  omega
theorem own_kept {w w' : World} {base : Nat} {e : TypeId} {v : Value} {n : Nat} {xs : List Value} (h : w.ownsRow base e 1 v n xs) (hb : Below w.heap.size w w') : w'.ownsRow base e 1 v n xs :=
  h.kept (row := none) ⟨hb.os, hb.tape, hb.output, hb.size, fun k hk _ => hb.block k hk⟩ (by cases v.ownBlock <;> simp)
end Vw

set_option maxRecDepth 100000 in
set_option maxHeartbeats 2000000 in
theorem refIndex_any (A : Option Addr) (cap : Nat) (l : List Int) (p : Int) (B : Nat) (w : World) (hl : l.length ≤ cap) (hl' : cap ≤ 9223372036854775807) (hB : B ≤ w.heap.size) (hm : Vw.IntsAt w B A l) :
    Calls Try.prog 16 #[.slice A l.length cap, .int .i64 p] w fun e w' => ∃ A' c', e = .returned (.tuple #[.slice A' (AdjV.index l p).1.length c', .int .i64 (AdjV.index l p).2]) ∧ Below w.heap.size w w' ∧
      w'.ownsRow w.heap.size 3 1 (.slice A' (AdjV.index l p).1.length c') (AdjV.index l p).1.length (ints (AdjV.index l p).1) := by
  have HSZ := Lib.hid (refSize_any A cap l B w (by omega) hm)
  by_cases h0 : (AdjV.size l).2 = 0
  · obtain ⟨z1, z2, z3, z4, z5⟩ := AdjV.size_fine h0
    have hR : Vw.sizeR l = .tuple #[.int .i64 (AdjV.size l).1, .int .i64 0] := by unfold Vw.sizeR; rw [h0]
    have HR := Lib.hid hR
    have H0 := Lib.hid h0
    have HM := Lib.hid hm
    clear hR h0 hm z2
    by_cases hp : p < 0 ∨ (AdjV.size l).1 ≤ p
    · have HI := Lib.hid (show AdjV.index l p = ([], 4) by unfold AdjV.index; rw [if_neg (by simp [H0.out]), if_pos hp])
      by_cases hp0 : p < 0
      · go_enter Try.func16, Try.ntmps16
        go_wp2_with fail
        refine HSZ.out.mono ?_
        rintro e w1 ⟨rfl, rfl⟩
        rw [HR.out]
        go_wp2_with fail
        go_ret2
        exact ⟨none, 0, by rw [HI.out]; rfl, Below.refl _ _, by rw [HI.out]; exact World.ownsRow_nil _ _ _ _⟩
      · have hp1 : (AdjV.size l).1 ≤ p := by omega
        go_enter Try.func16, Try.ntmps16
        go_wp2_with fail
        refine HSZ.out.mono ?_
        rintro e w1 ⟨rfl, rfl⟩
        rw [HR.out]
        go_wp2_with fail
        go_ret2
        exact ⟨none, 0, by rw [HI.out]; rfl, Below.refl _ _, by rw [HI.out]; exact World.ownsRow_nil _ _ _ _⟩
    · obtain ⟨hix, hp0, hp1, hpos⟩ := AdjV.index_ok H0.out hp
      have HI := Lib.hid hix
      have HPOS := Lib.hid hpos
      have hpn : p < (AdjV.size l).1 := by omega
      clear hix hpos hp
      obtain ⟨i0, hi, hz0, hz1, hz2⟩ := info_parts Try.infoOf3
      go_enter Try.func16, Try.ntmps16
      go_wp2_with fail
      refine HSZ.out.mono ?_
      rintro e w1 ⟨rfl, rfl⟩
      rw [HR.out]
      go_wp2_with fail
      refine (Steps_any A cap l B _ hl hl' H0.out (HM.out.below ((Below.refl _ _).alloc (by simpa using hB) _)) (by simp; omega)).mono ?_
      rintro e w1 ⟨v, rfl, hown, hbel⟩
      obtain ⟨A2, c2, rfl, hc2⟩ := Vw.own_any hown
      have hI2 := (Vw.IntsAt.of_own (l := AdjV.steps l) hown).2
      have hne := Vw.own_ge hown
      have hb1 : Below w.heap.size w w1 := ((Below.refl _ _).alloc (Nat.le_refl _) _).trans (hbel.mono (by simp))
      have hsz1 : w.heap.size + 1 ≤ w1.heap.size := by have := hbel.size; simpa using this
      have hown0 : w1.ownsRow w.heap.size 3 1 (.slice (some ⟨w.heap.size, 0, none⟩) 0 0) 0 [] := Vw.own_kept (Vw.own_nothing w 3) hbel
      have HI2 := Lib.hid hI2
      have HNE := Lib.hid hne
      have HB1 := Lib.hid hb1
      have HOWN0 := Lib.hid hown0
      clear hown hbel hI2 hne hb1 hown0
      go_wp2_with fail
      go_loopw [8, 30] (fun v i wr => ∃ (k : Nat) (A3 : Option Addr) (c3 : Nat), k ≤ l.length ∧ i = .int .i64 (k : Int) ∧ v = .slice A3 k c3 ∧ wr.ownsRow w.heap.size 3 1 v k (ints ((AdjV.idx l p).take k)) ∧ Below w.heap.size w wr ∧ Vw.IntsAt wr w1.heap.size A2 (AdjV.steps l) ∧ w1.heap.size ≤ wr.heap.size ∧ (∀ b off, A2 = some ⟨b, off, none⟩ → 0 < l.length → v.ownBlock ≠ some b)) (fun _ i _ => l.length + 1 - (intOf i).toNat)
      case atStart => exact ⟨0, _, _, by omega, rfl, rfl, by simpa [ints] using HOWN0.out, HB1.out, HI2.out, Nat.le_refl _, fun b off hA hn hv => by
        have := HNE.out hn b off hA
        simp [Value.ownBlock] at hv this
        omega⟩
      case round =>
        obtain ⟨k, A3, c3, hk, rfl, rfl, hown, hbel, hi2, hsz, hne⟩ := hrel
        obtain ⟨wo, rfl⟩ : ∃ wo : World, wo = wr := ⟨_, rfl⟩
        by_cases hlt : k < l.length
        · obtain ⟨b, off, hA, hb, hc⟩ := HM.out (by omega)
          subst hA
          obtain ⟨b2, off2, hA2, hb2, hc2⟩ := hi2 (by rw [AdjV.steps_length]; omega)
          subst hA2
          have hsl : k < (AdjV.steps l).length := by rw [AdjV.steps_length]; exact hlt
          have hil : k < (AdjV.idx l p).length := by rw [AdjV.idx_length]; exact hlt
          have hck := (hbel.cell (p := ⟨b, off + k, none⟩) (by simp; omega)).trans (hc k hlt)
          have hck2 := hc2 k hsl
          have hnb := hne b2 off2 rfl (by omega)
          have hi1 : (0 : Int) ≤ (k : Int) := by omega
          have hi2' : (k : Int) < (l.length : Int) := by omega
          obtain ⟨q1, q2, q3, q4⟩ := AdjV.idx_at hp0 HPOS.out k hlt
          have hd1 := HPOS.out _ (List.getElem_mem hlt)
          have hd2 := (z1)
          have HEND := Lib.hid (fun v' w2 x (hx : (AdjV.idx l p)[k] = x) hown' hgrow => Vw.put_end (w := w) (wm := wo) (w1 := w2) (v' := v') (o := .cells #[.int .i64 x] 3) hbel hown hil hx hown' hgrow)
          have HI2' := Lib.hid hi2
          clear hc hc2 hi2 hne
          generalize (AdjV.steps l)[k] = s at hck2 q1 q2 q3 q4
          generalize l[k] = d at hck q2 hd1
          generalize (AdjV.idx l p)[k] = x at q2 HEND
          rw [Int.tmod_eq_emod_of_nonneg q3] at q2
          have hs0 : s ≠ 0 := by omega
          have hd0 : d ≠ 0 := by omega
          have hrm : (p.tdiv s).tmod d = p.tdiv s % d := Int.tmod_eq_emod_of_nonneg q3
          have hr1 : 0 ≤ p.tdiv s % d := Int.emod_nonneg _ hd0
          have hr3 : p.tdiv s % d ≤ p.tdiv s := by
            have e1 := Int.emod_add_mul_ediv (p.tdiv s) d
            have e2 := Int.mul_nonneg (show 0 ≤ d by omega) (Int.ediv_nonneg q3 (show 0 ≤ d by omega))
            omega
          have hqw : IntKind.i64.wrap (p.tdiv s) = p.tdiv s := IntWalk.i64_in _ (by omega)
          have hrw : IntKind.i64.wrap (p.tdiv s % d) = p.tdiv s % d := IntWalk.i64_in _ (by omega)
          have HX := Lib.hid q2
          clear q2
          go_wp2_with fail
          go_region_held3 (fun w' => w'.cell? ⟨b, off + k, none⟩ = some (.int .i64 d) ∧ w'.cell? ⟨b2, off2 + k, none⟩ = some (.int .i64 s))
            (first
              | go_keep
              | (go_split_ands
                 refine ⟨?_, ?_⟩
                 · (rw [hgrow.cell_far _ (by simp; omega) (by intro h; have := (hown.lt b h.symm).1; omega)]; assumption)
                 · (rw [hgrow.cell_far _ (by simp; omega) (Ne.symm hnb)]; assumption)))
            ((refine step_append_lies _ (by rfl) _ _ _ (by rfl) w.heap.size 3 i0 _ 1 8 Try.underlying22 hi hz0 hz1 hz2 rfl (by omega) (.slice A3 k c3) k (ints ((AdjV.idx l p).take k)) (by rfl) ((hown.alloc _).drew) ⟨wo.heap.size, 0, none⟩ 1 1 [.int .i64 (p.tdiv s % d)] (by rfl) (by rfl) (World.news_of_block (cs := #[.int .i64 (p.tdiv s % d)]) (t := 3) (fr := (0, 0)) (heap_alloc_new wo _)) (Adj.one_one _ _) (by omega) (by unfold maxLen; omega) (by omega) (by simp; omega) (wo.heap.size + 1) (by simp) ?_; intro gg capg w3 hown1 hgrow hat hltg))
          have hgrow' : (wo.alloc (.cells #[.int .i64 (p.tdiv s % d)] 3)).grownBy w3 (Value.slice A3 k c3).ownBlock := ⟨hgrow.os, hgrow.tape, hgrow.output, hgrow.size, hgrow.block⟩
          have H2 := Lib.hid (HEND.out _ _ _ HX.out hown1 hgrow')
          have HI3 := Lib.hid (show Vw.IntsAt w3 w1.heap.size (some ⟨b2, off2, none⟩) (AdjV.steps l) from fun _ => ⟨b2, off2, rfl, by omega, fun i hi => by
            obtain ⟨b3, off3, hA3, _, hc3⟩ := HI2'.out (by omega)
            injection hA3 with hA3
            injection hA3 with e1 e2
            subst e1 e2
            exact (hgrow'.cell_far (⟨b2, off2 + i, none⟩ : Addr) (by simp; omega) (Ne.symm hnb)).trans ((((Below.refl wo.heap.size wo).alloc (Nat.le_refl _) (.cells #[.int .i64 (p.tdiv s % d)] 3)).cell (p := ⟨b2, off2 + i, none⟩) (by simp; omega)).trans (hc3 i hi))⟩)
          clear hown1
          go_wp2
          exact ⟨⟨k + 1, some ⟨gg, 0, none⟩, capg, by omega, by go_num, rfl, H2.out.1, H2.out.2, HI3.out, by have := hgrow.size; simp at this; omega, fun b off hA hn hv => by
            injection hA with hA
            injection hA with e1 e2
            subst e1
            simp [Value.ownBlock] at hv
            rcases hat with hat | hat
            · exact hnb (by rw [hat, hv])
            · omega⟩, by simp [intOf]; omega⟩
        · obtain rfl : k = l.length := by omega
          go_wp2_with fail
          go_ret2
          have hlen : (AdjV.idx l p).length = l.length := AdjV.idx_length l p
          rw [List.take_of_length_le (by omega)] at hown
          refine ⟨A3, c3, ?_, hbel, ?_⟩
          · rw [HI.out]
            show _ = Ending.returned (.tuple #[.slice A3 (AdjV.idx l p).length c3, .int .i64 0])
            rw [hlen]
            rfl
          · rw [HI.out]
            show World.ownsRow _ _ _ _ (.slice A3 (AdjV.idx l p).length c3) (AdjV.idx l p).length _
            rw [hlen]
            exact hown
  · have hI : AdjV.index l p = ([], (AdjV.size l).2) := if_pos h0
    have HI := Lib.hid hI
    have hq : ((AdjV.size l).2 != 0) = true := by simpa using h0
    clear hm hI
    go_enter Try.func16, Try.ntmps16
    go_wp2_with fail
    refine HSZ.out.mono ?_
    rintro e w1 ⟨rfl, rfl⟩
    unfold Vw.sizeR
    go_wp2_with fail
    go_ret2
    exact ⟨none, 0, by rw [HI.out]; rfl, Below.refl _ _, by rw [HI.out]; exact World.ownsRow_nil _ _ _ _⟩

end Go.Proofs.Ytkbmnefjnfihbaa
