/-
  The walk of the reference's Races. Conditions: the code can be read.
-/
import Derived.Test.YtlnfmipcbhhkhaaCoreL
import Derived.Test.YtlnfmipcbhhkhaaCoreM
import Derived.Test.YtlnfmipcbhhkhaaCoreN
namespace Go.Proofs.Ytlnfmipcbhhkhaa
set_option linter.unusedVariables false
open Go.RowKit Adj

namespace Cr
/-- What lies while the reference's Races works: the code, the answer's place, two lists that grow. -/
def Gw (w : World) (val : Array Value) (u v : Value) (la lb : List Int) (wr : World) : Prop :=
  Below w.heap.size w wr ∧ Blk wr w.heap.size 24 val ∧ Blk wr (w.heap.size + 1) 26 #[.bool false, .int .i64 0, .int .i64 0] ∧
    wr.ownsRow (w.heap.size + 1 + 1) 3 1 u la.length (Adj.ints la) ∧ wr.ownsRow (w.heap.size + 1 + 1) 3 1 v lb.length (Adj.ints lb) ∧ ∀ g, u.ownBlock = some g → v.ownBlock ≠ some g
section
variable {w wr wr' : World} {val : Array Value} {u v : Value} {la lb : List Int}
theorem Gw.below (k : Gw w val u v la lb wr) (hb : Below wr.heap.size wr wr') : Gw w val u v la lb wr' :=
  ⟨k.1.trans (hb.mono k.1.size), k.2.1.below hb k.2.1.lt, k.2.2.1.below hb k.2.2.1.lt, own_keep k.2.2.2.1 (fun g hg => hb.block g (k.2.2.2.1.lt g hg).2), own_keep k.2.2.2.2.1 (fun g hg => hb.block g (k.2.2.2.2.1.lt g hg).2), k.2.2.2.2.2⟩
theorem Gw.alloc (k : Gw w val u v la lb wr) (o : Obj) : Gw w val u v la lb (wr.alloc o) := k.below ((Below.refl _ _).alloc (Nat.le_refl _) o)
theorem Gw.drew (k : Gw w val u v la lb wr) : Gw w val u v la lb wr.drew := k.below (Below.refl _ _).drew
theorem Gw.drewN (k : Gw w val u v la lb wr) (n : Nat) : Gw w val u v la lb (wr.drewN n) := k.below (below_drewN (Below.refl _ _) n)
theorem Gw.swap (k : Gw w val u v la lb wr) : Gw w val v u lb la wr := ⟨k.1, k.2.1, k.2.2.1, k.2.2.2.2.1, k.2.2.2.1, fun g h1 h2 => k.2.2.2.2.2 g h2 h1⟩
/-- One number more in the first. -/
theorem Gw.push (k : Gw w val u v la lb wr) {u' : Value} {x : Int} {n : Nat} (ho : wr'.ownsRow (w.heap.size + 1 + 1) 3 1 u' n (Adj.ints la ++ [.int .i64 x])) (hn : n = la.length + 1) (hg : wr.grownBy wr' u.ownBlock) (hnew : u'.ownBlock = u.ownBlock ∨ u'.ownBlock = some wr.heap.size) :
    Gw w val u' v (la ++ [x]) lb wr' := by
  obtain ⟨h1, h2, h3, h4, h5, h6⟩ := k
  subst hn
  have ne : ∀ g, g < w.heap.size + 1 + 1 → some g ≠ u.ownBlock := fun g hg e => by have := (h4.lt g e.symm).1; omega
  refine ⟨h1.grown hg h1.size (fun q hq => by have := (h4.lt q hq).1; omega), h2.grown hg (ne _ (by omega)), h3.grown hg (ne _ (by omega)), ?_, own_keep h5 (fun g hgv => hg.block g (h5.lt g hgv).2 (fun e => h6 g e.symm hgv)), fun g hgu hgv => ?_⟩
  · rw [List.length_append, ints_snoc2]; exact ho
  · rcases hnew with e | e
    · exact h6 g (e.symm.trans hgu) hgv
    · rw [hgu] at e; have := (h5.lt g hgv).2; injection e with e; omega
theorem Gw.start (hb : Below w.heap.size w wr) (h1 : Blk wr w.heap.size 24 val) (h2 : Blk wr (w.heap.size + 1) 26 #[.bool false, .int .i64 0, .int .i64 0]) : Gw w val (.slice none 0 0) (.slice none 0 0) [] [] wr :=
  ⟨hb, h1, h2, ⟨rfl, .inl ⟨rfl, rfl⟩⟩, ⟨rfl, .inl ⟨rfl, rfl⟩⟩, fun g h => by cases h⟩
end
theorem ahead_next {own other : List AdjC.I} {k : Nat} (h : k < own.length) : (AdjC.ahead own other).take (k + 1) = (AdjC.ahead own other).take k ++ [AdjC.nowK own other (k + 1)] := by
  have hl : k < (AdjC.ahead own other).length := by rw [AdjC.ahead_length]; exact h
  rw [List.take_succ_eq_append_getElem hl]
  have := AdjC.ahead_at (other := other) h
  rw [List.getElem?_eq_getElem hl] at this
  rw [Option.some.inj this]
end Cr

set_option maxRecDepth 100000 in
set_option maxHeartbeats 8000000 in
theorem refRaces_any (val : Value) (c : AdjC.Code) (w : World) (h : Cr.CodeAt w w.heap.size val c) : Calls Try.prog 7 #[val] w (Cr.RacesOut c w) := by
  have HWR := Lib.hid (fun W (hb : Below w.heap.size w W) => refWrong_any val c W ((h.below hb).up hb.size))
  obtain ⟨pad, mem, mo, mk⟩ := c
  obtain ⟨A, n, A', n', rfl, hA, hA', m1, m2, m1', m2'⟩ := h
  simp only at *
  have HA := Lib.hid hA
  have HA' := Lib.hid hA'
  have hb0 : Below w.heap.size w ((w.alloc (.cells #[.int .i64 pad, .int .i64 mem, .slice A mo.length n, .slice A' mk.length n'] 24)).alloc (.cells #[.bool false, .int .i64 0, .int .i64 0] 26)) := ((Below.refl _ _).alloc (Nat.le_refl _) _).alloc (by simp) _
  have hc0 : Blk ((w.alloc (.cells #[.int .i64 pad, .int .i64 mem, .slice A mo.length n, .slice A' mk.length n'] 24)).alloc (.cells #[.bool false, .int .i64 0, .int .i64 0] 26)) w.heap.size 24 #[.int .i64 pad, .int .i64 mem, .slice A mo.length n, .slice A' mk.length n'] := (Blk.new _ _ _).alloc _
  have hr0 : Blk ((w.alloc (.cells #[.int .i64 pad, .int .i64 mem, .slice A mo.length n, .slice A' mk.length n'] 24)).alloc (.cells #[.bool false, .int .i64 0, .int .i64 0] 26)) (w.heap.size + 1) 26 #[.bool false, .int .i64 0, .int .i64 0] := by
    have h := Blk.new (w.alloc (.cells #[.int .i64 pad, .int .i64 mem, .slice A mo.length n, .slice A' mk.length n'] 24)) 26 #[.bool false, .int .i64 0, .int .i64 0]
    rwa [World.size_alloc] at h
  have HB0 := Lib.hid hb0
  have HC0 := Lib.hid hc0
  have HR0 := Lib.hid hr0
  clear hA hA' hb0 hc0 hr0
  go_enter Try.func7, Try.ntmps7
  go_wp2_with fail
  ((with_reducible refine (HWR.out _ HB0.out).mono ?_); rintro e w1 ⟨rfl, hb⟩)
  have HB1 := Lib.hid (HB0.out.trans (hb.mono HB0.out.size))
  have HC1 := Lib.hid (HC0.out.below hb HC0.out.lt)
  have HR1 := Lib.hid (HR0.out.below hb HR0.out.lt)
  clear hb HB0 HC0 HR0 HWR
  by_cases hz : AdjC.wrong ⟨pad, mem, mo, mk⟩ = 0
  · have Z := AdjC.wrong_zero hz
    have HZ := Lib.hid Z
    obtain ⟨_, ⟨z1, z2⟩, _⟩ := Z
    simp only at z1 z2
    rw [hz]
    have HZ0 := Lib.hid hz
    clear hz
    have HW := Lib.hid (show Cr.Gw w #[.int .i64 pad, .int .i64 mem, .slice A mo.length n, .slice A' mk.length n'] (.slice none 0 0) (.slice none 0 0) ((AdjC.ahead mo mk).take 0) [] w1 from Cr.Gw.start HB1.out HC1.out HR1.out)
    have c2 := HC1.out.cell 2
    have hlw := HC1.out.lt
    go_wp2_with fail
    clear c2 hlw HB1 HC1 HR1
    go_loopw [5, 22] (fun u i wr => ∃ k : Nat, k ≤ mo.length ∧ i = .int .i64 k ∧ ∃ u' : Value, u' = u ∧ Cr.Gw w #[.int .i64 pad, .int .i64 mem, .slice A mo.length n, .slice A' mk.length n'] u' (.slice none 0 0) ((AdjC.ahead mo mk).take k) [] wr) (fun _ i _ => mo.length - (intOf i).toNat)
    case atStart => exact ⟨0, by omega, rfl, _, rfl, HW.out⟩
    case round =>
      obtain ⟨k, hk, rfl, u', rfl, hgw⟩ := hrel
      have HK := Lib.hid hgw
      clear hgw HW
      by_cases hlt : k < mo.length
      · have HBF := Lib.hid (fun W (hb : Below w.heap.size w W) => Before_any A A' n n' mo mk k w.heap.size W hb.size hlt m1 m2 z1 m1' m2' z2 (HA.out.below hb) (HA'.out.below hb))
        have c2 := HK.out.2.1.cell 2
        have c3 := HK.out.2.1.cell 3
        have hlw := HK.out.2.1.lt
        have hkb := HK.out.1
        have HAN := Lib.hid (Cr.ahead_next (own := mo) (other := mk) hlt)
        have hnr := AdjC.nowK_range mo mk (k + 1)
        obtain ⟨p, hp⟩ : ∃ p, AdjC.nowK mo mk (k + 1) = p := ⟨_, rfl⟩
        rw [hp] at HAN HBF
        clear hp
        go_wp2_with fail
        ((with_reducible refine (HBF.out _ hkb).mono ?_); rintro e w4 ⟨rfl, hb⟩)
        have HK4 := Lib.hid (HK.out.below hb)
        clear hb c2 c3 HBF hkb
        have hll : ((AdjC.ahead mo mk).take k).length = k := by rw [List.length_take, AdjC.ahead_length]; omega
        have HK5 := Lib.hid (HK4.out.alloc (.cells #[.int .i64 p] 3))
        have HN5 := Lib.hid (Blk.new w4 3 #[.int .i64 p])
        have HLL := Lib.hid hll
        have hkk2 : k ≤ 262144 := by omega
        have hz5 : w.heap.size + 1 + 1 ≤ w4.heap.size := by have := HK4.out.2.2.1.lt; omega
        obtain ⟨i0, hi, hz0, hz1, hzb⟩ := info_parts Try.infoNum
        have HU := Lib.hid (show (w4.alloc (.cells #[.int .i64 p] 3)).ownsRow (w.heap.size + 1 + 1) 3 1 u' k (Adj.ints ((AdjC.ahead mo mk).take k)) from by have h := HK5.out.2.2.2.1; rwa [hll] at h)
        clear hll
        go_wp2_with (at_builtin; refine wpList_append_any _ rfl _ _ 32 rfl _ 3 i0 (.int .i64 0) 1 8 Try.underlying32 hi hz0 hz1 hzb rfl (by decide) _ _ _ rfl HU.out _ _ 1 1 [.int .i64 p] rfl (Cr.reads_one HN5.out) (Adj.one_one _ _) (by unfold maxLen; omega) (by omega) (by simp; omega) ?_)
        intro v' w7 hown7 hgrow hnew
        have HK7 := Lib.hid (HK5.out.push hown7 (by rw [HLL.out]) hgrow (by rw [World.size_alloc]; exact hnew))
        rw [← HAN.out] at HK7
        clear hown7 hgrow hnew hi hz0 hz1 hzb HU HK5 HN5 HK4 HK
        go_wp2_with fail
        go_roundw
        case rel => exact ⟨k + 1, by omega, by go_num, v', rfl, HK7.out⟩
        case measure => simp [intOf]; omega
      · have hkk : k = mo.length := by omega
        subst hkk
        have HW := Lib.hid (show Cr.Gw w #[.int .i64 pad, .int .i64 mem, .slice A mo.length n, .slice A' mk.length n'] u' (.slice none 0 0) (AdjC.ahead mo mk) ((AdjC.ahead mk mo).take 0) wr from by have h := HK.out; rwa [List.take_of_length_le (by rw [AdjC.ahead_length]; exact Nat.le_refl _)] at h)
        have c3 := HK.out.2.1.cell 3
        have hlw := HK.out.2.1.lt
        go_wp2_with fail
        clear c3 hlw HK
        obtain ⟨wo, hwo⟩ : ∃ wo : World, wo = wr := ⟨_, rfl⟩
        rw [← hwo] at HW ⊢
        clear hwo
        obtain ⟨ua, hua⟩ : ∃ ua, ua = u' := ⟨_, rfl⟩
        rw [← hua] at HW ⊢
        clear hua
        go_loopw [6, 38] (fun u i wr => ∃ k : Nat, k ≤ mk.length ∧ i = .int .i64 k ∧ ∃ u' : Value, u' = u ∧ Cr.Gw w #[.int .i64 pad, .int .i64 mem, .slice A mo.length n, .slice A' mk.length n'] ua u' (AdjC.ahead mo mk) ((AdjC.ahead mk mo).take k) wr) (fun _ i _ => mk.length - (intOf i).toNat)
        case atStart => exact ⟨0, by omega, rfl, _, rfl, HW.out⟩
        case round =>
          obtain ⟨k, hk, rfl, u', rfl, hgw⟩ := hrel
          have HK := Lib.hid hgw
          clear hgw HW
          by_cases hlt : k < mk.length
          · have HBF := Lib.hid (fun W (hb : Below w.heap.size w W) => Before_any A' A n' n mk mo k w.heap.size W hb.size hlt m1' m2' z2 m1 m2 z1 (HA'.out.below hb) (HA.out.below hb))
            have c2 := HK.out.2.1.cell 2
            have c3 := HK.out.2.1.cell 3
            have hlw := HK.out.2.1.lt
            have hkb := HK.out.1
            have HAN := Lib.hid (Cr.ahead_next (own := mk) (other := mo) hlt)
            have hnr := AdjC.nowK_range mk mo (k + 1)
            obtain ⟨p, hp⟩ : ∃ p, AdjC.nowK mk mo (k + 1) = p := ⟨_, rfl⟩
            rw [hp] at HAN HBF
            clear hp
            go_wp2_with fail
            ((with_reducible refine (HBF.out _ hkb).mono ?_); rintro e w4 ⟨rfl, hb⟩)
            have HK4 := Lib.hid (HK.out.below hb)
            clear hb c2 c3 HBF hkb
            have hll : ((AdjC.ahead mk mo).take k).length = k := by rw [List.length_take, AdjC.ahead_length]; omega
            have HK5 := Lib.hid (HK4.out.alloc (.cells #[.int .i64 p] 3))
            have HN5 := Lib.hid (Blk.new w4 3 #[.int .i64 p])
            have HLL := Lib.hid hll
            have hkk2 : k ≤ 262144 := by omega
            have hz5 : w.heap.size + 1 + 1 ≤ w4.heap.size := by have := HK4.out.2.2.1.lt; omega
            obtain ⟨i0, hi, hz0, hz1, hzb⟩ := info_parts Try.infoNum
            have HU := Lib.hid (show (w4.alloc (.cells #[.int .i64 p] 3)).ownsRow (w.heap.size + 1 + 1) 3 1 u' k (Adj.ints ((AdjC.ahead mk mo).take k)) from by have h := HK5.out.2.2.2.2.1; rwa [hll] at h)
            clear hll
            go_wp2_with (at_builtin; refine wpList_append_any _ rfl _ _ 32 rfl _ 3 i0 (.int .i64 0) 1 8 Try.underlying32 hi hz0 hz1 hzb rfl (by decide) _ _ _ rfl HU.out _ _ 1 1 [.int .i64 p] rfl (Cr.reads_one HN5.out) (Adj.one_one _ _) (by unfold maxLen; omega) (by omega) (by simp; omega) ?_)
            intro v' w7 hown7 hgrow hnew
            have HK7 := Lib.hid (HK5.out.swap.push hown7 (by rw [HLL.out]) hgrow (by rw [World.size_alloc]; exact hnew))
            rw [← HAN.out] at HK7
            clear hown7 hgrow hnew hi hz0 hz1 hzb HU HK5 HN5 HK4 HK
            go_wp2_with fail
            go_roundw
            case rel => exact ⟨k + 1, by omega, by go_num, v', rfl, HK7.out.swap⟩
            case measure => simp [intOf]; omega
          · have hkk : k = mk.length := by omega
            subst hkk
            have HW := Lib.hid (show Cr.Gw w #[.int .i64 pad, .int .i64 mem, .slice A mo.length n, .slice A' mk.length n'] ua u' (AdjC.ahead mo mk) (AdjC.ahead mk mo) wr from by have h := HK.out; rwa [List.take_of_length_le (by rw [AdjC.ahead_length]; exact Nat.le_refl _)] at h)
            have c2 := HK.out.2.1.cell 2
            have hlw := HK.out.2.1.lt
            go_wp2_with fail
            clear c2 hlw HK
            obtain ⟨wp, hwp⟩ : ∃ wp : World, wp = wr := ⟨_, rfl⟩
            rw [← hwp] at HW ⊢
            clear hwp
            obtain ⟨ub, hub⟩ : ∃ ub, ub = u' := ⟨_, rfl⟩
            rw [← hub] at HW ⊢
            clear hub
            go_loopw [54] (fun i wr => ∃ k : Nat, k ≤ mo.length ∧ i = .int .i64 k ∧ Cr.Gw w #[.int .i64 pad, .int .i64 mem, .slice A mo.length n, .slice A' mk.length n'] ua ub (AdjC.ahead mo mk) (AdjC.ahead mk mo) wr ∧ ∀ q, q < k → AdjC.raceOf ⟨pad, mem, mo, mk⟩ q = none) (fun i _ => mo.length - (intOf i).toNat)
            case atStart => exact ⟨0, by omega, rfl, HW.out, fun q hq => by omega⟩
            case round =>
              obtain ⟨k, hk, rfl, hgw, hno⟩ := hrel
              have HK := Lib.hid hgw
              have HNO := Lib.hid hno
              clear hgw hno HW
              by_cases hlt : k < mo.length
              · obtain ⟨b, off, rfl, hbl⟩ := HA.out.spot (by rw [AdjC.flat_length]; omega)
                obtain ⟨x, hx⟩ : ∃ x, mo[k] = x := ⟨_, rfl⟩
                obtain ⟨x0, x1, x2, x3, x4, x5⟩ := Cr.six_cells (HA.out.below HK.out.1) hlt hx
                have HRX := Lib.hid (HZ.out.2.2.1 x (by rw [← hx]; exact List.getElem_mem hlt))
                have HX4 := Lib.hid (Blk.new wr 42 #[.int .i64 x.d, .int .i64 x.a, .int .i64 x.b, .int .i64 x.c, .int .i64 x.n, .int .i64 x.v])
                have HK4 := Lib.hid (HK.out.alloc (.cells #[.int .i64 x.d, .int .i64 x.a, .int .i64 x.b, .int .i64 x.c, .int .i64 x.n, .int .i64 x.v] 42))
                have HX := Lib.hid hx
                obtain ⟨g1, cap1, rfl, _, _⟩ := HK.out.2.2.2.1.form (by rw [AdjC.ahead_length]; omega)
                rw [AdjC.ahead_length] at HK4 ⊢
                have c3 := HK4.out.2.1.cell 3
                have hlw := HK.out.2.1.lt
                clear hx HK
                go_wp2_with fail
                clear x0 x1 x2 x3 x4 x5 c3
                generalize wr.alloc (.cells #[.int .i64 x.d, .int .i64 x.a, .int .i64 x.b, .int .i64 x.c, .int .i64 x.n, .int .i64 x.v] 42) = W4 at HX4 HK4 ⊢
                obtain ⟨xb, hxb⟩ : ∃ xb, wr.heap.size = xb := ⟨_, rfl⟩
                have hxw : w.heap.size < xb := by omega
                rw [hxb] at HX4 ⊢
                clear hxb hlw
                go_loopw [62] (fun jv wr => ∃ j : Nat, j ≤ mk.length ∧ jv = .int .i64 j ∧ Cr.Gw w #[.int .i64 pad, .int .i64 mem, .slice (some ⟨b, off, none⟩) mo.length n, .slice A' mk.length n'] (.slice (some ⟨g1, 0, none⟩) mo.length cap1) ub (AdjC.ahead mo mk) (AdjC.ahead mk mo) wr ∧ Blk wr xb 42 #[.int .i64 x.d, .int .i64 x.a, .int .i64 x.b, .int .i64 x.c, .int .i64 x.n, .int .i64 x.v] ∧ ∀ q, q < j → AdjC.raceB ⟨pad, mem, mo, mk⟩ k q = false) (fun jv _ => mk.length - (intOf jv).toNat)
                case atStart => exact ⟨0, by omega, rfl, HK4.out, HX4.out, fun q hq => by omega⟩
                case round =>
                  obtain ⟨j, hj, rfl, hgw, hbx, hnq⟩ := hrel
                  have HL := Lib.hid hgw
                  have HBX := Lib.hid hbx
                  have HNQ := Lib.hid hnq
                  clear hgw hbx hnq HK4 HX4
                  by_cases hjl : j < mk.length
                  · obtain ⟨b', off', rfl, hbl'⟩ := HA'.out.spot (by rw [AdjC.flat_length]; omega)
                    obtain ⟨y, hy⟩ : ∃ y, mk[j] = y := ⟨_, rfl⟩
                    obtain ⟨y0, y1, y2, y3, y4, y5⟩ := Cr.six_cells (HA'.out.below HL.out.1) hjl hy
                    have HRY := Lib.hid (HZ.out.2.2.2.1 y (by rw [← hy]; exact List.getElem_mem hjl))
                    have HRB := Lib.hid (AdjC.raceB_at (c := ⟨pad, mem, mo, mk⟩) hlt hjl HX.out hy)
                    have HCL := Lib.hid (fun W => refClash_any x y W (fun s hs => AdjC.right_spans HRX.out s hs) (fun s hs => AdjC.right_spans HRY.out s hs) (AdjC.right_kind HRX.out) (AdjC.right_kind HRY.out))
                    simp only [Cr.insV] at HCL
                    obtain ⟨g2, cap2, rfl, _, _⟩ := HL.out.2.2.2.2.1.form (by rw [AdjC.ahead_length]; omega)
                    have HY4 := Lib.hid (Blk.new wr 42 #[.int .i64 y.d, .int .i64 y.a, .int .i64 y.b, .int .i64 y.c, .int .i64 y.n, .int .i64 y.v])
                    have HL4 := Lib.hid (HL.out.alloc (.cells #[.int .i64 y.d, .int .i64 y.a, .int .i64 y.b, .int .i64 y.c, .int .i64 y.n, .int .i64 y.v] 42))
                    have HX4 := Lib.hid (HBX.out.alloc (.cells #[.int .i64 y.d, .int .i64 y.a, .int .i64 y.b, .int .i64 y.c, .int .i64 y.n, .int .i64 y.v] 42))
                    rw [AdjC.ahead_length] at HL4 ⊢
                    have hlw := HL.out.2.1.lt
                    have h1 := HL4.out.2.2.2.1
                    have h2 := HL4.out.2.2.2.2.1
                    rw [AdjC.ahead_length] at h1 h2
                    have pc := (RowAt.of_own h1).at_ (show (Adj.ints (AdjC.ahead mo mk))[k]? = some (.int .i64 (AdjC.nowK mo mk (k + 1))) by unfold Adj.ints; rw [List.getElem?_map, AdjC.ahead_at hlt]; rfl)
                    have rc := (RowAt.of_own h2).at_ (show (Adj.ints (AdjC.ahead mk mo))[j]? = some (.int .i64 (AdjC.nowK mk mo (j + 1))) by unfold Adj.ints; rw [List.getElem?_map, AdjC.ahead_at hjl]; rfl)
                    rw [Nat.zero_add] at pc rc
                    obtain ⟨p, hp⟩ : ∃ p, AdjC.nowK mo mk (k + 1) = p := ⟨_, rfl⟩
                    obtain ⟨r, hr⟩ : ∃ r, AdjC.nowK mk mo (j + 1) = r := ⟨_, rfl⟩
                    rw [hp] at pc
                    rw [hr] at rc
                    have HP := Lib.hid hp
                    have HR := Lib.hid hr
                    clear hp hr hy h1 h2 HL HBX
                    go_upto_region 21 with (fail)
                    clear y0 y1 y2 y3 y4 y5
                    generalize wr.alloc (.cells #[.int .i64 y.d, .int .i64 y.a, .int .i64 y.b, .int .i64 y.c, .int .i64 y.n, .int .i64 y.v] 42) = W5 at HY4 HL4 HX4 pc rc ⊢
                    obtain ⟨yb, hyb⟩ : ∃ yb, wr.heap.size = yb := ⟨_, rfl⟩
                    rw [hyb] at HY4 ⊢
                    clear hyb hlw
                    have hkI : (k : Int) < (mo.length : Int) := by omega
                    have hjI : (j : Int) < (mk.length : Int) := by omega
                    have hk0 : (0 : Int) ≤ (k : Int) := by omega
                    have hj0 : (0 : Int) ≤ (j : Int) := by omega
                    by_cases hpj : p ≤ (j : Int)
                    · by_cases hrk : r ≤ (k : Int)
                      · have x0 := HX4.out.cell 0
                        have x1 := HX4.out.cell 1
                        have x2 := HX4.out.cell 2
                        have x3 := HX4.out.cell 3
                        have x4 := HX4.out.cell 4
                        have x5 := HX4.out.cell 5
                        have y0 := HY4.out.cell 0
                        have y1 := HY4.out.cell 1
                        have y2 := HY4.out.cell 2
                        have y3 := HY4.out.cell 3
                        have y4 := HY4.out.cell 4
                        have y5 := HY4.out.cell 5
                        go_wp2_with fail
                        ((with_reducible refine (HCL.out _).mono ?_); rintro e w7 ⟨rfl, hb⟩)
                        have HL7 := Lib.hid (HL4.out.below hb)
                        have HX7 := Lib.hid (HX4.out.below hb HX4.out.lt)
                        clear hb x0 x1 x2 x3 x4 x5 y0 y1 y2 y3 y4 y5 pc rc HL4 HX4 HY4
                        by_cases hcl : AdjC.clash x y = true
                        · by_cases hj0j : AdjC.raceB ⟨pad, mem, mo, mk⟩ k j = true
                          · have HE := Lib.hid (AdjC.races_some HZ0.out (AdjC.race_some (c := ⟨pad, mem, mo, mk⟩) hlt (AdjC.raceOf_some (c := ⟨pad, mem, mo, mk⟩) hjl hj0j HNQ.out) HNO.out))
                            rw [hcl]
                            clear hcl hj0j
                            have q0 := HL7.out.2.2.1.cell 0
                            have q1 := HL7.out.2.2.1.cell 1
                            have q2 := HL7.out.2.2.1.cell 2
                            have fq0 := HL7.out.2.2.1.frozen 0
                            have fq1 := HL7.out.2.2.1.frozen 1
                            have fq2 := HL7.out.2.2.1.frozen 2
                            go_wp2_with fail
                            refine bodyPost_ret (v := .tuple #[.agg #[.bool true, .int .i64 (k : Int), .int .i64 (j : Int)], .int .i64 0]) (by simp [results, Try.results7, go_sem, q0, q1, q2]) rfl ?_
                            exact ⟨by rw [HE.out]; rfl, Cr.three HL7.out.1 (by omega) _ _ _⟩
                          · exact absurd (by
                              rw [HRB.out, hcl, show decide (AdjC.nowK mo mk (k + 1) ≤ (j : Int)) = true by rw [HP.out]; simpa using hpj, show decide (AdjC.nowK mk mo (j + 1) ≤ (k : Int)) = true by rw [HR.out]; simpa using hrk]
                              rfl) hj0j
                        · have hcl' : AdjC.clash x y = false := by simpa using hcl
                          have HF := Lib.hid (show AdjC.raceB ⟨pad, mem, mo, mk⟩ k j = false by rw [HRB.out, hcl']; simp)
                          rw [hcl']
                          clear hcl hcl'
                          have HL4 := HL7
                          have HX4 := HX7
                          go_wp2_with fail
                          go_roundw
                          case rel => exact ⟨j + 1, by omega, by go_num, HL4.out, HX4.out, fun q hq => by
                            by_cases e : q = j
                            · subst e; exact HF.out
                            · exact HNQ.out q (by omega)⟩
                          case measure => simp [intOf]; omega
                      · have hrk2 : (k : Int) < r := by omega
                        have HF := Lib.hid (show AdjC.raceB ⟨pad, mem, mo, mk⟩ k j = false from AdjC.raceB_behind (c := ⟨pad, mem, mo, mk⟩) (Nat.le_refl j) (by simp only; rw [HR.out]; exact hrk2))
                        clear hrk
                        go_wp2_with fail
                        go_roundw
                        case rel => exact ⟨j + 1, by omega, by go_num, HL4.out, HX4.out, fun q hq => by
                          by_cases e : q = j
                          · subst e; exact HF.out
                          · exact HNQ.out q (by omega)⟩
                        case measure => simp [intOf]; omega
                    · have hpj2 : (j : Int) < p := by omega
                      have HF := Lib.hid (show AdjC.raceB ⟨pad, mem, mo, mk⟩ k j = false from AdjC.raceB_before (c := ⟨pad, mem, mo, mk⟩) (by simp only; rw [HP.out]; exact hpj2))
                      clear hpj
                      go_wp2_with fail
                      go_roundw
                      case rel => exact ⟨j + 1, by omega, by go_num, HL4.out, HX4.out, fun q hq => by
                        by_cases e : q = j
                        · subst e; exact HF.out
                        · exact HNQ.out q (by omega)⟩
                      case measure => simp [intOf]; omega
                  · have hjj : j = mk.length := by omega
                    subst hjj
                    have HNR := Lib.hid (AdjC.raceOf_none (c := ⟨pad, mem, mo, mk⟩) (i := k) (fun q hq => HNQ.out q hq))
                    go_wp2_with fail
                    go_roundw
                    case rel => exact ⟨k + 1, by omega, by go_num, by first | exact HL.out | (have h := HL.out; rwa [AdjC.ahead_length]), fun q hq => by
                      by_cases e : q = k
                      · subst e; exact HNR.out
                      · exact HNO.out q (by omega)⟩
                    case measure => simp [intOf]; omega
              · have hkk : k = mo.length := by omega
                subst hkk
                have HE := Lib.hid (AdjC.races_none HZ0.out (AdjC.race_none (c := ⟨pad, mem, mo, mk⟩) (fun q hq => HNO.out q hq)))
                have q0 := HK.out.2.2.1.cell 0
                have q1 := HK.out.2.2.1.cell 1
                have q2 := HK.out.2.2.1.cell 2
                have fq0 := HK.out.2.2.1.frozen 0
                have fq1 := HK.out.2.2.1.frozen 1
                have fq2 := HK.out.2.2.1.frozen 2
                go_wp2_with fail
                refine bodyPost_ret (v := .tuple #[.agg #[.bool false, .int .i64 0, .int .i64 0], .int .i64 0]) (by simp [results, Try.results7, go_sem, q0, q1, q2]) rfl ?_
                exact ⟨by rw [HE.out]; rfl, Cr.three HK.out.1 (by omega) _ _ _⟩
  · have HE := Lib.hid (AdjC.races_wrong hz)
    have hq : (AdjC.wrong ⟨pad, mem, mo, mk⟩ != 0) = true := by simpa using hz
    clear hz
    have q0 := HR1.out.cell 0
    have q1 := HR1.out.cell 1
    have q2 := HR1.out.cell 2
    have fq0 := HR1.out.frozen 0
    have fq1 := HR1.out.frozen 1
    have fq2 := HR1.out.frozen 2
    go_wp2_with fail
    refine bodyPost_ret (v := .tuple #[.agg #[.bool false, .int .i64 0, .int .i64 0], .int .i64 (AdjC.wrong ⟨pad, mem, mo, mk⟩)]) (by simp [results, Try.results7, go_sem, q0, q1, q2]) rfl ?_
    exact ⟨by rw [HE.out]; rfl, Cr.three HB1.out (by omega) _ _ _⟩
end Go.Proofs.Ytlnfmipcbhhkhaa
