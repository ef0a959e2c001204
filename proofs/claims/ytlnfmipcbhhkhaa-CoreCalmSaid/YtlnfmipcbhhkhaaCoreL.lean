/-
  The walk of core.Races. Conditions: the code can be read.
-/
import Derived.Test.YtlnfmipcbhhkhaaCoreK
import Derived.StillTailTactics
namespace Go.Proofs.Ytlnfmipcbhhkhaa
set_option linter.unusedVariables false
open Go.RowKit Adj

namespace Cr
def raceV (r : Bool × Int × Int) : Value := .agg #[.bool r.1, .int .i64 r.2.1, .int .i64 r.2.2]
def RacesOut (c : AdjC.Code) (w : World) (e : Ending) (w' : World) : Prop := e = .returned (.tuple #[raceV (AdjC.races c).1, .int .i64 (AdjC.races c).2]) ∧ Below w.heap.size w w'
theorem three {N b : Nat} {w w1 : World} (h : Below N w w1) (hb : N ≤ b) (x y z : Value) : Below N w (((w1.setCell ⟨b, 0, none⟩ x).setCell ⟨b, 1, none⟩ y).setCell ⟨b, 2, none⟩ z) :=
  ((h.setCell (p := ⟨b, 0, none⟩) hb x).setCell (p := ⟨b, 1, none⟩) hb y).setCell (p := ⟨b, 2, none⟩) hb z
/-- What lies while Races looks: the code, the answer's place, both lists of what is done for certain. -/
def Rw (w : World) (val : Array Value) (g h : Nat) (la lb : List Int) (wr : World) : Prop :=
  Below w.heap.size w wr ∧ Blk wr w.heap.size 24 val ∧ Blk wr (w.heap.size + 1) 26 #[.bool false, .int .i64 0, .int .i64 0] ∧ (IntsAt wr wr.heap.size (some ⟨g, 0, none⟩) la ∧ IntsAt wr wr.heap.size (some ⟨h, 0, none⟩) lb)
section
variable {w wr wr' : World} {val : Array Value} {g h : Nat} {la lb : List Int}
theorem Rw.below (k : Rw w val g h la lb wr) (hb : Below wr.heap.size wr wr') : Rw w val g h la lb wr' :=
  ⟨k.1.trans (hb.mono k.1.size), k.2.1.below hb k.2.1.lt, k.2.2.1.below hb k.2.2.1.lt, ((k.2.2.2.1.below hb).up hb.size), (k.2.2.2.2.below hb).up hb.size⟩
theorem Rw.alloc (k : Rw w val g h la lb wr) (o : Obj) : Rw w val g h la lb (wr.alloc o) := k.below ((Below.refl _ _).alloc (Nat.le_refl _) o)
theorem Rw.drew (k : Rw w val g h la lb wr) : Rw w val g h la lb wr.drew := k.below (Below.refl _ _).drew
end
end Cr

set_option maxRecDepth 100000 in
set_option maxHeartbeats 8000000 in
theorem Races_any (val : Value) (c : AdjC.Code) (w : World) (h : Cr.CodeAt w w.heap.size val c) : Calls Try.prog 6 #[val] w (Cr.RacesOut c w) := by
  have HWR := Lib.hid (fun W (hb : Below w.heap.size w W) => Wrong_any val c W ((h.below hb).up hb.size))
  obtain ⟨pad, mem, mo, mk⟩ := c
  obtain ⟨A, n, A', n', rfl, hA, hA', m1, m2, m1', m2'⟩ := h
  simp only at *
  have HA := Lib.hid hA
  have HA' := Lib.hid hA'
  have hb0 : Below w.heap.size w ((w.alloc (.cells #[.int .i64 pad, .int .i64 mem, .slice A mo.length n, .slice A' mk.length n'] 24)).alloc (.cells #[.bool false, .int .i64 0, .int .i64 0] 26)) := ((Below.refl _ _).alloc (Nat.le_refl _) _).alloc (by simp) _
  have hc0 : Blk ((w.alloc (.cells #[.int .i64 pad, .int .i64 mem, .slice A mo.length n, .slice A' mk.length n'] 24)).alloc (.cells #[.bool false, .int .i64 0, .int .i64 0] 26)) w.heap.size 24 #[.int .i64 pad, .int .i64 mem, .slice A mo.length n, .slice A' mk.length n'] := (Blk.new _ _ _).alloc _
  have hr0 : Blk ((w.alloc (.cells #[.int .i64 pad, .int .i64 mem, .slice A mo.length n, .slice A' mk.length n'] 24)).alloc (.cells #[.bool false, .int .i64 0, .int .i64 0] 26)) (w.heap.size + 1) 26 #[.bool false, .int .i64 0, .int .i64 0] := by
    have h := Blk.new (w.alloc (.cells #[.int .i64 pad, .int .i64 mem, .slice A mo.length n, .slice A' mk.length n'] 24)) 26 #[.bool false, .int .i64 0, .int .i64 0]
    rwa [World.size_alloc] at h
  have HB0 := Lib.hid hb0
  have HC0 := Lib.hid hc0
  have HR0 := Lib.hid hr0
  clear hA hA' hb0 hc0 hr0
  go_enter Try.func6, Try.ntmps6
  go_wp2_with fail
  ((with_reducible refine (HWR.out _ HB0.out).mono ?_); rintro e w1 ⟨rfl, hb⟩)
  have HB1 := Lib.hid (HB0.out.trans (hb.mono HB0.out.size))
  have HC1 := Lib.hid (HC0.out.below hb HC0.out.lt)
  have HR1 := Lib.hid (HR0.out.below hb HR0.out.lt)
  clear hb HB0 HC0 HR0 HWR
  by_cases hz : AdjC.wrong ⟨pad, mem, mo, mk⟩ = 0
  · have Z := AdjC.wrong_zero hz
    have HZ := Lib.hid Z
    obtain ⟨_, ⟨z1, z2⟩, _⟩ := Z
    simp only at z1 z2
    rw [hz]
    have HZ0 := Lib.hid hz
    clear hz
    have HAH := Lib.hid (fun W (hb : Below w.heap.size w W) => ahead_any A A' n n' mo mk w.heap.size W hb.size m1 m2 z1 m1' m2' z2 (HA.out.below hb) (HA'.out.below hb) (fun x hx hd => AdjC.sem_range (HZ.out.2.2.1 x hx) (.inr hd)) (fun x hx hd => AdjC.sem_range (HZ.out.2.2.2.1 x hx) (.inl hd)))
    have HAK := Lib.hid (fun W (hb : Below w.heap.size w W) => ahead_any A' A n' n mk mo w.heap.size W hb.size m1' m2' z2 m1 m2 z1 (HA'.out.below hb) (HA.out.below hb) (fun x hx hd => AdjC.sem_range (HZ.out.2.2.2.1 x hx) (.inr hd)) (fun x hx hd => AdjC.sem_range (HZ.out.2.2.1 x hx) (.inl hd)))
    have hlt := HC1.out.lt
    have hlt1 := HR1.out.lt
    go_upto_region 4 with (fail)
    go_cut [5, 6] (fun s5 s6 wx => ∃ g h : Nat, s5 = .slice (some ⟨g, 0, none⟩) mo.length mo.length ∧ s6 = .slice (some ⟨h, 0, none⟩) mk.length mk.length ∧ Cr.Rw w #[.int .i64 pad, .int .i64 mem, .slice A mo.length n, .slice A' mk.length n'] g h (AdjC.ahead mo mk) (AdjC.ahead mk mo) wx)
    case first =>
      refine wp_region_T (fun w' => w'.cell? ⟨w.heap.size, 2, none⟩ = some (.slice A mo.length n) ∧ w'.cell? ⟨w.heap.size, 3, none⟩ = some (.slice A' mk.length n')) 11 (fun _ => True) 11 12 rfl (by kernel_rfl) ⟨⟨HC1.out.cell 2, HC1.out.cell 3⟩, trivial⟩ (fun hHeld => ?_)
      simp only [List.replicate_succ, List.replicate_zero]
      refine wpT_take 0 16 (v := ?_) hHeld.1 hHeld.2 rfl rfl (by kernel_rfl) (fun _ _ _ h => h) rfl ?_ ?_
      rotate_left
      · (intro w hSw; (try dsimp only at hSw); go_simp; try with_reducible rfl)
      try simp only [Act.put, List.setIfInBounds_toArray, List.set_cons_zero, List.set_cons_succ]
      refine wpT_take 1 17 (v := ?_) hHeld.1 hHeld.2 rfl rfl (by kernel_rfl) (fun _ _ _ h => h) rfl ?_ ?_
      rotate_left
      · (intro w hSw; (try dsimp only at hSw); go_simp; try with_reducible rfl)
      try simp only [Act.put, List.setIfInBounds_toArray, List.set_cons_zero, List.set_cons_succ]
      refine wpT_take 2 18 (v := ?_) hHeld.1 hHeld.2 rfl rfl (by kernel_rfl) (fun _ _ _ h => h) rfl ?_ ?_
      rotate_left
      · (intro w hSw; (try dsimp only at hSw); go_simp; try with_reducible rfl)
      try simp only [Act.put, List.setIfInBounds_toArray, List.set_cons_zero, List.set_cons_succ]
      refine wpT_take 3 19 (v := ?_) hHeld.1 hHeld.2 rfl rfl (by kernel_rfl) (fun _ _ _ h => h) rfl ?_ ?_
      rotate_left
      · (intro w hSw; (try dsimp only at hSw); go_simp; try with_reducible rfl)
      try simp only [Act.put, List.setIfInBounds_toArray, List.set_cons_zero, List.set_cons_succ]
      refine wpT_take 5 21 (v := ?_) hHeld.1 hHeld.2 rfl rfl (by kernel_rfl) (fun _ _ _ h => h) rfl ?_ ?_
      rotate_left
      · (intro w hSw; (try dsimp only at hSw); go_simp; try with_reducible rfl)
      try simp only [Act.put, List.setIfInBounds_toArray, List.set_cons_zero, List.set_cons_succ]
      refine wpT_take 6 22 (v := ?_) hHeld.1 hHeld.2 rfl rfl (by kernel_rfl) (fun _ _ _ h => h) rfl ?_ ?_
      rotate_left
      · (intro w hSw; (try dsimp only at hSw); go_simp; try with_reducible rfl)
      try simp only [Act.put, List.setIfInBounds_toArray, List.set_cons_zero, List.set_cons_succ]
      refine wpT_take 7 23 (v := ?_) hHeld.1 hHeld.2 rfl rfl (by kernel_rfl) (fun _ _ _ h => h) rfl ?_ ?_
      rotate_left
      · (intro w hSw; (try dsimp only at hSw); go_simp; try with_reducible rfl)
      try simp only [Act.put, List.setIfInBounds_toArray, List.set_cons_zero, List.set_cons_succ]
      refine wpT_take 8 24 (v := ?_) hHeld.1 hHeld.2 rfl rfl (by kernel_rfl) (fun _ _ _ h => h) rfl ?_ ?_
      rotate_left
      · (intro w hSw; (try dsimp only at hSw); go_simp; try with_reducible rfl)
      try simp only [Act.put, List.setIfInBounds_toArray, List.set_cons_zero, List.set_cons_succ]
      have HB2 := Lib.hid HB1.out.drew
      have HC2 := Lib.hid HC1.out.drew
      have HR2 := Lib.hid HR1.out.drew
      have hl2 : w.heap.size < w1.drew.heap.size := hlt
      generalize w1.drew = W at HB2 HC2 HR2 hHeld hl2 ⊢
      refine wpT_one 4 (by kernel_rfl) (stepT_early rfl rfl (fun K hK => ?_))
      go_simp
      ((with_reducible refine (HAH.out _ HB2.out).mono ?_); rintro e w2 ⟨g, rfl, hg, hig, hb⟩)
      have HB3 := Lib.hid (HB2.out.trans (hb.mono HB2.out.size))
      have HC3 := Lib.hid (HC2.out.below hb HC2.out.lt)
      have HR3 := Lib.hid (HR2.out.below hb HR2.out.lt)
      have HG3 := Lib.hid hig
      have hl3 : w.heap.size < w2.heap.size := HC3.out.lt
      clear hig hg
      try go_simp
      refine hK.out _ _ ⟨⟨(hb.cell (p := ⟨w.heap.size, 2, none⟩) (by first | omega | (simp; omega))).trans hHeld.1.1, (hb.cell (p := ⟨w.heap.size, 3, none⟩) (by first | omega | (simp; omega))).trans hHeld.1.2⟩, trivial⟩ (fun hHeld2 => ?_)
      clear hK K hHeld
      have hHeld := hHeld2
      clear hHeld2
      try simp only [List.setIfInBounds_toArray, List.set_cons_zero, List.set_cons_succ]
      clear hb HB2 HC2 HR2 hl2
      refine wpT_one 9 (by kernel_rfl) (stepT_early rfl rfl (fun K hK => ?_))
      go_simp
      ((with_reducible refine (HAK.out _ HB3.out).mono ?_); rintro e w3 ⟨h, rfl, hh, hih, hb⟩)
      have HB4 := Lib.hid (HB3.out.trans (hb.mono HB3.out.size))
      have HC4 := Lib.hid (HC3.out.below hb HC3.out.lt)
      have HR4 := Lib.hid (HR3.out.below hb HR3.out.lt)
      have HG4 := Lib.hid ((HG3.out.below hb).up hb.size)
      have HH4 := Lib.hid hih
      clear hih hh
      try go_simp
      refine hK.out _ _ ⟨⟨(hb.cell (p := ⟨w.heap.size, 2, none⟩) (by first | omega | (simp; omega))).trans hHeld.1.1, (hb.cell (p := ⟨w.heap.size, 3, none⟩) (by first | omega | (simp; omega))).trans hHeld.1.2⟩, trivial⟩ (fun hHeld2 => ?_)
      clear hK K hHeld
      have hHeld := hHeld2
      clear hHeld2
      try simp only [List.setIfInBounds_toArray, List.set_cons_zero, List.set_cons_succ]
      clear hb HB3 HC3 HR3 HG3
      refine wpT_one 10 (by kernel_rfl) (stepT_early rfl rfl (fun K hK => ?_))
      go_simp
      refine hK.out _ _ hHeld (fun hHeld2 => ?_)
      clear hK K
      try simp only [List.setIfInBounds_toArray, List.set_cons_zero, List.set_cons_succ]
      refine wpT_tail [_] 11 [] rfl (by kernel_rfl) ?_
      go_wp2_with fail
      go_meet
      case rel => exact ⟨g, h, rfl, rfl, HB4.out, HC4.out, HR4.out, HG4.out, HH4.out⟩
    case rest =>
      obtain ⟨g, h, rfl, rfl, hrw⟩ := hcut
      have HW := Lib.hid hrw
      have c2 := hrw.2.1.cell 2
      clear hrw HAH HAK HB1 HC1 HR1
      go_wp2_with fail
      clear c2
      go_loopw [29] (fun i wr => ∃ k : Nat, k ≤ mo.length ∧ i = .int .i64 k ∧ Cr.Rw w #[.int .i64 pad, .int .i64 mem, .slice A mo.length n, .slice A' mk.length n'] g h (AdjC.ahead mo mk) (AdjC.ahead mk mo) wr ∧ ∀ q, q < k → AdjC.raceOf ⟨pad, mem, mo, mk⟩ q = none) (fun i _ => mo.length - (intOf i).toNat)
      case atStart => exact ⟨0, by omega, rfl, HW.out, fun q hq => by omega⟩
      case round =>
        obtain ⟨k, hk, rfl, hrw, hno⟩ := hrel
        have HK := Lib.hid hrw
        have HNO := Lib.hid hno
        clear hrw hno
        by_cases hlt : k < mo.length
        · obtain ⟨b, off, rfl, hbl⟩ := HA.out.spot (by rw [AdjC.flat_length]; omega)
          obtain ⟨x, hx⟩ : ∃ x, mo[k] = x := ⟨_, rfl⟩
          obtain ⟨x0, x1, x2, x3, x4, x5⟩ := Cr.six_cells (HA.out.below HK.out.1) hlt hx
          have HSX := Lib.hid (show Cr.SmallI x from fun s hs => AdjC.right_spans (HZ.out.2.2.1 x (by rw [← hx]; exact List.getElem_mem hlt)) s hs)
          have HX4 := Lib.hid (Blk.new wr 42 #[.int .i64 x.d, .int .i64 x.a, .int .i64 x.b, .int .i64 x.c, .int .i64 x.n, .int .i64 x.v])
          have HK4 := Lib.hid (HK.out.alloc (.cells #[.int .i64 x.d, .int .i64 x.a, .int .i64 x.b, .int .i64 x.c, .int .i64 x.n, .int .i64 x.v] 42))
          have HX := Lib.hid hx
          have hnr := AdjC.nowK_range mo mk (k + 1)
          obtain ⟨j0, hj0⟩ : ∃ j0 : Nat, AdjC.nowK mo mk (k + 1) = (j0 : Int) := ⟨(AdjC.nowK mo mk (k + 1)).toNat, by omega⟩
          have hj0l : j0 ≤ mk.length := by omega
          have hla : ∀ o, (wr.alloc o).cell? ⟨g, 0 + k, none⟩ = some (.int .i64 (j0 : Int)) := fun o => by
            rw [← hj0]; exact ((HK.out.alloc o).2.2.2.1).at_ (AdjC.ahead_at hlt)
          simp only [Nat.zero_add] at hla
          have HJ0 := Lib.hid hj0
          have hgl : g < wr.heap.size := by obtain ⟨b', o', e, hb'⟩ := HK.out.2.2.2.1.spot (by rw [AdjC.ahead_length]; omega); simp at e; omega
          clear hx hj0 hnr
          go_wp2_with fail
          clear x0 x1 x2 x3 x4 x5 hla
          generalize wr.alloc (.cells #[.int .i64 x.d, .int .i64 x.a, .int .i64 x.b, .int .i64 x.c, .int .i64 x.n, .int .i64 x.v] 42) = W4 at HX4 HK4 ⊢
          obtain ⟨xb, hxb⟩ : ∃ xb, wr.heap.size = xb := ⟨_, rfl⟩
          have hxw : w.heap.size + 1 < xb := by have := HK.out.2.2.1.lt; omega
          rw [hxb] at HX4 ⊢
          clear hxb HK hgl wr
          go_loopw [9] (fun jv wr => ∃ j : Nat, j ≤ mk.length ∧ jv = .int .i64 j ∧ j0 ≤ j ∧ Cr.Rw w #[.int .i64 pad, .int .i64 mem, .slice (some ⟨b, off, none⟩) mo.length n, .slice A' mk.length n'] g h (AdjC.ahead mo mk) (AdjC.ahead mk mo) wr ∧ Blk wr xb 42 #[.int .i64 x.d, .int .i64 x.a, .int .i64 x.b, .int .i64 x.c, .int .i64 x.n, .int .i64 x.v] ∧ ∀ q, q < j → AdjC.raceB ⟨pad, mem, mo, mk⟩ k q = false) (fun jv _ => mk.length - (intOf jv).toNat)
          case atStart => exact ⟨j0, hj0l, rfl, Nat.le_refl _, HK4.out, HX4.out, fun q hq => AdjC.raceB_before (by simp only; rw [HJ0.out]; omega)⟩
          case round =>
            obtain ⟨j, hj, rfl, hjj0, hrw, hbx, hnq⟩ := hrel
            have HL := Lib.hid hrw
            have HBX := Lib.hid hbx
            have HNQ := Lib.hid hnq
            have e3 := hrw.2.1.cell 3
            clear hrw hbx hnq HK4 HX4
            by_cases hjl : j < mk.length
            · have hnr := AdjC.nowK_range mk mo (j + 1)
              obtain ⟨p, hp⟩ : ∃ p, AdjC.nowK mk mo (j + 1) = p := ⟨_, rfl⟩
              have hlb : wr.cell? ⟨h, 0 + j, none⟩ = some (.int .i64 p) := by
                rw [← hp]; exact HL.out.2.2.2.2.at_ (AdjC.ahead_at hjl)
              rw [Nat.zero_add] at hlb
              rw [hp] at hnr
              have HP := Lib.hid hp
              clear hp
              by_cases hle : p ≤ (k : Int)
              · obtain ⟨b', off', rfl, hbl'⟩ := HA'.out.spot (by rw [AdjC.flat_length]; omega)
                obtain ⟨y, hy⟩ : ∃ y, mk[j] = y := ⟨_, rfl⟩
                obtain ⟨y0, y1, y2, y3, y4, y5⟩ := Cr.six_cells (HA'.out.below HL.out.1) hjl hy
                have HSY := Lib.hid (show Cr.SmallI y from fun s hs => AdjC.right_spans (HZ.out.2.2.2.1 y (by rw [← hy]; exact List.getElem_mem hjl)) s hs)
                have HRB := Lib.hid (AdjC.raceB_at (c := ⟨pad, mem, mo, mk⟩) hlt hjl HX.out hy)
                have HCL := Lib.hid (fun W => clash_any x y W HSX.out HSY.out)
                simp only [Cr.insV] at HCL
                have x0 := HBX.out.cell 0
                have x1 := HBX.out.cell 1
                have x2 := HBX.out.cell 2
                have x3 := HBX.out.cell 3
                have x4 := HBX.out.cell 4
                have x5 := HBX.out.cell 5
                clear hy
                go_upto_region 11 with (fail)
                go_still_tail 6, (by kernel_rfl)
                change wpList _ _ _ _ _ wr.drew
                have HL2 := Lib.hid HL.out.drew
                have HX2 := Lib.hid HBX.out.drew
                generalize wr.drew = wq at HL2 HX2 ⊢
                clear x0 x1 x2 x3 x4 x5 y0 y1 y2 y3 y4 y5 hlb e3 HL HBX
                go_wp2_with fail
                ((with_reducible refine (HCL.out _).mono ?_); rintro e w5 ⟨rfl, hb5⟩)
                have HL5 := Lib.hid (HL2.out.below hb5)
                have HX5 := Lib.hid (HX2.out.below hb5 HX2.out.lt)
                clear hb5
                by_cases hcl : AdjC.clash x y = true
                · by_cases hj0j : AdjC.raceB ⟨pad, mem, mo, mk⟩ k j = true
                  · have HE := Lib.hid (AdjC.races_some HZ0.out (AdjC.race_some (c := ⟨pad, mem, mo, mk⟩) hlt (AdjC.raceOf_some (c := ⟨pad, mem, mo, mk⟩) hjl hj0j HNQ.out) HNO.out))
                    rw [hcl]
                    clear hcl hj0j
                    have q0 := HL5.out.2.2.1.cell 0
                    have q1 := HL5.out.2.2.1.cell 1
                    have q2 := HL5.out.2.2.1.cell 2
                    have fq0 := HL5.out.2.2.1.frozen 0
                    have fq1 := HL5.out.2.2.1.frozen 1
                    have fq2 := HL5.out.2.2.1.frozen 2
                    go_wp2_with fail
                    refine bodyPost_ret (v := .tuple #[.agg #[.bool true, .int .i64 (k : Int), .int .i64 (j : Int)], .int .i64 0]) (by simp [results, Try.results6, go_sem, q0, q1, q2]) rfl ?_
                    exact ⟨by rw [HE.out]; rfl, Cr.three HL5.out.1 (by omega) _ _ _⟩
                  · exact absurd (by
                      rw [HRB.out, hcl, show decide (AdjC.nowK mo mk (k + 1) ≤ (j : Int)) = true by rw [HJ0.out]; simp; omega, show decide (AdjC.nowK mk mo (j + 1) ≤ (k : Int)) = true by rw [HP.out]; simpa using hle]
                      rfl) hj0j
                · have hcl' : AdjC.clash x y = false := by simpa using hcl
                  have HNQ2 := Lib.hid (show ∀ q, q < j + 1 → AdjC.raceB ⟨pad, mem, mo, mk⟩ k q = false from fun q hq => by
                    by_cases e : q = j
                    · subst e; rw [HRB.out, hcl']; simp
                    · exact HNQ.out q (by omega))
                  rw [hcl']
                  clear hcl hcl'
                  go_wp2_with fail
                  go_roundw
                  case rel => exact ⟨j + 1, by omega, by go_num, by omega, HL5.out, HX5.out, HNQ2.out⟩
                  case measure => simp [intOf]; omega
              · have hle2 : (k : Int) < p := by omega
                have HNR := Lib.hid (AdjC.raceOf_none (c := ⟨pad, mem, mo, mk⟩) (i := k) (fun q hq => by
                  by_cases hqj : q < j
                  · exact HNQ.out q hqj
                  · exact AdjC.raceB_behind (c := ⟨pad, mem, mo, mk⟩) (j := j) (by omega) (by simp only; rw [HP.out]; exact hle2)))
                clear hle
                go_wp2_with fail
                go_roundw
                case rel => exact ⟨k + 1, by omega, by go_num, HL.out, fun q hq => by
                  by_cases e : q = k
                  · subst e; exact HNR.out
                  · exact HNO.out q (by omega)⟩
                case measure => simp [intOf]; omega
            · have hjj : j = mk.length := by omega
              subst hjj
              have HNR := Lib.hid (AdjC.raceOf_none (c := ⟨pad, mem, mo, mk⟩) (i := k) (fun q hq => HNQ.out q hq))
              go_wp2_with fail
              go_roundw
              case rel => exact ⟨k + 1, by omega, by go_num, HL.out, fun q hq => by
                by_cases e : q = k
                · subst e; exact HNR.out
                · exact HNO.out q (by omega)⟩
              case measure => simp [intOf]; omega
        · have hkk : k = mo.length := by omega
          subst hkk
          have HE := Lib.hid (AdjC.races_none HZ0.out (AdjC.race_none (c := ⟨pad, mem, mo, mk⟩) (fun q hq => HNO.out q hq)))
          have q0 := HK.out.2.2.1.cell 0
          have q1 := HK.out.2.2.1.cell 1
          have q2 := HK.out.2.2.1.cell 2
          have fq0 := HK.out.2.2.1.frozen 0
          have fq1 := HK.out.2.2.1.frozen 1
          have fq2 := HK.out.2.2.1.frozen 2
          go_wp2_with fail
          refine bodyPost_ret (v := .tuple #[.agg #[.bool false, .int .i64 0, .int .i64 0], .int .i64 0]) (by simp [results, Try.results6, go_sem, q0, q1, q2]) rfl ?_
          exact ⟨by rw [HE.out]; rfl, Cr.three HK.out.1 (by omega) _ _ _⟩
  · have HE := Lib.hid (AdjC.races_wrong hz)
    have hq : (AdjC.wrong ⟨pad, mem, mo, mk⟩ != 0) = true := by simpa using hz
    clear hz
    have q0 := HR1.out.cell 0
    have q1 := HR1.out.cell 1
    have q2 := HR1.out.cell 2
    have fq0 := HR1.out.frozen 0
    have fq1 := HR1.out.frozen 1
    have fq2 := HR1.out.frozen 2
    go_wp2_with fail
    refine bodyPost_ret (v := .tuple #[.agg #[.bool false, .int .i64 0, .int .i64 0], .int .i64 (AdjC.wrong ⟨pad, mem, mo, mk⟩)]) (by simp [results, Try.results6, go_sem, q0, q1, q2]) rfl ?_
    exact ⟨by rw [HE.out]; rfl, Cr.three HB1.out (by omega) _ _ _⟩
end Go.Proofs.Ytlnfmipcbhhkhaa
