/-
  The walk of the program's grow. Conditions: both lists can be read.
-/
import Derived.Test.YtkopkicdmbnpgaaRoomD
namespace Go.Proofs.Ytkopkicdmbnpgaa
set_option linter.unusedVariables false
open Go.RowKit Adj

namespace Rm
/-- A tree that has grown: what it stands on, and the lists of those below. -/
structure Tr (w : World) (x y : Value) (bt bb n : Nat) (F : Nat → List Int) (wr : World) : Prop where
  ps : Ps w bb n F wr
  tree : Blk wr bt 53 #[x, y, .slice (some ⟨bb, 0, none⟩) n n]
  ge : w.heap.size ≤ bt
end Rm

set_option maxRecDepth 100000 in
set_option maxHeartbeats 8000000 in
theorem grow_any (w : World) (ab ws : List Int) (A A' : Option Addr) (n m c c' : Nat) (hn : ab.length = n) (hm : ws.length = m) (h1 : IntsAt w w.heap.size A ab) (h2 : IntsAt w w.heap.size A' ws) :
    Calls Try.prog 25 #[.slice A n c, .slice A' m c'] w fun e w' => ∃ v, e = .returned (.tuple #[v, .int .i64 (AdjR.treeBad ab ws)]) ∧ Below w.heap.size w w' ∧
      (AdjR.treeBad ab ws = 0 → ∃ bt bb, v = .pointer (some ⟨bt, 0, none⟩) ∧ Rm.Tr w (.slice A n c) (.slice A' m c') bt bb n (AdjR.belowTo ab n) w') ∧ (AdjR.treeBad ab ws ≠ 0 → v = .pointer none) := by
  have HB0 := Lib.hid (Below.refl w.heap.size w)
  by_cases hbad : n ≠ m ∨ 4096 < n
  · have HE := Lib.hid (show AdjR.treeBad ab ws = 2 by unfold AdjR.treeBad; rw [if_pos (by omega)])
    clear hn hm h1 h2
    go_enter Try.func25, Try.ntmps25
    go_wp2_with fail
    all_goals first | (exfalso; simp at *; omega) | (go_ret2; exact ⟨_, by rw [HE.out]; rfl, HB0.out, fun h => (by rw [HE.out] at h; cases h), fun _ => rfl⟩)
  · obtain rfl : n = m := by omega
    have hbig : n ≤ 4096 := by omega
    have HE := Lib.hid (show AdjR.treeBad ab ws = AdjR.firstBad (AdjR.at_ ab ws) n by unfold AdjR.treeBad; rw [if_neg (by omega), hn])
    have HN := Lib.hid (And.intro hn hm)
    have H1 := Lib.hid h1
    have H2 := Lib.hid h2
    have hmk := fun W => run_make_rows n (by omega) W
    clear hbad hn hm h1 h2
    go_enter Try.func25, Try.ntmps25
    go_wp2_with fail
    clear hmk
    have HT0 := Lib.hid (show Rm.Tr w (.slice A n c) (.slice A' n c') (w.heap.size + 1) w.heap.size n (AdjR.belowTo ab 0) ((w.alloc (.cells (List.replicate n (Value.slice none 0 0)).toArray 22)).alloc (.cells #[.slice A n c, .slice A' n c', .slice (some ⟨w.heap.size, 0, none⟩) n n] 53)) from
      ⟨(Rm.Ps.start ((Below.refl _ _).alloc (Nat.le_refl _) _) (Nat.le_refl _) (Blk.new w _ _) rfl).alloc _, by
        have h := Blk.new (w.alloc (.cells (List.replicate n (Value.slice none 0 0)).toArray 22)) 53 #[.slice A n c, .slice A' n c', .slice (some ⟨w.heap.size, 0, none⟩) n n]
        rwa [World.size_alloc] at h, by omega⟩)
    go_loopw [29] (fun i wr => ∃ k : Nat, i = .int .i64 (k : Int) ∧ k ≤ n ∧ AdjR.firstBad (AdjR.at_ ab ws) k = 0 ∧ Rm.Tr w (.slice A n c) (.slice A' n c') (w.heap.size + 1) w.heap.size n (AdjR.belowTo ab k) wr) (fun i _ => n - (intOf i).toNat)
    case atStart => exact ⟨0, rfl, by omega, rfl, HT0.out⟩
    case round =>
      obtain ⟨k, rfl, hk, hg, ht⟩ := hrel
      have HG := Lib.hid hg
      have HT := Lib.hid ht
      clear hg ht HT0
      by_cases hlt : k < n
      · obtain ⟨b, off, rfl, r1⟩ := ints_cell H1.out (by have := HN.out; omega)
        obtain ⟨b', off', rfl, r2⟩ := ints_cell H2.out (by have := HN.out; omega)
        have c1 := (HT.out.ps.1.cell (cell_lt (r1 k (by have := HN.out; omega)))).trans (r1 k (by have := HN.out; omega))
        have c2 := (HT.out.ps.1.cell (cell_lt (r2 k (by have := HN.out; omega)))).trans (r2 k (by have := HN.out; omega))
        have HA := Lib.hid (show AdjR.at_ ab ws k = AdjR.nodeBad n k (ab.getD k 0) (ws.getD k 0) by unfold AdjR.at_; rw [HN.out.1])
        have HBN := Lib.hid (fun s => show AdjR.belowTo ab (k + 1) s = if ab.getD k 0 = (s : Int) then AdjR.belowTo ab k s ++ [(k : Int)] else AdjR.belowTo ab k s from rfl)
        generalize ab.getD k 0 = a at c1 HA HBN
        generalize ws.getD k 0 = x at c2 HA
        clear r1 r2
        by_cases hl : k + 1 = n
        · have q0 : (n : Int) - 1 = (k : Int) := by omega
          by_cases ha : a = -1
          · by_cases hx0 : x < 0
            · have HV := Lib.hid (show AdjR.treeBad ab ws = 4 by rw [HE.out, AdjR.firstBad_at hlt HG.out (by rw [HA.out]; unfold AdjR.nodeBad; (repeat' split) <;> omega), HA.out]; unfold AdjR.nodeBad; (repeat' split) <;> omega)
              go_wp2_with fail
              go_ret2
              exact ⟨_, by rw [HV.out]; rfl, HT.out.ps.1, fun h => (by rw [HV.out] at h; cases h), fun _ => rfl⟩
            by_cases hx1 : 1048576 < x
            · have HV := Lib.hid (show AdjR.treeBad ab ws = 4 by rw [HE.out, AdjR.firstBad_at hlt HG.out (by rw [HA.out]; unfold AdjR.nodeBad; (repeat' split) <;> omega), HA.out]; unfold AdjR.nodeBad; (repeat' split) <;> omega)
              go_wp2_with fail
              go_ret2
              exact ⟨_, by rw [HV.out]; rfl, HT.out.ps.1, fun h => (by rw [HV.out] at h; cases h), fun _ => rfl⟩
            have HV := Lib.hid (show AdjR.at_ ab ws k = 0 by rw [HA.out]; unfold AdjR.nodeBad; (repeat' split) <;> omega)
            have HTN := Lib.hid (show Rm.Tr w (.slice (some ⟨b, off, none⟩) n c) (.slice (some ⟨b', off', none⟩) n c') (w.heap.size + 1) w.heap.size n (AdjR.belowTo ab (k + 1)) wr from
              ⟨HT.out.ps.same (fun s hs => by rw [HBN.out, if_neg (by omega)]), HT.out.tree, HT.out.ge⟩)
            go_wp2_with fail
            go_roundw
            case rel => exact ⟨k + 1, by go_num, by omega, AdjR.firstBad_next HG.out HV.out, HTN.out⟩
            case measure => simp [intOf]; omega
          · have q1 : (a == -1) = false := by simpa using ha
            have q2 : (a != -1) = true := by simpa using ha
            have HV := Lib.hid (show AdjR.treeBad ab ws = 7 by rw [HE.out, AdjR.firstBad_at hlt HG.out (by rw [HA.out]; unfold AdjR.nodeBad; (repeat' split) <;> omega), HA.out]; unfold AdjR.nodeBad; (repeat' split) <;> omega)
            go_wp2_with fail
            go_ret2
            exact ⟨_, by rw [HV.out]; rfl, HT.out.ps.1, fun h => (by rw [HV.out] at h; cases h), fun _ => rfl⟩
        · have q0 : ((k : Int) == (n : Int) - 1) = false := by simp; omega
          by_cases ha : a ≤ (k : Int)
          · have HV := Lib.hid (show AdjR.treeBad ab ws = 7 by rw [HE.out, AdjR.firstBad_at hlt HG.out (by rw [HA.out]; unfold AdjR.nodeBad; (repeat' split) <;> omega), HA.out]; unfold AdjR.nodeBad; (repeat' split) <;> omega)
            go_wp2_with fail
            go_ret2
            exact ⟨_, by rw [HV.out]; rfl, HT.out.ps.1, fun h => (by rw [HV.out] at h; cases h), fun _ => rfl⟩
          by_cases ha2 : (n : Int) ≤ a
          · have HV := Lib.hid (show AdjR.treeBad ab ws = 7 by rw [HE.out, AdjR.firstBad_at hlt HG.out (by rw [HA.out]; unfold AdjR.nodeBad; (repeat' split) <;> omega), HA.out]; unfold AdjR.nodeBad; (repeat' split) <;> omega)
            go_wp2_with fail
            go_ret2
            exact ⟨_, by rw [HV.out]; rfl, HT.out.ps.1, fun h => (by rw [HV.out] at h; cases h), fun _ => rfl⟩
          by_cases hx0 : x < 0
          · have HV := Lib.hid (show AdjR.treeBad ab ws = 4 by rw [HE.out, AdjR.firstBad_at hlt HG.out (by rw [HA.out]; unfold AdjR.nodeBad; (repeat' split) <;> omega), HA.out]; unfold AdjR.nodeBad; (repeat' split) <;> omega)
            go_wp2_with fail
            go_ret2
            exact ⟨_, by rw [HV.out]; rfl, HT.out.ps.1, fun h => (by rw [HV.out] at h; cases h), fun _ => rfl⟩
          by_cases hx1 : 1048576 < x
          · have HV := Lib.hid (show AdjR.treeBad ab ws = 4 by rw [HE.out, AdjR.firstBad_at hlt HG.out (by rw [HA.out]; unfold AdjR.nodeBad; (repeat' split) <;> omega), HA.out]; unfold AdjR.nodeBad; (repeat' split) <;> omega)
            go_wp2_with fail
            go_ret2
            exact ⟨_, by rw [HV.out]; rfl, HT.out.ps.1, fun h => (by rw [HV.out] at h; cases h), fun _ => rfl⟩
          obtain ⟨s, rfl⟩ : ∃ s : Nat, a = (s : Int) := ⟨a.toNat, by omega⟩
          have hs : s < n := by omega
          have hsk : k < s := by omega
          have HV := Lib.hid (show AdjR.at_ ab ws k = 0 by rw [HA.out]; unfold AdjR.nodeBad; (repeat' split) <;> omega)
          obtain ⟨Av, cv, hcell, hov, hnb⟩ := HT.out.ps.get hs
          have hpl := AdjR.belowTo_length ab k s
          have HPN := Lib.hid (fun t (_ : t < n) => show AdjR.belowTo ab (k + 1) t = if t = s then AdjR.belowTo ab k s ++ [(k : Int)] else AdjR.belowTo ab k t by
            rw [HBN.out]
            by_cases e : t = s
            · subst e; rw [if_pos rfl, if_pos rfl]
            · rw [if_neg (by omega), if_neg e])
          obtain ⟨L, hL⟩ : ∃ L, AdjR.belowTo ab k s = L := ⟨_, rfl⟩
          rw [hL] at hcell hov hnb HPN hpl
          have HL := Lib.hid hL
          have HOV := Lib.hid hov
          have HNB := Lib.hid hnb
          have HCE := Lib.hid hcell
          have HTC := Lib.hid (HT.out.tree.cell 2)
          obtain ⟨i0, hi, hz0, hz1, hzb⟩ := info_parts Try.infoNum
          have HI := Lib.hid hi
          have HZ0 := Lib.hid hz0
          have HZ1 := Lib.hid hz1
          have HZB := Lib.hid hzb
          have HK4 := Lib.hid HT.out.ps
          have HX4 := Lib.hid HT.out.tree
          have hzw : w.heap.size < wr.heap.size := HT.out.ps.lt
          have hzt : w.heap.size + 1 < wr.heap.size := HT.out.tree.lt
          have hsi : (s : Int) < (n : Int) := by omega
          have hsi0 : (0 : Int) ≤ (s : Int) := by omega
          clear hL hov hnb hi hz0 hz1 hzb hcell
          go_upto_region 13 with (fail)
          refine wp_region_T (fun w' => w'.cell? ⟨w.heap.size + 1, 2, none⟩ = some (.slice (some ⟨w.heap.size, 0, none⟩) n n) ∧ w'.cell? ⟨w.heap.size, s, none⟩ = some (.slice Av L.length cv)) 15 (fun _ => True) 15 17 rfl (by kernel_rfl) ⟨⟨HTC.out, HCE.out⟩, trivial⟩ (fun hHeld => ?_)
          simp only [List.replicate_succ, List.replicate_zero]
          refine wpT_take 0 73 (v := ?_) hHeld.1 hHeld.2 rfl rfl (by kernel_rfl) (fun _ _ _ h => h) rfl ?_ ?_
          rotate_left
          · (intro w hSw; (try dsimp only at hSw); go_simp; try with_reducible rfl)
          try simp only [Act.put, List.setIfInBounds_toArray, List.set_cons_zero, List.set_cons_succ]
          refine wpT_take 1 74 (v := ?_) hHeld.1 hHeld.2 rfl rfl (by kernel_rfl) (fun _ _ _ h => h) rfl ?_ ?_
          rotate_left
          · (intro w hSw; (try dsimp only at hSw); go_simp; try with_reducible rfl)
          try simp only [Act.put, List.setIfInBounds_toArray, List.set_cons_zero, List.set_cons_succ]
          refine wpT_take 2 75 (v := ?_) hHeld.1 hHeld.2 rfl rfl (by kernel_rfl) (fun _ _ _ h => h) rfl ?_ ?_
          rotate_left
          · (intro w hSw; (try dsimp only at hSw); go_simp; try with_reducible rfl)
          try simp only [Act.put, List.setIfInBounds_toArray, List.set_cons_zero, List.set_cons_succ]
          refine wpT_take 3 76 (v := ?_) hHeld.1 hHeld.2 rfl rfl (by kernel_rfl) (fun _ _ _ h => h) rfl ?_ ?_
          rotate_left
          · (intro w hSw; (try dsimp only at hSw); go_simp; try with_reducible rfl)
          try simp only [Act.put, List.setIfInBounds_toArray, List.set_cons_zero, List.set_cons_succ]
          refine wpT_take 4 77 (v := ?_) hHeld.1 hHeld.2 rfl rfl (by kernel_rfl) (fun _ _ _ h => h) rfl ?_ ?_
          rotate_left
          · (intro w hSw; (try dsimp only at hSw); go_simp; try with_reducible rfl)
          try simp only [Act.put, List.setIfInBounds_toArray, List.set_cons_zero, List.set_cons_succ]
          refine wpT_take 5 78 (v := ?_) hHeld.1 hHeld.2 rfl rfl (by kernel_rfl) (fun _ _ _ h => h) rfl ?_ ?_
          rotate_left
          · (intro w hSw; (try dsimp only at hSw); go_simp; try with_reducible rfl)
          try simp only [Act.put, List.setIfInBounds_toArray, List.set_cons_zero, List.set_cons_succ]
          refine wpT_take 6 79 (v := ?_) hHeld.1 hHeld.2 rfl rfl (by kernel_rfl) (fun _ _ _ h => h) rfl ?_ ?_
          rotate_left
          · (intro w hSw; (try dsimp only at hSw); go_simp; try with_reducible rfl)
          try simp only [Act.put, List.setIfInBounds_toArray, List.set_cons_zero, List.set_cons_succ]
          refine wpT_take 7 80 (v := ?_) hHeld.1 hHeld.2 rfl rfl (by kernel_rfl) (fun _ _ _ h => h) rfl ?_ ?_
          rotate_left
          · (intro w hSw; (try dsimp only at hSw); go_simp; try with_reducible rfl)
          try simp only [Act.put, List.setIfInBounds_toArray, List.set_cons_zero, List.set_cons_succ]
          refine wpT_take 8 81 (v := ?_) hHeld.1 hHeld.2 rfl rfl (by kernel_rfl) (fun _ _ _ h => h) rfl ?_ ?_
          rotate_left
          · (intro w hSw; (try dsimp only at hSw); go_simp; try with_reducible rfl)
          try simp only [Act.put, List.setIfInBounds_toArray, List.set_cons_zero, List.set_cons_succ]
          refine wpT_take 9 82 (v := ?_) hHeld.1 hHeld.2 rfl rfl (by kernel_rfl) (fun _ _ _ h => h) rfl ?_ ?_
          rotate_left
          · (intro w hSw; (try dsimp only at hSw); go_simp; try with_reducible rfl)
          try simp only [Act.put, List.setIfInBounds_toArray, List.set_cons_zero, List.set_cons_succ]
          refine wpT_take 10 83 (v := ?_) hHeld.1 hHeld.2 rfl rfl (by kernel_rfl) (fun _ _ _ h => h) rfl ?_ ?_
          rotate_left
          · (intro w hSw; (try dsimp only at hSw); go_simp; try with_reducible rfl)
          try simp only [Act.put, List.setIfInBounds_toArray, List.set_cons_zero, List.set_cons_succ]
          refine wpT_take 11 84 (v := ?_) hHeld.1 hHeld.2 rfl rfl (by kernel_rfl) (fun _ _ _ h => h) rfl ?_ ?_
          rotate_left
          · (intro w hSw; (try dsimp only at hSw); go_simp; try with_reducible rfl)
          try simp only [Act.put, List.setIfInBounds_toArray, List.set_cons_zero, List.set_cons_succ]
          refine wpT_take 12 85 (v := ?_) hHeld.1 hHeld.2 rfl rfl (by kernel_rfl) (fun _ _ _ h => h) rfl ?_ ?_
          rotate_left
          · (intro w hSw; (try dsimp only at hSw); go_simp; try with_reducible rfl)
          try simp only [Act.put, List.setIfInBounds_toArray, List.set_cons_zero, List.set_cons_succ]
          have HK5 := Lib.hid HK4.out.drew
          have HOV5 := Lib.hid (show wr.drew.ownsRow w.heap.size 3 1 (.slice Av L.length cv) L.length (Adj.ints L) from HOV.out)
          have HX5 := Lib.hid HX4.out.drew
          have hz5 : w.heap.size + 1 < wr.drew.heap.size := hzt
          generalize wr.drew = W5 at HK5 HOV5 HX5 hHeld hz5 ⊢
          refine wpT_one 13 (by kernel_rfl) (stepT_early rfl rfl (fun K hK => ?_))
          go_simp
          refine hK.out _ _ ⟨⟨(World.cell?_alloc_lt _ _ _ (by simp; omega)).trans hHeld.1.1, (World.cell?_alloc_lt _ _ _ (by simp; omega)).trans hHeld.1.2⟩, trivial⟩ (fun hHeld2 => ?_)
          clear hK K hHeld
          have hHeld := hHeld2
          clear hHeld2
          try simp only [List.setIfInBounds_toArray, List.set_cons_zero, List.set_cons_succ]
          have HN6 := Lib.hid (Blk.new W5 3 #[.int .i64 (k : Int)])
          have HK6 := Lib.hid (HK5.out.alloc (.cells #[.int .i64 (k : Int)] 3))
          have HOV6 := Lib.hid (HOV5.out.alloc (.cells #[.int .i64 (k : Int)] 3))
          have HX6 := Lib.hid (HX5.out.alloc (.cells #[.int .i64 (k : Int)] 3))
          have hz6 : W5.heap.size < (W5.alloc (.cells #[.int .i64 (k : Int)] 3)).heap.size := by simp
          generalize W5.alloc (.cells #[.int .i64 (k : Int)] 3) = W6 at HN6 HK6 HOV6 HX6 hHeld hz6 ⊢
          refine wpT_one 14 (by kernel_rfl) (stepT_early rfl rfl (fun K hK => ?_))
          refine wp_append_any W6 _ _ 22 rfl w.heap.size 3 i0 (.int .i64 0) 1 8 Try.underlying22 HI.out HZ0.out HZ1.out HZB.out rfl (by decide) (.slice Av L.length cv) L.length (Adj.ints L) rfl HOV6.out W6.heap.size (some ⟨W5.heap.size, 0, none⟩) 1 1 [.int .i64 (k : Int)] rfl (Rm.reads_one HN6.out) (Adj.one_one _ _) (by unfold maxLen; omega) (by omega) (by omega) ?_
          intro v' W7 hown7 hgrow hnew
          obtain ⟨g7, cap7, rfl, hg7, hl7⟩ := hown7.form (by omega)
          have hs7 : some (w.heap.size + 1) ≠ (Value.slice Av L.length cv).ownBlock := fun e => (Rm.own_blk_ne HOV6.out HX6.out (by decide)) e.symm
          have hb7 : some w.heap.size ≠ (Value.slice Av L.length cv).ownBlock := fun e => HNB.out e.symm
          have y1 := hgrow.cell hHeld.1.1 hs7
          have y2 := hgrow.cell hHeld.1.2 hb7
          have fz : W7.frozen? ⟨w.heap.size, s, none⟩ = false := (World.frozen?_of_block (hgrow.block _ (by have := HK6.out.lt; omega) hb7)).trans (HK6.out.frozen s)
          have HPU := Lib.hid (HK6.out.push (G := AdjR.belowTo ab (k + 1)) (x := (k : Int)) hs hHeld.1.2 (by rw [HL.out, Rm.ints_snoc2]; exact hown7) (by rw [HL.out]; simp) hgrow hnew (fun t ht => by rw [HPN.out t ht, HL.out]))
          have HXU := Lib.hid ((HX6.out.grown hgrow hs7).far (p := ⟨w.heap.size, s, none⟩) (by simp) (.slice (some ⟨g7, 0, none⟩) (L.length + 1) cap7))
          refine hK.out _ _ ⟨⟨y1, y2⟩, trivial⟩ (fun hHeld2 => ?_)
          clear hK K hHeld hHeld2 hown7 hgrow hnew hs7 hb7 y1
          try simp only [Act.put, List.setIfInBounds_toArray, List.set_cons_zero, List.set_cons_succ]
          refine wpT_tail [_, _] 15 [16] rfl (by kernel_rfl) ?_
          go_wp2_with fail
          go_roundw
          case rel => exact ⟨k + 1, by go_num, by omega, AdjR.firstBad_next HG.out HV.out, ⟨HPU.out, HXU.out, HT.out.ge⟩⟩
          case measure => simp [intOf]; omega
      · obtain rfl : k = n := by omega
        go_wp2_with fail
        go_ret2
        exact ⟨_, by rw [HE.out, HG.out]; rfl, HT.out.ps.1, fun _ => ⟨_, _, rfl, HT.out⟩, fun h => absurd (by rw [HE.out, HG.out]) h⟩
end Go.Proofs.Ytkopkicdmbnpgaa
