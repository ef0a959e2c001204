/-
  The walk of the reference's Do: sums and products. Conditions: the pad and memory lie there, the instruction is right.
-/
import Derived.Test.YtlnfmipcbhhkhaaCoreV
namespace Go.Proofs.Ytlnfmipcbhhkhaa
set_option linter.unusedVariables false
open Go.RowKit Adj

set_option maxRecDepth 100000 in
set_option maxHeartbeats 8000000 in
theorem Do_add (W : World) (gp gm : Nat) (Ap Am : Option Addr) (cp cm : Nat) (pad mem : List Int) (a b2 c' v : Int) (n : Nat) (hp : Cr.Mm W Ap gp pad) (hm : Cr.Mm W Am gm mem) (hne : gp ≠ gm) (hl : pad.length ≤ 4096) (hlm : mem.length ≤ 1048576) (hn : n ≤ 4096) (hpa : 0 < n → 0 ≤ a ∧ a + (n : Int) ≤ (pad.length : Int)) (hpb : 0 < n → 0 ≤ b2 ∧ b2 + (n : Int) ≤ (pad.length : Int)) (hpc : 0 < n → 0 ≤ c' ∧ c' + (n : Int) ≤ (pad.length : Int)) :
    Calls Try.prog 22 #[Cr.insV ⟨6, a, b2, c', (n : Int), v⟩, .slice Ap pad.length cp, .slice Am mem.length cm] W fun e w' => e = .returned (.tuple #[]) ∧ Cr.Dm W gp gm Ap Am (AdjC.eachK ⟨6, a, b2, c', (n : Int), v⟩ pad n) mem w' := by
  rw [Cr.insV_eq]
  simp only
  have HP := Lib.hid hp
  have HM := Lib.hid hm
  have HF := Lib.hid (And.intro hpa (And.intro hpb hpc))
  clear hp hm hpa hpb hpc
  obtain ⟨i0, hi, hz0, hz1, hzb⟩ := info_parts Try.infoWord
  have HPR := Lib.hid (fun o o' => Cr.mm_reads ((HP.out.alloc o).alloc o'))
  have HOW := Lib.hid (show ((W.alloc (.cells #[.int .i64 6, .int .i64 a, .int .i64 b2, .int .i64 c', .int .i64 (n : Int), .int .i64 v] 42)).alloc (.cells #[] 2)).ownsRow (W.heap.size + 1) 2 1 (.slice (some ⟨W.heap.size + 1, 0, none⟩) 0 0) 0 [] from by
    have h := Cr.own_none (W.alloc (.cells #[.int .i64 6, .int .i64 a, .int .i64 b2, .int .i64 c', .int .i64 (n : Int), .int .i64 v] 42)) 2
    rwa [World.size_alloc] at h)
  go_enter Try.func22, Try.ntmps22
  go_wp2_with (at_builtin; refine wpList_append_any _ rfl _ _ 31 rfl _ 2 i0 (.int .i64 0) 1 8 Try.underlying31 hi hz0 hz1 hzb rfl (by decide) _ _ _ rfl HOW.out _ _ pad.length cp (ints pad) rfl (HPR.out _ _) (Cr.ints_ones pad) (by unfold maxLen; omega) (by omega) (by simp) ?_)
  intro v' w1 hown' hgrow _
  have hbel : Below (W.heap.size + 1) (W.alloc (.cells #[.int .i64 6, .int .i64 a, .int .i64 b2, .int .i64 c', .int .i64 (n : Int), .int .i64 v] 42)) w1 := (((Below.refl _ _).alloc (by simp) (.cells #[] 2))).grown hgrow (by simp) (fun k hk => by simp [Value.ownBlock] at hk; omega)
  obtain ⟨OA, ocap, rfl, oc1, oc2, hoo⟩ := Cr.own_mm (l := pad) (by simpa using hown')
  have HDE := Lib.hid (show ∃ ob, Cr.De W gp gm Ap Am OA ob ⟨6, a, b2, c', (n : Int), v⟩ pad pad mem w1 from by
    have hb2 : Below W.heap.size W w1 := ((Below.refl _ _).alloc (Nat.le_refl _) _).trans (hbel.mono (by omega))
    have hi2 : Blk w1 W.heap.size 42 #[.int .i64 6, .int .i64 a, .int .i64 b2, .int .i64 c', .int .i64 (n : Int), .int .i64 v] := (Blk.new W _ _).below hbel (by omega)
    have mk : ∀ ob, Cr.Mm w1 OA ob pad → (0 < pad.length → W.heap.size < ob) → Cr.De W gp gm Ap Am OA ob ⟨6, a, b2, c', (n : Int), v⟩ pad pad mem w1 := fun ob h1 h2 =>
      ⟨⟨(Cr.Frm.refl W gp gm _ _).below hb2, HP.out.below hb2, HM.out.below hb2⟩, hi2, h1, h2, fun h => HP.out.lt h, fun h => HM.out.lt h, hne⟩
    rcases hoo with h0 | ⟨g, h1, h2, h3⟩
    · exact ⟨0, mk 0 (fun h => by rw [h0] at h; simp at h) (fun h => by rw [h0] at h; simp at h)⟩
    · exact ⟨g, mk g h3 (fun _ => by omega)⟩)
  obtain ⟨ob, hde⟩ := HDE.out
  have HD := Lib.hid hde
  clear hown' hgrow hbel hoo hi hz0 hz1 hzb HDE hde HPR HOW
  have n4 := HD.out.ins.cell 4
  have n0 := HD.out.ins.cell 0
  go_wp2_with fail
  clear n4 n0
  go_loopw [7] (fun i wr => ∃ j : Nat, j ≤ n ∧ i = .int .i64 (j : Int) ∧ Cr.De W gp gm Ap Am OA ob ⟨6, a, b2, c', (n : Int), v⟩ pad (AdjC.eachK ⟨6, a, b2, c', (n : Int), v⟩ pad j) mem wr) (fun i _ => n - (intOf i).toNat)
  case atStart => exact ⟨0, by omega, rfl, HD.out⟩
  case round =>
    obtain ⟨j, hj, rfl, he⟩ := hrel
    have HJ := Lib.hid he
    clear he
    have n0 := HJ.out.ins.cell 0
    have n4 := HJ.out.ins.cell 4
    by_cases hlt : j < n
    rotate_left
    · obtain rfl : j = n := by omega
      go_wp2_with fail
      go_end0
      exact ⟨rfl, HJ.out.dm⟩
    have n1 := HJ.out.ins.cell 1
    have n2 := HJ.out.ins.cell 2
    have n3 := HJ.out.ins.cell 3
    have n5 := HJ.out.ins.cell 5
    obtain ⟨p, rfl⟩ : ∃ p : Nat, a = (p : Int) := ⟨(a : Int).toNat, by have := HF.out.1 (by omega); omega⟩
    have hpn : p + n ≤ pad.length := by have := HF.out.1 (by omega); omega
    obtain ⟨q, rfl⟩ : ∃ q : Nat, b2 = (q : Int) := ⟨(b2 : Int).toNat, by have := HF.out.2.1 (by omega); omega⟩
    have hqn : q + n ≤ pad.length := by have := HF.out.2.1 (by omega); omega
    obtain ⟨r, rfl⟩ : ∃ r : Nat, c' = (r : Int) := ⟨(c' : Int).toNat, by have := HF.out.2.2 (by omega); omega⟩
    have hrn : r + n ≤ pad.length := by have := HF.out.2.2 (by omega); omega
    have hpj : p + j < pad.length := by omega
    have hAP := HJ.out.dm.pad.some_ (by simp only [AdjC.eachK_length]; omega)
    have hOA := HJ.out.olds.some_ (by omega)
    subst hAP hOA
    have HNX := Lib.hid (Cr.eachK_next ⟨6, (p : Int), (q : Int), (r : Int), (n : Int), v⟩ pad j p rfl)
    have HWV := Lib.hid (show AdjC.word ⟨6, (p : Int), (q : Int), (r : Int), (n : Int), v⟩ pad (j : Int) = AdjC.wordV 6 v (AdjC.at_ pad ((p : Int) + (j : Int))) (AdjC.at_ pad ((q : Int) + (j : Int))) (AdjC.at_ pad ((r : Int) + (j : Int))) from rfl)
    rw [HWV.out] at HNX
    have b1 := HJ.out.olds.cell (k := p + j) (by omega)
    rw [show ((p + j : Nat) : Int) = (p : Int) + (j : Int) by omega] at b1
    obtain ⟨up, hup⟩ : ∃ u, AdjC.at_ pad ((p : Int) + (j : Int)) = u := ⟨_, rfl⟩
    rw [hup] at b1 HNX
    clear hup
    have b2x := HJ.out.olds.cell (k := q + j) (by omega)
    rw [show ((q + j : Nat) : Int) = (q : Int) + (j : Int) by omega] at b2x
    obtain ⟨uq, huq⟩ : ∃ u, AdjC.at_ pad ((q : Int) + (j : Int)) = u := ⟨_, rfl⟩
    rw [huq] at b2x HNX
    clear huq
    have b3 := HJ.out.olds.cell (k := r + j) (by omega)
    rw [show ((r + j : Nat) : Int) = (r : Int) + (j : Int) by omega] at b3
    obtain ⟨ur, hur⟩ : ∃ u, AdjC.at_ pad ((r : Int) + (j : Int)) = u := ⟨_, rfl⟩
    rw [hur] at b3 HNX
    clear hur
    go_wp2_with fail
    have wp : IntKind.i64.wrap ((p : Int) + (j : Int)) = (p : Int) + (j : Int) := IntWalk.i64_in _ (by omega)
    have i1 : (0 : Int) ≤ (p : Int) + (j : Int) := by omega
    have i2 : (p : Int) + (j : Int) < (pad.length : Int) := by omega
    have i3 : ((p : Int) + (j : Int)).toNat = p + j := by omega
    have wq : IntKind.i64.wrap ((q : Int) + (j : Int)) = (q : Int) + (j : Int) := IntWalk.i64_in _ (by omega)
    have i4 : (0 : Int) ≤ (q : Int) + (j : Int) := by omega
    have i5 : (q : Int) + (j : Int) < (pad.length : Int) := by omega
    have i6 : ((q : Int) + (j : Int)).toNat = q + j := by omega
    have wr2 : IntKind.i64.wrap ((r : Int) + (j : Int)) = (r : Int) + (j : Int) := IntWalk.i64_in _ (by omega)
    have i7 : (0 : Int) ≤ (r : Int) + (j : Int) := by omega
    have i8 : (r : Int) + (j : Int) < (pad.length : Int) := by omega
    have i9 : ((r : Int) + (j : Int)).toNat = r + j := by omega
    refine wp_region_T (fun w' => w'.cell? ⟨W.heap.size, 1, none⟩ = some (.int .i64 (p : Int)) ∧ w'.cell? ⟨W.heap.size, 2, none⟩ = some (.int .i64 (q : Int)) ∧ w'.cell? ⟨W.heap.size, 3, none⟩ = some (.int .i64 (r : Int)) ∧ w'.cell? ⟨ob, q + j, none⟩ = some (.int .i64 uq) ∧ w'.cell? ⟨ob, r + j, none⟩ = some (.int .i64 ur)) 20 (fun _ => True) 20 22 rfl (by kernel_rfl) ⟨⟨n1, n2, n3, b2x, b3⟩, trivial⟩ (fun hHeld => ?_)
    simp only [List.replicate_succ, List.replicate_zero]
    refine wpT_take 0 67 (v := ?_) hHeld.1 hHeld.2 rfl rfl (by kernel_rfl) (fun _ _ _ h => h) rfl ?_ ?_
    rotate_left
    · (intro w hSw; (try dsimp only at hSw); go_simp; try with_reducible rfl)
    try simp only [Act.put, List.setIfInBounds_toArray, List.set_cons_zero, List.set_cons_succ]
    refine wpT_take 1 68 (v := ?_) hHeld.1 hHeld.2 rfl rfl (by kernel_rfl) (fun _ _ _ h => h) rfl ?_ ?_
    rotate_left
    · (intro w hSw; (try dsimp only at hSw); go_simp; try with_reducible rfl)
    try simp only [Act.put, List.setIfInBounds_toArray, List.set_cons_zero, List.set_cons_succ]
    refine wpT_take 2 69 (v := ?_) hHeld.1 hHeld.2 rfl rfl (by kernel_rfl) (fun _ _ _ h => h) rfl ?_ ?_
    rotate_left
    · (intro w hSw; (try dsimp only at hSw); go_simp; try with_reducible rfl)
    try simp only [Act.put, List.setIfInBounds_toArray, List.set_cons_zero, List.set_cons_succ]
    refine wpT_take 3 70 (v := ?_) hHeld.1 hHeld.2 rfl rfl (by kernel_rfl) (fun _ _ _ h => h) rfl ?_ ?_
    rotate_left
    · (intro w hSw; (try dsimp only at hSw); go_simp; try with_reducible rfl)
    try simp only [Act.put, List.setIfInBounds_toArray, List.set_cons_zero, List.set_cons_succ]
    refine wpT_take 4 71 (v := ?_) hHeld.1 hHeld.2 rfl rfl (by kernel_rfl) (fun _ _ _ h => h) rfl ?_ ?_
    rotate_left
    · (intro w hSw; (try dsimp only at hSw); go_simp; try with_reducible rfl)
    try simp only [Act.put, List.setIfInBounds_toArray, List.set_cons_zero, List.set_cons_succ]
    refine wpT_take 5 72 (v := ?_) hHeld.1 hHeld.2 rfl rfl (by kernel_rfl) (fun _ _ _ h => h) rfl ?_ ?_
    rotate_left
    · (intro w hSw; (try dsimp only at hSw); go_simp; try with_reducible rfl)
    try simp only [Act.put, List.setIfInBounds_toArray, List.set_cons_zero, List.set_cons_succ]
    refine wpT_take 6 73 (v := ?_) hHeld.1 hHeld.2 rfl rfl (by kernel_rfl) (fun _ _ _ h => h) rfl ?_ ?_
    rotate_left
    · (intro w hSw; (try dsimp only at hSw); go_simp; try with_reducible rfl)
    try simp only [Act.put, List.setIfInBounds_toArray, List.set_cons_zero, List.set_cons_succ]
    refine wpT_take 7 74 (v := ?_) hHeld.1 hHeld.2 rfl rfl (by kernel_rfl) (fun _ _ _ h => h) rfl ?_ ?_
    rotate_left
    · (intro w hSw; (try dsimp only at hSw); go_simp; try with_reducible rfl)
    try simp only [Act.put, List.setIfInBounds_toArray, List.set_cons_zero, List.set_cons_succ]
    refine wpT_take 8 75 (v := ?_) hHeld.1 hHeld.2 rfl rfl (by kernel_rfl) (fun _ _ _ h => h) rfl ?_ ?_
    rotate_left
    · (intro w hSw; (try dsimp only at hSw); go_simp; try with_reducible rfl)
    try simp only [Act.put, List.setIfInBounds_toArray, List.set_cons_zero, List.set_cons_succ]
    refine wpT_take 9 76 (v := ?_) hHeld.1 hHeld.2 rfl rfl (by kernel_rfl) (fun _ _ _ h => h) rfl ?_ ?_
    rotate_left
    · (intro w hSw; (try dsimp only at hSw); go_simp; try with_reducible rfl)
    try simp only [Act.put, List.setIfInBounds_toArray, List.set_cons_zero, List.set_cons_succ]
    refine wpT_take 10 77 (v := ?_) hHeld.1 hHeld.2 rfl rfl (by kernel_rfl) (fun _ _ _ h => h) rfl ?_ ?_
    rotate_left
    · (intro w hSw; (try dsimp only at hSw); go_simp; try with_reducible rfl)
    try simp only [Act.put, List.setIfInBounds_toArray, List.set_cons_zero, List.set_cons_succ]
    refine wpT_take 11 78 (v := ?_) hHeld.1 hHeld.2 rfl rfl (by kernel_rfl) (fun _ _ _ h => h) rfl ?_ ?_
    rotate_left
    · (intro w hSw; (try dsimp only at hSw); go_simp; try with_reducible rfl)
    try simp only [Act.put, List.setIfInBounds_toArray, List.set_cons_zero, List.set_cons_succ]
    refine wpT_take 12 79 (v := ?_) hHeld.1 hHeld.2 rfl rfl (by kernel_rfl) (fun _ _ _ h => h) rfl ?_ ?_
    rotate_left
    · (intro w hSw; (try dsimp only at hSw); go_simp; try with_reducible rfl)
    try simp only [Act.put, List.setIfInBounds_toArray, List.set_cons_zero, List.set_cons_succ]
    refine wpT_take 13 80 (v := ?_) hHeld.1 hHeld.2 rfl rfl (by kernel_rfl) (fun _ _ _ h => h) rfl ?_ ?_
    rotate_left
    · (intro w hSw; (try dsimp only at hSw); go_simp; try with_reducible rfl)
    try simp only [Act.put, List.setIfInBounds_toArray, List.set_cons_zero, List.set_cons_succ]
    refine wpT_take 14 81 (v := ?_) hHeld.1 hHeld.2 rfl rfl (by kernel_rfl) (fun _ _ _ h => h) rfl ?_ ?_
    rotate_left
    · (intro w hSw; (try dsimp only at hSw); go_simp; try with_reducible rfl)
    try simp only [Act.put, List.setIfInBounds_toArray, List.set_cons_zero, List.set_cons_succ]
    refine wpT_take 15 82 (v := ?_) hHeld.1 hHeld.2 rfl rfl (by kernel_rfl) (fun _ _ _ h => h) rfl ?_ ?_
    rotate_left
    · (intro w hSw; (try dsimp only at hSw); go_simp; try with_reducible rfl)
    try simp only [Act.put, List.setIfInBounds_toArray, List.set_cons_zero, List.set_cons_succ]
    refine wpT_take 16 83 (v := ?_) hHeld.1 hHeld.2 rfl rfl (by kernel_rfl) (fun _ _ _ h => h) rfl ?_ ?_
    rotate_left
    · (intro w hSw; (try dsimp only at hSw); go_simp; try with_reducible rfl)
    try simp only [Act.put, List.setIfInBounds_toArray, List.set_cons_zero, List.set_cons_succ]
    refine wpT_take 17 84 (v := ?_) hHeld.1 hHeld.2 rfl rfl (by kernel_rfl) (fun _ _ _ h => h) rfl ?_ ?_
    rotate_left
    · (intro w hSw; (try dsimp only at hSw); go_simp; try with_reducible rfl)
    try simp only [Act.put, List.setIfInBounds_toArray, List.set_cons_zero, List.set_cons_succ]
    refine wpT_take 18 85 (v := ?_) hHeld.1 hHeld.2 rfl rfl (by kernel_rfl) (fun _ _ _ h => h) rfl ?_ ?_
    rotate_left
    · (intro w hSw; (try dsimp only at hSw); go_simp; try with_reducible rfl)
    try simp only [Act.put, List.setIfInBounds_toArray, List.set_cons_zero, List.set_cons_succ]
    refine wpT_take 19 86 (v := ?_) hHeld.1 hHeld.2 rfl rfl (by kernel_rfl) (fun _ _ _ h => h) rfl ?_ ?_
    rotate_left
    · (intro w hSw; (try dsimp only at hSw); go_simp; try with_reducible rfl)
    try simp only [Act.put, List.setIfInBounds_toArray, List.set_cons_zero, List.set_cons_succ]
    have HJD := Lib.hid HJ.out.drew
    generalize wr.drew = wd at HJD hHeld ⊢
    have f5 := HJD.out.dm.pad.frozen (k := p + j) (by simp only [AdjC.eachK_length]; omega)
    have q5 := HJD.out.dm.pad.cell (k := p + j) (by simp only [AdjC.eachK_length]; omega)
    have HPU := Lib.hid (HJD.out.put (j := p + j) (by simp only [AdjC.eachK_length]; omega) (wrap64 (uq + ur)))
    refine wpT_tail [_, _] 20 [21] rfl (by kernel_rfl) ?_
    clear hHeld i1 i2 i3 wp i4 i5 i6 wq i7 i8 i9 wr2 n0 n1 n2 n3 n4 n5 b1 b2x b3
    go_wp2_with fail
    go_roundw
    case rel => exact ⟨j + 1, by omega, by go_num, by rw [HNX.out]; exact HPU.out⟩
    case measure => simp [intOf]; omega
set_option maxRecDepth 100000 in
set_option maxHeartbeats 8000000 in
theorem Do_sub (W : World) (gp gm : Nat) (Ap Am : Option Addr) (cp cm : Nat) (pad mem : List Int) (a b2 c' v : Int) (n : Nat) (hp : Cr.Mm W Ap gp pad) (hm : Cr.Mm W Am gm mem) (hne : gp ≠ gm) (hl : pad.length ≤ 4096) (hlm : mem.length ≤ 1048576) (hn : n ≤ 4096) (hpa : 0 < n → 0 ≤ a ∧ a + (n : Int) ≤ (pad.length : Int)) (hpb : 0 < n → 0 ≤ b2 ∧ b2 + (n : Int) ≤ (pad.length : Int)) (hpc : 0 < n → 0 ≤ c' ∧ c' + (n : Int) ≤ (pad.length : Int)) :
    Calls Try.prog 22 #[Cr.insV ⟨7, a, b2, c', (n : Int), v⟩, .slice Ap pad.length cp, .slice Am mem.length cm] W fun e w' => e = .returned (.tuple #[]) ∧ Cr.Dm W gp gm Ap Am (AdjC.eachK ⟨7, a, b2, c', (n : Int), v⟩ pad n) mem w' := by
  rw [Cr.insV_eq]
  simp only
  have HP := Lib.hid hp
  have HM := Lib.hid hm
  have HF := Lib.hid (And.intro hpa (And.intro hpb hpc))
  clear hp hm hpa hpb hpc
  obtain ⟨i0, hi, hz0, hz1, hzb⟩ := info_parts Try.infoWord
  have HPR := Lib.hid (fun o o' => Cr.mm_reads ((HP.out.alloc o).alloc o'))
  have HOW := Lib.hid (show ((W.alloc (.cells #[.int .i64 7, .int .i64 a, .int .i64 b2, .int .i64 c', .int .i64 (n : Int), .int .i64 v] 42)).alloc (.cells #[] 2)).ownsRow (W.heap.size + 1) 2 1 (.slice (some ⟨W.heap.size + 1, 0, none⟩) 0 0) 0 [] from by
    have h := Cr.own_none (W.alloc (.cells #[.int .i64 7, .int .i64 a, .int .i64 b2, .int .i64 c', .int .i64 (n : Int), .int .i64 v] 42)) 2
    rwa [World.size_alloc] at h)
  go_enter Try.func22, Try.ntmps22
  go_wp2_with (at_builtin; refine wpList_append_any _ rfl _ _ 31 rfl _ 2 i0 (.int .i64 0) 1 8 Try.underlying31 hi hz0 hz1 hzb rfl (by decide) _ _ _ rfl HOW.out _ _ pad.length cp (ints pad) rfl (HPR.out _ _) (Cr.ints_ones pad) (by unfold maxLen; omega) (by omega) (by simp) ?_)
  intro v' w1 hown' hgrow _
  have hbel : Below (W.heap.size + 1) (W.alloc (.cells #[.int .i64 7, .int .i64 a, .int .i64 b2, .int .i64 c', .int .i64 (n : Int), .int .i64 v] 42)) w1 := (((Below.refl _ _).alloc (by simp) (.cells #[] 2))).grown hgrow (by simp) (fun k hk => by simp [Value.ownBlock] at hk; omega)
  obtain ⟨OA, ocap, rfl, oc1, oc2, hoo⟩ := Cr.own_mm (l := pad) (by simpa using hown')
  have HDE := Lib.hid (show ∃ ob, Cr.De W gp gm Ap Am OA ob ⟨7, a, b2, c', (n : Int), v⟩ pad pad mem w1 from by
    have hb2 : Below W.heap.size W w1 := ((Below.refl _ _).alloc (Nat.le_refl _) _).trans (hbel.mono (by omega))
    have hi2 : Blk w1 W.heap.size 42 #[.int .i64 7, .int .i64 a, .int .i64 b2, .int .i64 c', .int .i64 (n : Int), .int .i64 v] := (Blk.new W _ _).below hbel (by omega)
    have mk : ∀ ob, Cr.Mm w1 OA ob pad → (0 < pad.length → W.heap.size < ob) → Cr.De W gp gm Ap Am OA ob ⟨7, a, b2, c', (n : Int), v⟩ pad pad mem w1 := fun ob h1 h2 =>
      ⟨⟨(Cr.Frm.refl W gp gm _ _).below hb2, HP.out.below hb2, HM.out.below hb2⟩, hi2, h1, h2, fun h => HP.out.lt h, fun h => HM.out.lt h, hne⟩
    rcases hoo with h0 | ⟨g, h1, h2, h3⟩
    · exact ⟨0, mk 0 (fun h => by rw [h0] at h; simp at h) (fun h => by rw [h0] at h; simp at h)⟩
    · exact ⟨g, mk g h3 (fun _ => by omega)⟩)
  obtain ⟨ob, hde⟩ := HDE.out
  have HD := Lib.hid hde
  clear hown' hgrow hbel hoo hi hz0 hz1 hzb HDE hde HPR HOW
  have n4 := HD.out.ins.cell 4
  have n0 := HD.out.ins.cell 0
  go_wp2_with fail
  clear n4 n0
  go_loopw [7] (fun i wr => ∃ j : Nat, j ≤ n ∧ i = .int .i64 (j : Int) ∧ Cr.De W gp gm Ap Am OA ob ⟨7, a, b2, c', (n : Int), v⟩ pad (AdjC.eachK ⟨7, a, b2, c', (n : Int), v⟩ pad j) mem wr) (fun i _ => n - (intOf i).toNat)
  case atStart => exact ⟨0, by omega, rfl, HD.out⟩
  case round =>
    obtain ⟨j, hj, rfl, he⟩ := hrel
    have HJ := Lib.hid he
    clear he
    have n0 := HJ.out.ins.cell 0
    have n4 := HJ.out.ins.cell 4
    by_cases hlt : j < n
    rotate_left
    · obtain rfl : j = n := by omega
      go_wp2_with fail
      go_end0
      exact ⟨rfl, HJ.out.dm⟩
    have n1 := HJ.out.ins.cell 1
    have n2 := HJ.out.ins.cell 2
    have n3 := HJ.out.ins.cell 3
    have n5 := HJ.out.ins.cell 5
    obtain ⟨p, rfl⟩ : ∃ p : Nat, a = (p : Int) := ⟨(a : Int).toNat, by have := HF.out.1 (by omega); omega⟩
    have hpn : p + n ≤ pad.length := by have := HF.out.1 (by omega); omega
    obtain ⟨q, rfl⟩ : ∃ q : Nat, b2 = (q : Int) := ⟨(b2 : Int).toNat, by have := HF.out.2.1 (by omega); omega⟩
    have hqn : q + n ≤ pad.length := by have := HF.out.2.1 (by omega); omega
    obtain ⟨r, rfl⟩ : ∃ r : Nat, c' = (r : Int) := ⟨(c' : Int).toNat, by have := HF.out.2.2 (by omega); omega⟩
    have hrn : r + n ≤ pad.length := by have := HF.out.2.2 (by omega); omega
    have hpj : p + j < pad.length := by omega
    have hAP := HJ.out.dm.pad.some_ (by simp only [AdjC.eachK_length]; omega)
    have hOA := HJ.out.olds.some_ (by omega)
    subst hAP hOA
    have HNX := Lib.hid (Cr.eachK_next ⟨7, (p : Int), (q : Int), (r : Int), (n : Int), v⟩ pad j p rfl)
    have HWV := Lib.hid (show AdjC.word ⟨7, (p : Int), (q : Int), (r : Int), (n : Int), v⟩ pad (j : Int) = AdjC.wordV 7 v (AdjC.at_ pad ((p : Int) + (j : Int))) (AdjC.at_ pad ((q : Int) + (j : Int))) (AdjC.at_ pad ((r : Int) + (j : Int))) from rfl)
    rw [HWV.out] at HNX
    have b1 := HJ.out.olds.cell (k := p + j) (by omega)
    rw [show ((p + j : Nat) : Int) = (p : Int) + (j : Int) by omega] at b1
    obtain ⟨up, hup⟩ : ∃ u, AdjC.at_ pad ((p : Int) + (j : Int)) = u := ⟨_, rfl⟩
    rw [hup] at b1 HNX
    clear hup
    have b2x := HJ.out.olds.cell (k := q + j) (by omega)
    rw [show ((q + j : Nat) : Int) = (q : Int) + (j : Int) by omega] at b2x
    obtain ⟨uq, huq⟩ : ∃ u, AdjC.at_ pad ((q : Int) + (j : Int)) = u := ⟨_, rfl⟩
    rw [huq] at b2x HNX
    clear huq
    have b3 := HJ.out.olds.cell (k := r + j) (by omega)
    rw [show ((r + j : Nat) : Int) = (r : Int) + (j : Int) by omega] at b3
    obtain ⟨ur, hur⟩ : ∃ u, AdjC.at_ pad ((r : Int) + (j : Int)) = u := ⟨_, rfl⟩
    rw [hur] at b3 HNX
    clear hur
    go_wp2_with fail
    have wp : IntKind.i64.wrap ((p : Int) + (j : Int)) = (p : Int) + (j : Int) := IntWalk.i64_in _ (by omega)
    have i1 : (0 : Int) ≤ (p : Int) + (j : Int) := by omega
    have i2 : (p : Int) + (j : Int) < (pad.length : Int) := by omega
    have i3 : ((p : Int) + (j : Int)).toNat = p + j := by omega
    have wq : IntKind.i64.wrap ((q : Int) + (j : Int)) = (q : Int) + (j : Int) := IntWalk.i64_in _ (by omega)
    have i4 : (0 : Int) ≤ (q : Int) + (j : Int) := by omega
    have i5 : (q : Int) + (j : Int) < (pad.length : Int) := by omega
    have i6 : ((q : Int) + (j : Int)).toNat = q + j := by omega
    have wr2 : IntKind.i64.wrap ((r : Int) + (j : Int)) = (r : Int) + (j : Int) := IntWalk.i64_in _ (by omega)
    have i7 : (0 : Int) ≤ (r : Int) + (j : Int) := by omega
    have i8 : (r : Int) + (j : Int) < (pad.length : Int) := by omega
    have i9 : ((r : Int) + (j : Int)).toNat = r + j := by omega
    refine wp_region_T (fun w' => w'.cell? ⟨W.heap.size, 1, none⟩ = some (.int .i64 (p : Int)) ∧ w'.cell? ⟨W.heap.size, 2, none⟩ = some (.int .i64 (q : Int)) ∧ w'.cell? ⟨W.heap.size, 3, none⟩ = some (.int .i64 (r : Int)) ∧ w'.cell? ⟨ob, q + j, none⟩ = some (.int .i64 uq) ∧ w'.cell? ⟨ob, r + j, none⟩ = some (.int .i64 ur)) 20 (fun _ => True) 20 22 rfl (by kernel_rfl) ⟨⟨n1, n2, n3, b2x, b3⟩, trivial⟩ (fun hHeld => ?_)
    simp only [List.replicate_succ, List.replicate_zero]
    refine wpT_take 0 90 (v := ?_) hHeld.1 hHeld.2 rfl rfl (by kernel_rfl) (fun _ _ _ h => h) rfl ?_ ?_
    rotate_left
    · (intro w hSw; (try dsimp only at hSw); go_simp; try with_reducible rfl)
    try simp only [Act.put, List.setIfInBounds_toArray, List.set_cons_zero, List.set_cons_succ]
    refine wpT_take 1 91 (v := ?_) hHeld.1 hHeld.2 rfl rfl (by kernel_rfl) (fun _ _ _ h => h) rfl ?_ ?_
    rotate_left
    · (intro w hSw; (try dsimp only at hSw); go_simp; try with_reducible rfl)
    try simp only [Act.put, List.setIfInBounds_toArray, List.set_cons_zero, List.set_cons_succ]
    refine wpT_take 2 92 (v := ?_) hHeld.1 hHeld.2 rfl rfl (by kernel_rfl) (fun _ _ _ h => h) rfl ?_ ?_
    rotate_left
    · (intro w hSw; (try dsimp only at hSw); go_simp; try with_reducible rfl)
    try simp only [Act.put, List.setIfInBounds_toArray, List.set_cons_zero, List.set_cons_succ]
    refine wpT_take 3 93 (v := ?_) hHeld.1 hHeld.2 rfl rfl (by kernel_rfl) (fun _ _ _ h => h) rfl ?_ ?_
    rotate_left
    · (intro w hSw; (try dsimp only at hSw); go_simp; try with_reducible rfl)
    try simp only [Act.put, List.setIfInBounds_toArray, List.set_cons_zero, List.set_cons_succ]
    refine wpT_take 4 94 (v := ?_) hHeld.1 hHeld.2 rfl rfl (by kernel_rfl) (fun _ _ _ h => h) rfl ?_ ?_
    rotate_left
    · (intro w hSw; (try dsimp only at hSw); go_simp; try with_reducible rfl)
    try simp only [Act.put, List.setIfInBounds_toArray, List.set_cons_zero, List.set_cons_succ]
    refine wpT_take 5 95 (v := ?_) hHeld.1 hHeld.2 rfl rfl (by kernel_rfl) (fun _ _ _ h => h) rfl ?_ ?_
    rotate_left
    · (intro w hSw; (try dsimp only at hSw); go_simp; try with_reducible rfl)
    try simp only [Act.put, List.setIfInBounds_toArray, List.set_cons_zero, List.set_cons_succ]
    refine wpT_take 6 96 (v := ?_) hHeld.1 hHeld.2 rfl rfl (by kernel_rfl) (fun _ _ _ h => h) rfl ?_ ?_
    rotate_left
    · (intro w hSw; (try dsimp only at hSw); go_simp; try with_reducible rfl)
    try simp only [Act.put, List.setIfInBounds_toArray, List.set_cons_zero, List.set_cons_succ]
    refine wpT_take 7 97 (v := ?_) hHeld.1 hHeld.2 rfl rfl (by kernel_rfl) (fun _ _ _ h => h) rfl ?_ ?_
    rotate_left
    · (intro w hSw; (try dsimp only at hSw); go_simp; try with_reducible rfl)
    try simp only [Act.put, List.setIfInBounds_toArray, List.set_cons_zero, List.set_cons_succ]
    refine wpT_take 8 98 (v := ?_) hHeld.1 hHeld.2 rfl rfl (by kernel_rfl) (fun _ _ _ h => h) rfl ?_ ?_
    rotate_left
    · (intro w hSw; (try dsimp only at hSw); go_simp; try with_reducible rfl)
    try simp only [Act.put, List.setIfInBounds_toArray, List.set_cons_zero, List.set_cons_succ]
    refine wpT_take 9 99 (v := ?_) hHeld.1 hHeld.2 rfl rfl (by kernel_rfl) (fun _ _ _ h => h) rfl ?_ ?_
    rotate_left
    · (intro w hSw; (try dsimp only at hSw); go_simp; try with_reducible rfl)
    try simp only [Act.put, List.setIfInBounds_toArray, List.set_cons_zero, List.set_cons_succ]
    refine wpT_take 10 100 (v := ?_) hHeld.1 hHeld.2 rfl rfl (by kernel_rfl) (fun _ _ _ h => h) rfl ?_ ?_
    rotate_left
    · (intro w hSw; (try dsimp only at hSw); go_simp; try with_reducible rfl)
    try simp only [Act.put, List.setIfInBounds_toArray, List.set_cons_zero, List.set_cons_succ]
    refine wpT_take 11 101 (v := ?_) hHeld.1 hHeld.2 rfl rfl (by kernel_rfl) (fun _ _ _ h => h) rfl ?_ ?_
    rotate_left
    · (intro w hSw; (try dsimp only at hSw); go_simp; try with_reducible rfl)
    try simp only [Act.put, List.setIfInBounds_toArray, List.set_cons_zero, List.set_cons_succ]
    refine wpT_take 12 102 (v := ?_) hHeld.1 hHeld.2 rfl rfl (by kernel_rfl) (fun _ _ _ h => h) rfl ?_ ?_
    rotate_left
    · (intro w hSw; (try dsimp only at hSw); go_simp; try with_reducible rfl)
    try simp only [Act.put, List.setIfInBounds_toArray, List.set_cons_zero, List.set_cons_succ]
    refine wpT_take 13 103 (v := ?_) hHeld.1 hHeld.2 rfl rfl (by kernel_rfl) (fun _ _ _ h => h) rfl ?_ ?_
    rotate_left
    · (intro w hSw; (try dsimp only at hSw); go_simp; try with_reducible rfl)
    try simp only [Act.put, List.setIfInBounds_toArray, List.set_cons_zero, List.set_cons_succ]
    refine wpT_take 14 104 (v := ?_) hHeld.1 hHeld.2 rfl rfl (by kernel_rfl) (fun _ _ _ h => h) rfl ?_ ?_
    rotate_left
    · (intro w hSw; (try dsimp only at hSw); go_simp; try with_reducible rfl)
    try simp only [Act.put, List.setIfInBounds_toArray, List.set_cons_zero, List.set_cons_succ]
    refine wpT_take 15 105 (v := ?_) hHeld.1 hHeld.2 rfl rfl (by kernel_rfl) (fun _ _ _ h => h) rfl ?_ ?_
    rotate_left
    · (intro w hSw; (try dsimp only at hSw); go_simp; try with_reducible rfl)
    try simp only [Act.put, List.setIfInBounds_toArray, List.set_cons_zero, List.set_cons_succ]
    refine wpT_take 16 106 (v := ?_) hHeld.1 hHeld.2 rfl rfl (by kernel_rfl) (fun _ _ _ h => h) rfl ?_ ?_
    rotate_left
    · (intro w hSw; (try dsimp only at hSw); go_simp; try with_reducible rfl)
    try simp only [Act.put, List.setIfInBounds_toArray, List.set_cons_zero, List.set_cons_succ]
    refine wpT_take 17 107 (v := ?_) hHeld.1 hHeld.2 rfl rfl (by kernel_rfl) (fun _ _ _ h => h) rfl ?_ ?_
    rotate_left
    · (intro w hSw; (try dsimp only at hSw); go_simp; try with_reducible rfl)
    try simp only [Act.put, List.setIfInBounds_toArray, List.set_cons_zero, List.set_cons_succ]
    refine wpT_take 18 108 (v := ?_) hHeld.1 hHeld.2 rfl rfl (by kernel_rfl) (fun _ _ _ h => h) rfl ?_ ?_
    rotate_left
    · (intro w hSw; (try dsimp only at hSw); go_simp; try with_reducible rfl)
    try simp only [Act.put, List.setIfInBounds_toArray, List.set_cons_zero, List.set_cons_succ]
    refine wpT_take 19 109 (v := ?_) hHeld.1 hHeld.2 rfl rfl (by kernel_rfl) (fun _ _ _ h => h) rfl ?_ ?_
    rotate_left
    · (intro w hSw; (try dsimp only at hSw); go_simp; try with_reducible rfl)
    try simp only [Act.put, List.setIfInBounds_toArray, List.set_cons_zero, List.set_cons_succ]
    have HJD := Lib.hid HJ.out.drew
    generalize wr.drew = wd at HJD hHeld ⊢
    have f5 := HJD.out.dm.pad.frozen (k := p + j) (by simp only [AdjC.eachK_length]; omega)
    have q5 := HJD.out.dm.pad.cell (k := p + j) (by simp only [AdjC.eachK_length]; omega)
    have HPU := Lib.hid (HJD.out.put (j := p + j) (by simp only [AdjC.eachK_length]; omega) (wrap64 (uq - ur)))
    refine wpT_tail [_, _] 20 [21] rfl (by kernel_rfl) ?_
    clear hHeld i1 i2 i3 wp i4 i5 i6 wq i7 i8 i9 wr2 n0 n1 n2 n3 n4 n5 b1 b2x b3
    go_wp2_with fail
    go_roundw
    case rel => exact ⟨j + 1, by omega, by go_num, by rw [HNX.out]; exact HPU.out⟩
    case measure => simp [intOf]; omega
set_option maxRecDepth 100000 in
set_option maxHeartbeats 8000000 in
theorem Do_mul (W : World) (gp gm : Nat) (Ap Am : Option Addr) (cp cm : Nat) (pad mem : List Int) (a b2 c' v : Int) (n : Nat) (hp : Cr.Mm W Ap gp pad) (hm : Cr.Mm W Am gm mem) (hne : gp ≠ gm) (hl : pad.length ≤ 4096) (hlm : mem.length ≤ 1048576) (hn : n ≤ 4096) (hpa : 0 < n → 0 ≤ a ∧ a + (n : Int) ≤ (pad.length : Int)) (hpb : 0 < n → 0 ≤ b2 ∧ b2 + (n : Int) ≤ (pad.length : Int)) (hpc : 0 < n → 0 ≤ c' ∧ c' + (n : Int) ≤ (pad.length : Int)) :
    Calls Try.prog 22 #[Cr.insV ⟨8, a, b2, c', (n : Int), v⟩, .slice Ap pad.length cp, .slice Am mem.length cm] W fun e w' => e = .returned (.tuple #[]) ∧ Cr.Dm W gp gm Ap Am (AdjC.eachK ⟨8, a, b2, c', (n : Int), v⟩ pad n) mem w' := by
  rw [Cr.insV_eq]
  simp only
  have HP := Lib.hid hp
  have HM := Lib.hid hm
  have HF := Lib.hid (And.intro hpa (And.intro hpb hpc))
  clear hp hm hpa hpb hpc
  obtain ⟨i0, hi, hz0, hz1, hzb⟩ := info_parts Try.infoWord
  have HPR := Lib.hid (fun o o' => Cr.mm_reads ((HP.out.alloc o).alloc o'))
  have HOW := Lib.hid (show ((W.alloc (.cells #[.int .i64 8, .int .i64 a, .int .i64 b2, .int .i64 c', .int .i64 (n : Int), .int .i64 v] 42)).alloc (.cells #[] 2)).ownsRow (W.heap.size + 1) 2 1 (.slice (some ⟨W.heap.size + 1, 0, none⟩) 0 0) 0 [] from by
    have h := Cr.own_none (W.alloc (.cells #[.int .i64 8, .int .i64 a, .int .i64 b2, .int .i64 c', .int .i64 (n : Int), .int .i64 v] 42)) 2
    rwa [World.size_alloc] at h)
  go_enter Try.func22, Try.ntmps22
  go_wp2_with (at_builtin; refine wpList_append_any _ rfl _ _ 31 rfl _ 2 i0 (.int .i64 0) 1 8 Try.underlying31 hi hz0 hz1 hzb rfl (by decide) _ _ _ rfl HOW.out _ _ pad.length cp (ints pad) rfl (HPR.out _ _) (Cr.ints_ones pad) (by unfold maxLen; omega) (by omega) (by simp) ?_)
  intro v' w1 hown' hgrow _
  have hbel : Below (W.heap.size + 1) (W.alloc (.cells #[.int .i64 8, .int .i64 a, .int .i64 b2, .int .i64 c', .int .i64 (n : Int), .int .i64 v] 42)) w1 := (((Below.refl _ _).alloc (by simp) (.cells #[] 2))).grown hgrow (by simp) (fun k hk => by simp [Value.ownBlock] at hk; omega)
  obtain ⟨OA, ocap, rfl, oc1, oc2, hoo⟩ := Cr.own_mm (l := pad) (by simpa using hown')
  have HDE := Lib.hid (show ∃ ob, Cr.De W gp gm Ap Am OA ob ⟨8, a, b2, c', (n : Int), v⟩ pad pad mem w1 from by
    have hb2 : Below W.heap.size W w1 := ((Below.refl _ _).alloc (Nat.le_refl _) _).trans (hbel.mono (by omega))
    have hi2 : Blk w1 W.heap.size 42 #[.int .i64 8, .int .i64 a, .int .i64 b2, .int .i64 c', .int .i64 (n : Int), .int .i64 v] := (Blk.new W _ _).below hbel (by omega)
    have mk : ∀ ob, Cr.Mm w1 OA ob pad → (0 < pad.length → W.heap.size < ob) → Cr.De W gp gm Ap Am OA ob ⟨8, a, b2, c', (n : Int), v⟩ pad pad mem w1 := fun ob h1 h2 =>
      ⟨⟨(Cr.Frm.refl W gp gm _ _).below hb2, HP.out.below hb2, HM.out.below hb2⟩, hi2, h1, h2, fun h => HP.out.lt h, fun h => HM.out.lt h, hne⟩
    rcases hoo with h0 | ⟨g, h1, h2, h3⟩
    · exact ⟨0, mk 0 (fun h => by rw [h0] at h; simp at h) (fun h => by rw [h0] at h; simp at h)⟩
    · exact ⟨g, mk g h3 (fun _ => by omega)⟩)
  obtain ⟨ob, hde⟩ := HDE.out
  have HD := Lib.hid hde
  clear hown' hgrow hbel hoo hi hz0 hz1 hzb HDE hde HPR HOW
  have n4 := HD.out.ins.cell 4
  have n0 := HD.out.ins.cell 0
  go_wp2_with fail
  clear n4 n0
  go_loopw [7] (fun i wr => ∃ j : Nat, j ≤ n ∧ i = .int .i64 (j : Int) ∧ Cr.De W gp gm Ap Am OA ob ⟨8, a, b2, c', (n : Int), v⟩ pad (AdjC.eachK ⟨8, a, b2, c', (n : Int), v⟩ pad j) mem wr) (fun i _ => n - (intOf i).toNat)
  case atStart => exact ⟨0, by omega, rfl, HD.out⟩
  case round =>
    obtain ⟨j, hj, rfl, he⟩ := hrel
    have HJ := Lib.hid he
    clear he
    have n0 := HJ.out.ins.cell 0
    have n4 := HJ.out.ins.cell 4
    by_cases hlt : j < n
    rotate_left
    · obtain rfl : j = n := by omega
      go_wp2_with fail
      go_end0
      exact ⟨rfl, HJ.out.dm⟩
    have n1 := HJ.out.ins.cell 1
    have n2 := HJ.out.ins.cell 2
    have n3 := HJ.out.ins.cell 3
    have n5 := HJ.out.ins.cell 5
    obtain ⟨p, rfl⟩ : ∃ p : Nat, a = (p : Int) := ⟨(a : Int).toNat, by have := HF.out.1 (by omega); omega⟩
    have hpn : p + n ≤ pad.length := by have := HF.out.1 (by omega); omega
    obtain ⟨q, rfl⟩ : ∃ q : Nat, b2 = (q : Int) := ⟨(b2 : Int).toNat, by have := HF.out.2.1 (by omega); omega⟩
    have hqn : q + n ≤ pad.length := by have := HF.out.2.1 (by omega); omega
    obtain ⟨r, rfl⟩ : ∃ r : Nat, c' = (r : Int) := ⟨(c' : Int).toNat, by have := HF.out.2.2 (by omega); omega⟩
    have hrn : r + n ≤ pad.length := by have := HF.out.2.2 (by omega); omega
    have hpj : p + j < pad.length := by omega
    have hAP := HJ.out.dm.pad.some_ (by simp only [AdjC.eachK_length]; omega)
    have hOA := HJ.out.olds.some_ (by omega)
    subst hAP hOA
    have HNX := Lib.hid (Cr.eachK_next ⟨8, (p : Int), (q : Int), (r : Int), (n : Int), v⟩ pad j p rfl)
    have HWV := Lib.hid (show AdjC.word ⟨8, (p : Int), (q : Int), (r : Int), (n : Int), v⟩ pad (j : Int) = AdjC.wordV 8 v (AdjC.at_ pad ((p : Int) + (j : Int))) (AdjC.at_ pad ((q : Int) + (j : Int))) (AdjC.at_ pad ((r : Int) + (j : Int))) from rfl)
    rw [HWV.out] at HNX
    have b1 := HJ.out.olds.cell (k := p + j) (by omega)
    rw [show ((p + j : Nat) : Int) = (p : Int) + (j : Int) by omega] at b1
    obtain ⟨up, hup⟩ : ∃ u, AdjC.at_ pad ((p : Int) + (j : Int)) = u := ⟨_, rfl⟩
    rw [hup] at b1 HNX
    clear hup
    have b2x := HJ.out.olds.cell (k := q + j) (by omega)
    rw [show ((q + j : Nat) : Int) = (q : Int) + (j : Int) by omega] at b2x
    obtain ⟨uq, huq⟩ : ∃ u, AdjC.at_ pad ((q : Int) + (j : Int)) = u := ⟨_, rfl⟩
    rw [huq] at b2x HNX
    clear huq
    have b3 := HJ.out.olds.cell (k := r + j) (by omega)
    rw [show ((r + j : Nat) : Int) = (r : Int) + (j : Int) by omega] at b3
    obtain ⟨ur, hur⟩ : ∃ u, AdjC.at_ pad ((r : Int) + (j : Int)) = u := ⟨_, rfl⟩
    rw [hur] at b3 HNX
    clear hur
    go_wp2_with fail
    have wp : IntKind.i64.wrap ((p : Int) + (j : Int)) = (p : Int) + (j : Int) := IntWalk.i64_in _ (by omega)
    have i1 : (0 : Int) ≤ (p : Int) + (j : Int) := by omega
    have i2 : (p : Int) + (j : Int) < (pad.length : Int) := by omega
    have i3 : ((p : Int) + (j : Int)).toNat = p + j := by omega
    have wq : IntKind.i64.wrap ((q : Int) + (j : Int)) = (q : Int) + (j : Int) := IntWalk.i64_in _ (by omega)
    have i4 : (0 : Int) ≤ (q : Int) + (j : Int) := by omega
    have i5 : (q : Int) + (j : Int) < (pad.length : Int) := by omega
    have i6 : ((q : Int) + (j : Int)).toNat = q + j := by omega
    have wr2 : IntKind.i64.wrap ((r : Int) + (j : Int)) = (r : Int) + (j : Int) := IntWalk.i64_in _ (by omega)
    have i7 : (0 : Int) ≤ (r : Int) + (j : Int) := by omega
    have i8 : (r : Int) + (j : Int) < (pad.length : Int) := by omega
    have i9 : ((r : Int) + (j : Int)).toNat = r + j := by omega
    refine wp_region_T (fun w' => w'.cell? ⟨W.heap.size, 1, none⟩ = some (.int .i64 (p : Int)) ∧ w'.cell? ⟨W.heap.size, 2, none⟩ = some (.int .i64 (q : Int)) ∧ w'.cell? ⟨W.heap.size, 3, none⟩ = some (.int .i64 (r : Int)) ∧ w'.cell? ⟨ob, q + j, none⟩ = some (.int .i64 uq) ∧ w'.cell? ⟨ob, r + j, none⟩ = some (.int .i64 ur)) 20 (fun _ => True) 20 22 rfl (by kernel_rfl) ⟨⟨n1, n2, n3, b2x, b3⟩, trivial⟩ (fun hHeld => ?_)
    simp only [List.replicate_succ, List.replicate_zero]
    refine wpT_take 0 113 (v := ?_) hHeld.1 hHeld.2 rfl rfl (by kernel_rfl) (fun _ _ _ h => h) rfl ?_ ?_
    rotate_left
    · (intro w hSw; (try dsimp only at hSw); go_simp; try with_reducible rfl)
    try simp only [Act.put, List.setIfInBounds_toArray, List.set_cons_zero, List.set_cons_succ]
    refine wpT_take 1 114 (v := ?_) hHeld.1 hHeld.2 rfl rfl (by kernel_rfl) (fun _ _ _ h => h) rfl ?_ ?_
    rotate_left
    · (intro w hSw; (try dsimp only at hSw); go_simp; try with_reducible rfl)
    try simp only [Act.put, List.setIfInBounds_toArray, List.set_cons_zero, List.set_cons_succ]
    refine wpT_take 2 115 (v := ?_) hHeld.1 hHeld.2 rfl rfl (by kernel_rfl) (fun _ _ _ h => h) rfl ?_ ?_
    rotate_left
    · (intro w hSw; (try dsimp only at hSw); go_simp; try with_reducible rfl)
    try simp only [Act.put, List.setIfInBounds_toArray, List.set_cons_zero, List.set_cons_succ]
    refine wpT_take 3 116 (v := ?_) hHeld.1 hHeld.2 rfl rfl (by kernel_rfl) (fun _ _ _ h => h) rfl ?_ ?_
    rotate_left
    · (intro w hSw; (try dsimp only at hSw); go_simp; try with_reducible rfl)
    try simp only [Act.put, List.setIfInBounds_toArray, List.set_cons_zero, List.set_cons_succ]
    refine wpT_take 4 117 (v := ?_) hHeld.1 hHeld.2 rfl rfl (by kernel_rfl) (fun _ _ _ h => h) rfl ?_ ?_
    rotate_left
    · (intro w hSw; (try dsimp only at hSw); go_simp; try with_reducible rfl)
    try simp only [Act.put, List.setIfInBounds_toArray, List.set_cons_zero, List.set_cons_succ]
    refine wpT_take 5 118 (v := ?_) hHeld.1 hHeld.2 rfl rfl (by kernel_rfl) (fun _ _ _ h => h) rfl ?_ ?_
    rotate_left
    · (intro w hSw; (try dsimp only at hSw); go_simp; try with_reducible rfl)
    try simp only [Act.put, List.setIfInBounds_toArray, List.set_cons_zero, List.set_cons_succ]
    refine wpT_take 6 119 (v := ?_) hHeld.1 hHeld.2 rfl rfl (by kernel_rfl) (fun _ _ _ h => h) rfl ?_ ?_
    rotate_left
    · (intro w hSw; (try dsimp only at hSw); go_simp; try with_reducible rfl)
    try simp only [Act.put, List.setIfInBounds_toArray, List.set_cons_zero, List.set_cons_succ]
    refine wpT_take 7 120 (v := ?_) hHeld.1 hHeld.2 rfl rfl (by kernel_rfl) (fun _ _ _ h => h) rfl ?_ ?_
    rotate_left
    · (intro w hSw; (try dsimp only at hSw); go_simp; try with_reducible rfl)
    try simp only [Act.put, List.setIfInBounds_toArray, List.set_cons_zero, List.set_cons_succ]
    refine wpT_take 8 121 (v := ?_) hHeld.1 hHeld.2 rfl rfl (by kernel_rfl) (fun _ _ _ h => h) rfl ?_ ?_
    rotate_left
    · (intro w hSw; (try dsimp only at hSw); go_simp; try with_reducible rfl)
    try simp only [Act.put, List.setIfInBounds_toArray, List.set_cons_zero, List.set_cons_succ]
    refine wpT_take 9 122 (v := ?_) hHeld.1 hHeld.2 rfl rfl (by kernel_rfl) (fun _ _ _ h => h) rfl ?_ ?_
    rotate_left
    · (intro w hSw; (try dsimp only at hSw); go_simp; try with_reducible rfl)
    try simp only [Act.put, List.setIfInBounds_toArray, List.set_cons_zero, List.set_cons_succ]
    refine wpT_take 10 123 (v := ?_) hHeld.1 hHeld.2 rfl rfl (by kernel_rfl) (fun _ _ _ h => h) rfl ?_ ?_
    rotate_left
    · (intro w hSw; (try dsimp only at hSw); go_simp; try with_reducible rfl)
    try simp only [Act.put, List.setIfInBounds_toArray, List.set_cons_zero, List.set_cons_succ]
    refine wpT_take 11 124 (v := ?_) hHeld.1 hHeld.2 rfl rfl (by kernel_rfl) (fun _ _ _ h => h) rfl ?_ ?_
    rotate_left
    · (intro w hSw; (try dsimp only at hSw); go_simp; try with_reducible rfl)
    try simp only [Act.put, List.setIfInBounds_toArray, List.set_cons_zero, List.set_cons_succ]
    refine wpT_take 12 125 (v := ?_) hHeld.1 hHeld.2 rfl rfl (by kernel_rfl) (fun _ _ _ h => h) rfl ?_ ?_
    rotate_left
    · (intro w hSw; (try dsimp only at hSw); go_simp; try with_reducible rfl)
    try simp only [Act.put, List.setIfInBounds_toArray, List.set_cons_zero, List.set_cons_succ]
    refine wpT_take 13 126 (v := ?_) hHeld.1 hHeld.2 rfl rfl (by kernel_rfl) (fun _ _ _ h => h) rfl ?_ ?_
    rotate_left
    · (intro w hSw; (try dsimp only at hSw); go_simp; try with_reducible rfl)
    try simp only [Act.put, List.setIfInBounds_toArray, List.set_cons_zero, List.set_cons_succ]
    refine wpT_take 14 127 (v := ?_) hHeld.1 hHeld.2 rfl rfl (by kernel_rfl) (fun _ _ _ h => h) rfl ?_ ?_
    rotate_left
    · (intro w hSw; (try dsimp only at hSw); go_simp; try with_reducible rfl)
    try simp only [Act.put, List.setIfInBounds_toArray, List.set_cons_zero, List.set_cons_succ]
    refine wpT_take 15 128 (v := ?_) hHeld.1 hHeld.2 rfl rfl (by kernel_rfl) (fun _ _ _ h => h) rfl ?_ ?_
    rotate_left
    · (intro w hSw; (try dsimp only at hSw); go_simp; try with_reducible rfl)
    try simp only [Act.put, List.setIfInBounds_toArray, List.set_cons_zero, List.set_cons_succ]
    refine wpT_take 16 129 (v := ?_) hHeld.1 hHeld.2 rfl rfl (by kernel_rfl) (fun _ _ _ h => h) rfl ?_ ?_
    rotate_left
    · (intro w hSw; (try dsimp only at hSw); go_simp; try with_reducible rfl)
    try simp only [Act.put, List.setIfInBounds_toArray, List.set_cons_zero, List.set_cons_succ]
    refine wpT_take 17 130 (v := ?_) hHeld.1 hHeld.2 rfl rfl (by kernel_rfl) (fun _ _ _ h => h) rfl ?_ ?_
    rotate_left
    · (intro w hSw; (try dsimp only at hSw); go_simp; try with_reducible rfl)
    try simp only [Act.put, List.setIfInBounds_toArray, List.set_cons_zero, List.set_cons_succ]
    refine wpT_take 18 131 (v := ?_) hHeld.1 hHeld.2 rfl rfl (by kernel_rfl) (fun _ _ _ h => h) rfl ?_ ?_
    rotate_left
    · (intro w hSw; (try dsimp only at hSw); go_simp; try with_reducible rfl)
    try simp only [Act.put, List.setIfInBounds_toArray, List.set_cons_zero, List.set_cons_succ]
    refine wpT_take 19 132 (v := ?_) hHeld.1 hHeld.2 rfl rfl (by kernel_rfl) (fun _ _ _ h => h) rfl ?_ ?_
    rotate_left
    · (intro w hSw; (try dsimp only at hSw); go_simp; try with_reducible rfl)
    try simp only [Act.put, List.setIfInBounds_toArray, List.set_cons_zero, List.set_cons_succ]
    have HJD := Lib.hid HJ.out.drew
    generalize wr.drew = wd at HJD hHeld ⊢
    have f5 := HJD.out.dm.pad.frozen (k := p + j) (by simp only [AdjC.eachK_length]; omega)
    have q5 := HJD.out.dm.pad.cell (k := p + j) (by simp only [AdjC.eachK_length]; omega)
    have HPU := Lib.hid (HJD.out.put (j := p + j) (by simp only [AdjC.eachK_length]; omega) (wrap64 (uq * ur)))
    refine wpT_tail [_, _] 20 [21] rfl (by kernel_rfl) ?_
    clear hHeld i1 i2 i3 wp i4 i5 i6 wq i7 i8 i9 wr2 n0 n1 n2 n3 n4 n5 b1 b2x b3
    go_wp2_with fail
    go_roundw
    case rel => exact ⟨j + 1, by omega, by go_num, by rw [HNX.out]; exact HPU.out⟩
    case measure => simp [intOf]; omega
end Go.Proofs.Ytlnfmipcbhhkhaa
