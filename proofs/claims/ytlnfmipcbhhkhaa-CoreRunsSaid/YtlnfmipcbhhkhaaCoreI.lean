/-
  The walk of ahead. Conditions: both lists can be read, are no longer than code may be, and name semaphores that there are.
-/
import Derived.Test.YtlnfmipcbhhkhaaCoreH
namespace Go.Proofs.Ytlnfmipcbhhkhaa
set_option linter.unusedVariables false
open Go.RowKit Adj

theorem made_zero (c : Nat) : madeCells (Value.int .i64 0).cells c = (Adj.ints (List.replicate c 0)).toArray := by
  apply Array.ext
  · simp [size_madeCells, Adj.ints]
  · intro i h1 h2
    simp [madeCells, Adj.ints, Value.cells, Nat.mod_one]
theorem run_make_int (c : Nat) (h : c ≤ 1048576) (w : World) :
    (Instr.makeSlice 32 (.int .i64 (c : Int)) (.int .i64 (c : Int))).run Try.prog w = .ok (.slice (some ⟨w.heap.size, 0, none⟩) c c) (w.alloc (.cells (Adj.ints (List.replicate c 0)).toArray 3)) := by
  rw [← made_zero]
  obtain ⟨i0, hi, hz0, hz1, hz2⟩ := info_parts Try.infoNum
  have hb : (i0.bytes : Int) * (c : Int) ≤ 281474976710656 := by rw [hz2]; omega
  have hr := run_make (P := Try.prog) w 32 3 i0 _ Try.underlying32 hi hz0 .i64 .i64 c c (by omega) (by omega) hb (by omega)
  simp only [Int.toNat_natCast, hz1, Nat.mul_one] at hr
  exact hr
namespace Cr
/-- What ahead has counted and told so far. -/
def Aw (W0 : World) (Bw Bo : Nat) (own other : List AdjC.I) (k : Nat) (wr : World) : Prop :=
  Below W0.heap.size W0 wr ∧ (W0.heap.size ≤ Bw ∧ W0.heap.size ≤ Bo ∧ Bw ≠ Bo) ∧ Blk wr Bw 47 (Adj.ints ((List.range 16).map fun s : Nat => (AdjC.cnt (own.take k) (s : Int) : Int))).toArray ∧
    Blk wr Bo 3 (Adj.ints ((List.range own.length).map fun j => if j < k then AdjC.nowK own other (j + 1) else 0)).toArray
theorem range_set (f : Nat → Int) (m j : Nat) (v : Int) : ((List.range m).map f).set j v = (List.range m).map fun t => if t = j then v else f t := by
  apply List.ext_getElem?
  intro i
  rw [List.getElem?_set]
  by_cases hi : i < m
  · by_cases e : j = i
    · subst e; simp [hi]
    · rw [if_neg e]; simp [hi, Ne.symm e]
  · by_cases e : j = i
    · subst e; simp [hi]
    · rw [if_neg e]; simp [hi]
section
variable {W0 wr : World} {Bw Bo k : Nat} {own other : List AdjC.I}
theorem Aw.alloc (h : Aw W0 Bw Bo own other k wr) (o : Obj) : Aw W0 Bw Bo own other k (wr.alloc o) := ⟨h.1.alloc h.1.size o, h.2.1, h.2.2.1.alloc o, h.2.2.2.alloc o⟩
theorem Aw.out (h : Aw W0 Bw Bo own other k wr) (hk : k < own.length) {v : Int} (hv : v = AdjC.nowK own other (k + 1)) (hc : ∀ s : Nat, s < 16 → AdjC.cnt (own.take (k + 1)) (s : Int) = AdjC.cnt (own.take k) (s : Int)) :
    Aw W0 Bw Bo own other (k + 1) (wr.setCell ⟨Bo, k, none⟩ (.int .i64 v)) := by
  obtain ⟨h1, ⟨h2, h3, h4⟩, h5, h6⟩ := h
  refine ⟨h1.setCell (p := ⟨Bo, k, none⟩) h3 _, ⟨h2, h3, h4⟩, ?_, ?_⟩
  · have e : (List.range 16).map (fun s : Nat => (AdjC.cnt (own.take (k + 1)) (s : Int) : Int)) = (List.range 16).map (fun s : Nat => (AdjC.cnt (own.take k) (s : Int) : Int)) :=
      List.map_congr_left (fun s hs => by rw [hc s (by simpa using hs)])
    rw [e]
    exact h5.far (p := ⟨Bo, k, none⟩) h4 _
  · have := h6.set_ k (.int .i64 v)
    rw [Adj.ints_set, range_set] at this
    have e : (List.range own.length).map (fun j => if j < k + 1 then AdjC.nowK own other (j + 1) else 0) = (List.range own.length).map (fun t => if t = k then v else if t < k then AdjC.nowK own other (t + 1) else 0) :=
      List.map_congr_left (fun j hj => by
        by_cases e1 : j = k
        · subst e1; rw [if_pos (by omega), if_pos rfl, hv]
        · rw [if_neg e1]
          by_cases e2 : j < k
          · rw [if_pos (by omega), if_pos e2]
          · rw [if_neg (by omega), if_neg e2])
    rw [e]
    exact this
theorem Aw.count (h : Aw W0 Bw Bo own other k wr) {s : Nat} (hk : k < own.length) (hs : s < 16) {v w : Int} (hw : w = (AdjC.cnt (own.take k) (s : Int) : Int) + 1) (hv : v = AdjC.nowK own other (k + 1)) (hc : ∀ t : Nat, t < 16 → AdjC.cnt (own.take (k + 1)) (t : Int) = if t = s then AdjC.cnt (own.take k) (s : Int) + 1 else AdjC.cnt (own.take k) (t : Int)) :
    Aw W0 Bw Bo own other (k + 1) ((wr.setCell ⟨Bw, s, none⟩ (.int .i64 w)).setCell ⟨Bo, k, none⟩ (.int .i64 v)) := by
  obtain ⟨h1, ⟨h2, h3, h4⟩, h5, h6⟩ := h
  refine ⟨(h1.setCell (p := ⟨Bw, s, none⟩) h2 _).setCell (p := ⟨Bo, k, none⟩) h3 _, ⟨h2, h3, h4⟩, ?_, ?_⟩
  · have := (h5.set_ s (.int .i64 w)).far (p := ⟨Bo, k, none⟩) h4 (.int .i64 v)
    rw [Adj.ints_set, range_set] at this
    have e : (List.range 16).map (fun t : Nat => (AdjC.cnt (own.take (k + 1)) (t : Int) : Int)) = (List.range 16).map (fun t => if t = s then w else (AdjC.cnt (own.take k) (t : Int) : Int)) :=
      List.map_congr_left (fun t ht => by
        rw [hc t (by simpa using ht)]
        by_cases e1 : t = s
        · rw [if_pos e1, if_pos e1, hw]; rfl
        · rw [if_neg e1, if_neg e1])
    rw [e]
    exact this
  · have := (h6.far (p := ⟨Bw, s, none⟩) (Ne.symm h4) (.int .i64 w)).set_ k (.int .i64 v)
    rw [Adj.ints_set, range_set] at this
    have e : (List.range own.length).map (fun j => if j < k + 1 then AdjC.nowK own other (j + 1) else 0) = (List.range own.length).map (fun t => if t = k then v else if t < k then AdjC.nowK own other (t + 1) else 0) :=
      List.map_congr_left (fun j hj => by
        by_cases e1 : j = k
        · subst e1; rw [if_pos (by omega), if_pos rfl, hv]
        · rw [if_neg e1]
          by_cases e2 : j < k
          · rw [if_pos (by omega), if_pos e2]
          · rw [if_neg (by omega), if_neg e2])
    rw [e]
    exact this
theorem Aw.cnt_cell (h : Aw W0 Bw Bo own other k wr) {s : Nat} (hs : s < 16) : wr.cell? ⟨Bw, s, none⟩ = some (.int .i64 (AdjC.cnt (own.take k) (s : Int) : Int)) := by
  rw [h.2.2.1.cell]; simp [Adj.ints, hs]
theorem Aw.out_cell (h : Aw W0 Bw Bo own other k wr) (hk : k < own.length) : wr.cell? ⟨Bo, k, none⟩ = some (.int .i64 0) := by
  rw [h.2.2.2.cell]; simp [Adj.ints, hk]
theorem Aw.start (hb : Below W0.heap.size W0 wr) (hB : W0.heap.size ≤ Bw ∧ W0.heap.size ≤ Bo ∧ Bw ≠ Bo) (h1 : Blk wr Bw 47 (Adj.ints (List.replicate 16 0)).toArray) (h2 : Blk wr Bo 3 (Adj.ints (List.replicate own.length 0)).toArray) :
    Aw W0 Bw Bo own other 0 wr := by
  refine ⟨hb, hB, ?_, ?_⟩
  · exact h1
  · have e : (List.range own.length).map (fun j => if j < 0 then AdjC.nowK own other (j + 1) else 0) = List.replicate own.length 0 := by
      apply List.ext_getElem?
      intro i
      by_cases hi : i < own.length
      · simp [hi]
      · simp [hi]
    rw [e]; exact h2
end
theorem ints_snoc2 (l : List Int) (x : Int) : Adj.ints (l ++ [x]) = Adj.ints l ++ [.int .i64 x] := by simp [Adj.ints]
theorem reads_one {W : World} {g : Nat} {t : TypeId} {v : Value} (h : Blk W g t #[v]) : Adj.Reads W W.heap.size 1 (some ⟨g, 0, none⟩) 1 [v] :=
  ⟨rfl, fun _ => ⟨⟨g, 0, none⟩, rfl, h.lt, fun j u hu => by
    have hj : j = 0 := by
      have := (List.getElem?_eq_some_iff.1 hu).1
      simpa using this
    subst hj
    have : v = u := by simpa using hu
    subst this
    exact h.cell 0⟩⟩
end Cr

set_option maxRecDepth 100000 in
set_option maxHeartbeats 8000000 in
theorem ahead_any (A A' : Option Addr) (n n' : Nat) (own other : List AdjC.I) (B : Nat) (w : World) (hB : B ≤ w.heap.size) (l1 : own.length ≤ n) (l2 : n ≤ 9223372036854775807) (l3 : own.length ≤ 262144) (m1 : other.length ≤ n') (m2 : n' ≤ 9223372036854775807) (m3 : other.length ≤ 262144)
    (hown : IntsAt w B A (AdjC.flat own)) (hother : IntsAt w B A' (AdjC.flat other)) (hr1 : ∀ x ∈ own, x.d = 4 → ∃ s : Nat, x.a = (s : Int) ∧ s < 16) (hr2 : ∀ x ∈ other, x.d = 3 → ∃ s : Nat, x.a = (s : Int) ∧ s < 16) :
    Calls Try.prog 14 #[.slice A own.length n, .slice A' other.length n'] w fun e w' => ∃ g, e = .returned (.slice (some ⟨g, 0, none⟩) own.length own.length) ∧ w.heap.size ≤ g ∧ IntsAt w' w'.heap.size (some ⟨g, 0, none⟩) (AdjC.ahead own other) ∧ Below w.heap.size w w' := by
  have HO := Lib.hid hown
  have HT := Lib.hid hother
  have HR1 := Lib.hid hr1
  have HR2 := Lib.hid hr2
  clear hown hother hr1 hr2
  go_enter Try.func14, Try.ntmps14
  go_wp2_with fail
  have HP := Lib.hid (Cr.Ps.start (w := w) (Bp := w.heap.size) ((Below.refl w.heap.size w).alloc (Nat.le_refl _) _) (Nat.le_refl _) (Blk.new w 63 #[.slice none 0 0, .slice none 0 0, .slice none 0 0, .slice none 0 0, .slice none 0 0, .slice none 0 0, .slice none 0 0, .slice none 0 0, .slice none 0 0, .slice none 0 0, .slice none 0 0, .slice none 0 0, .slice none 0 0, .slice none 0 0, .slice none 0 0, .slice none 0 0]) rfl)
  generalize w.alloc (.cells #[.slice none 0 0, .slice none 0 0, .slice none 0 0, .slice none 0 0, .slice none 0 0, .slice none 0 0, .slice none 0 0, .slice none 0 0, .slice none 0 0, .slice none 0 0, .slice none 0 0, .slice none 0 0, .slice none 0 0, .slice none 0 0, .slice none 0 0, .slice none 0 0] 63) = W1 at HP ⊢
  go_loopw [16] (fun i wr => ∃ k : Nat, k ≤ other.length ∧ i = .int .i64 k ∧ Cr.Ps w w.heap.size (fun s => AdjC.posts (other.take k) (s : Int)) wr) (fun i _ => other.length - (intOf i).toNat)
  case atStart => exact ⟨0, by omega, rfl, HP.out⟩
  case round =>
    obtain ⟨k, hk, rfl, hps⟩ := hrel
    have HK := Lib.hid hps
    clear hps
    by_cases hlt : k < other.length
    · obtain ⟨b, off, rfl, hbl⟩ := HT.out.spot (by rw [AdjC.flat_length]; omega)
      obtain ⟨x, hx⟩ : ∃ x, other[k] = x := ⟨_, rfl⟩
      obtain ⟨x0, x1, x2, x3, x4, x5⟩ := Cr.six_cells (HT.out.below (HK.out.1.mono hB)) hlt hx
      have HTK := Lib.hid (show other.take (k + 1) = other.take k ++ [x] by rw [← hx]; exact List.take_succ_eq_append_getElem hlt)
      have HIN := Lib.hid (show x ∈ other by rw [← hx]; exact List.getElem_mem hlt)
      have HK4 := Lib.hid (HK.out.alloc (.cells #[.int .i64 x.d, .int .i64 x.a, .int .i64 x.b, .int .i64 x.c, .int .i64 x.n, .int .i64 x.v] 42))
      have HX4 := Lib.hid (Blk.new wr 42 #[.int .i64 x.d, .int .i64 x.a, .int .i64 x.b, .int .i64 x.c, .int .i64 x.n, .int .i64 x.v])
      have hzr := HK.out.lt
      clear hx
      by_cases h3 : x.d = 3
      · obtain ⟨s, hs, hs16⟩ := HR2.out x HIN.out h3
        have HPN := Lib.hid (show ∀ t : Nat, t < 16 → AdjC.posts (other.take (k + 1)) (t : Int) = if t = s then AdjC.posts (other.take k) (s : Int) ++ [(k : Int) + 1] else AdjC.posts (other.take k) (t : Int) from fun t ht => by
          rw [HTK.out]
          by_cases e : t = s
          · subst e; rw [if_pos rfl, AdjC.posts_snoc, if_pos ⟨h3, hs⟩, List.length_take, Nat.min_eq_left hk]
          · rw [if_neg e, AdjC.posts_other (fun h => e (by omega))])
        obtain ⟨Av, cv, hcell, hov, hnb⟩ := HK4.out.get hs16
        have hpl := AdjC.posts_length (other.take k) (s : Int)
        rw [List.length_take, Nat.min_eq_left hk] at hpl
        obtain ⟨L, hL⟩ : ∃ L, AdjC.posts (other.take k) (s : Int) = L := ⟨_, rfl⟩
        rw [hL] at hcell hov hnb HPN hpl
        have HL := Lib.hid hL
        have HOV := Lib.hid hov
        have HNB := Lib.hid hnb
        have z0 : (wr.alloc (.cells #[.int .i64 x.d, .int .i64 x.a, .int .i64 x.b, .int .i64 x.c, .int .i64 x.n, .int .i64 x.v] 42)).cell? ⟨wr.heap.size, 0, none⟩ = some (.int .i64 3) := by rw [← h3]; exact HX4.out.cell 0
        have z1 : (wr.alloc (.cells #[.int .i64 x.d, .int .i64 x.a, .int .i64 x.b, .int .i64 x.c, .int .i64 x.n, .int .i64 x.v] 42)).cell? ⟨wr.heap.size, 1, none⟩ = some (.int .i64 (s : Int)) := by rw [← hs]; exact HX4.out.cell 1
        obtain ⟨i0, hi, hz0, hz1, hzb⟩ := info_parts Try.infoNum
        have hsum : IntKind.i64.wrap ((k : Int) + 1) = (k : Int) + 1 := IntWalk.i64_in _ (by omega)
        have HSUM := Lib.hid hsum
        have D3 := Lib.hid h3
        have HS := Lib.hid hs
        have HI := Lib.hid hi
        have HZ0 := Lib.hid hz0
        have HZ1 := Lib.hid hz1
        have HZB := Lib.hid hzb
        have HCE := Lib.hid hcell
        have Z1 := Lib.hid z1
        clear hL hov hnb hs hi hz0 hz1 hzb hsum hcell z0 z1
        have t3 : (x.d == 3) = true := by simpa using h3
        clear h3
        go_upto_region 6 with (fail)
        generalize wr.alloc (.cells #[.int .i64 x.d, .int .i64 x.a, .int .i64 x.b, .int .i64 x.c, .int .i64 x.n, .int .i64 x.v] 42) = W4 at HK4 HX4 HOV HCE Z1 ⊢
        have hsum := HSUM.out
        have hsi : (s : Int) < 16 := by omega
        have hsi0 : (0 : Int) ≤ (s : Int) := by omega
        refine wp_region_T (fun w' => w'.cell? ⟨wr.heap.size, 1, none⟩ = some (.int .i64 (s : Int)) ∧ w'.cell? ⟨w.heap.size, s, none⟩ = some (.slice Av L.length cv)) 10 (fun _ => True) 10 12 rfl (by kernel_rfl) ⟨⟨Z1.out, HCE.out⟩, trivial⟩ (fun hHeld => ?_)
        simp only [List.replicate_succ, List.replicate_zero]
        refine wpT_take 0 24 (v := ?_) hHeld.1 hHeld.2 rfl rfl (by kernel_rfl) (fun _ _ _ h => h) rfl ?_ ?_
        rotate_left
        · (intro w hSw; (try dsimp only at hSw); go_simp; try with_reducible rfl)
        try simp only [Act.put, List.setIfInBounds_toArray, List.set_cons_zero, List.set_cons_succ]
        refine wpT_take 1 25 (v := ?_) hHeld.1 hHeld.2 rfl rfl (by kernel_rfl) (fun _ _ _ h => h) rfl ?_ ?_
        rotate_left
        · (intro w hSw; (try dsimp only at hSw); go_simp; try with_reducible rfl)
        try simp only [Act.put, List.setIfInBounds_toArray, List.set_cons_zero, List.set_cons_succ]
        refine wpT_take 2 26 (v := ?_) hHeld.1 hHeld.2 rfl rfl (by kernel_rfl) (fun _ _ _ h => h) rfl ?_ ?_
        rotate_left
        · (intro w hSw; (try dsimp only at hSw); go_simp; try with_reducible rfl)
        try simp only [Act.put, List.setIfInBounds_toArray, List.set_cons_zero, List.set_cons_succ]
        refine wpT_take 3 27 (v := ?_) hHeld.1 hHeld.2 rfl rfl (by kernel_rfl) (fun _ _ _ h => h) rfl ?_ ?_
        rotate_left
        · (intro w hSw; (try dsimp only at hSw); go_simp; try with_reducible rfl)
        try simp only [Act.put, List.setIfInBounds_toArray, List.set_cons_zero, List.set_cons_succ]
        refine wpT_take 4 28 (v := ?_) hHeld.1 hHeld.2 rfl rfl (by kernel_rfl) (fun _ _ _ h => h) rfl ?_ ?_
        rotate_left
        · (intro w hSw; (try dsimp only at hSw); go_simp; try with_reducible rfl)
        try simp only [Act.put, List.setIfInBounds_toArray, List.set_cons_zero, List.set_cons_succ]
        refine wpT_take 5 29 (v := ?_) hHeld.1 hHeld.2 rfl rfl (by kernel_rfl) (fun _ _ _ h => h) rfl ?_ ?_
        rotate_left
        · (intro w hSw; (try dsimp only at hSw); go_simp; try with_reducible rfl)
        try simp only [Act.put, List.setIfInBounds_toArray, List.set_cons_zero, List.set_cons_succ]
        refine wpT_take 6 30 (v := ?_) hHeld.1 hHeld.2 rfl rfl (by kernel_rfl) (fun _ _ _ h => h) rfl ?_ ?_
        rotate_left
        · (intro w hSw; (try dsimp only at hSw); go_simp; try with_reducible rfl)
        try simp only [Act.put, List.setIfInBounds_toArray, List.set_cons_zero, List.set_cons_succ]
        refine wpT_take 7 31 (v := ?_) hHeld.1 hHeld.2 rfl rfl (by kernel_rfl) (fun _ _ _ h => h) rfl ?_ ?_
        rotate_left
        · (intro w hSw; (try dsimp only at hSw); go_simp; try with_reducible rfl)
        try simp only [Act.put, List.setIfInBounds_toArray, List.set_cons_zero, List.set_cons_succ]
        have HK5 := Lib.hid HK4.out.drew
        have HOV5 := Lib.hid (show W4.drew.ownsRow w.heap.size 3 1 (.slice Av L.length cv) L.length (Adj.ints L) from HOV.out)
        have hz5 : wr.heap.size < W4.drew.heap.size := HX4.out.lt
        generalize W4.drew = W5 at HK5 HOV5 hHeld hz5 ⊢
        clear hsum
        refine wpT_one 8 (by kernel_rfl) (stepT_early rfl rfl (fun K hK => ?_))
        go_simp
        refine hK.out _ _ ⟨⟨(World.cell?_alloc_lt _ _ _ (by simp; omega)).trans hHeld.1.1, (World.cell?_alloc_lt _ _ _ (by simp; omega)).trans hHeld.1.2⟩, trivial⟩ (fun hHeld2 => ?_)
        clear hK K hHeld
        have hHeld := hHeld2
        clear hHeld2
        try simp only [List.setIfInBounds_toArray, List.set_cons_zero, List.set_cons_succ]
        have HN6 := Lib.hid (Blk.new W5 3 #[.int .i64 ((k : Int) + 1)])
        have HK6 := Lib.hid (HK5.out.alloc (.cells #[.int .i64 ((k : Int) + 1)] 3))
        have HOV6 := Lib.hid (HOV5.out.alloc (.cells #[.int .i64 ((k : Int) + 1)] 3))
        have hz6 : W5.heap.size < (W5.alloc (.cells #[.int .i64 ((k : Int) + 1)] 3)).heap.size := by simp
        generalize W5.alloc (.cells #[.int .i64 ((k : Int) + 1)] 3) = W6 at HN6 HK6 HOV6 hHeld hz6 ⊢
        refine wpT_one 9 (by kernel_rfl) (stepT_early rfl rfl (fun K hK => ?_))
        refine wp_append_any W6 _ _ 32 rfl w.heap.size 3 i0 (.int .i64 0) 1 8 Try.underlying32 HI.out HZ0.out HZ1.out HZB.out rfl (by decide) (.slice Av L.length cv) L.length (Adj.ints L) rfl HOV6.out W6.heap.size (some ⟨W5.heap.size, 0, none⟩) 1 1 [.int .i64 ((k : Int) + 1)] rfl (Cr.reads_one HN6.out) (Adj.one_one _ _) (by unfold maxLen; omega) (by omega) (by omega) ?_
        intro v' W7 hown7 hgrow hnew
        obtain ⟨g7, cap7, rfl, hg7, hl7⟩ := hown7.form (by omega)
        have hs7 : some wr.heap.size ≠ (Value.slice Av L.length cv).ownBlock := fun e => (HOV.out.lt _ e.symm).2 |> fun _ => (Cr.own_blk_ne HOV.out HX4.out (by decide)) e.symm
        have hb7 : some w.heap.size ≠ (Value.slice Av L.length cv).ownBlock := fun e => HNB.out e.symm
        have y1 := hgrow.cell hHeld.1.1 hs7
        have y2 := hgrow.cell hHeld.1.2 hb7
        have fz : W7.frozen? ⟨w.heap.size, s, none⟩ = false := (World.frozen?_of_block (hgrow.block _ (by have := HK6.out.lt; omega) hb7)).trans (HK6.out.frozen s)
        have HPU := Lib.hid (HK6.out.push (G := fun t => AdjC.posts (other.take (k + 1)) (t : Int)) (x := (k : Int) + 1) hs16 hHeld.1.2 (by rw [HL.out, Cr.ints_snoc2]; exact hown7) (by rw [HL.out]; simp) hgrow hnew (fun t ht => by rw [HPN.out t ht, HL.out]))
        refine hK.out _ _ ⟨⟨y1, y2⟩, trivial⟩ (fun hHeld2 => ?_)
        clear hK K hHeld hHeld2 hown7 hgrow hnew hs7 hb7 y1
        try simp only [Act.put, List.setIfInBounds_toArray, List.set_cons_zero, List.set_cons_succ]
        refine wpT_tail [_, _] 10 [11] rfl (by kernel_rfl) ?_
        go_wp2_with fail
        go_roundw
        case rel => exact ⟨k + 1, by omega, by go_num, HPU.out⟩
        case measure => simp [intOf]; omega
      · have t3 : (x.d == 3) = false := by simpa using h3
        have HN := Lib.hid (HK4.out.same (G := fun s => AdjC.posts (other.take (k + 1)) (s : Int)) (fun s hs => by rw [HTK.out, AdjC.posts_other (fun h => h3 h.1)]))
        clear h3
        go_wp2_with fail
        go_roundw
        case rel => exact ⟨k + 1, by omega, by go_num, HN.out⟩
        case measure => simp [intOf]; omega
    · have hkk : k = other.length := by omega
      subst hkk
      have HPS := Lib.hid (HK.out.same (G := fun s => AdjC.posts other (s : Int)) (fun s hs => by simp only [List.take_of_length_le (Nat.le_refl _)]))
      clear HK HP
      have hmk := fun W => run_make_int own.length (by omega) W
      go_wp2_with fail
      clear hmk
      have HAW := Lib.hid (show Cr.Aw wr wr.heap.size (wr.heap.size + 1) own other 0 ((wr.alloc (.cells #[.int .i64 0, .int .i64 0, .int .i64 0, .int .i64 0, .int .i64 0, .int .i64 0, .int .i64 0, .int .i64 0, .int .i64 0, .int .i64 0, .int .i64 0, .int .i64 0, .int .i64 0, .int .i64 0, .int .i64 0, .int .i64 0] 47)).alloc (.cells (Adj.ints (List.replicate own.length 0)).toArray 3)) from
        Cr.Aw.start (((Below.refl _ _).alloc (Nat.le_refl _) _).alloc (by simp) _) ⟨Nat.le_refl _, by omega, by omega⟩ ((Blk.new wr 47 #[.int .i64 0, .int .i64 0, .int .i64 0, .int .i64 0, .int .i64 0, .int .i64 0, .int .i64 0, .int .i64 0, .int .i64 0, .int .i64 0, .int .i64 0, .int .i64 0, .int .i64 0, .int .i64 0, .int .i64 0, .int .i64 0]).alloc _) (by
          have h := Blk.new (wr.alloc (.cells #[.int .i64 0, .int .i64 0, .int .i64 0, .int .i64 0, .int .i64 0, .int .i64 0, .int .i64 0, .int .i64 0, .int .i64 0, .int .i64 0, .int .i64 0, .int .i64 0, .int .i64 0, .int .i64 0, .int .i64 0, .int .i64 0] 47)) 3 (Adj.ints (List.replicate own.length 0)).toArray
          rwa [World.size_alloc] at h))
      generalize (wr.alloc (.cells #[.int .i64 0, .int .i64 0, .int .i64 0, .int .i64 0, .int .i64 0, .int .i64 0, .int .i64 0, .int .i64 0, .int .i64 0, .int .i64 0, .int .i64 0, .int .i64 0, .int .i64 0, .int .i64 0, .int .i64 0, .int .i64 0] 47)).alloc (.cells (Adj.ints (List.replicate own.length 0)).toArray 3) = W2 at HAW ⊢
      obtain ⟨W0, hW0⟩ : ∃ W0 : World, W0 = wr := ⟨_, rfl⟩
      rw [← hW0] at HPS HAW ⊢
      clear hW0 wr
      have hw0 := HPS.out.lt
      go_loopw [41, 10] (fun i nv wr => ∃ k : Nat, k ≤ own.length ∧ i = .int .i64 k ∧ nv = .int .i64 (AdjC.nowK own other k) ∧ Cr.Aw W0 W0.heap.size (W0.heap.size + 1) own other k wr) (fun i _ _ => own.length - (intOf i).toNat)
      case atStart => exact ⟨0, by omega, rfl, rfl, HAW.out⟩
      case round =>
        obtain ⟨k, hk, rfl, rfl, haw⟩ := hrel
        have HK := Lib.hid haw
        clear haw
        by_cases hlt : k < own.length
        · obtain ⟨b, off, rfl, hbl⟩ := HO.out.spot (by rw [AdjC.flat_length]; omega)
          obtain ⟨x, hx⟩ : ∃ x, own[k] = x := ⟨_, rfl⟩
          obtain ⟨x0, x1, x2, x3, x4, x5⟩ := Cr.six_cells (HO.out.below ((HPS.out.1.trans (HK.out.1.mono HPS.out.1.size)).mono hB)) hlt hx
          have HTK := Lib.hid (show own.take (k + 1) = own.take k ++ [x] by rw [← hx]; exact List.take_succ_eq_append_getElem hlt)
          have HIN := Lib.hid (show x ∈ own by rw [← hx]; exact List.getElem_mem hlt)
          have HNX := Lib.hid (AdjC.nowK_next (other := other) hlt hx)
          have HK4 := Lib.hid (HK.out.alloc (.cells #[.int .i64 x.d, .int .i64 x.a, .int .i64 x.b, .int .i64 x.c, .int .i64 x.n, .int .i64 x.v] 42))
          have HX4 := Lib.hid (Blk.new wr 42 #[.int .i64 x.d, .int .i64 x.a, .int .i64 x.b, .int .i64 x.c, .int .i64 x.n, .int .i64 x.v])
          have hzr := HK.out.1.size
          have hzo := HK.out.2.2.2.lt
          have hoc := fun o => (HK.out.alloc o).out_cell hlt
          have hof := fun o => (HK.out.alloc o).2.2.2.frozen k
          clear hx
          by_cases h4 : x.d = 4
          · obtain ⟨s, hs, hs16⟩ := HR1.out x HIN.out h4
            have HC := Lib.hid (fun (v : Int) (hv : v = AdjC.nowK own other (k + 1)) o => ((HK.out.alloc o).count hlt hs16 rfl hv (fun t ht => by
              rw [HTK.out, AdjC.cnt_snoc]
              by_cases e : t = s
              · subst e; rw [if_pos ⟨h4, hs⟩, if_pos rfl]
              · rw [if_neg (fun h => e (by omega)), if_neg e, Nat.add_zero])))
            have HNY := Lib.hid (show AdjC.nowK own other (k + 1) = max (AdjC.nowK own other k) (AdjC.need own other k (s : Int)) by rw [HNX.out, if_pos h4, hs])
            have hcc := fun o => (HK.out.alloc o).cnt_cell hs16
            have hcf := fun o => (HK.out.alloc o).2.2.1.frozen s
            have hcl := AdjC.cnt_le (own.take k) (s : Int)
            rw [List.length_take, Nat.min_eq_left hk] at hcl
            obtain ⟨Av, cv, hcell, hov, _⟩ := HPS.out.get hs16
            have hpc : ∀ o, (wr.alloc o).cell? ⟨w.heap.size, s, none⟩ = some (.slice Av (AdjC.posts other (s : Int)).length cv) := fun o => ((HK.out.alloc o).1.cell (p := ⟨w.heap.size, s, none⟩) hw0).trans hcell
            have HRA := Lib.hid (show IntsAt W0 W0.heap.size Av (AdjC.posts other (s : Int)) from RowAt.of_own hov)
            have HTH := Lib.hid (fun (c : Nat) (hc : AdjC.cnt (own.take k) (s : Int) = c) (h : c < (AdjC.posts other (s : Int)).length) => AdjC.need_there (own := own) (other := other) (k := k) hc h)
            have HTN := Lib.hid (fun (c : Nat) (hc : AdjC.cnt (own.take k) (s : Int) = c) (h : (AdjC.posts other (s : Int)).length ≤ c) => AdjC.need_none (own := own) (other := other) (k := k) hc h)
            obtain ⟨c, hcq⟩ : ∃ c, AdjC.cnt (own.take k) (s : Int) = c := ⟨_, rfl⟩
            rw [hcq] at hcc hcl HC
            have HCQ := Lib.hid hcq
            have hpl := AdjC.posts_length other (s : Int)
            have hnr := AdjC.nowK_range own other k
            have z0 : (wr.alloc (.cells #[.int .i64 x.d, .int .i64 x.a, .int .i64 x.b, .int .i64 x.c, .int .i64 x.n, .int .i64 x.v] 42)).cell? ⟨wr.heap.size, 0, none⟩ = some (.int .i64 4) := by rw [← h4]; exact HX4.out.cell 0
            have z1 : (wr.alloc (.cells #[.int .i64 x.d, .int .i64 x.a, .int .i64 x.b, .int .i64 x.c, .int .i64 x.n, .int .i64 x.v] 42)).cell? ⟨wr.heap.size, 1, none⟩ = some (.int .i64 (s : Int)) := by rw [← hs]; exact HX4.out.cell 1
            have t4 : (x.d == 4) = true := by simpa using h4
            have hne1 : W0.heap.size + 1 ≠ W0.heap.size := by omega
            have hwne : w.heap.size ≠ W0.heap.size := by omega
            have HS := Lib.hid hs
            have H4 := Lib.hid h4
            clear hcq hov hcell hs h4
            have hcN : (c : Int) + 1 ≤ 262145 := by omega
            by_cases hlc : c < (AdjC.posts other (s : Int)).length
            · obtain ⟨bb, oo, rfl, hbb⟩ := HRA.out.spot (by omega)
              have HND := Lib.hid (HTH.out c HCQ.out hlc)
              have hel : ∀ o, (wr.alloc o).cell? ⟨bb, oo + c, none⟩ = some (.int .i64 (AdjC.posts other (s : Int))[c]) := fun o => ((HK.out.alloc o).1.cell (p := ⟨bb, oo + c, none⟩) hbb).trans (HRA.out.get hlc)
              have hpr := AdjC.posts_range _ (List.getElem_mem hlc)
              obtain ⟨L, hL⟩ : ∃ L, AdjC.posts other (s : Int) = L := ⟨_, rfl⟩
              have HL := Lib.hid hL
              obtain ⟨p, hp⟩ : ∃ p, (AdjC.posts other (s : Int))[c] = p := ⟨_, rfl⟩
              rw [hp] at hel HND hpr
              rw [HND.out] at HNY
              have HPQ := Lib.hid hp
              rw [hL] at hpc hlc hpl
              clear hp hL
              have hbne : bb ≠ W0.heap.size := by omega
              by_cases hle : p ≤ AdjC.nowK own other k
              · have HV := Lib.hid (HC.out (AdjC.nowK own other k) (by rw [HNY.out]; omega))
                go_wp2_with fail
                go_roundw
                case rel => exact ⟨k + 1, by omega, by go_num, by rw [HNY.out]; first | rfl | (congr 1; omega), by first | exact HV.out _ | (have h := HV.out; simp only [Int.max_def] at *; exact h _)⟩
                case measure => simp [intOf]; omega
              · have HV := Lib.hid (HC.out p (by rw [HNY.out]; omega))
                have hlt2 : AdjC.nowK own other k < p := by omega
                clear hle
                go_wp2_with fail
                go_roundw
                case rel => exact ⟨k + 1, by omega, by go_num, by rw [HNY.out]; first | rfl | (congr 1; omega), by first | exact HV.out _ | (have h := HV.out; simp only [Int.max_def] at *; exact h _)⟩
                case measure => simp [intOf]; omega
            · have hge : (AdjC.posts other (s : Int)).length ≤ c := by omega
              have HND := Lib.hid (HTN.out c HCQ.out hge)
              rw [HND.out] at HNY
              have HV := Lib.hid (HC.out (other.length : Int) (by rw [HNY.out]; omega))
              obtain ⟨L, hL⟩ : ∃ L, AdjC.posts other (s : Int) = L := ⟨_, rfl⟩
              rw [hL] at hpc hge hpl
              have hq : decide (c < L.length) = false := by simp; omega
              have HNR := Lib.hid hnr
              clear hL hlc hge hpl hnr
              go_wp2_with fail
              go_roundw
              case rel => exact ⟨k + 1, by omega, by go_num, by rw [HNY.out]; first | rfl | (have := HNR.out; congr 1; omega), by first | exact HV.out _ | (have h := HV.out; simp only [Int.max_def] at *; exact h _)⟩
              case measure => simp [intOf]; omega
          · have t4 : (x.d == 4) = false := by simpa using h4
            have HN := Lib.hid (fun o => (HK.out.out hlt rfl (fun s hs => by rw [HTK.out, AdjC.cnt_snoc, if_neg (fun h => h4 h.1), Nat.add_zero])).alloc o)
            have HNY := Lib.hid (show AdjC.nowK own other (k + 1) = AdjC.nowK own other k by rw [HNX.out, if_neg h4])
            rw [HNY.out] at HN
            clear h4
            go_wp2_with fail
            go_roundw
            case rel => exact ⟨k + 1, by omega, by go_num, by rw [HNY.out], HN.out _⟩
            case measure => simp [intOf]; omega
        · have hkk : k = own.length := by omega
          subst hkk
          have HOUT := Lib.hid (show IntsAt wr wr.heap.size (some ⟨W0.heap.size + 1, 0, none⟩) (AdjC.ahead own other) by
            have h := IntsAt.of_blk HK.out.2.2.2
            have e : (List.range own.length).map (fun j => if j < own.length then AdjC.nowK own other (j + 1) else 0) = AdjC.ahead own other :=
              List.map_congr_left (fun j hj => by rw [if_pos (by simpa using hj)])
            rw [e] at h
            exact h)
          go_wp2_with fail
          go_ret
          exact ⟨W0.heap.size + 1, rfl, by omega, HOUT.out, HPS.out.1.trans (HK.out.1.mono HPS.out.1.size)⟩
end Go.Proofs.Ytlnfmipcbhhkhaa
