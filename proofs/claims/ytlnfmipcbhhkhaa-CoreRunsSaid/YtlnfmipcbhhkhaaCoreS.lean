/-
  The walk of each. Conditions: the machine's state lies there, the instruction is right.
-/
import Derived.Test.YtlnfmipcbhhkhaaCoreR
import Derived.Test.YtlnfmipcbhhkhaaHeld3
namespace Go.Proofs.Ytlnfmipcbhhkhaa
set_option linter.unusedVariables false
open Go.RowKit Adj

namespace Cr
/-- An instruction that reckons has its words in the pad. -/
def Fit (x : AdjC.I) (m : Nat) : Prop :=
  (5 ≤ x.d ∧ x.d ≤ 14 ∧ x.d ≠ 13) ∧ (0 ≤ x.n ∧ x.n ≤ 4096) ∧ (-1048576 ≤ x.a ∧ x.a ≤ 1048576) ∧ (0 < x.n → 0 ≤ x.a ∧ x.a + x.n ≤ (m : Int)) ∧
    (x.d ≠ 5 → 0 < x.n → 0 ≤ x.b ∧ x.b + x.n ≤ (m : Int)) ∧ (x.d ≠ 5 ∧ x.d ≠ 14 → 0 < x.n → 0 ≤ x.c ∧ x.c + x.n ≤ (m : Int))
/-- While each works: the state, two boxes, what has been read. -/
structure Ea (w : World) (k : Sk) (c : AdjC.Code) (s : AdjC.St) (x : AdjC.I) (lo : Nat) (wr : World) : Prop where
  st : Sb w k c s wr
  ptr : Blk wr lo 45 #[.pointer (some ⟨k.g, 0, none⟩)]
  ins : Blk wr (lo + 1) 42 #[.int .i64 x.d, .int .i64 x.a, .int .i64 x.b, .int .i64 x.c, .int .i64 x.n, .int .i64 x.v]
  low : 0 < s.pad.length → k.gp < lo
theorem Ea.below {w wr wr' : World} {k : Sk} {c : AdjC.Code} {s : AdjC.St} {x : AdjC.I} {lo : Nat} (h : Ea w k c s x lo wr) (hb : Below wr.heap.size wr wr') : Ea w k c s x lo wr' :=
  ⟨h.st.below hb, h.ptr.below hb h.ptr.lt, h.ins.below hb h.ins.lt, h.low⟩
theorem Ea.drew {w wr : World} {k : Sk} {c : AdjC.Code} {s : AdjC.St} {x : AdjC.I} {lo : Nat} (h : Ea w k c s x lo wr) : Ea w k c s x lo wr.drew := ⟨h.st.drew, h.ptr, h.ins, h.low⟩
theorem Ea.put {w wr : World} {k : Sk} {c : AdjC.Code} {s : AdjC.St} {x : AdjC.I} {lo j : Nat} (h : Ea w k c s x lo wr) (hj : j < s.pad.length) (v : Int) :
    Ea w k c { s with pad := AdjC.put s.pad (j : Int) v } x lo (wr.setCell ⟨k.gp, j, none⟩ (.int .i64 v)) := by
  have hg := h.low (by omega)
  refine ⟨h.st.set_pad hj v, h.ptr.far (p := ⟨k.gp, j, none⟩) (by simp; omega) _, h.ins.far (p := ⟨k.gp, j, none⟩) (by simp; omega) _, fun hp => ?_⟩
  simp only [AdjC.put_length] at hp; exact h.low hp
theorem eachK_next (x : AdjC.I) (l : List Int) (j p : Nat) (h : x.a = (p : Int)) : AdjC.eachK x l (j + 1) = AdjC.put (AdjC.eachK x l j) ((p + j : Nat) : Int) (AdjC.word x l (j : Int)) := by
  show AdjC.put (AdjC.eachK x l j) (x.a + (j : Int)) _ = _
  rw [h, show (p : Int) + (j : Int) = ((p + j : Nat) : Int) by omega]
theorem tests_two {d : Int} (h : 6 ≤ d ∧ d ≤ 10) : (d != 5) = true ∧ (d != 14) = true ∧ (d == 14) = false ∧ (d == 12) = false ∧ (d == 11) = false := by
  refine ⟨?_, ?_, ?_, ?_, ?_⟩ <;> simp <;> omega
theorem tests_three {d : Int} (h : d = 11 ∨ d = 12) : (d != 5) = true ∧ (d != 14) = true ∧ (d == 14) = false ∧ (d == 12) = !(d == 11) := by
  rcases h with rfl | rfl <;> decide
/-- What has been read, as far as the instruction's kind asks for it. -/
def Ow (d : Int) (lo n : Nat) (va vb vc : Value) (p q r : Nat → Int) (wr : World) : Prop :=
  (d = 11 ∨ d = 12 ∨ d = 14 → Own lo va n p wr) ∧ (d ≠ 5 → Own lo vb n q wr) ∧ (d ≠ 5 ∧ d ≠ 14 → Own lo vc n r wr)
theorem Ow.below {d : Int} {lo n : Nat} {va vb vc : Value} {p q r : Nat → Int} {w w' : World} (h : Ow d lo n va vb vc p q r w) (hb : Below w.heap.size w w') : Ow d lo n va vb vc p q r w' :=
  ⟨fun hd => (h.1 hd).below hb, fun hd => (h.2.1 hd).below hb, fun hd => (h.2.2 hd).below hb⟩
theorem Ow.far {d : Int} {lo n : Nat} {va vb vc : Value} {p q r : Nat → Int} {w : World} (h : Ow d lo n va vb vc p q r w) {a : Addr} (ha : a.block < lo) (u : Value) : Ow d lo n va vb vc p q r (w.setCell a u) :=
  ⟨fun hd => (h.1 hd).far ha u, fun hd => (h.2.1 hd).far ha u, fun hd => (h.2.2 hd).far ha u⟩
end Cr

set_option maxRecDepth 100000 in
set_option maxHeartbeats 8000000 in
theorem each_set (w W : World) (k : Cr.Sk) (c : AdjC.Code) (s : AdjC.St) (a b c' v : Int) (n : Nat) (h : Cr.Sb w k c s W) (hf : Cr.Fit ⟨5, a, b, c', (n : Int), v⟩ s.pad.length) (hl : s.pad.length ≤ 4096) :
    Calls Try.prog 35 #[.pointer (some ⟨k.g, 0, none⟩), Cr.insV ⟨5, a, b, c', (n : Int), v⟩] W fun e w' => e = .returned (.tuple #[]) ∧ Cr.Sb w k c { s with pad := AdjC.eachK ⟨5, a, b, c', (n : Int), v⟩ s.pad n } w' := by
  obtain ⟨hd, hn, ha0, hf1, hf2, hf3⟩ := hf
  simp only at hd hn ha0 hf1 hf2 hf3
  have HF := Lib.hid (And.intro hf1 (And.intro hf2 hf3))
  have HS := Lib.hid h
  clear h hf1 hf2 hf3
  rw [Cr.insV_eq]
  have HE := Lib.hid (show Cr.Ea w k c s ⟨5, a, b, c', (n : Int), v⟩ W.heap.size ((W.alloc (.cells #[.pointer (some ⟨k.g, 0, none⟩)] 45)).alloc (.cells #[.int .i64 5, .int .i64 a, .int .i64 b, .int .i64 c', .int .i64 (n : Int), .int .i64 v] 42)) from
    ⟨(HS.out.alloc _).alloc _, (Blk.new W _ _).alloc _, (by have h2 := Blk.new (W.alloc (.cells #[.pointer (some ⟨k.g, 0, none⟩)] 45)) 42 #[.int .i64 5, .int .i64 a, .int .i64 b, .int .i64 c', .int .i64 (n : Int), .int .i64 v]; rwa [World.size_alloc] at h2), fun hp => HS.out.pad.lt hp⟩)
  go_enter Try.func35, Try.ntmps35
  go_upto_region 3 with (fail)
  generalize (W.alloc (.cells #[.pointer (some ⟨k.g, 0, none⟩)] 45)).alloc (.cells #[.int .i64 5, .int .i64 a, .int .i64 b, .int .i64 c', .int .i64 (n : Int), .int .i64 v] 42) = W2 at HE ⊢
  have n0 := HE.out.ins.cell 0
  have n4 := HE.out.ins.cell 4
  go_wp2_with fail
  clear n0 n4
  have HW0 := Lib.hid (show Cr.Ow 5 W.heap.size n (Value.slice none 0 0) (Value.slice none 0 0) (Value.slice none 0 0) (fun i => AdjC.at_ s.pad (a + (i : Int))) (fun i => AdjC.at_ s.pad (b + (i : Int))) (fun i => AdjC.at_ s.pad (c' + (i : Int))) W2 from ⟨fun h => absurd h (by omega), fun h => absurd rfl h, fun h => absurd rfl h.1⟩)
  go_loopw [48] (fun i wr => ∃ j : Nat, j ≤ n ∧ i = .int .i64 (j : Int) ∧ Cr.Ea w k c { s with pad := AdjC.eachK ⟨5, a, b, c', (n : Int), v⟩ s.pad j } ⟨5, a, b, c', (n : Int), v⟩ W.heap.size wr ∧ Cr.Ow 5 W.heap.size n (Value.slice none 0 0) (Value.slice none 0 0) (Value.slice none 0 0) (fun i => AdjC.at_ s.pad (a + (i : Int))) (fun i => AdjC.at_ s.pad (b + (i : Int))) (fun i => AdjC.at_ s.pad (c' + (i : Int))) wr) (fun i _ => n - (intOf i).toNat)
  case atStart => exact ⟨0, by omega, rfl, HE.out, HW0.out⟩
  case round =>
    obtain ⟨j, hj, rfl, he, how⟩ := hrel
    have HJ := Lib.hid he
    have HO := Lib.hid how
    clear he how
    have n4 := HJ.out.ins.cell 4
    by_cases hlt : j < n
    · obtain ⟨p, hp⟩ : ∃ p : Nat, a = (p : Int) := ⟨a.toNat, by have := HF.out.1 (by omega); omega⟩
      have hpn : p + n ≤ s.pad.length := by have := HF.out.1 (by omega); omega
      have b4 := HJ.out.st.pad_at
      rw [HJ.out.st.pad.some_ (by simp only [AdjC.eachK_length]; omega)] at b4
      simp only [AdjC.eachK_length] at b4
      have b0 := HJ.out.ptr.cell 0
      have n0 := HJ.out.ins.cell 0
      have n1 := HJ.out.ins.cell 1
      have n2 := HJ.out.ins.cell 2
      have n3 := HJ.out.ins.cell 3
      have n5 := HJ.out.ins.cell 5
      have HWD := Lib.hid (show ∀ W2, W2 = wr.drew → Calls Try.prog 42 #[.agg #[.int .i64 5, .int .i64 a, .int .i64 b, .int .i64 c', .int .i64 (n : Int), .int .i64 v], (Value.slice none 0 0), (Value.slice none 0 0), (Value.slice none 0 0), .int .i64 (j : Int)] W2 fun e w' => e = .returned (.int .i64 (AdjC.word ⟨5, a, b, c', (n : Int), v⟩ s.pad (j : Int))) ∧ Below W2.heap.size W2 w' from
        fun W2 hW2 => by
          subst hW2
          have ho : Cr.Ow 5 W.heap.size n (Value.slice none 0 0) (Value.slice none 0 0) (Value.slice none 0 0) _ _ _ wr.drew := HO.out
          exact word_any ⟨5, a, b, c', (n : Int), v⟩ (Value.slice none 0 0) (Value.slice none 0 0) (Value.slice none 0 0) j _ _ _ wr.drew hd (fun h => (ho.1 h).rd hlt) (fun h => (ho.2.1 h).rd hlt) (fun h => (ho.2.2 h).rd hlt))
      have HP := Lib.hid hp
      subst hp
      go_wp2_with fail
      refine wp_region_T (fun w' => (w'.cell? ⟨W.heap.size, 0, none⟩ = some (.pointer (some ⟨k.g, 0, none⟩)) ∧ w'.cell? ⟨k.g, 4, none⟩ = some (.slice (some ⟨k.gp, 0, none⟩) s.pad.length k.cp)) ∧ w'.cell? ⟨W.heap.size + 1, 0, none⟩ = some (.int .i64 5) ∧ w'.cell? ⟨W.heap.size + 1, 1, none⟩ = some (.int .i64 (p : Int)) ∧ w'.cell? ⟨W.heap.size + 1, 2, none⟩ = some (.int .i64 b) ∧ w'.cell? ⟨W.heap.size + 1, 3, none⟩ = some (.int .i64 c') ∧ w'.cell? ⟨W.heap.size + 1, 4, none⟩ = some (.int .i64 (n : Int)) ∧ w'.cell? ⟨W.heap.size + 1, 5, none⟩ = some (.int .i64 v)) 14 (fun _ => True) 14 16 rfl (by kernel_rfl) ⟨⟨⟨b0, b4⟩, n0, n1, n2, n3, n4, n5⟩, trivial⟩ (fun hHeld => ?_)
      simp only [List.replicate_succ, List.replicate_zero]
      refine wpT_take 0 51 (v := ?_) hHeld.1 hHeld.2 rfl rfl (by kernel_rfl) (fun _ _ _ h => h) rfl ?_ ?_
      rotate_left
      · (intro w hSw; (try dsimp only at hSw); go_simp; try with_reducible rfl)
      try simp only [Act.put, List.setIfInBounds_toArray, List.set_cons_zero, List.set_cons_succ]
      refine wpT_take 1 52 (v := ?_) hHeld.1 hHeld.2 rfl rfl (by kernel_rfl) (fun _ _ _ h => h) rfl ?_ ?_
      rotate_left
      · (intro w hSw; (try dsimp only at hSw); go_simp; try with_reducible rfl)
      try simp only [Act.put, List.setIfInBounds_toArray, List.set_cons_zero, List.set_cons_succ]
      refine wpT_take 2 53 (v := ?_) hHeld.1 hHeld.2 rfl rfl (by kernel_rfl) (fun _ _ _ h => h) rfl ?_ ?_
      rotate_left
      · (intro w hSw; (try dsimp only at hSw); go_simp; try with_reducible rfl)
      try simp only [Act.put, List.setIfInBounds_toArray, List.set_cons_zero, List.set_cons_succ]
      refine wpT_take 3 54 (v := ?_) hHeld.1 hHeld.2 rfl rfl (by kernel_rfl) (fun _ _ _ h => h) rfl ?_ ?_
      rotate_left
      · (intro w hSw; (try dsimp only at hSw); go_simp; try with_reducible rfl)
      try simp only [Act.put, List.setIfInBounds_toArray, List.set_cons_zero, List.set_cons_succ]
      refine wpT_take 4 55 (v := ?_) hHeld.1 hHeld.2 rfl rfl (by kernel_rfl) (fun _ _ _ h => h) rfl ?_ ?_
      rotate_left
      · (intro w hSw; (try dsimp only at hSw); go_simp; try with_reducible rfl)
      try simp only [Act.put, List.setIfInBounds_toArray, List.set_cons_zero, List.set_cons_succ]
      refine wpT_take 5 56 (v := ?_) hHeld.1 hHeld.2 rfl rfl (by kernel_rfl) (fun _ _ _ h => h) rfl ?_ ?_
      rotate_left
      · (intro w hSw; (try dsimp only at hSw); go_simp; try with_reducible rfl)
      try simp only [Act.put, List.setIfInBounds_toArray, List.set_cons_zero, List.set_cons_succ]
      refine wpT_take 6 57 (v := ?_) hHeld.1 hHeld.2 rfl rfl (by kernel_rfl) (fun _ _ _ h => h) rfl ?_ ?_
      rotate_left
      · (intro w hSw; (try dsimp only at hSw); go_simp; try with_reducible rfl)
      try simp only [Act.put, List.setIfInBounds_toArray, List.set_cons_zero, List.set_cons_succ]
      refine wpT_take 7 58 (v := ?_) hHeld.1 hHeld.2 rfl rfl (by kernel_rfl) (fun _ _ _ h => h) rfl ?_ ?_
      rotate_left
      · (intro w hSw; (try dsimp only at hSw); go_simp; try with_reducible rfl)
      try simp only [Act.put, List.setIfInBounds_toArray, List.set_cons_zero, List.set_cons_succ]
      refine wpT_take 8 59 (v := ?_) hHeld.1 hHeld.2 rfl rfl (by kernel_rfl) (fun _ _ _ h => h) rfl ?_ ?_
      rotate_left
      · (intro w hSw; (try dsimp only at hSw); go_simp; try with_reducible rfl)
      try simp only [Act.put, List.setIfInBounds_toArray, List.set_cons_zero, List.set_cons_succ]
      refine wpT_take 9 60 (v := ?_) hHeld.1 hHeld.2 rfl rfl (by kernel_rfl) (fun _ _ _ h => h) rfl ?_ ?_
      rotate_left
      · (intro w hSw; (try dsimp only at hSw); go_simp; try with_reducible rfl)
      try simp only [Act.put, List.setIfInBounds_toArray, List.set_cons_zero, List.set_cons_succ]
      refine wpT_take 10 61 (v := ?_) hHeld.1 hHeld.2 rfl rfl (by kernel_rfl) (fun _ _ _ h => h) rfl ?_ ?_
      rotate_left
      · (intro w hSw; (try dsimp only at hSw); go_simp; try with_reducible rfl)
      try simp only [Act.put, List.setIfInBounds_toArray, List.set_cons_zero, List.set_cons_succ]
      refine wpT_take 11 62 (v := ?_) hHeld.1 hHeld.2 rfl rfl (by kernel_rfl) (fun _ _ _ h => h) rfl ?_ ?_
      rotate_left
      · (intro w hSw; (try dsimp only at hSw); go_simp; try with_reducible rfl)
      try simp only [Act.put, List.setIfInBounds_toArray, List.set_cons_zero, List.set_cons_succ]
      refine wpT_take 12 63 (v := ?_) hHeld.1 hHeld.2 rfl rfl (by kernel_rfl) (fun _ _ _ h => h) rfl ?_ ?_
      rotate_left
      · (intro w hSw; (try dsimp only at hSw); go_simp; try with_reducible rfl)
      try simp only [Act.put, List.setIfInBounds_toArray, List.set_cons_zero, List.set_cons_succ]
      have HJD := Lib.hid HJ.out.drew
      have HOD := Lib.hid (show Cr.Ow 5 W.heap.size n (Value.slice none 0 0) (Value.slice none 0 0) (Value.slice none 0 0) _ _ _ wr.drew from HO.out)
      generalize wr.drew = wd at HWD HJD HOD hHeld ⊢
      refine wpT_one 13 (by kernel_rfl) (stepT_early rfl rfl (fun K hK => ?_))
      go_simp
      ((with_reducible refine (HWD.out _ rfl).mono ?_); rintro e w5 ⟨rfl, hb5⟩)
      have HJ5 := Lib.hid (HJD.out.below hb5)
      have HO5 := Lib.hid (HOD.out.below hb5)
      refine hK.out _ _ ⟨?_, trivial⟩ (fun hHeld2 => ?_)
      · have g := HJ5.out
        have g4 := g.st.pad_at
        rw [g.st.pad.some_ (by simp only [AdjC.eachK_length]; omega)] at g4
        simp only [AdjC.eachK_length] at g4
        exact ⟨⟨g.ptr.cell 0, g4⟩, g.ins.cell 0, g.ins.cell 1, g.ins.cell 2, g.ins.cell 3, g.ins.cell 4, g.ins.cell 5⟩
      clear hb5 hHeld
      clear hK K
      have hHeld := hHeld2
      clear hHeld2
      try simp only [List.setIfInBounds_toArray, List.set_cons_zero, List.set_cons_succ]
      have f5 := HJ5.out.st.pad.frozen (k := p + j) (by simp only [AdjC.eachK_length]; omega)
      have q5 := HJ5.out.st.pad.cell (k := p + j) (by simp only [AdjC.eachK_length]; omega)
      have HPU := Lib.hid (HJ5.out.put (j := p + j) (by simp only [AdjC.eachK_length]; omega) (AdjC.word ⟨5, ((p : Nat) : Int), b, c', (n : Int), v⟩ s.pad (j : Int)))
      have HOU := Lib.hid (HO5.out.far (a := ⟨k.gp, p + j, none⟩) (HJ5.out.low (by simp only [AdjC.eachK_length]; omega)) (.int .i64 (AdjC.word ⟨5, ((p : Nat) : Int), b, c', (n : Int), v⟩ s.pad (j : Int))))
      refine wpT_tail [_, _] 14 [15] rfl (by kernel_rfl) ?_
      clear hHeld
      go_wp2_with fail
      go_roundw
      case rel => exact ⟨j + 1, by omega, by go_num, by rw [Cr.eachK_next ⟨5, ((p : Nat) : Int), b, c', (n : Int), v⟩ s.pad j p rfl]; exact HPU.out, HOU.out⟩
      case measure => simp [intOf]; omega
    · obtain rfl : j = n := by omega
      go_wp2_with fail
      go_end0
      exact ⟨rfl, HJ.out.st⟩
set_option maxRecDepth 100000 in
set_option maxHeartbeats 8000000 in
theorem each_more (w W : World) (k : Cr.Sk) (c : AdjC.Code) (s : AdjC.St) (zz a b c' v : Int) (n : Nat)  (h : Cr.Sb w k c s W) (hf : Cr.Fit ⟨14, a, b, c', (n : Int), v⟩ s.pad.length) (hl : s.pad.length ≤ 4096) :
    Calls Try.prog 35 #[.pointer (some ⟨k.g, 0, none⟩), Cr.insV ⟨14, a, b, c', (n : Int), v⟩] W fun e w' => e = .returned (.tuple #[]) ∧ Cr.Sb w k c { s with pad := AdjC.eachK ⟨14, a, b, c', (n : Int), v⟩ s.pad n } w' := by
  obtain ⟨hd, hn, ha0, hf1, hf2, hf3⟩ := hf
  simp only at hd hn ha0 hf1 hf2 hf3
  have HF := Lib.hid (And.intro hf1 (And.intro hf2 hf3))
  have HS := Lib.hid h
  clear h hf1 hf2 hf3
  rw [Cr.insV_eq]
  have HE := Lib.hid (show Cr.Ea w k c s ⟨14, a, b, c', (n : Int), v⟩ W.heap.size ((W.alloc (.cells #[.pointer (some ⟨k.g, 0, none⟩)] 45)).alloc (.cells #[.int .i64 14, .int .i64 a, .int .i64 b, .int .i64 c', .int .i64 (n : Int), .int .i64 v] 42)) from
    ⟨(HS.out.alloc _).alloc _, (Blk.new W _ _).alloc _, (by have h2 := Blk.new (W.alloc (.cells #[.pointer (some ⟨k.g, 0, none⟩)] 45)) 42 #[.int .i64 14, .int .i64 a, .int .i64 b, .int .i64 c', .int .i64 (n : Int), .int .i64 v]; rwa [World.size_alloc] at h2), fun hp => HS.out.pad.lt hp⟩)
  have HR := Lib.hid (fun (W2 : World) (at0 : Int) (hE : Cr.Ea w k c s ⟨14, a, b, c', (n : Int), v⟩ W.heap.size W2) hp => reader_any w W2 k c s hE.st at0 n (W.heap.size + 1) W.heap.size (hE.ins.cell 4) (hE.ptr.cell 0) hp hl)
  skip
  go_enter Try.func35, Try.ntmps35
  go_upto_region 3 with (fail)
  generalize (W.alloc (.cells #[.pointer (some ⟨k.g, 0, none⟩)] 45)).alloc (.cells #[.int .i64 14, .int .i64 a, .int .i64 b, .int .i64 c', .int .i64 (n : Int), .int .i64 v] 42) = W2 at HE ⊢
  have n0 := HE.out.ins.cell 0
  have n4 := HE.out.ins.cell 4
  have n1 := HE.out.ins.cell 1
  have n2 := HE.out.ins.cell 2
  have n3 := HE.out.ins.cell 3
  go_wp2_with fail
  ((with_reducible refine (HR.out W2 b HE.out (fun hp => HF.out.2.1 (by decide) (by omega))).mono ?_); rintro e w3 ⟨vb, rfl, hb1, ho1⟩)
  have HE3 := Lib.hid (HE.out.below hb1)
  have HBvb := Lib.hid hb1
  have HOvb := Lib.hid (ho1.up (Nat.le_of_lt HE.out.ptr.lt))
  clear hb1 ho1 n0 n4 n1 n2 n3
  have n0 := HE3.out.ins.cell 0
  have n4 := HE3.out.ins.cell 4
  have n1 := HE3.out.ins.cell 1
  have n2 := HE3.out.ins.cell 2
  have n3 := HE3.out.ins.cell 3
  go_wp2_with fail
  ((with_reducible refine (HR.out w3 a HE3.out (fun hp => HF.out.1 (by omega))).mono ?_); rintro e w4 ⟨va, rfl, hb1, ho1⟩)
  have HE4 := Lib.hid (HE3.out.below hb1)
  have HBva := Lib.hid hb1
  have HOva := Lib.hid (ho1.up (Nat.le_of_lt HE3.out.ptr.lt))
  clear hb1 ho1 n0 n4 n1 n2 n3
  have n0 := HE4.out.ins.cell 0
  have n4 := HE4.out.ins.cell 4
  have n1 := HE4.out.ins.cell 1
  have n2 := HE4.out.ins.cell 2
  have n3 := HE4.out.ins.cell 3
  go_wp2_with fail
  clear n0 n4 n1 n2 n3
  have HW0 := Lib.hid (show Cr.Ow 14 W.heap.size n va vb (Value.slice none 0 0) (fun i => AdjC.at_ s.pad (a + (i : Int))) (fun i => AdjC.at_ s.pad (b + (i : Int))) (fun i => AdjC.at_ s.pad (c' + (i : Int))) w4 from ⟨fun _ => HOva.out, fun _ => HOvb.out.below HBva.out, fun h => absurd rfl h.2⟩)
  go_loopw [48] (fun i wr => ∃ j : Nat, j ≤ n ∧ i = .int .i64 (j : Int) ∧ Cr.Ea w k c { s with pad := AdjC.eachK ⟨14, a, b, c', (n : Int), v⟩ s.pad j } ⟨14, a, b, c', (n : Int), v⟩ W.heap.size wr ∧ Cr.Ow 14 W.heap.size n va vb (Value.slice none 0 0) (fun i => AdjC.at_ s.pad (a + (i : Int))) (fun i => AdjC.at_ s.pad (b + (i : Int))) (fun i => AdjC.at_ s.pad (c' + (i : Int))) wr) (fun i _ => n - (intOf i).toNat)
  case atStart => exact ⟨0, by omega, rfl, HE4.out, HW0.out⟩
  case round =>
    obtain ⟨j, hj, rfl, he, how⟩ := hrel
    have HJ := Lib.hid he
    have HO := Lib.hid how
    clear he how
    have n4 := HJ.out.ins.cell 4
    by_cases hlt : j < n
    · obtain ⟨p, hp⟩ : ∃ p : Nat, a = (p : Int) := ⟨a.toNat, by have := HF.out.1 (by omega); omega⟩
      have hpn : p + n ≤ s.pad.length := by have := HF.out.1 (by omega); omega
      have b4 := HJ.out.st.pad_at
      rw [HJ.out.st.pad.some_ (by simp only [AdjC.eachK_length]; omega)] at b4
      simp only [AdjC.eachK_length] at b4
      have b0 := HJ.out.ptr.cell 0
      have n0 := HJ.out.ins.cell 0
      have n1 := HJ.out.ins.cell 1
      have n2 := HJ.out.ins.cell 2
      have n3 := HJ.out.ins.cell 3
      have n5 := HJ.out.ins.cell 5
      have HWD := Lib.hid (show ∀ W2, W2 = wr.drew → Calls Try.prog 42 #[.agg #[.int .i64 14, .int .i64 a, .int .i64 b, .int .i64 c', .int .i64 (n : Int), .int .i64 v], va, vb, (Value.slice none 0 0), .int .i64 (j : Int)] W2 fun e w' => e = .returned (.int .i64 (AdjC.word ⟨14, a, b, c', (n : Int), v⟩ s.pad (j : Int))) ∧ Below W2.heap.size W2 w' from
        fun W2 hW2 => by
          subst hW2
          have ho : Cr.Ow 14 W.heap.size n va vb (Value.slice none 0 0) _ _ _ wr.drew := HO.out
          exact word_any ⟨14, a, b, c', (n : Int), v⟩ va vb (Value.slice none 0 0) j _ _ _ wr.drew hd (fun h => (ho.1 h).rd hlt) (fun h => (ho.2.1 h).rd hlt) (fun h => (ho.2.2 h).rd hlt))
      have HP := Lib.hid hp
      subst hp
      go_wp2_with fail
      refine wp_region_T (fun w' => (w'.cell? ⟨W.heap.size, 0, none⟩ = some (.pointer (some ⟨k.g, 0, none⟩)) ∧ w'.cell? ⟨k.g, 4, none⟩ = some (.slice (some ⟨k.gp, 0, none⟩) s.pad.length k.cp)) ∧ w'.cell? ⟨W.heap.size + 1, 0, none⟩ = some (.int .i64 14) ∧ w'.cell? ⟨W.heap.size + 1, 1, none⟩ = some (.int .i64 (p : Int)) ∧ w'.cell? ⟨W.heap.size + 1, 2, none⟩ = some (.int .i64 b) ∧ w'.cell? ⟨W.heap.size + 1, 3, none⟩ = some (.int .i64 c') ∧ w'.cell? ⟨W.heap.size + 1, 4, none⟩ = some (.int .i64 (n : Int)) ∧ w'.cell? ⟨W.heap.size + 1, 5, none⟩ = some (.int .i64 v)) 14 (fun _ => True) 14 16 rfl (by kernel_rfl) ⟨⟨⟨b0, b4⟩, n0, n1, n2, n3, n4, n5⟩, trivial⟩ (fun hHeld => ?_)
      simp only [List.replicate_succ, List.replicate_zero]
      refine wpT_take 0 51 (v := ?_) hHeld.1 hHeld.2 rfl rfl (by kernel_rfl) (fun _ _ _ h => h) rfl ?_ ?_
      rotate_left
      · (intro w hSw; (try dsimp only at hSw); go_simp; try with_reducible rfl)
      try simp only [Act.put, List.setIfInBounds_toArray, List.set_cons_zero, List.set_cons_succ]
      refine wpT_take 1 52 (v := ?_) hHeld.1 hHeld.2 rfl rfl (by kernel_rfl) (fun _ _ _ h => h) rfl ?_ ?_
      rotate_left
      · (intro w hSw; (try dsimp only at hSw); go_simp; try with_reducible rfl)
      try simp only [Act.put, List.setIfInBounds_toArray, List.set_cons_zero, List.set_cons_succ]
      refine wpT_take 2 53 (v := ?_) hHeld.1 hHeld.2 rfl rfl (by kernel_rfl) (fun _ _ _ h => h) rfl ?_ ?_
      rotate_left
      · (intro w hSw; (try dsimp only at hSw); go_simp; try with_reducible rfl)
      try simp only [Act.put, List.setIfInBounds_toArray, List.set_cons_zero, List.set_cons_succ]
      refine wpT_take 3 54 (v := ?_) hHeld.1 hHeld.2 rfl rfl (by kernel_rfl) (fun _ _ _ h => h) rfl ?_ ?_
      rotate_left
      · (intro w hSw; (try dsimp only at hSw); go_simp; try with_reducible rfl)
      try simp only [Act.put, List.setIfInBounds_toArray, List.set_cons_zero, List.set_cons_succ]
      refine wpT_take 4 55 (v := ?_) hHeld.1 hHeld.2 rfl rfl (by kernel_rfl) (fun _ _ _ h => h) rfl ?_ ?_
      rotate_left
      · (intro w hSw; (try dsimp only at hSw); go_simp; try with_reducible rfl)
      try simp only [Act.put, List.setIfInBounds_toArray, List.set_cons_zero, List.set_cons_succ]
      refine wpT_take 5 56 (v := ?_) hHeld.1 hHeld.2 rfl rfl (by kernel_rfl) (fun _ _ _ h => h) rfl ?_ ?_
      rotate_left
      · (intro w hSw; (try dsimp only at hSw); go_simp; try with_reducible rfl)
      try simp only [Act.put, List.setIfInBounds_toArray, List.set_cons_zero, List.set_cons_succ]
      refine wpT_take 6 57 (v := ?_) hHeld.1 hHeld.2 rfl rfl (by kernel_rfl) (fun _ _ _ h => h) rfl ?_ ?_
      rotate_left
      · (intro w hSw; (try dsimp only at hSw); go_simp; try with_reducible rfl)
      try simp only [Act.put, List.setIfInBounds_toArray, List.set_cons_zero, List.set_cons_succ]
      refine wpT_take 7 58 (v := ?_) hHeld.1 hHeld.2 rfl rfl (by kernel_rfl) (fun _ _ _ h => h) rfl ?_ ?_
      rotate_left
      · (intro w hSw; (try dsimp only at hSw); go_simp; try with_reducible rfl)
      try simp only [Act.put, List.setIfInBounds_toArray, List.set_cons_zero, List.set_cons_succ]
      refine wpT_take 8 59 (v := ?_) hHeld.1 hHeld.2 rfl rfl (by kernel_rfl) (fun _ _ _ h => h) rfl ?_ ?_
      rotate_left
      · (intro w hSw; (try dsimp only at hSw); go_simp; try with_reducible rfl)
      try simp only [Act.put, List.setIfInBounds_toArray, List.set_cons_zero, List.set_cons_succ]
      refine wpT_take 9 60 (v := ?_) hHeld.1 hHeld.2 rfl rfl (by kernel_rfl) (fun _ _ _ h => h) rfl ?_ ?_
      rotate_left
      · (intro w hSw; (try dsimp only at hSw); go_simp; try with_reducible rfl)
      try simp only [Act.put, List.setIfInBounds_toArray, List.set_cons_zero, List.set_cons_succ]
      refine wpT_take 10 61 (v := ?_) hHeld.1 hHeld.2 rfl rfl (by kernel_rfl) (fun _ _ _ h => h) rfl ?_ ?_
      rotate_left
      · (intro w hSw; (try dsimp only at hSw); go_simp; try with_reducible rfl)
      try simp only [Act.put, List.setIfInBounds_toArray, List.set_cons_zero, List.set_cons_succ]
      refine wpT_take 11 62 (v := ?_) hHeld.1 hHeld.2 rfl rfl (by kernel_rfl) (fun _ _ _ h => h) rfl ?_ ?_
      rotate_left
      · (intro w hSw; (try dsimp only at hSw); go_simp; try with_reducible rfl)
      try simp only [Act.put, List.setIfInBounds_toArray, List.set_cons_zero, List.set_cons_succ]
      refine wpT_take 12 63 (v := ?_) hHeld.1 hHeld.2 rfl rfl (by kernel_rfl) (fun _ _ _ h => h) rfl ?_ ?_
      rotate_left
      · (intro w hSw; (try dsimp only at hSw); go_simp; try with_reducible rfl)
      try simp only [Act.put, List.setIfInBounds_toArray, List.set_cons_zero, List.set_cons_succ]
      have HJD := Lib.hid HJ.out.drew
      have HOD := Lib.hid (show Cr.Ow 14 W.heap.size n va vb (Value.slice none 0 0) _ _ _ wr.drew from HO.out)
      generalize wr.drew = wd at HWD HJD HOD hHeld ⊢
      refine wpT_one 13 (by kernel_rfl) (stepT_early rfl rfl (fun K hK => ?_))
      go_simp
      ((with_reducible refine (HWD.out _ rfl).mono ?_); rintro e w5 ⟨rfl, hb5⟩)
      have HJ5 := Lib.hid (HJD.out.below hb5)
      have HO5 := Lib.hid (HOD.out.below hb5)
      refine hK.out _ _ ⟨?_, trivial⟩ (fun hHeld2 => ?_)
      · have g := HJ5.out
        have g4 := g.st.pad_at
        rw [g.st.pad.some_ (by simp only [AdjC.eachK_length]; omega)] at g4
        simp only [AdjC.eachK_length] at g4
        exact ⟨⟨g.ptr.cell 0, g4⟩, g.ins.cell 0, g.ins.cell 1, g.ins.cell 2, g.ins.cell 3, g.ins.cell 4, g.ins.cell 5⟩
      clear hb5 hHeld
      clear hK K
      have hHeld := hHeld2
      clear hHeld2
      try simp only [List.setIfInBounds_toArray, List.set_cons_zero, List.set_cons_succ]
      have f5 := HJ5.out.st.pad.frozen (k := p + j) (by simp only [AdjC.eachK_length]; omega)
      have q5 := HJ5.out.st.pad.cell (k := p + j) (by simp only [AdjC.eachK_length]; omega)
      have HPU := Lib.hid (HJ5.out.put (j := p + j) (by simp only [AdjC.eachK_length]; omega) (AdjC.word ⟨14, ((p : Nat) : Int), b, c', (n : Int), v⟩ s.pad (j : Int)))
      have HOU := Lib.hid (HO5.out.far (a := ⟨k.gp, p + j, none⟩) (HJ5.out.low (by simp only [AdjC.eachK_length]; omega)) (.int .i64 (AdjC.word ⟨14, ((p : Nat) : Int), b, c', (n : Int), v⟩ s.pad (j : Int))))
      refine wpT_tail [_, _] 14 [15] rfl (by kernel_rfl) ?_
      clear hHeld
      go_wp2_with fail
      go_roundw
      case rel => exact ⟨j + 1, by omega, by go_num, by rw [Cr.eachK_next ⟨14, ((p : Nat) : Int), b, c', (n : Int), v⟩ s.pad j p rfl]; exact HPU.out, HOU.out⟩
      case measure => simp [intOf]; omega
    · obtain rfl : j = n := by omega
      go_wp2_with fail
      go_end0
      exact ⟨rfl, HJ.out.st⟩
set_option maxRecDepth 100000 in
set_option maxHeartbeats 8000000 in
theorem each_two (w W : World) (k : Cr.Sk) (c : AdjC.Code) (s : AdjC.St) (d a b c' v : Int) (n : Nat) (hk : 6 ≤ d ∧ d ≤ 10) (h : Cr.Sb w k c s W) (hf : Cr.Fit ⟨d, a, b, c', (n : Int), v⟩ s.pad.length) (hl : s.pad.length ≤ 4096) :
    Calls Try.prog 35 #[.pointer (some ⟨k.g, 0, none⟩), Cr.insV ⟨d, a, b, c', (n : Int), v⟩] W fun e w' => e = .returned (.tuple #[]) ∧ Cr.Sb w k c { s with pad := AdjC.eachK ⟨d, a, b, c', (n : Int), v⟩ s.pad n } w' := by
  obtain ⟨hd, hn, ha0, hf1, hf2, hf3⟩ := hf
  simp only at hd hn ha0 hf1 hf2 hf3
  have HF := Lib.hid (And.intro hf1 (And.intro hf2 hf3))
  have HS := Lib.hid h
  clear h hf1 hf2 hf3
  rw [Cr.insV_eq]
  have HE := Lib.hid (show Cr.Ea w k c s ⟨d, a, b, c', (n : Int), v⟩ W.heap.size ((W.alloc (.cells #[.pointer (some ⟨k.g, 0, none⟩)] 45)).alloc (.cells #[.int .i64 d, .int .i64 a, .int .i64 b, .int .i64 c', .int .i64 (n : Int), .int .i64 v] 42)) from
    ⟨(HS.out.alloc _).alloc _, (Blk.new W _ _).alloc _, (by have h2 := Blk.new (W.alloc (.cells #[.pointer (some ⟨k.g, 0, none⟩)] 45)) 42 #[.int .i64 d, .int .i64 a, .int .i64 b, .int .i64 c', .int .i64 (n : Int), .int .i64 v]; rwa [World.size_alloc] at h2), fun hp => HS.out.pad.lt hp⟩)
  have HR := Lib.hid (fun (W2 : World) (at0 : Int) (hE : Cr.Ea w k c s ⟨d, a, b, c', (n : Int), v⟩ W.heap.size W2) hp => reader_any w W2 k c s hE.st at0 n (W.heap.size + 1) W.heap.size (hE.ins.cell 4) (hE.ptr.cell 0) hp hl)
  obtain ⟨q5, q14, r14, r12, r11⟩ := Cr.tests_two hk
  go_enter Try.func35, Try.ntmps35
  go_upto_region 3 with (fail)
  generalize (W.alloc (.cells #[.pointer (some ⟨k.g, 0, none⟩)] 45)).alloc (.cells #[.int .i64 d, .int .i64 a, .int .i64 b, .int .i64 c', .int .i64 (n : Int), .int .i64 v] 42) = W2 at HE ⊢
  have n0 := HE.out.ins.cell 0
  have n4 := HE.out.ins.cell 4
  have n1 := HE.out.ins.cell 1
  have n2 := HE.out.ins.cell 2
  have n3 := HE.out.ins.cell 3
  go_wp2_with fail
  ((with_reducible refine (HR.out W2 b HE.out (fun hp => HF.out.2.1 (by omega) (by omega))).mono ?_); rintro e w3 ⟨vb, rfl, hb1, ho1⟩)
  have HE3 := Lib.hid (HE.out.below hb1)
  have HBvb := Lib.hid hb1
  have HOvb := Lib.hid (ho1.up (Nat.le_of_lt HE.out.ptr.lt))
  clear hb1 ho1 n0 n4 n1 n2 n3
  have n0 := HE3.out.ins.cell 0
  have n4 := HE3.out.ins.cell 4
  have n1 := HE3.out.ins.cell 1
  have n2 := HE3.out.ins.cell 2
  have n3 := HE3.out.ins.cell 3
  go_wp2_with fail
  ((with_reducible refine (HR.out w3 c' HE3.out (fun hp => HF.out.2.2 (by omega) (by omega))).mono ?_); rintro e w4 ⟨vc, rfl, hb1, ho1⟩)
  have HE4 := Lib.hid (HE3.out.below hb1)
  have HBvc := Lib.hid hb1
  have HOvc := Lib.hid (ho1.up (Nat.le_of_lt HE3.out.ptr.lt))
  clear hb1 ho1 n0 n4 n1 n2 n3
  have n0 := HE4.out.ins.cell 0
  have n4 := HE4.out.ins.cell 4
  have n1 := HE4.out.ins.cell 1
  have n2 := HE4.out.ins.cell 2
  have n3 := HE4.out.ins.cell 3
  go_wp2_with fail
  clear n0 n4 n1 n2 n3
  have HW0 := Lib.hid (show Cr.Ow d W.heap.size n (Value.slice none 0 0) vb vc (fun i => AdjC.at_ s.pad (a + (i : Int))) (fun i => AdjC.at_ s.pad (b + (i : Int))) (fun i => AdjC.at_ s.pad (c' + (i : Int))) w4 from ⟨fun h => absurd h (by omega), fun _ => HOvb.out.below HBvc.out, fun _ => HOvc.out⟩)
  go_loopw [48] (fun i wr => ∃ j : Nat, j ≤ n ∧ i = .int .i64 (j : Int) ∧ Cr.Ea w k c { s with pad := AdjC.eachK ⟨d, a, b, c', (n : Int), v⟩ s.pad j } ⟨d, a, b, c', (n : Int), v⟩ W.heap.size wr ∧ Cr.Ow d W.heap.size n (Value.slice none 0 0) vb vc (fun i => AdjC.at_ s.pad (a + (i : Int))) (fun i => AdjC.at_ s.pad (b + (i : Int))) (fun i => AdjC.at_ s.pad (c' + (i : Int))) wr) (fun i _ => n - (intOf i).toNat)
  case atStart => exact ⟨0, by omega, rfl, HE4.out, HW0.out⟩
  case round =>
    obtain ⟨j, hj, rfl, he, how⟩ := hrel
    have HJ := Lib.hid he
    have HO := Lib.hid how
    clear he how
    have n4 := HJ.out.ins.cell 4
    by_cases hlt : j < n
    · obtain ⟨p, hp⟩ : ∃ p : Nat, a = (p : Int) := ⟨a.toNat, by have := HF.out.1 (by omega); omega⟩
      have hpn : p + n ≤ s.pad.length := by have := HF.out.1 (by omega); omega
      have b4 := HJ.out.st.pad_at
      rw [HJ.out.st.pad.some_ (by simp only [AdjC.eachK_length]; omega)] at b4
      simp only [AdjC.eachK_length] at b4
      have b0 := HJ.out.ptr.cell 0
      have n0 := HJ.out.ins.cell 0
      have n1 := HJ.out.ins.cell 1
      have n2 := HJ.out.ins.cell 2
      have n3 := HJ.out.ins.cell 3
      have n5 := HJ.out.ins.cell 5
      have HWD := Lib.hid (show ∀ W2, W2 = wr.drew → Calls Try.prog 42 #[.agg #[.int .i64 d, .int .i64 a, .int .i64 b, .int .i64 c', .int .i64 (n : Int), .int .i64 v], (Value.slice none 0 0), vb, vc, .int .i64 (j : Int)] W2 fun e w' => e = .returned (.int .i64 (AdjC.word ⟨d, a, b, c', (n : Int), v⟩ s.pad (j : Int))) ∧ Below W2.heap.size W2 w' from
        fun W2 hW2 => by
          subst hW2
          have ho : Cr.Ow d W.heap.size n (Value.slice none 0 0) vb vc _ _ _ wr.drew := HO.out
          exact word_any ⟨d, a, b, c', (n : Int), v⟩ (Value.slice none 0 0) vb vc j _ _ _ wr.drew hd (fun h => (ho.1 h).rd hlt) (fun h => (ho.2.1 h).rd hlt) (fun h => (ho.2.2 h).rd hlt))
      have HP := Lib.hid hp
      subst hp
      go_wp2_with fail
      refine wp_region_T (fun w' => (w'.cell? ⟨W.heap.size, 0, none⟩ = some (.pointer (some ⟨k.g, 0, none⟩)) ∧ w'.cell? ⟨k.g, 4, none⟩ = some (.slice (some ⟨k.gp, 0, none⟩) s.pad.length k.cp)) ∧ w'.cell? ⟨W.heap.size + 1, 0, none⟩ = some (.int .i64 d) ∧ w'.cell? ⟨W.heap.size + 1, 1, none⟩ = some (.int .i64 (p : Int)) ∧ w'.cell? ⟨W.heap.size + 1, 2, none⟩ = some (.int .i64 b) ∧ w'.cell? ⟨W.heap.size + 1, 3, none⟩ = some (.int .i64 c') ∧ w'.cell? ⟨W.heap.size + 1, 4, none⟩ = some (.int .i64 (n : Int)) ∧ w'.cell? ⟨W.heap.size + 1, 5, none⟩ = some (.int .i64 v)) 14 (fun _ => True) 14 16 rfl (by kernel_rfl) ⟨⟨⟨b0, b4⟩, n0, n1, n2, n3, n4, n5⟩, trivial⟩ (fun hHeld => ?_)
      simp only [List.replicate_succ, List.replicate_zero]
      refine wpT_take 0 51 (v := ?_) hHeld.1 hHeld.2 rfl rfl (by kernel_rfl) (fun _ _ _ h => h) rfl ?_ ?_
      rotate_left
      · (intro w hSw; (try dsimp only at hSw); go_simp; try with_reducible rfl)
      try simp only [Act.put, List.setIfInBounds_toArray, List.set_cons_zero, List.set_cons_succ]
      refine wpT_take 1 52 (v := ?_) hHeld.1 hHeld.2 rfl rfl (by kernel_rfl) (fun _ _ _ h => h) rfl ?_ ?_
      rotate_left
      · (intro w hSw; (try dsimp only at hSw); go_simp; try with_reducible rfl)
      try simp only [Act.put, List.setIfInBounds_toArray, List.set_cons_zero, List.set_cons_succ]
      refine wpT_take 2 53 (v := ?_) hHeld.1 hHeld.2 rfl rfl (by kernel_rfl) (fun _ _ _ h => h) rfl ?_ ?_
      rotate_left
      · (intro w hSw; (try dsimp only at hSw); go_simp; try with_reducible rfl)
      try simp only [Act.put, List.setIfInBounds_toArray, List.set_cons_zero, List.set_cons_succ]
      refine wpT_take 3 54 (v := ?_) hHeld.1 hHeld.2 rfl rfl (by kernel_rfl) (fun _ _ _ h => h) rfl ?_ ?_
      rotate_left
      · (intro w hSw; (try dsimp only at hSw); go_simp; try with_reducible rfl)
      try simp only [Act.put, List.setIfInBounds_toArray, List.set_cons_zero, List.set_cons_succ]
      refine wpT_take 4 55 (v := ?_) hHeld.1 hHeld.2 rfl rfl (by kernel_rfl) (fun _ _ _ h => h) rfl ?_ ?_
      rotate_left
      · (intro w hSw; (try dsimp only at hSw); go_simp; try with_reducible rfl)
      try simp only [Act.put, List.setIfInBounds_toArray, List.set_cons_zero, List.set_cons_succ]
      refine wpT_take 5 56 (v := ?_) hHeld.1 hHeld.2 rfl rfl (by kernel_rfl) (fun _ _ _ h => h) rfl ?_ ?_
      rotate_left
      · (intro w hSw; (try dsimp only at hSw); go_simp; try with_reducible rfl)
      try simp only [Act.put, List.setIfInBounds_toArray, List.set_cons_zero, List.set_cons_succ]
      refine wpT_take 6 57 (v := ?_) hHeld.1 hHeld.2 rfl rfl (by kernel_rfl) (fun _ _ _ h => h) rfl ?_ ?_
      rotate_left
      · (intro w hSw; (try dsimp only at hSw); go_simp; try with_reducible rfl)
      try simp only [Act.put, List.setIfInBounds_toArray, List.set_cons_zero, List.set_cons_succ]
      refine wpT_take 7 58 (v := ?_) hHeld.1 hHeld.2 rfl rfl (by kernel_rfl) (fun _ _ _ h => h) rfl ?_ ?_
      rotate_left
      · (intro w hSw; (try dsimp only at hSw); go_simp; try with_reducible rfl)
      try simp only [Act.put, List.setIfInBounds_toArray, List.set_cons_zero, List.set_cons_succ]
      refine wpT_take 8 59 (v := ?_) hHeld.1 hHeld.2 rfl rfl (by kernel_rfl) (fun _ _ _ h => h) rfl ?_ ?_
      rotate_left
      · (intro w hSw; (try dsimp only at hSw); go_simp; try with_reducible rfl)
      try simp only [Act.put, List.setIfInBounds_toArray, List.set_cons_zero, List.set_cons_succ]
      refine wpT_take 9 60 (v := ?_) hHeld.1 hHeld.2 rfl rfl (by kernel_rfl) (fun _ _ _ h => h) rfl ?_ ?_
      rotate_left
      · (intro w hSw; (try dsimp only at hSw); go_simp; try with_reducible rfl)
      try simp only [Act.put, List.setIfInBounds_toArray, List.set_cons_zero, List.set_cons_succ]
      refine wpT_take 10 61 (v := ?_) hHeld.1 hHeld.2 rfl rfl (by kernel_rfl) (fun _ _ _ h => h) rfl ?_ ?_
      rotate_left
      · (intro w hSw; (try dsimp only at hSw); go_simp; try with_reducible rfl)
      try simp only [Act.put, List.setIfInBounds_toArray, List.set_cons_zero, List.set_cons_succ]
      refine wpT_take 11 62 (v := ?_) hHeld.1 hHeld.2 rfl rfl (by kernel_rfl) (fun _ _ _ h => h) rfl ?_ ?_
      rotate_left
      · (intro w hSw; (try dsimp only at hSw); go_simp; try with_reducible rfl)
      try simp only [Act.put, List.setIfInBounds_toArray, List.set_cons_zero, List.set_cons_succ]
      refine wpT_take 12 63 (v := ?_) hHeld.1 hHeld.2 rfl rfl (by kernel_rfl) (fun _ _ _ h => h) rfl ?_ ?_
      rotate_left
      · (intro w hSw; (try dsimp only at hSw); go_simp; try with_reducible rfl)
      try simp only [Act.put, List.setIfInBounds_toArray, List.set_cons_zero, List.set_cons_succ]
      have HJD := Lib.hid HJ.out.drew
      have HOD := Lib.hid (show Cr.Ow d W.heap.size n (Value.slice none 0 0) vb vc _ _ _ wr.drew from HO.out)
      generalize wr.drew = wd at HWD HJD HOD hHeld ⊢
      refine wpT_one 13 (by kernel_rfl) (stepT_early rfl rfl (fun K hK => ?_))
      go_simp
      ((with_reducible refine (HWD.out _ rfl).mono ?_); rintro e w5 ⟨rfl, hb5⟩)
      have HJ5 := Lib.hid (HJD.out.below hb5)
      have HO5 := Lib.hid (HOD.out.below hb5)
      refine hK.out _ _ ⟨?_, trivial⟩ (fun hHeld2 => ?_)
      · have g := HJ5.out
        have g4 := g.st.pad_at
        rw [g.st.pad.some_ (by simp only [AdjC.eachK_length]; omega)] at g4
        simp only [AdjC.eachK_length] at g4
        exact ⟨⟨g.ptr.cell 0, g4⟩, g.ins.cell 0, g.ins.cell 1, g.ins.cell 2, g.ins.cell 3, g.ins.cell 4, g.ins.cell 5⟩
      clear hb5 hHeld
      clear hK K
      have hHeld := hHeld2
      clear hHeld2
      try simp only [List.setIfInBounds_toArray, List.set_cons_zero, List.set_cons_succ]
      have f5 := HJ5.out.st.pad.frozen (k := p + j) (by simp only [AdjC.eachK_length]; omega)
      have q5 := HJ5.out.st.pad.cell (k := p + j) (by simp only [AdjC.eachK_length]; omega)
      have HPU := Lib.hid (HJ5.out.put (j := p + j) (by simp only [AdjC.eachK_length]; omega) (AdjC.word ⟨d, ((p : Nat) : Int), b, c', (n : Int), v⟩ s.pad (j : Int)))
      have HOU := Lib.hid (HO5.out.far (a := ⟨k.gp, p + j, none⟩) (HJ5.out.low (by simp only [AdjC.eachK_length]; omega)) (.int .i64 (AdjC.word ⟨d, ((p : Nat) : Int), b, c', (n : Int), v⟩ s.pad (j : Int))))
      refine wpT_tail [_, _] 14 [15] rfl (by kernel_rfl) ?_
      clear hHeld
      go_wp2_with fail
      go_roundw
      case rel => exact ⟨j + 1, by omega, by go_num, by rw [Cr.eachK_next ⟨d, ((p : Nat) : Int), b, c', (n : Int), v⟩ s.pad j p rfl]; exact HPU.out, HOU.out⟩
      case measure => simp [intOf]; omega
    · obtain rfl : j = n := by omega
      go_wp2_with fail
      go_end0
      exact ⟨rfl, HJ.out.st⟩
set_option maxRecDepth 100000 in
set_option maxHeartbeats 8000000 in
theorem each_pick (w W : World) (k : Cr.Sk) (c : AdjC.Code) (s : AdjC.St) (zz a b c' v : Int) (n : Nat)  (h : Cr.Sb w k c s W) (hf : Cr.Fit ⟨11, a, b, c', (n : Int), v⟩ s.pad.length) (hl : s.pad.length ≤ 4096) :
    Calls Try.prog 35 #[.pointer (some ⟨k.g, 0, none⟩), Cr.insV ⟨11, a, b, c', (n : Int), v⟩] W fun e w' => e = .returned (.tuple #[]) ∧ Cr.Sb w k c { s with pad := AdjC.eachK ⟨11, a, b, c', (n : Int), v⟩ s.pad n } w' := by
  obtain ⟨hd, hn, ha0, hf1, hf2, hf3⟩ := hf
  simp only at hd hn ha0 hf1 hf2 hf3
  have HF := Lib.hid (And.intro hf1 (And.intro hf2 hf3))
  have HS := Lib.hid h
  clear h hf1 hf2 hf3
  rw [Cr.insV_eq]
  have HE := Lib.hid (show Cr.Ea w k c s ⟨11, a, b, c', (n : Int), v⟩ W.heap.size ((W.alloc (.cells #[.pointer (some ⟨k.g, 0, none⟩)] 45)).alloc (.cells #[.int .i64 11, .int .i64 a, .int .i64 b, .int .i64 c', .int .i64 (n : Int), .int .i64 v] 42)) from
    ⟨(HS.out.alloc _).alloc _, (Blk.new W _ _).alloc _, (by have h2 := Blk.new (W.alloc (.cells #[.pointer (some ⟨k.g, 0, none⟩)] 45)) 42 #[.int .i64 11, .int .i64 a, .int .i64 b, .int .i64 c', .int .i64 (n : Int), .int .i64 v]; rwa [World.size_alloc] at h2), fun hp => HS.out.pad.lt hp⟩)
  have HR := Lib.hid (fun (W2 : World) (at0 : Int) (hE : Cr.Ea w k c s ⟨11, a, b, c', (n : Int), v⟩ W.heap.size W2) hp => reader_any w W2 k c s hE.st at0 n (W.heap.size + 1) W.heap.size (hE.ins.cell 4) (hE.ptr.cell 0) hp hl)
  skip
  go_enter Try.func35, Try.ntmps35
  go_upto_region 3 with (fail)
  generalize (W.alloc (.cells #[.pointer (some ⟨k.g, 0, none⟩)] 45)).alloc (.cells #[.int .i64 11, .int .i64 a, .int .i64 b, .int .i64 c', .int .i64 (n : Int), .int .i64 v] 42) = W2 at HE ⊢
  have n0 := HE.out.ins.cell 0
  have n4 := HE.out.ins.cell 4
  have n1 := HE.out.ins.cell 1
  have n2 := HE.out.ins.cell 2
  have n3 := HE.out.ins.cell 3
  go_wp2_with fail
  ((with_reducible refine (HR.out W2 b HE.out (fun hp => HF.out.2.1 (by omega) (by omega))).mono ?_); rintro e w3 ⟨vb, rfl, hb1, ho1⟩)
  have HE3 := Lib.hid (HE.out.below hb1)
  have HBvb := Lib.hid hb1
  have HOvb := Lib.hid (ho1.up (Nat.le_of_lt HE.out.ptr.lt))
  clear hb1 ho1 n0 n4 n1 n2 n3
  have n0 := HE3.out.ins.cell 0
  have n4 := HE3.out.ins.cell 4
  have n1 := HE3.out.ins.cell 1
  have n2 := HE3.out.ins.cell 2
  have n3 := HE3.out.ins.cell 3
  go_wp2_with fail
  ((with_reducible refine (HR.out w3 c' HE3.out (fun hp => HF.out.2.2 (by omega) (by omega))).mono ?_); rintro e w4 ⟨vc, rfl, hb1, ho1⟩)
  have HE4 := Lib.hid (HE3.out.below hb1)
  have HBvc := Lib.hid hb1
  have HOvc := Lib.hid (ho1.up (Nat.le_of_lt HE3.out.ptr.lt))
  clear hb1 ho1 n0 n4 n1 n2 n3
  have n0 := HE4.out.ins.cell 0
  have n4 := HE4.out.ins.cell 4
  have n1 := HE4.out.ins.cell 1
  have n2 := HE4.out.ins.cell 2
  have n3 := HE4.out.ins.cell 3
  go_wp2_with fail
  ((with_reducible refine (HR.out w4 a HE4.out (fun hp => HF.out.1 (by omega))).mono ?_); rintro e w5 ⟨va, rfl, hb1, ho1⟩)
  have HE5 := Lib.hid (HE4.out.below hb1)
  have HBva := Lib.hid hb1
  have HOva := Lib.hid (ho1.up (Nat.le_of_lt HE4.out.ptr.lt))
  clear hb1 ho1 n0 n4 n1 n2 n3
  have n0 := HE5.out.ins.cell 0
  have n4 := HE5.out.ins.cell 4
  have n1 := HE5.out.ins.cell 1
  have n2 := HE5.out.ins.cell 2
  have n3 := HE5.out.ins.cell 3
  go_wp2_with fail
  clear n0 n4 n1 n2 n3
  have HW0 := Lib.hid (show Cr.Ow 11 W.heap.size n va vb vc (fun i => AdjC.at_ s.pad (a + (i : Int))) (fun i => AdjC.at_ s.pad (b + (i : Int))) (fun i => AdjC.at_ s.pad (c' + (i : Int))) w5 from ⟨fun _ => HOva.out, fun _ => (HOvb.out.below HBvc.out).below HBva.out, fun _ => HOvc.out.below HBva.out⟩)
  go_loopw [48] (fun i wr => ∃ j : Nat, j ≤ n ∧ i = .int .i64 (j : Int) ∧ Cr.Ea w k c { s with pad := AdjC.eachK ⟨11, a, b, c', (n : Int), v⟩ s.pad j } ⟨11, a, b, c', (n : Int), v⟩ W.heap.size wr ∧ Cr.Ow 11 W.heap.size n va vb vc (fun i => AdjC.at_ s.pad (a + (i : Int))) (fun i => AdjC.at_ s.pad (b + (i : Int))) (fun i => AdjC.at_ s.pad (c' + (i : Int))) wr) (fun i _ => n - (intOf i).toNat)
  case atStart => exact ⟨0, by omega, rfl, HE5.out, HW0.out⟩
  case round =>
    obtain ⟨j, hj, rfl, he, how⟩ := hrel
    have HJ := Lib.hid he
    have HO := Lib.hid how
    clear he how
    have n4 := HJ.out.ins.cell 4
    by_cases hlt : j < n
    · obtain ⟨p, hp⟩ : ∃ p : Nat, a = (p : Int) := ⟨a.toNat, by have := HF.out.1 (by omega); omega⟩
      have hpn : p + n ≤ s.pad.length := by have := HF.out.1 (by omega); omega
      have b4 := HJ.out.st.pad_at
      rw [HJ.out.st.pad.some_ (by simp only [AdjC.eachK_length]; omega)] at b4
      simp only [AdjC.eachK_length] at b4
      have b0 := HJ.out.ptr.cell 0
      have n0 := HJ.out.ins.cell 0
      have n1 := HJ.out.ins.cell 1
      have n2 := HJ.out.ins.cell 2
      have n3 := HJ.out.ins.cell 3
      have n5 := HJ.out.ins.cell 5
      have HWD := Lib.hid (show ∀ W2, W2 = wr.drew → Calls Try.prog 42 #[.agg #[.int .i64 11, .int .i64 a, .int .i64 b, .int .i64 c', .int .i64 (n : Int), .int .i64 v], va, vb, vc, .int .i64 (j : Int)] W2 fun e w' => e = .returned (.int .i64 (AdjC.word ⟨11, a, b, c', (n : Int), v⟩ s.pad (j : Int))) ∧ Below W2.heap.size W2 w' from
        fun W2 hW2 => by
          subst hW2
          have ho : Cr.Ow 11 W.heap.size n va vb vc _ _ _ wr.drew := HO.out
          exact word_any ⟨11, a, b, c', (n : Int), v⟩ va vb vc j _ _ _ wr.drew hd (fun h => (ho.1 h).rd hlt) (fun h => (ho.2.1 h).rd hlt) (fun h => (ho.2.2 h).rd hlt))
      have HP := Lib.hid hp
      subst hp
      go_wp2_with fail
      refine wp_region_T (fun w' => (w'.cell? ⟨W.heap.size, 0, none⟩ = some (.pointer (some ⟨k.g, 0, none⟩)) ∧ w'.cell? ⟨k.g, 4, none⟩ = some (.slice (some ⟨k.gp, 0, none⟩) s.pad.length k.cp)) ∧ w'.cell? ⟨W.heap.size + 1, 0, none⟩ = some (.int .i64 11) ∧ w'.cell? ⟨W.heap.size + 1, 1, none⟩ = some (.int .i64 (p : Int)) ∧ w'.cell? ⟨W.heap.size + 1, 2, none⟩ = some (.int .i64 b) ∧ w'.cell? ⟨W.heap.size + 1, 3, none⟩ = some (.int .i64 c') ∧ w'.cell? ⟨W.heap.size + 1, 4, none⟩ = some (.int .i64 (n : Int)) ∧ w'.cell? ⟨W.heap.size + 1, 5, none⟩ = some (.int .i64 v)) 14 (fun _ => True) 14 16 rfl (by kernel_rfl) ⟨⟨⟨b0, b4⟩, n0, n1, n2, n3, n4, n5⟩, trivial⟩ (fun hHeld => ?_)
      simp only [List.replicate_succ, List.replicate_zero]
      refine wpT_take 0 51 (v := ?_) hHeld.1 hHeld.2 rfl rfl (by kernel_rfl) (fun _ _ _ h => h) rfl ?_ ?_
      rotate_left
      · (intro w hSw; (try dsimp only at hSw); go_simp; try with_reducible rfl)
      try simp only [Act.put, List.setIfInBounds_toArray, List.set_cons_zero, List.set_cons_succ]
      refine wpT_take 1 52 (v := ?_) hHeld.1 hHeld.2 rfl rfl (by kernel_rfl) (fun _ _ _ h => h) rfl ?_ ?_
      rotate_left
      · (intro w hSw; (try dsimp only at hSw); go_simp; try with_reducible rfl)
      try simp only [Act.put, List.setIfInBounds_toArray, List.set_cons_zero, List.set_cons_succ]
      refine wpT_take 2 53 (v := ?_) hHeld.1 hHeld.2 rfl rfl (by kernel_rfl) (fun _ _ _ h => h) rfl ?_ ?_
      rotate_left
      · (intro w hSw; (try dsimp only at hSw); go_simp; try with_reducible rfl)
      try simp only [Act.put, List.setIfInBounds_toArray, List.set_cons_zero, List.set_cons_succ]
      refine wpT_take 3 54 (v := ?_) hHeld.1 hHeld.2 rfl rfl (by kernel_rfl) (fun _ _ _ h => h) rfl ?_ ?_
      rotate_left
      · (intro w hSw; (try dsimp only at hSw); go_simp; try with_reducible rfl)
      try simp only [Act.put, List.setIfInBounds_toArray, List.set_cons_zero, List.set_cons_succ]
      refine wpT_take 4 55 (v := ?_) hHeld.1 hHeld.2 rfl rfl (by kernel_rfl) (fun _ _ _ h => h) rfl ?_ ?_
      rotate_left
      · (intro w hSw; (try dsimp only at hSw); go_simp; try with_reducible rfl)
      try simp only [Act.put, List.setIfInBounds_toArray, List.set_cons_zero, List.set_cons_succ]
      refine wpT_take 5 56 (v := ?_) hHeld.1 hHeld.2 rfl rfl (by kernel_rfl) (fun _ _ _ h => h) rfl ?_ ?_
      rotate_left
      · (intro w hSw; (try dsimp only at hSw); go_simp; try with_reducible rfl)
      try simp only [Act.put, List.setIfInBounds_toArray, List.set_cons_zero, List.set_cons_succ]
      refine wpT_take 6 57 (v := ?_) hHeld.1 hHeld.2 rfl rfl (by kernel_rfl) (fun _ _ _ h => h) rfl ?_ ?_
      rotate_left
      · (intro w hSw; (try dsimp only at hSw); go_simp; try with_reducible rfl)
      try simp only [Act.put, List.setIfInBounds_toArray, List.set_cons_zero, List.set_cons_succ]
      refine wpT_take 7 58 (v := ?_) hHeld.1 hHeld.2 rfl rfl (by kernel_rfl) (fun _ _ _ h => h) rfl ?_ ?_
      rotate_left
      · (intro w hSw; (try dsimp only at hSw); go_simp; try with_reducible rfl)
      try simp only [Act.put, List.setIfInBounds_toArray, List.set_cons_zero, List.set_cons_succ]
      refine wpT_take 8 59 (v := ?_) hHeld.1 hHeld.2 rfl rfl (by kernel_rfl) (fun _ _ _ h => h) rfl ?_ ?_
      rotate_left
      · (intro w hSw; (try dsimp only at hSw); go_simp; try with_reducible rfl)
      try simp only [Act.put, List.setIfInBounds_toArray, List.set_cons_zero, List.set_cons_succ]
      refine wpT_take 9 60 (v := ?_) hHeld.1 hHeld.2 rfl rfl (by kernel_rfl) (fun _ _ _ h => h) rfl ?_ ?_
      rotate_left
      · (intro w hSw; (try dsimp only at hSw); go_simp; try with_reducible rfl)
      try simp only [Act.put, List.setIfInBounds_toArray, List.set_cons_zero, List.set_cons_succ]
      refine wpT_take 10 61 (v := ?_) hHeld.1 hHeld.2 rfl rfl (by kernel_rfl) (fun _ _ _ h => h) rfl ?_ ?_
      rotate_left
      · (intro w hSw; (try dsimp only at hSw); go_simp; try with_reducible rfl)
      try simp only [Act.put, List.setIfInBounds_toArray, List.set_cons_zero, List.set_cons_succ]
      refine wpT_take 11 62 (v := ?_) hHeld.1 hHeld.2 rfl rfl (by kernel_rfl) (fun _ _ _ h => h) rfl ?_ ?_
      rotate_left
      · (intro w hSw; (try dsimp only at hSw); go_simp; try with_reducible rfl)
      try simp only [Act.put, List.setIfInBounds_toArray, List.set_cons_zero, List.set_cons_succ]
      refine wpT_take 12 63 (v := ?_) hHeld.1 hHeld.2 rfl rfl (by kernel_rfl) (fun _ _ _ h => h) rfl ?_ ?_
      rotate_left
      · (intro w hSw; (try dsimp only at hSw); go_simp; try with_reducible rfl)
      try simp only [Act.put, List.setIfInBounds_toArray, List.set_cons_zero, List.set_cons_succ]
      have HJD := Lib.hid HJ.out.drew
      have HOD := Lib.hid (show Cr.Ow 11 W.heap.size n va vb vc _ _ _ wr.drew from HO.out)
      generalize wr.drew = wd at HWD HJD HOD hHeld ⊢
      refine wpT_one 13 (by kernel_rfl) (stepT_early rfl rfl (fun K hK => ?_))
      go_simp
      ((with_reducible refine (HWD.out _ rfl).mono ?_); rintro e w5 ⟨rfl, hb5⟩)
      have HJ5 := Lib.hid (HJD.out.below hb5)
      have HO5 := Lib.hid (HOD.out.below hb5)
      refine hK.out _ _ ⟨?_, trivial⟩ (fun hHeld2 => ?_)
      · have g := HJ5.out
        have g4 := g.st.pad_at
        rw [g.st.pad.some_ (by simp only [AdjC.eachK_length]; omega)] at g4
        simp only [AdjC.eachK_length] at g4
        exact ⟨⟨g.ptr.cell 0, g4⟩, g.ins.cell 0, g.ins.cell 1, g.ins.cell 2, g.ins.cell 3, g.ins.cell 4, g.ins.cell 5⟩
      clear hb5 hHeld
      clear hK K
      have hHeld := hHeld2
      clear hHeld2
      try simp only [List.setIfInBounds_toArray, List.set_cons_zero, List.set_cons_succ]
      have f5 := HJ5.out.st.pad.frozen (k := p + j) (by simp only [AdjC.eachK_length]; omega)
      have q5 := HJ5.out.st.pad.cell (k := p + j) (by simp only [AdjC.eachK_length]; omega)
      have HPU := Lib.hid (HJ5.out.put (j := p + j) (by simp only [AdjC.eachK_length]; omega) (AdjC.word ⟨11, ((p : Nat) : Int), b, c', (n : Int), v⟩ s.pad (j : Int)))
      have HOU := Lib.hid (HO5.out.far (a := ⟨k.gp, p + j, none⟩) (HJ5.out.low (by simp only [AdjC.eachK_length]; omega)) (.int .i64 (AdjC.word ⟨11, ((p : Nat) : Int), b, c', (n : Int), v⟩ s.pad (j : Int))))
      refine wpT_tail [_, _] 14 [15] rfl (by kernel_rfl) ?_
      clear hHeld
      go_wp2_with fail
      go_roundw
      case rel => exact ⟨j + 1, by omega, by go_num, by rw [Cr.eachK_next ⟨11, ((p : Nat) : Int), b, c', (n : Int), v⟩ s.pad j p rfl]; exact HPU.out, HOU.out⟩
      case measure => simp [intOf]; omega
    · obtain rfl : j = n := by omega
      go_wp2_with fail
      go_end0
      exact ⟨rfl, HJ.out.st⟩
set_option maxRecDepth 100000 in
set_option maxHeartbeats 8000000 in
theorem each_mac (w W : World) (k : Cr.Sk) (c : AdjC.Code) (s : AdjC.St) (zz a b c' v : Int) (n : Nat)  (h : Cr.Sb w k c s W) (hf : Cr.Fit ⟨12, a, b, c', (n : Int), v⟩ s.pad.length) (hl : s.pad.length ≤ 4096) :
    Calls Try.prog 35 #[.pointer (some ⟨k.g, 0, none⟩), Cr.insV ⟨12, a, b, c', (n : Int), v⟩] W fun e w' => e = .returned (.tuple #[]) ∧ Cr.Sb w k c { s with pad := AdjC.eachK ⟨12, a, b, c', (n : Int), v⟩ s.pad n } w' := by
  obtain ⟨hd, hn, ha0, hf1, hf2, hf3⟩ := hf
  simp only at hd hn ha0 hf1 hf2 hf3
  have HF := Lib.hid (And.intro hf1 (And.intro hf2 hf3))
  have HS := Lib.hid h
  clear h hf1 hf2 hf3
  rw [Cr.insV_eq]
  have HE := Lib.hid (show Cr.Ea w k c s ⟨12, a, b, c', (n : Int), v⟩ W.heap.size ((W.alloc (.cells #[.pointer (some ⟨k.g, 0, none⟩)] 45)).alloc (.cells #[.int .i64 12, .int .i64 a, .int .i64 b, .int .i64 c', .int .i64 (n : Int), .int .i64 v] 42)) from
    ⟨(HS.out.alloc _).alloc _, (Blk.new W _ _).alloc _, (by have h2 := Blk.new (W.alloc (.cells #[.pointer (some ⟨k.g, 0, none⟩)] 45)) 42 #[.int .i64 12, .int .i64 a, .int .i64 b, .int .i64 c', .int .i64 (n : Int), .int .i64 v]; rwa [World.size_alloc] at h2), fun hp => HS.out.pad.lt hp⟩)
  have HR := Lib.hid (fun (W2 : World) (at0 : Int) (hE : Cr.Ea w k c s ⟨12, a, b, c', (n : Int), v⟩ W.heap.size W2) hp => reader_any w W2 k c s hE.st at0 n (W.heap.size + 1) W.heap.size (hE.ins.cell 4) (hE.ptr.cell 0) hp hl)
  skip
  go_enter Try.func35, Try.ntmps35
  go_upto_region 3 with (fail)
  generalize (W.alloc (.cells #[.pointer (some ⟨k.g, 0, none⟩)] 45)).alloc (.cells #[.int .i64 12, .int .i64 a, .int .i64 b, .int .i64 c', .int .i64 (n : Int), .int .i64 v] 42) = W2 at HE ⊢
  have n0 := HE.out.ins.cell 0
  have n4 := HE.out.ins.cell 4
  have n1 := HE.out.ins.cell 1
  have n2 := HE.out.ins.cell 2
  have n3 := HE.out.ins.cell 3
  go_wp2_with fail
  ((with_reducible refine (HR.out W2 b HE.out (fun hp => HF.out.2.1 (by omega) (by omega))).mono ?_); rintro e w3 ⟨vb, rfl, hb1, ho1⟩)
  have HE3 := Lib.hid (HE.out.below hb1)
  have HBvb := Lib.hid hb1
  have HOvb := Lib.hid (ho1.up (Nat.le_of_lt HE.out.ptr.lt))
  clear hb1 ho1 n0 n4 n1 n2 n3
  have n0 := HE3.out.ins.cell 0
  have n4 := HE3.out.ins.cell 4
  have n1 := HE3.out.ins.cell 1
  have n2 := HE3.out.ins.cell 2
  have n3 := HE3.out.ins.cell 3
  go_wp2_with fail
  ((with_reducible refine (HR.out w3 c' HE3.out (fun hp => HF.out.2.2 (by omega) (by omega))).mono ?_); rintro e w4 ⟨vc, rfl, hb1, ho1⟩)
  have HE4 := Lib.hid (HE3.out.below hb1)
  have HBvc := Lib.hid hb1
  have HOvc := Lib.hid (ho1.up (Nat.le_of_lt HE3.out.ptr.lt))
  clear hb1 ho1 n0 n4 n1 n2 n3
  have n0 := HE4.out.ins.cell 0
  have n4 := HE4.out.ins.cell 4
  have n1 := HE4.out.ins.cell 1
  have n2 := HE4.out.ins.cell 2
  have n3 := HE4.out.ins.cell 3
  go_wp2_with fail
  ((with_reducible refine (HR.out w4 a HE4.out (fun hp => HF.out.1 (by omega))).mono ?_); rintro e w5 ⟨va, rfl, hb1, ho1⟩)
  have HE5 := Lib.hid (HE4.out.below hb1)
  have HBva := Lib.hid hb1
  have HOva := Lib.hid (ho1.up (Nat.le_of_lt HE4.out.ptr.lt))
  clear hb1 ho1 n0 n4 n1 n2 n3
  have n0 := HE5.out.ins.cell 0
  have n4 := HE5.out.ins.cell 4
  have n1 := HE5.out.ins.cell 1
  have n2 := HE5.out.ins.cell 2
  have n3 := HE5.out.ins.cell 3
  go_wp2_with fail
  clear n0 n4 n1 n2 n3
  have HW0 := Lib.hid (show Cr.Ow 12 W.heap.size n va vb vc (fun i => AdjC.at_ s.pad (a + (i : Int))) (fun i => AdjC.at_ s.pad (b + (i : Int))) (fun i => AdjC.at_ s.pad (c' + (i : Int))) w5 from ⟨fun _ => HOva.out, fun _ => (HOvb.out.below HBvc.out).below HBva.out, fun _ => HOvc.out.below HBva.out⟩)
  go_loopw [48] (fun i wr => ∃ j : Nat, j ≤ n ∧ i = .int .i64 (j : Int) ∧ Cr.Ea w k c { s with pad := AdjC.eachK ⟨12, a, b, c', (n : Int), v⟩ s.pad j } ⟨12, a, b, c', (n : Int), v⟩ W.heap.size wr ∧ Cr.Ow 12 W.heap.size n va vb vc (fun i => AdjC.at_ s.pad (a + (i : Int))) (fun i => AdjC.at_ s.pad (b + (i : Int))) (fun i => AdjC.at_ s.pad (c' + (i : Int))) wr) (fun i _ => n - (intOf i).toNat)
  case atStart => exact ⟨0, by omega, rfl, HE5.out, HW0.out⟩
  case round =>
    obtain ⟨j, hj, rfl, he, how⟩ := hrel
    have HJ := Lib.hid he
    have HO := Lib.hid how
    clear he how
    have n4 := HJ.out.ins.cell 4
    by_cases hlt : j < n
    · obtain ⟨p, hp⟩ : ∃ p : Nat, a = (p : Int) := ⟨a.toNat, by have := HF.out.1 (by omega); omega⟩
      have hpn : p + n ≤ s.pad.length := by have := HF.out.1 (by omega); omega
      have b4 := HJ.out.st.pad_at
      rw [HJ.out.st.pad.some_ (by simp only [AdjC.eachK_length]; omega)] at b4
      simp only [AdjC.eachK_length] at b4
      have b0 := HJ.out.ptr.cell 0
      have n0 := HJ.out.ins.cell 0
      have n1 := HJ.out.ins.cell 1
      have n2 := HJ.out.ins.cell 2
      have n3 := HJ.out.ins.cell 3
      have n5 := HJ.out.ins.cell 5
      have HWD := Lib.hid (show ∀ W2, W2 = wr.drew → Calls Try.prog 42 #[.agg #[.int .i64 12, .int .i64 a, .int .i64 b, .int .i64 c', .int .i64 (n : Int), .int .i64 v], va, vb, vc, .int .i64 (j : Int)] W2 fun e w' => e = .returned (.int .i64 (AdjC.word ⟨12, a, b, c', (n : Int), v⟩ s.pad (j : Int))) ∧ Below W2.heap.size W2 w' from
        fun W2 hW2 => by
          subst hW2
          have ho : Cr.Ow 12 W.heap.size n va vb vc _ _ _ wr.drew := HO.out
          exact word_any ⟨12, a, b, c', (n : Int), v⟩ va vb vc j _ _ _ wr.drew hd (fun h => (ho.1 h).rd hlt) (fun h => (ho.2.1 h).rd hlt) (fun h => (ho.2.2 h).rd hlt))
      have HP := Lib.hid hp
      subst hp
      go_wp2_with fail
      refine wp_region_T (fun w' => (w'.cell? ⟨W.heap.size, 0, none⟩ = some (.pointer (some ⟨k.g, 0, none⟩)) ∧ w'.cell? ⟨k.g, 4, none⟩ = some (.slice (some ⟨k.gp, 0, none⟩) s.pad.length k.cp)) ∧ w'.cell? ⟨W.heap.size + 1, 0, none⟩ = some (.int .i64 12) ∧ w'.cell? ⟨W.heap.size + 1, 1, none⟩ = some (.int .i64 (p : Int)) ∧ w'.cell? ⟨W.heap.size + 1, 2, none⟩ = some (.int .i64 b) ∧ w'.cell? ⟨W.heap.size + 1, 3, none⟩ = some (.int .i64 c') ∧ w'.cell? ⟨W.heap.size + 1, 4, none⟩ = some (.int .i64 (n : Int)) ∧ w'.cell? ⟨W.heap.size + 1, 5, none⟩ = some (.int .i64 v)) 14 (fun _ => True) 14 16 rfl (by kernel_rfl) ⟨⟨⟨b0, b4⟩, n0, n1, n2, n3, n4, n5⟩, trivial⟩ (fun hHeld => ?_)
      simp only [List.replicate_succ, List.replicate_zero]
      refine wpT_take 0 51 (v := ?_) hHeld.1 hHeld.2 rfl rfl (by kernel_rfl) (fun _ _ _ h => h) rfl ?_ ?_
      rotate_left
      · (intro w hSw; (try dsimp only at hSw); go_simp; try with_reducible rfl)
      try simp only [Act.put, List.setIfInBounds_toArray, List.set_cons_zero, List.set_cons_succ]
      refine wpT_take 1 52 (v := ?_) hHeld.1 hHeld.2 rfl rfl (by kernel_rfl) (fun _ _ _ h => h) rfl ?_ ?_
      rotate_left
      · (intro w hSw; (try dsimp only at hSw); go_simp; try with_reducible rfl)
      try simp only [Act.put, List.setIfInBounds_toArray, List.set_cons_zero, List.set_cons_succ]
      refine wpT_take 2 53 (v := ?_) hHeld.1 hHeld.2 rfl rfl (by kernel_rfl) (fun _ _ _ h => h) rfl ?_ ?_
      rotate_left
      · (intro w hSw; (try dsimp only at hSw); go_simp; try with_reducible rfl)
      try simp only [Act.put, List.setIfInBounds_toArray, List.set_cons_zero, List.set_cons_succ]
      refine wpT_take 3 54 (v := ?_) hHeld.1 hHeld.2 rfl rfl (by kernel_rfl) (fun _ _ _ h => h) rfl ?_ ?_
      rotate_left
      · (intro w hSw; (try dsimp only at hSw); go_simp; try with_reducible rfl)
      try simp only [Act.put, List.setIfInBounds_toArray, List.set_cons_zero, List.set_cons_succ]
      refine wpT_take 4 55 (v := ?_) hHeld.1 hHeld.2 rfl rfl (by kernel_rfl) (fun _ _ _ h => h) rfl ?_ ?_
      rotate_left
      · (intro w hSw; (try dsimp only at hSw); go_simp; try with_reducible rfl)
      try simp only [Act.put, List.setIfInBounds_toArray, List.set_cons_zero, List.set_cons_succ]
      refine wpT_take 5 56 (v := ?_) hHeld.1 hHeld.2 rfl rfl (by kernel_rfl) (fun _ _ _ h => h) rfl ?_ ?_
      rotate_left
      · (intro w hSw; (try dsimp only at hSw); go_simp; try with_reducible rfl)
      try simp only [Act.put, List.setIfInBounds_toArray, List.set_cons_zero, List.set_cons_succ]
      refine wpT_take 6 57 (v := ?_) hHeld.1 hHeld.2 rfl rfl (by kernel_rfl) (fun _ _ _ h => h) rfl ?_ ?_
      rotate_left
      · (intro w hSw; (try dsimp only at hSw); go_simp; try with_reducible rfl)
      try simp only [Act.put, List.setIfInBounds_toArray, List.set_cons_zero, List.set_cons_succ]
      refine wpT_take 7 58 (v := ?_) hHeld.1 hHeld.2 rfl rfl (by kernel_rfl) (fun _ _ _ h => h) rfl ?_ ?_
      rotate_left
      · (intro w hSw; (try dsimp only at hSw); go_simp; try with_reducible rfl)
      try simp only [Act.put, List.setIfInBounds_toArray, List.set_cons_zero, List.set_cons_succ]
      refine wpT_take 8 59 (v := ?_) hHeld.1 hHeld.2 rfl rfl (by kernel_rfl) (fun _ _ _ h => h) rfl ?_ ?_
      rotate_left
      · (intro w hSw; (try dsimp only at hSw); go_simp; try with_reducible rfl)
      try simp only [Act.put, List.setIfInBounds_toArray, List.set_cons_zero, List.set_cons_succ]
      refine wpT_take 9 60 (v := ?_) hHeld.1 hHeld.2 rfl rfl (by kernel_rfl) (fun _ _ _ h => h) rfl ?_ ?_
      rotate_left
      · (intro w hSw; (try dsimp only at hSw); go_simp; try with_reducible rfl)
      try simp only [Act.put, List.setIfInBounds_toArray, List.set_cons_zero, List.set_cons_succ]
      refine wpT_take 10 61 (v := ?_) hHeld.1 hHeld.2 rfl rfl (by kernel_rfl) (fun _ _ _ h => h) rfl ?_ ?_
      rotate_left
      · (intro w hSw; (try dsimp only at hSw); go_simp; try with_reducible rfl)
      try simp only [Act.put, List.setIfInBounds_toArray, List.set_cons_zero, List.set_cons_succ]
      refine wpT_take 11 62 (v := ?_) hHeld.1 hHeld.2 rfl rfl (by kernel_rfl) (fun _ _ _ h => h) rfl ?_ ?_
      rotate_left
      · (intro w hSw; (try dsimp only at hSw); go_simp; try with_reducible rfl)
      try simp only [Act.put, List.setIfInBounds_toArray, List.set_cons_zero, List.set_cons_succ]
      refine wpT_take 12 63 (v := ?_) hHeld.1 hHeld.2 rfl rfl (by kernel_rfl) (fun _ _ _ h => h) rfl ?_ ?_
      rotate_left
      · (intro w hSw; (try dsimp only at hSw); go_simp; try with_reducible rfl)
      try simp only [Act.put, List.setIfInBounds_toArray, List.set_cons_zero, List.set_cons_succ]
      have HJD := Lib.hid HJ.out.drew
      have HOD := Lib.hid (show Cr.Ow 12 W.heap.size n va vb vc _ _ _ wr.drew from HO.out)
      generalize wr.drew = wd at HWD HJD HOD hHeld ⊢
      refine wpT_one 13 (by kernel_rfl) (stepT_early rfl rfl (fun K hK => ?_))
      go_simp
      ((with_reducible refine (HWD.out _ rfl).mono ?_); rintro e w5 ⟨rfl, hb5⟩)
      have HJ5 := Lib.hid (HJD.out.below hb5)
      have HO5 := Lib.hid (HOD.out.below hb5)
      refine hK.out _ _ ⟨?_, trivial⟩ (fun hHeld2 => ?_)
      · have g := HJ5.out
        have g4 := g.st.pad_at
        rw [g.st.pad.some_ (by simp only [AdjC.eachK_length]; omega)] at g4
        simp only [AdjC.eachK_length] at g4
        exact ⟨⟨g.ptr.cell 0, g4⟩, g.ins.cell 0, g.ins.cell 1, g.ins.cell 2, g.ins.cell 3, g.ins.cell 4, g.ins.cell 5⟩
      clear hb5 hHeld
      clear hK K
      have hHeld := hHeld2
      clear hHeld2
      try simp only [List.setIfInBounds_toArray, List.set_cons_zero, List.set_cons_succ]
      have f5 := HJ5.out.st.pad.frozen (k := p + j) (by simp only [AdjC.eachK_length]; omega)
      have q5 := HJ5.out.st.pad.cell (k := p + j) (by simp only [AdjC.eachK_length]; omega)
      have HPU := Lib.hid (HJ5.out.put (j := p + j) (by simp only [AdjC.eachK_length]; omega) (AdjC.word ⟨12, ((p : Nat) : Int), b, c', (n : Int), v⟩ s.pad (j : Int)))
      have HOU := Lib.hid (HO5.out.far (a := ⟨k.gp, p + j, none⟩) (HJ5.out.low (by simp only [AdjC.eachK_length]; omega)) (.int .i64 (AdjC.word ⟨12, ((p : Nat) : Int), b, c', (n : Int), v⟩ s.pad (j : Int))))
      refine wpT_tail [_, _] 14 [15] rfl (by kernel_rfl) ?_
      clear hHeld
      go_wp2_with fail
      go_roundw
      case rel => exact ⟨j + 1, by omega, by go_num, by rw [Cr.eachK_next ⟨12, ((p : Nat) : Int), b, c', (n : Int), v⟩ s.pad j p rfl]; exact HPU.out, HOU.out⟩
      case measure => simp [intOf]; omega
    · obtain rfl : j = n := by omega
      go_wp2_with fail
      go_end0
      exact ⟨rfl, HJ.out.st⟩

/-- each, whatever the instruction. -/
theorem each_any (w W : World) (k : Cr.Sk) (c : AdjC.Code) (s : AdjC.St) (x : AdjC.I) (h : Cr.Sb w k c s W) (hf : Cr.Fit x s.pad.length) (hl : s.pad.length ≤ 4096) :
    Calls Try.prog 35 #[.pointer (some ⟨k.g, 0, none⟩), Cr.insV x] W fun e w' => e = .returned (.tuple #[]) ∧ Cr.Sb w k c { s with pad := AdjC.eachK x s.pad x.n.toNat } w' := by
  obtain ⟨d, a, b, c', n, v⟩ := x
  have h1 := hf.1
  have h2 := hf.2.1
  simp only at h1 h2
  obtain ⟨n, rfl⟩ : ∃ m : Nat, n = (m : Int) := ⟨n.toNat, by omega⟩
  have hk : d = 5 ∨ d = 14 ∨ (6 ≤ d ∧ d ≤ 10) ∨ d = 11 ∨ d = 12 := by omega
  rw [show ((⟨d, a, b, c', (n : Int), v⟩ : AdjC.I).n).toNat = n from Int.toNat_natCast n]
  rcases hk with rfl | rfl | hk | rfl | rfl
  · exact each_set w W k c s a b c' v n h hf hl
  · exact each_more w W k c s 0 a b c' v n h hf hl
  · exact each_two w W k c s d a b c' v n hk h hf hl
  · exact each_pick w W k c s 0 a b c' v n h hf hl
  · exact each_mac w W k c s 0 a b c' v n h hf hl
end Go.Proofs.Ytlnfmipcbhhkhaa
