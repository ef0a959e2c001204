/-
  What a view that is being made out of a list that is there (or laid anew), a list of zeros and a block holds, in whatever order they were laid. No condition.
-/
import Derived.Test.YtkbmnefjnfihbaaViewQ
import Derived.Test.YtkbmnefjnfihbaaViewPlain7
namespace Adj
open Go
variable {P : Program} {ops : Array Oper} {Q : Exit → Act → World → Prop} {md : Region.Mode} {S R : World → Prop} {t0 t1 : Nat}
theorem wpT_three (i j k : Nat) {fuel : Nat} {listed : Array Bool} {a : Act} {w : World} (hr : Region.ready md ops listed = [i, j, k]) (hi : StepT P md ops Q S t0 R t1 fuel listed a w i) (hj : StepT P md ops Q S t0 R t1 fuel listed a w j) (hk : StepT P md ops Q S t0 R t1 fuel listed a w k) :
    wpT P md ops Q S t0 R t1 (fuel + 1) listed a w := by
  refine ⟨fun h0 => (by rw [hr] at h0; cases h0), fun m hm => ?_⟩
  rw [hr] at hm
  have hm' : m = i ∨ m = j ∨ m = k := by simpa using hm
  rcases hm' with rfl | rfl | rfl
  · exact hi
  · exact hj
  · exact hk
end Adj
namespace Go.Proofs.Ytkbmnefjnfihbaa
set_option linter.unusedVariables false
open Go.RowKit Adj
namespace Vw
/-- What has been laid so far. -/
structure Acc (N : Nat) (W0 : World) (c m : Option (Value × List Int)) (b : Option Nat) (W : World) : Prop where
  below : Below N W0 W
  low : N ≤ W.heap.size
  fc : ∀ p, c = some p → W.ownsRow N 3 1 p.1 p.2.length (ints p.2)
  fm : ∀ p, m = some p → W.ownsRow N 3 1 p.1 p.2.length (ints p.2)
  fb : ∀ k, b = some k → N ≤ k ∧ Blk W k 34 #[.int .i64 0, .slice none 0 0, .slice none 0 0]
  cm : ∀ p q, c = some p → m = some q → ∀ k, p.1.ownBlock = some k → q.1.ownBlock = some k → False
  cb : ∀ p k, c = some p → b = some k → p.1.ownBlock ≠ some k
  mb : ∀ p k, m = some p → b = some k → p.1.ownBlock ≠ some k
theorem Acc.start (W1 : World) : Acc W1.heap.size W1 none none none W1.drew :=
  ⟨(Below.refl _ _).drew, Nat.le_refl _, nofun, nofun, nofun, nofun, nofun, nofun⟩
variable {N : Nat} {W0 W W' : World} {c m : Option (Value × List Int)} {b : Option Nat}
theorem Acc.stepC (h : Acc N W0 none m b W) {v : Value} {xs : List Int} (ho : W'.ownsRow W.heap.size 3 1 v xs.length (ints xs)) (hb : Below W.heap.size W W') : Acc N W0 (some (v, xs)) m b W' := by
  refine ⟨h.below.trans (hb.mono h.low), Nat.le_trans h.low hb.size, fun p e => ?_, fun p e => own_kept (h.fm p e) hb, fun k e => ⟨(h.fb k e).1, (h.fb k e).2.below hb (h.fb k e).2.lt⟩, fun p q e e2 k k1 k2 => ?_, fun p k e e2 => ?_, h.mb⟩
  · cases e; exact own_base ho h.low
  · cases e; exact own_apart (h.fm q e2) ho (Nat.le_refl _) k k2 k1
  · cases e; exact own_ne ho (h.fb k e2).2.lt
theorem Acc.stepM (h : Acc N W0 c none b W) {v : Value} {xs : List Int} (ho : W'.ownsRow W.heap.size 3 1 v xs.length (ints xs)) (hb : Below W.heap.size W W') : Acc N W0 c (some (v, xs)) b W' := by
  refine ⟨h.below.trans (hb.mono h.low), Nat.le_trans h.low hb.size, fun p e => own_kept (h.fc p e) hb, fun p e => ?_, fun k e => ⟨(h.fb k e).1, (h.fb k e).2.below hb (h.fb k e).2.lt⟩, fun p q e e2 k k1 k2 => ?_, h.cb, fun p k e e2 => ?_⟩
  · cases e; exact own_base ho h.low
  · cases e2; exact own_apart (h.fc p e) ho (Nat.le_refl _) k k1 k2
  · cases e; exact own_ne ho (h.fb k e2).2.lt
theorem Acc.make (h : Acc N W0 c none b W) (n : Nat) (hn : n ≤ 65536) : Acc N W0 c (some (.slice (some ⟨W.heap.size, 0, none⟩) n n, List.replicate n 0)) b (W.alloc (.cells (ints (List.replicate n 0)).toArray 3)) := by
  refine h.stepM ?_ ((Below.refl _ _).alloc (Nat.le_refl _) _)
  have h2 := World.ownsRow_lit (base := W.heap.size) (size := 1) (e := 3) W (ints (List.replicate n 0)).toArray n (Nat.le_refl _) (by unfold maxLen; omega) (by simp [ints])
  simpa using h2
theorem Acc.stepB (h : Acc N W0 c m none W) : Acc N W0 c m (some W.heap.size) (W.alloc (.cells #[.int .i64 0, .slice none 0 0, .slice none 0 0] 34)) := by
  refine ⟨h.below.alloc h.low _, by simp; exact Nat.le_succ_of_le h.low, fun p e => (h.fc p e).alloc _, fun p e => (h.fm p e).alloc _, fun k e => ?_, h.cm, fun p k e e2 => ?_, fun p k e e2 => ?_⟩
  · cases e; exact ⟨h.low, Blk.new W _ _⟩
  · cases e2; exact own_lt_ne (h.fc p e) (Nat.le_refl _)
  · cases e2; exact own_lt_ne (h.fm p e) (Nat.le_refl _)

/-- A view in a block of the call's own; its second list the call's own; its first one anywhere else. -/
structure Fs (B N bw : Nat) (W0 : World) (st : Int) (A1 : Option Addr) (c1 : Nat) (v2 : Value) (xs ys : List Int) (W : World) : Prop where
  blk : Blk W bw 34 #[.int .i64 st, .slice A1 xs.length c1, v2]
  i1 : IntsAt W W.heap.size A1 xs
  g1 : ∀ b off, A1 = some ⟨b, off, none⟩ → 0 < xs.length → (b < B ∨ N ≤ b) ∧ b ≠ bw ∧ v2.ownBlock ≠ some b
  l1 : xs.length ≤ c1
  l2 : c1 ≤ 9223372036854775807
  own2 : W.ownsRow N 3 1 v2 ys.length (ints ys)
  n2 : v2.ownBlock ≠ some bw
  below : Below N W0 W
  low : N ≤ bw
variable {B bw : Nat} {st : Int} {A1 : Option Addr} {c1 : Nat} {v2 : Value} {xs ys : List Int}
theorem Fs.drewN (h : Fs B N bw W0 st A1 c1 v2 xs ys W) (n : Nat) : Fs B N bw W0 st A1 c1 v2 xs ys (W.drewN n) :=
  ⟨h.blk.drewN n, h.i1, h.g1, h.l1, h.l2, h.own2, h.n2, below_drewN h.below n, h.low⟩
theorem Fs.drew (h : Fs B N bw W0 st A1 c1 v2 xs ys W) : Fs B N bw W0 st A1 c1 v2 xs ys W.drew :=
  ⟨h.blk.drew, h.i1, h.g1, h.l1, h.l2, h.own2.drew, h.n2, h.below.drew, h.low⟩
theorem Fs.store2 {g cap : Nat} (h : Fs B N bw W0 st A1 c1 (.slice (some ⟨g, 0, none⟩) ys.length cap) xs ys W) (j : Nat) (x : Int) :
    Fs B N bw W0 st A1 c1 (.slice (some ⟨g, 0, none⟩) (ys.set j x).length cap) xs (ys.set j x) (W.setCell ⟨g, j, none⟩ (.int .i64 x)) := by
  have hs := h.own2.stored j (.int .i64 x)
  have hg : g ≠ bw := fun e => h.n2 (by simp [Value.ownBlock, e])
  have hlt := h.own2.lt g rfl
  rw [List.length_set]
  refine ⟨h.blk.far (p := ⟨g, j, none⟩) (Ne.symm hg) _, ?_, h.g1, h.l1, h.l2, ?_, h.n2, h.below.setCell (p := ⟨g, j, none⟩) hlt.1 _, h.low⟩
  · refine (h.i1.set (c := g) (fun b off e hp e2 => (h.g1 b off e hp).2.2 (by simp [Value.ownBlock, e2])) j _).up (by simp)
  · rw [List.length_set]
    have : ints (ys.set j x) = (ints ys).set j (.int .i64 x) := by unfold ints; rw [List.map_set]
    rw [this]
    exact hs.1
theorem Fs.laid {cs : Array Value} (hb : Blk W bw 34 cs) (hcs : cs.size = 3) (i1 : IntsAt W W.heap.size A1 xs) (g1 : ∀ b off, A1 = some ⟨b, off, none⟩ → 0 < xs.length → (b < B ∨ N ≤ b) ∧ b ≠ bw ∧ v2.ownBlock ≠ some b)
    (l1 : xs.length ≤ c1) (l2 : c1 ≤ 9223372036854775807) (o2 : W.ownsRow N 3 1 v2 ys.length (ints ys)) (n2 : v2.ownBlock ≠ some bw)
    (hbel : Below N W0 W) (low : N ≤ bw) : Fs B N bw W0 st A1 c1 v2 xs ys (((W.setCell ⟨bw, 0, none⟩ (.int .i64 st)).setCell ⟨bw, 1, none⟩ (.slice A1 xs.length c1)).setCell ⟨bw, 2, none⟩ v2) := by
  have hb3 := ((hb.set_ 0 (.int .i64 st)).set_ 1 (.slice A1 xs.length c1)).set_ 2 v2
  have hc : ((cs.setIfInBounds 0 (.int .i64 st)).setIfInBounds 1 (.slice A1 xs.length c1)).setIfInBounds 2 v2 = #[.int .i64 st, .slice A1 xs.length c1, v2] := by
    apply Array.ext
    · simp [hcs]
    · intro i h1 h2
      have : i = 0 ∨ i = 1 ∨ i = 2 := by simp at h2; omega
      rcases this with rfl | rfl | rfl <;> simp [hcs]
  rw [hc] at hb3
  exact ⟨hb3, (i1.set3 (fun b off e hp => (g1 b off e hp).2.1) _ _ _).up (by simp), g1, l1, l2, ((o2.kept (grownBy_set _ bw 0 _) (.inr n2)).kept (grownBy_set _ bw 1 _) (.inr n2)).kept (grownBy_set _ bw 2 _) (.inr n2), n2, three hbel low _ _ _, low⟩
theorem Acc.fs (B : Nat) (st : Int) (h : Acc N W0 (some (.slice A1 xs.length c1, xs)) (some (v2, ys)) (some bw) W) :
    Fs B N bw W0 st A1 c1 v2 xs ys (((W.setCell ⟨bw, 0, none⟩ (.int .i64 st)).setCell ⟨bw, 1, none⟩ (.slice A1 xs.length c1)).setCell ⟨bw, 2, none⟩ v2) := by
  obtain ⟨A, n, e, ia, la, ma, ga⟩ := own_view (h.fc _ rfl)
  simp only [Value.slice.injEq] at e
  obtain ⟨rfl, _, rfl⟩ := e
  refine Fs.laid (h.fb _ rfl).2 rfl ia (fun b off e hp => ⟨.inr (ga b off e hp), fun e2 => h.cb _ _ rfl rfl (by subst e; simp [Value.ownBlock, e2]), fun e2 => h.cm _ _ rfl rfl b (by subst e; simp [Value.ownBlock]) e2⟩) la ma (h.fm _ rfl) (h.mb _ _ rfl rfl) h.below (h.fb _ rfl).1
theorem Acc.fs' (st : Int) (h : Acc N W0 none (some (v2, ys)) (some bw) W) (hi : IntsAt W0 B A1 xs) (hB : B ≤ N) (l1 : xs.length ≤ c1) (l2 : c1 ≤ 9223372036854775807) :
    Fs B N bw W0 st A1 c1 v2 xs ys (((W.setCell ⟨bw, 0, none⟩ (.int .i64 st)).setCell ⟨bw, 1, none⟩ (.slice A1 xs.length c1)).setCell ⟨bw, 2, none⟩ v2) := by
  refine Fs.laid (h.fb _ rfl).2 rfl ((hi.below (h.below.mono hB)).up (Nat.le_trans hB h.low)) (fun b off e hp => ?_) l1 l2 (h.fm _ rfl) (h.mb _ _ rfl rfl) h.below (h.fb _ rfl).1
  obtain ⟨b2, o2, e2, hlt, _⟩ := hi hp
  rw [e] at e2
  injection e2 with e2
  injection e2 with e2
  have hk := (h.fb _ rfl).1
  exact ⟨.inl (by omega), by omega, own_ne (h.fm _ rfl) (by omega)⟩
end Vw
end Go.Proofs.Ytkbmnefjnfihbaa
