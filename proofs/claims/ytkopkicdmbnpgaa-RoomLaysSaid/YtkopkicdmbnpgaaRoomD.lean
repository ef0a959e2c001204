/-
  Lists in one row of slices, each in room of its own. No condition.
-/
import Derived.Test.YtkopkicdmbnpgaaRoomC
import Derived.Test.YtkopkicdmbnpgaaReadsV
namespace Go.Proofs.Ytkopkicdmbnpgaa
set_option linter.unusedVariables false
open Go.RowKit Adj

theorem Try.infoNum : (Try.prog.info? 3).map (fun i => (i.zero, i.size, i.bytes)) = some (some (.int .i64 0), 1, 8) := by kernel_rfl
namespace Rm
theorem own_keep {w w' : World} {base size n : Nat} {e : TypeId} {v : Value} {xs : List Value} (h : w.ownsRow base e size v n xs) (hk : ∀ g, v.ownBlock = some g → w'.heap[g]? = w.heap[g]?) : w'.ownsRow base e size v n xs := by
  refine ⟨h.1, h.2.imp id ?_⟩
  rintro ⟨g, cap, cur, rfl, h2, h3, h4⟩
  exact ⟨g, cap, cur, rfl, h2, (hk g rfl).trans h3, h4⟩
theorem own_blk_ne {w : World} {g : Nat} {t : TypeId} {cs : Array Value} {base : Nat} {e : TypeId} {size n : Nat} {v : Value} {xs : List Value} (h : w.ownsRow base e size v n xs) (hg : Blk w g t cs) (hne : e ≠ t) : v.ownBlock ≠ some g := by
  rcases h.2 with ⟨rfl, _⟩ | ⟨g', cap, cur, rfl, _, hh, _⟩
  · simp [Value.ownBlock]
  · intro he
    have : g' = g := by simpa [Value.ownBlock] using he
    subst this
    unfold Blk at hg
    rw [hg] at hh
    injection hh with hh
    injection hh with _ ht
    exact hne ht.symm
/-- Lists of numbers: a row of slices at block Bp. -/
def Ps (w : World) (Bp num : Nat) (F : Nat → List Int) (wr : World) : Prop :=
  Below w.heap.size w wr ∧ w.heap.size ≤ Bp ∧ ∃ V : List Value, V.length = num ∧ Blk wr Bp 22 V.toArray ∧ (∀ (s : Nat) (v : Value), V[s]? = some v → wr.ownsRow w.heap.size 3 1 v (F s).length (Adj.ints (F s))) ∧
    ∀ (s t : Nat) (v u : Value), s ≠ t → V[s]? = some v → V[t]? = some u → ∀ g, v.ownBlock = some g → u.ownBlock ≠ some g
section
variable {w wr wr' : World} {Bp num : Nat} {F G : Nat → List Int}
theorem Ps.own_lt {N : Nat} {v : Value} {n : Nat} {xs : List Value} (h : wr.ownsRow N 3 1 v n xs) : ∀ g, v.ownBlock = some g → g < wr.heap.size := fun g hg => (h.lt g hg).2
theorem Ps.same (h : Ps w Bp num F wr) (hFG : ∀ s, s < num → G s = F s) : Ps w Bp num G wr := by
  obtain ⟨h1, h2, V, h3, h4, h5, h6⟩ := h
  refine ⟨h1, h2, V, h3, h4, fun s v hv => ?_, h6⟩
  rw [hFG s (by have := (List.getElem?_eq_some_iff.1 hv).1; omega)]
  exact h5 s v hv
theorem Ps.keep (h : Ps w Bp num F wr) (hb : Below w.heap.size w wr') (hk : ∀ g, g < wr.heap.size → wr'.heap[g]? = wr.heap[g]?) : Ps w Bp num F wr' := by
  obtain ⟨h1, h2, V, h3, h4, h5, h6⟩ := h
  exact ⟨hb, h2, V, h3, (hk Bp h4.lt).trans h4, fun s v hv => own_keep (h5 s v hv) (fun g hg => hk g (Ps.own_lt (h5 s v hv) g hg)), h6⟩
theorem Ps.alloc (h : Ps w Bp num F wr) (o : Obj) : Ps w Bp num F (wr.alloc o) := h.keep (h.1.alloc h.1.size o) (fun g hg => Below.heap_alloc wr o g hg)
theorem Ps.drew (h : Ps w Bp num F wr) : Ps w Bp num F wr.drew := h.keep h.1.drew (fun g hg => rfl)
theorem Ps.below (h : Ps w Bp num F wr) (hb : Below wr.heap.size wr wr') : Ps w Bp num F wr' := h.keep (h.1.trans (hb.mono h.1.size)) (fun g hg => hb.block g hg)
theorem Ps.lt (h : Ps w Bp num F wr) : Bp < wr.heap.size := by obtain ⟨_, _, V, _, h4, _⟩ := h; exact h4.lt
/-- One of them. -/
theorem Ps.get (h : Ps w Bp num F wr) {s : Nat} (hs : s < num) : ∃ A c, wr.cell? ⟨Bp, s, none⟩ = some (.slice A (F s).length c) ∧ wr.ownsRow w.heap.size 3 1 (.slice A (F s).length c) (F s).length (Adj.ints (F s)) ∧ (Value.slice A (F s).length c).ownBlock ≠ some Bp := by
  obtain ⟨h1, h2, V, h3, h4, h5, h6⟩ := h
  have hv : V[s]? = some (V[s]'(by omega)) := List.getElem?_eq_getElem (by omega)
  have ho := h5 s _ hv
  have hne : (V[s]'(by omega)).ownBlock ≠ some Bp := own_blk_ne ho h4 (by decide)
  rcases ho.2 with ⟨e1, e2⟩ | ⟨g, cap, cur, e1, _⟩
  · refine ⟨none, 0, ?_, ?_⟩
    · rw [h4.cell, e2]; simpa [hv] using e1
    · rw [e2, ← e1]; rw [e2] at ho; exact ⟨ho, hne⟩
  · refine ⟨some ⟨g, 0, none⟩, cap, ?_, ?_⟩
    · rw [h4.cell]; simpa [hv] using e1
    · rw [← e1]; exact ⟨ho, hne⟩
theorem Ps.frozen (h : Ps w Bp num F wr) (s : Nat) : wr.frozen? ⟨Bp, s, none⟩ = false := by obtain ⟨_, _, V, _, h4, _⟩ := h; exact h4.frozen s
/-- One number more in one of them. -/
theorem Ps.push (h : Ps w Bp num F wr) {s n : Nat} {v v' : Value} {x : Int} (hs : s < num) (hv : wr.cell? ⟨Bp, s, none⟩ = some v) (ho : wr'.ownsRow w.heap.size 3 1 v' n (Adj.ints (F s ++ [x]))) (hn : n = (F s ++ [x]).length)
    (hg : wr.grownBy wr' v.ownBlock) (hnew : v'.ownBlock = v.ownBlock ∨ v'.ownBlock = some wr.heap.size) (hG : ∀ t, t < num → G t = if t = s then F s ++ [x] else F t) : Ps w Bp num G (wr'.setCell ⟨Bp, s, none⟩ v') := by
  obtain ⟨h1, h2, V, h3, h4, h5, h6⟩ := h
  subst hn
  have hVs : V[s]? = some v := by rw [h4.cell] at hv; simpa using hv
  have hos := h5 s v hVs
  have hbp : v.ownBlock ≠ some Bp := own_blk_ne hos h4 (by decide)
  have hbp' : some Bp ≠ v.ownBlock := fun e => hbp e.symm
  have hB4 : Blk wr' Bp 22 V.toArray := h4.grown hg hbp'
  have hown : ∀ t u, t ≠ s → V[t]? = some u → wr'.ownsRow w.heap.size 3 1 u (F t).length (Adj.ints (F t)) := fun t u hts hu =>
    own_keep (h5 t u hu) (fun g hgu => hg.block g (Ps.own_lt (h5 t u hu) g hgu) (fun e => h6 s t v u (Ne.symm hts) hVs hu g e.symm hgu))
  have hne' : v'.ownBlock ≠ some Bp := fun e => by
    rcases hnew with e2 | e2
    · exact hbp (e2.symm.trans e)
    · rw [e] at e2; have := h4.lt; injection e2 with e2; omega
  have far : ∀ g, g ≠ Bp → (wr'.setCell ⟨Bp, s, none⟩ v').heap[g]? = wr'.heap[g]? := fun g hgb => Below.heap_setCell wr' ⟨Bp, s, none⟩ v' g hgb
  refine ⟨(h1.grown hg h1.size (fun k hk => (hos.lt k hk).1)).setCell (p := ⟨Bp, s, none⟩) h2 _, h2, V.set s v', by simpa using h3, ?_, ?_, ?_⟩
  · have := hB4.set_ s v'
    simpa using this
  · intro t u hu
    rw [List.getElem?_set] at hu
    by_cases e : s = t
    · subst e
      rw [if_pos rfl, if_pos (by omega)] at hu
      cases hu
      rw [hG s hs, if_pos rfl]
      exact own_keep ho (fun g hg' => far g (fun e => hne' (by rw [hg', e])))
    · rw [if_neg e] at hu
      rw [hG t (by have := (List.getElem?_eq_some_iff.1 hu).1; omega), if_neg (Ne.symm e)]
      refine own_keep (hown t u (Ne.symm e) hu) (fun g hg' => far g (fun e2 => ?_))
      exact own_blk_ne (h5 t u hu) h4 (by decide) (by rw [hg', e2])
  · have fresh : ∀ t u, t ≠ s → V[t]? = some u → ∀ g, v'.ownBlock = some g → u.ownBlock ≠ some g := fun t u hts hu g hg' hgu => by
      rcases hnew with e2 | e2
      · exact h6 s t v u (Ne.symm hts) hVs hu g (e2.symm.trans hg') hgu
      · have := Ps.own_lt (h5 t u hu) g hgu
        rw [hg'] at e2; injection e2 with e2; omega
    intro t r u y htr hu hy g hgu hgy
    rw [List.getElem?_set] at hu hy
    by_cases e1 : s = t
    · subst e1
      rw [if_pos rfl, if_pos (by omega)] at hu
      cases hu
      rw [if_neg (by omega)] at hy
      exact fresh r y (by omega) hy g hgu hgy
    · rw [if_neg e1] at hu
      by_cases e2 : s = r
      · subst e2
        rw [if_pos rfl, if_pos (by omega)] at hy
        cases hy
        exact fresh t u (by omega) hu g hgy hgu
      · rw [if_neg e2] at hy
        exact h6 t r u y htr hu hy g hgu hgy
theorem Ps.start {cs : Array Value} (hb : Below w.heap.size w wr) (hB : w.heap.size ≤ Bp) (h : Blk wr Bp 22 cs) (hc : cs = (List.replicate num (Value.slice none 0 0)).toArray) : Ps w Bp num (fun _ => []) wr := by
  subst hc
  refine ⟨hb, hB, _, by simp, h, fun s v hv => ?_, fun s t v u _ hv hu g hg => ?_⟩
  · rw [List.getElem?_replicate] at hv
    split at hv
    · cases hv; exact ⟨rfl, .inl ⟨rfl, rfl⟩⟩
    · cases hv
  · rw [List.getElem?_replicate] at hv
    split at hv
    · cases hv; cases hg
    · cases hv
end
theorem ints_snoc2 (l : List Int) (x : Int) : Adj.ints (l ++ [x]) = Adj.ints l ++ [.int .i64 x] := by simp [Adj.ints]
theorem reads_one {W : World} {g : Nat} {t : TypeId} {v : Value} (h : Blk W g t #[v]) : Adj.Reads W W.heap.size 1 (some ⟨g, 0, none⟩) 1 [v] :=
  ⟨rfl, fun _ => ⟨⟨g, 0, none⟩, rfl, h.lt, fun j u hu => by
    have hj : j = 0 := by
      have := (List.getElem?_eq_some_iff.1 hu).1
      simpa using this
    subst hj
    have : v = u := by simpa using hu
    subst this
    exact h.cell 0⟩⟩
end Rm
theorem Try.infoRow : (Try.prog.info? 22).map (fun i => (i.zero, i.size, i.bytes)) = some (some (.slice none 0 0), 1, 24) := by kernel_rfl
theorem made_nil (c : Nat) : madeCells (Value.slice none 0 0).cells c = (List.replicate c (Value.slice none 0 0)).toArray := by
  apply Array.ext
  · simp [size_madeCells, Value.cells]
  · intro i h1 h2
    simp [madeCells, Value.cells, Nat.mod_one]
theorem run_make_rows (c : Nat) (h : c ≤ 65536) (w : World) :
    (Instr.makeSlice 51 (.int .i64 (c : Int)) (.int .i64 (c : Int))).run Try.prog w = .ok (.slice (some ⟨w.heap.size, 0, none⟩) c c) (w.alloc (.cells (List.replicate c (Value.slice none 0 0)).toArray 22)) := by
  rw [← made_nil]
  obtain ⟨i0, hi, hz0, hz1, hz2⟩ := info_parts Try.infoRow
  have hb : (i0.bytes : Int) * (c : Int) ≤ 281474976710656 := by rw [hz2]; omega
  have hr := run_make (P := Try.prog) w 51 22 i0 _ Try.underlying51 hi hz0 .i64 .i64 c c (by omega) (by omega) hb (by omega)
  simp only [Int.toNat_natCast, hz1, Nat.mul_one] at hr
  exact hr
theorem run_make_int (c : Nat) (h : c ≤ 1048576) (w : World) :
    (Instr.makeSlice 22 (.int .i64 (c : Int)) (.int .i64 (c : Int))).run Try.prog w = .ok (.slice (some ⟨w.heap.size, 0, none⟩) c c) (w.alloc (.cells (Adj.ints (List.replicate c 0)).toArray 3)) := by
  have hm : madeCells (Value.int .i64 0).cells c = (Adj.ints (List.replicate c 0)).toArray := by
    apply Array.ext
    · simp [size_madeCells, Adj.ints]
    · intro i h1 h2
      simp [madeCells, Adj.ints, Value.cells, Nat.mod_one]
  rw [← hm]
  obtain ⟨i0, hi, hz0, hz1, hz2⟩ := info_parts Try.infoNum
  have hb : (i0.bytes : Int) * (c : Int) ≤ 281474976710656 := by rw [hz2]; omega
  have hr := run_make (P := Try.prog) w 22 3 i0 _ Try.underlying22 hi hz0 .i64 .i64 c c (by omega) (by omega) hb (by omega)
  simp only [Int.toNat_natCast, hz1, Nat.mul_one] at hr
  exact hr
end Go.Proofs.Ytkopkicdmbnpgaa
