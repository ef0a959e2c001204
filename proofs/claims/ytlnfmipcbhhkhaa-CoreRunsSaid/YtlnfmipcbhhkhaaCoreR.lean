/-
  The walks of slices.Clone of words, of each's reader. Conditions: what is read lies there.
-/
import Derived.Test.YtlnfmipcbhhkhaaCoreQ
import Derived.Laws.AppendOwn
import Derived.StillTailTactics
namespace Go.Proofs.Ytlnfmipcbhhkhaa
set_option linter.unusedVariables false
open Go.RowKit Adj

theorem Try.infoWord : (Try.prog.info? 2).map (fun i => (i.zero, i.size, i.bytes)) = some (some (.int .i64 0), 1, 8) := by kernel_rfl
namespace Cr
theorem own_none (w : World) (e : TypeId) : (w.alloc (.cells #[] e)).ownsRow w.heap.size e 1 (.slice (some ⟨w.heap.size, 0, none⟩) 0 0) 0 [] :=
  World.ownsRow_made w #[] 0 (Nat.le_refl _) (by unfold maxLen; omega) (by simp)
theorem ints_ones (l : List Int) : ∀ u ∈ ints l, u.oneCell' = true := by
  intro u hu
  obtain ⟨x, _, rfl⟩ := List.mem_map.1 hu
  rfl
theorem ints_news {W : World} {B : Nat} {a : Addr} {l : List Int} (h : IntsAt W B (some a) l) : ∀ j u, (ints l)[j]? = some u → W.cell? (a.add j) = some u := by
  intro j u hu
  have hj : j < l.length := by
    rcases Nat.lt_or_ge j l.length with h2 | h2
    · exact h2
    · rw [List.getElem?_eq_none (by rw [ints_length]; exact h2)] at hu; cases hu
  obtain ⟨b, off, hA, _, hc⟩ := h (by rw [ints_length]; omega)
  cases hA
  rw [Addr.add_lit]
  exact hc j u hu
end Cr
set_option maxHeartbeats 2000000 in
theorem CloneW_any (A : Option Addr) (cap : Nat) (l : List Int) (B : Nat) (w : World) (hl : l.length ≤ 1048576) (hm : IntsAt w B A l) (hB : B ≤ w.heap.size) :
    Calls Try.prog 18 #[.slice A l.length cap] w fun e w' => ∃ v, e = .returned v ∧ w'.ownsRow w.heap.size 2 1 v l.length (ints l) ∧ Below w.heap.size w w' := by
  cases A with
  | none =>
    obtain rfl : l = [] := by
      rcases Nat.eq_zero_or_pos l.length with h | h
      · exact List.length_eq_zero_iff.1 h
      · obtain ⟨b, off, hA, _⟩ := hm (by rw [ints_length]; exact h); cases hA
    clear hm
    have hnil := fun W => Lib.run_eql_slice_nil (P := Try.prog) W
    go_enter Try.func18, Try.ntmps18
    go_wp2_with fail
    go_ret
    exact ⟨_, rfl, World.ownsRow_nil _ _ _ _, Below.refl _ _⟩
  | some a =>
    obtain ⟨i0, hi, hz0, hz1, hz2⟩ := info_parts Try.infoWord
    have HM := Lib.hid hm
    have hnil := fun W => Lib.run_eql_slice_nil (P := Try.prog) W
    clear hm
    go_enter Try.func18, Try.ntmps18
    go_wp2_with (at_builtin; refine wpList_append_own _ rfl _ _ 31 rfl w.heap.size 2 i0 (.int .i64 0) 1 8 Try.underlying31 hi hz0 hz1 hz2 rfl (by decide) _ _ _ rfl (Cr.own_none w 2) a l.length cap (ints l) rfl (by rw [ints_length, Nat.mul_one]) (Cr.ints_news (HM.out.below (((Below.refl w.heap.size w).alloc (Nat.le_refl _) _).mono hB))) (Cr.ints_ones l) (by unfold maxLen; omega) (by omega) (by simp) ?_)
    intro v' w1 hown' hgrow _
    have HF := Lib.hid (And.intro hown' (((Below.refl w.heap.size w).alloc (Nat.le_refl _) (.cells #[] 2)).grown hgrow (by simp) (fun k hk => by simp [Value.ownBlock] at hk; omega)))
    clear hown' hgrow
    go_wp2_with fail
    go_ret
    exact ⟨_, rfl, HF.out.1, HF.out.2⟩

namespace Cr
/-- A slice of n words of its own, in a block not below lo. -/
def Own (lo : Nat) (V : Value) (n : Nat) (f : Nat → Int) (w : World) : Prop :=
  0 < n → ∃ b off len cap : Nat, V = .slice (some ⟨b, off, none⟩) len cap ∧ n ≤ len ∧ len ≤ 1048576 ∧ lo ≤ b ∧ b < w.heap.size ∧ ∀ i : Nat, i < n → w.cell? ⟨b, off + i, none⟩ = some (.int .i64 (f i))
theorem Own.rd {lo n i : Nat} {V : Value} {f : Nat → Int} {w : World} (h : Own lo V n f w) (hi : i < n) : Rd w V i (f i) := by
  obtain ⟨b, off, len, cap, h1, h2, h3, h4, h5, h6⟩ := h (by omega)
  exact ⟨b, off, len, cap, h1, by omega, h3, h5, h6 i hi⟩
theorem Own.below {lo n : Nat} {V : Value} {f : Nat → Int} {w w' : World} (h : Own lo V n f w) (hb : Below w.heap.size w w') : Own lo V n f w' := fun hn => by
  obtain ⟨b, off, len, cap, h1, h2, h3, h4, h5, h6⟩ := h hn
  exact ⟨b, off, len, cap, h1, h2, h3, h4, Nat.lt_of_lt_of_le h5 hb.size, fun i hi => (hb.cell (p := ⟨b, off + i, none⟩) h5).trans (h6 i hi)⟩
theorem Own.far {lo n : Nat} {V : Value} {f : Nat → Int} {w : World} (h : Own lo V n f w) {p : Addr} (hp : p.block < lo) (u : Value) : Own lo V n f (w.setCell p u) := fun hn => by
  obtain ⟨b, off, len, cap, h1, h2, h3, h4, h5, h6⟩ := h hn
  refine ⟨b, off, len, cap, h1, h2, h3, h4, by simp; exact h5, fun i hi => ?_⟩
  rw [World.cell?_setCell_other _ _ _ _ (fun e => by rw [e] at hp; simp at hp; omega)]
  exact h6 i hi
theorem Own.up {lo lo' n : Nat} {V : Value} {f : Nat → Int} {w : World} (h : Own lo V n f w) (hl : lo' ≤ lo) : Own lo' V n f w := fun hn => by
  obtain ⟨b, off, len, cap, h1, h2, h3, h4, h5, h6⟩ := h hn
  exact ⟨b, off, len, cap, h1, h2, h3, by omega, h5, h6⟩
theorem Own.of {w : World} {B n : Nat} {v : Value} {xs : List Value} {f : Nat → Int} (h : w.ownsRow B 2 1 v n xs) (hn : n ≤ 1048576) (hx : ∀ i : Nat, i < n → xs[i]? = some (.int .i64 (f i))) : Own B v n f w := fun hp => by
  obtain ⟨g, cap, hv, hg, hlt⟩ := h.form (by omega)
  subst hv
  refine ⟨g, 0, n, cap, rfl, Nat.le_refl _, hn, hg, hlt, fun i hi => ?_⟩
  have hc := h.cells (g := g) rfl i _ (hx i hi)
  rwa [Addr.add_lit] at hc
end Cr
/-- What each's reader answers: words of the pad, as they are. -/
def Cr.Reader (W : World) (pad : List Int) (at0 : Int) (n : Nat) (e : Ending) (w' : World) : Prop :=
  ∃ v, e = .returned v ∧ Below W.heap.size W w' ∧ Cr.Own W.heap.size v n (fun i => AdjC.at_ pad (at0 + (i : Int))) w'
theorem Cr.intsAt_pad {w W : World} {k : Cr.Sk} {c : AdjC.Code} {s : AdjC.St} (h : Cr.Sb w k c s W) (p n : Nat) (hn : 0 < n) (hl : p + n ≤ s.pad.length) : IntsAt W W.heap.size (some ⟨k.gp, p, none⟩) ((s.pad.drop p).take n) := fun _ => by
  refine ⟨k.gp, p, rfl, h.pad.lt (by omega), fun i u hu => ?_⟩
  unfold ints at hu
  rw [List.getElem?_map, List.getElem?_take] at hu
  split at hu
  · rename_i hi
    rw [List.getElem?_drop] at hu
    have hc := h.pad.cell (k := p + i) (by omega)
    rw [List.getElem?_eq_getElem (by omega)] at hu
    simp at hu
    rw [hc, ← hu]
    unfold AdjC.at_
    rw [Int.toNat_natCast, List.getD_eq_getElem?_getD, List.getElem?_eq_getElem (by omega)]; rfl
  · simp at hu
set_option maxHeartbeats 2000000 in
theorem reader_zero (W : World) (pad : List Int) (at0 : Int) (xb sb : Nat) (hx : W.cell? ⟨xb, 4, none⟩ = some (.int .i64 0)) :
    Calls Try.prog 41 #[.int .i64 at0, .pointer (some ⟨xb, 0, none⟩), .pointer (some ⟨sb, 0, none⟩)] W (Cr.Reader W pad at0 0) := by
  go_enter Try.func41, Try.ntmps41
  go_wp2_with fail
  go_ret
  exact ⟨_, rfl, Below.refl _ _, fun hp => absurd hp (by omega)⟩
set_option maxHeartbeats 2000000 in
theorem reader_some (w W : World) (k : Cr.Sk) (c : AdjC.Code) (s : AdjC.St) (h : Cr.Sb w k c s W) (p n : Nat) (xb sb : Nat) (hx : W.cell? ⟨xb, 4, none⟩ = some (.int .i64 (n : Int))) (hs : W.cell? ⟨sb, 0, none⟩ = some (.pointer (some ⟨k.g, 0, none⟩))) (hn : 0 < n) (hp : p + n ≤ s.pad.length) (hl : s.pad.length ≤ 4096) :
    Calls Try.prog 41 #[.int .i64 (p : Int), .pointer (some ⟨xb, 0, none⟩), .pointer (some ⟨sb, 0, none⟩)] W (Cr.Reader W s.pad (p : Int) n) := by
  have hlen : ((s.pad.drop p).take n).length = n := by rw [List.length_take, List.length_drop]; omega
  have HC := Lib.hid (show ∀ cap, Calls Try.prog 18 #[.slice (some ⟨k.gp, p, none⟩) n cap] W.drew fun e w' => ∃ v, e = .returned v ∧ w'.ownsRow W.heap.size 2 1 v n (ints ((s.pad.drop p).take n)) ∧ Below W.heap.size W.drew w' from fun cap => by
    have h2 := CloneW_any (some ⟨k.gp, p, none⟩) cap ((s.pad.drop p).take n) W.heap.size W.drew (by omega) (Cr.intsAt_pad h p n hn hp) (Nat.le_refl _)
    rw [hlen] at h2
    exact h2)
  have HG := Lib.hid (show ∀ i : Nat, i < n → (ints ((s.pad.drop p).take n))[i]? = some (.int .i64 (AdjC.at_ s.pad ((p : Int) + (i : Int)))) from fun i hi => by
    unfold ints
    rw [List.getElem?_map, List.getElem?_take, if_pos hi, List.getElem?_drop, List.getElem?_eq_getElem (by omega)]
    unfold AdjC.at_
    rw [show ((p : Int) + (i : Int)).toNat = p + i by omega, List.getD_eq_getElem?_getD, List.getElem?_eq_getElem (by omega)]; rfl)
  clear hlen
  have a4 := h.pad_at
  rw [h.pad.some_ (by omega)] at a4
  have hcap := h.caps
  have n0 : ((n : Int) == 0) = false := by simp; omega
  have n1 : (n == 0) = false := by simp; omega
  clear h
  go_enter Try.func41, Try.ntmps41
  go_wp2_with fail
  go_still_tail 9, (by kernel_rfl)
  change wpList _ _ _ _ _ W.drew
  go_wp2_with fail
  ((with_reducible refine (HC.out _).mono ?_); rintro e w' ⟨v, rfl, hown, hb⟩)
  have HF := Lib.hid (And.intro hown hb)
  clear hown hb
  go_wp2_with fail
  go_ret
  exact ⟨_, rfl, (Below.drew (Below.refl _ _)).trans HF.out.2, Cr.Own.of HF.out.1 (by omega) HG.out⟩
theorem reader_any (w W : World) (k : Cr.Sk) (c : AdjC.Code) (s : AdjC.St) (h : Cr.Sb w k c s W) (at0 : Int) (n : Nat) (xb sb : Nat) (hx : W.cell? ⟨xb, 4, none⟩ = some (.int .i64 (n : Int))) (hs : W.cell? ⟨sb, 0, none⟩ = some (.pointer (some ⟨k.g, 0, none⟩))) (hp : 0 < n → 0 ≤ at0 ∧ at0 + (n : Int) ≤ (s.pad.length : Int)) (hl : s.pad.length ≤ 4096) :
    Calls Try.prog 41 #[.int .i64 at0, .pointer (some ⟨xb, 0, none⟩), .pointer (some ⟨sb, 0, none⟩)] W (Cr.Reader W s.pad at0 n) := by
  rcases Nat.eq_zero_or_pos n with rfl | hn
  · exact reader_zero W s.pad at0 xb sb hx
  · obtain ⟨h1, h2⟩ := hp hn
    obtain ⟨p, rfl⟩ : ∃ p : Nat, at0 = (p : Int) := ⟨at0.toNat, by omega⟩
    exact reader_some w W k c s h p n xb sb hx hs hn (by omega) hl
end Go.Proofs.Ytlnfmipcbhhkhaa
