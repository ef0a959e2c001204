/-
  The walk of slices.Insert of one at what lies. Conditions: the row is the call's own; what is put in lies elsewhere.
-/
import Derived.Test.YtkopkicdmbnpgaaRoomZb
namespace Go.Proofs.Ytkopkicdmbnpgaa
set_option linter.unusedVariables false
open Go.RowKit Adj

namespace Ld
def putAt (L : List AdjL.Laid) (k : Nat) (y : AdjL.Laid) : List AdjL.Laid := L.take k ++ y :: L.drop k
def three' (y : AdjL.Laid) : List Value := [.int .i64 y.at_, .int .i64 y.end_, .int .i64 y.to]
theorem putAt_cells (L : List AdjL.Laid) (k : Nat) (y : AdjL.Laid) : Adj.ints (lints (putAt L k y)) = Adj.ints (lints (L.take k)) ++ (three' y ++ Adj.ints (lints (L.drop k))) := by
  unfold putAt
  rw [lints_append]
  show Adj.ints (lints (L.take k) ++ (three y ++ lints (L.drop k))) = _
  unfold Adj.ints
  rw [List.map_append, List.map_append]; rfl
theorem putAt_length (L : List AdjL.Laid) (k : Nat) (y : AdjL.Laid) (hk : k ≤ L.length) : (putAt L k y).length = L.length + 1 := by
  unfold putAt
  rw [List.length_append, List.length_cons, List.length_take, List.length_drop]; omega
theorem split_cells (L : List AdjL.Laid) (k : Nat) : Adj.ints (lints L) = Adj.ints (lints (L.take k)) ++ Adj.ints (lints (L.drop k)) := by
  conv => lhs; rw [← List.take_append_drop k L, lints_append]
  unfold Adj.ints
  rw [List.map_append]
theorem ints_len (L : List AdjL.Laid) : (Adj.ints (lints L)).length = L.length * 3 := by unfold Adj.ints; rw [List.length_map, lints_length]; omega
theorem ints_one (L : List AdjL.Laid) : ∀ v ∈ Adj.ints (lints L), v.oneCell' = true := fun v hv => by
  unfold Adj.ints at hv
  obtain ⟨x, _, rfl⟩ := List.mem_map.1 hv
  rfl
theorem three_one (y : AdjL.Laid) : ∀ v ∈ three' y, v.oneCell' = true := fun v hv => by
  simp [three'] at hv
  rcases hv with rfl | rfl | rfl <;> rfl
end Ld

set_option maxRecDepth 100000 in
set_option maxHeartbeats 4000000 in
theorem insert_end (w : World) (base : Nat) (L : List AdjL.Laid) (v : Value) (y : AdjL.Laid) (gv : Nat) (hbig : L.length ≤ 1048576) (hb0 : base ≤ w.heap.size)
    (h : w.ownsRow base 78 3 v L.length (Adj.ints (Ld.lints L))) (hgv : Blk w gv 78 (Ld.three' y).toArray) :
    Calls Try.prog 49 #[v, .int .i64 (L.length : Int), .slice (some ⟨gv, 0, none⟩) 1 1] w fun e w' => ∃ v', e = .returned v' ∧ Ld.Kp base w w' v ∧ w'.ownsRow base 78 3 v' (Ld.putAt L L.length y).length (Adj.ints (Ld.lints (Ld.putAt L L.length y))) := by
  obtain ⟨A, c, rfl⟩ := Rm.own_form h
  have HC := Lib.hid (show Adj.ints (Ld.lints (Ld.putAt L L.length y)) = Adj.ints (Ld.lints L) ++ Ld.three' y by
    rw [Ld.putAt_cells, List.take_length, List.drop_length]; simp [Ld.lints, Adj.ints])
  have HL := Lib.hid (Ld.putAt_length L L.length y (Nat.le_refl _))
  have H := Lib.hid h
  have HG := Lib.hid hgv
  obtain ⟨i0, hi0, hz0, hz1, hz2⟩ := info_parts Try.infoLaid
  have hcap : L.length ≤ c ∧ c ≤ 9223372036854775807 := by
    rcases h.2 with ⟨e1, e2⟩ | ⟨g, cap, cur, e1, _, _, h4, h5, _⟩
    · injection e1 with _ _ e3; omega
    · injection e1 with _ _ e3; unfold maxLen at h5; omega
  obtain ⟨hc1, hc2⟩ := hcap
  have HB0 := Lib.hid (Below.refl base w)
  obtain ⟨n, hn⟩ : ∃ n, L.length = n := ⟨_, rfl⟩
  rw [hn] at H HL hbig hc1 ⊢
  have HN := Lib.hid hn
  clear h hgv hn
  by_cases hcn : c = n
  · subst hcn
    go_enter Try.func49, Try.ntmps49
    go_wp2_with (at_builtin; refine wpList_append_any _ rfl _ _ 75 rfl base 78 i0 (.agg #[.int .i64 0, .int .i64 0, .int .i64 0]) 3 24 Try.underlying75 hi0 hz0 hz1 hz2 rfl (by decide) _ _ _ rfl H.out _ (some ⟨gv, 0, none⟩) 1 1 (Ld.three' y) rfl (Lv.reads_cells HG.out rfl) (Ld.three_one y) (by unfold maxLen; omega) (by omega) hb0 ?_)
    intro v' w6 how hgr _
    have HB := Lib.hid (HB0.out.grown hgr hb0 (fun g hg => (H.out.lt g hg).1))
    have HO := Lib.hid how
    have HKP := Lib.hid (fun (h : Nat) (hh : h < w.heap.size) (hne : (Value.slice A c c).ownBlock ≠ some h) => hgr.block h hh (fun e => hne e.symm))
    obtain ⟨A', c', rfl⟩ := Rm.own_form how
    clear how hgr
    go_wp2_with fail
    go_ret
    refine ⟨_, rfl, ⟨HB.out, HKP.out⟩, ?_⟩
    have e := HN.out
    subst e
    rw [HL.out, HC.out]; exact HO.out
  · have hcn2 : ¬ (c = n) := hcn
    go_enter Try.func49, Try.ntmps49
    go_wp2_with (at_builtin; refine wpList_append_any _ rfl _ _ 75 rfl base 78 i0 (.agg #[.int .i64 0, .int .i64 0, .int .i64 0]) 3 24 Try.underlying75 hi0 hz0 hz1 hz2 rfl (by decide) _ _ _ rfl H.out _ (some ⟨gv, 0, none⟩) 1 1 (Ld.three' y) rfl (Lv.reads_cells HG.out rfl) (Ld.three_one y) (by unfold maxLen; omega) (by omega) hb0 ?_)
    intro v' w6 how hgr _
    have HB := Lib.hid (HB0.out.grown hgr hb0 (fun g hg => (H.out.lt g hg).1))
    have HO := Lib.hid how
    have HKP := Lib.hid (fun (h : Nat) (hh : h < w.heap.size) (hne : (Value.slice A n c).ownBlock ≠ some h) => hgr.block h hh (fun e => hne e.symm))
    obtain ⟨A', c', rfl⟩ := Rm.own_form how
    clear how hgr
    go_wp2_with fail
    go_ret
    refine ⟨_, rfl, ⟨HB.out, HKP.out⟩, ?_⟩
    have e := HN.out
    subst e
    rw [HL.out, HC.out]; exact HO.out
end Go.Proofs.Ytkopkicdmbnpgaa
