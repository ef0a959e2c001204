/-
  The walk of the library's slices.Repeat at []int of one number: that number, so many times. Conditions: the count is from 0 to 65536; the list that comes in holds one number.
-/
import Derived.Test.YtebekdnihncenaaReplayA
import Derived.Test.YtebekdnihncenaaMem
import Derived.Test.YtebekdnihncenaaShelf
import Derived.Deep.RegionHeld3
import Derived.Deep.RegionLaw
import Derived.Laws.CopyOwn
import Derived.Laws.MakeOwn
namespace Go.Proofs.Ytebekdnihncenaa
set_option linter.unusedVariables false
open Go.RowKit Adj

theorem Try.infoOf3 : (Try.prog.info? 3).map (fun i => (i.zero, i.size, i.bytes)) = some (some (.int .i64 0), 1, 8) := by kernel_rfl
theorem Try.sizeInt : (Try.prog.info? 3).map (·.size) = some 1 := by kernel_rfl

theorem Mul_one (c : Nat) (h : c ≤ 65536) (w : World) :
    Calls Try.prog 29 #[.int .u64 1, .int .u64 (c : Int)] w fun e w' => e = .returned (.tuple #[.int .u64 0, .int .u64 (c : Int)]) ∧ w = w' := by
  refine (Try.bits_Mul 1 c (by omega) (by omega) w).mono fun e w' ⟨he, hw⟩ => ⟨?_, hw.symm⟩
  rw [he, show 1 * c / 18446744073709551616 = 0 from by omega, show 1 * c % 18446744073709551616 = c from by omega]
  rfl

theorem made_zero (c : Nat) : madeCells (Value.int .i64 0).cells c = (ints (List.replicate c 0)).toArray := by
  apply Array.ext
  · simp [size_madeCells, ints]
  · intro i h1 h2
    simp [madeCells, ints, Value.cells, Nat.mod_one]

theorem run_make_int (c : Nat) (h : c ≤ 65536) (w : World) :
    (Instr.makeSlice 28 (.int .i64 (c : Int)) (.int .i64 (c : Int))).run Try.prog w = .ok (.slice (some ⟨w.heap.size, 0, none⟩) c c) (w.alloc (.cells (ints (List.replicate c 0)).toArray 3)) := by
  rw [← made_zero]
  obtain ⟨i0, hi, hz0, hz1, hz2⟩ := info_parts Try.infoOf3
  have hb : (i0.bytes : Int) * (c : Int) ≤ 281474976710656 := by rw [hz2]; omega
  have hr := run_make (P := Try.prog) w 28 3 i0 _ Try.underlying28 hi hz0 .i64 .i64 c c (by omega) (by omega) hb (by omega)
  simp only [Int.toNat_natCast, hz1, Nat.mul_one] at hr
  exact hr

namespace Rp
/-- What the doubling holds: k of c are v. -/
def part (v : Int) (c k : Nat) : List Value := ints (List.replicate k v ++ List.replicate (c - k) 0)
theorem part_one (v : Int) (c : Nat) (h : 1 ≤ c) : splice (ints (List.replicate c 0)) 0 [.int .i64 v] = part v c 1 := by
  obtain ⟨d, rfl⟩ : ∃ d, c = d + 1 := ⟨c - 1, by omega⟩
  simp [splice, part, ints, List.replicate_succ]
theorem part_all (v : Int) (c : Nat) : part v c c = ints (List.replicate c v) := by simp [part]
theorem part_more (v : Int) (c k m : Nat) (h : k + m ≤ c) : splice (part v c k) k (ints (List.replicate m v)) = part v c (k + m) := by
  have e : (part v c k).drop (k + m) = ints (List.replicate (c - (k + m)) 0) := by
    simp [part, ints, List.drop_append, List.drop_replicate]
    omega
  have e1 : (part v c k).take k = ints (List.replicate k v) := by
    simp [part, ints]
  unfold splice
  rw [e1, ints_length, List.length_replicate, e]
  simp only [part, ints, ← List.map_append, ← List.append_assoc, List.replicate_append_replicate]
theorem part_length (v : Int) (c k : Nat) (h : k ≤ c) : (part v c k).length = c := by simp [part, ints]; omega
theorem part_at (v : Int) (c k m : Nat) (hk : m ≤ k) (j : Nat) (u : Value) (h : (ints (List.replicate m v))[j]? = some u) : (part v c k)[j]? = some u := by
  have hj : j < m := by
    have := (List.getElem?_eq_some_iff.1 h).1
    simpa [ints] using this
  rw [← h]
  simp [part, ints, List.getElem?_append, show j < k by omega, hj]
theorem ints_one (l : List Int) : ∀ u ∈ ints l, u.oneCell' = true := by
  intro u hu
  obtain ⟨x, _, rfl⟩ := List.mem_map.1 hu
  rfl
end Rp

set_option maxHeartbeats 1000000 in
theorem Repeat_none (v : Int) (g0 : Nat) (w : World) (h0 : Blk w g0 3 #[.int .i64 v]) :
    Calls Try.prog 23 #[.slice (some ⟨g0, 0, none⟩) 1 1, .int .i64 ((0 : Nat) : Int)] w fun e w' =>
      e = .returned (.slice (some ⟨w.heap.size, 0, none⟩) 0 0) ∧ Blk w' w.heap.size 3 (ints (List.replicate 0 v)).toArray ∧ Below w.heap.size w w' := by
  have hmk : ∀ W : World, (Instr.makeSlice 28 (.int .i64 0) (.int .i64 0)).run Try.prog W = .ok (.slice (some ⟨W.heap.size, 0, none⟩) 0 0) (W.alloc (.cells (ints []).toArray 3)) := fun W => run_make_int 0 (by omega) W
  have HM := Lib.hid (Mul_one 0 (by omega))
  go_enter Try.func23, Try.ntmps23
  go_wp2_with (first | (go_at_call 29; refine (HM.out _).mono ?_; rintro e w' ⟨rfl, rfl⟩) | (with_reducible refine wpList_copy_nothing (o := ⟨some 33, _, _, _, _, _⟩) rfl _ _ 28 28 rfl 3 Try.underlying28 Try.sizeInt (some ⟨w.heap.size, 0, none⟩) (some ⟨g0, 0, none⟩) 0 0 1 1 rfl rfl rfl ?_))
  refine wp_loop_rounds 1 ?_
  rw [rounds_succ]
  go_wp2
  go_ret
  exact ⟨rfl, Blk.new _ _ _, (Below.refl _ _).alloc (Nat.le_refl _) _⟩

set_option maxHeartbeats 400000 in
theorem Repeat_some (v : Int) (c : Nat) (g0 : Nat) (w : World) (h0 : Blk w g0 3 #[.int .i64 v]) (hc : c ≤ 65536) (h1 : 1 ≤ c) :
    Calls Try.prog 23 #[.slice (some ⟨g0, 0, none⟩) 1 1, .int .i64 (c : Int)] w fun e w' =>
      e = .returned (.slice (some ⟨w.heap.size, 0, none⟩) c c) ∧ Blk w' w.heap.size 3 (ints (List.replicate c v)).toArray ∧ Below w.heap.size w w' := by
  have hmk := fun W => run_make_int c hc W
  have hg : (w.alloc (.cells (ints (List.replicate c 0)).toArray 3)).heap[w.heap.size]? = some (.cells (ints (List.replicate c 0)).toArray 3 (0, 0)) := Blk.new w 3 (ints (List.replicate c 0)).toArray
  have HG := Lib.hid hg
  clear hg
  have hsrc := (h0.alloc (.cells (ints (List.replicate c 0)).toArray 3)).at (i := 0) (v := .int .i64 v) rfl
  have HSRC := Lib.hid hsrc
  have hlt0 := h0.lt
  have HP := Lib.hid (Rp.part_one v c h1)
  clear hsrc
  go_enter Try.func23, Try.ntmps23
  go_wp2_with (first | (go_at_call 29; refine (Mul_one c hc _).mono ?_; rintro e w' ⟨rfl, rfl⟩) | (with_reducible refine wpList_copy_splice (o := ⟨some 33, _, _, _, _, _⟩) rfl _ _ 28 28 rfl 3 Try.underlying28 Try.sizeInt (some ⟨w.heap.size, 0, none⟩) (some ⟨g0, 0, none⟩) c c 1 1 rfl rfl w.heap.size 0 (ints (List.replicate c 0)) 3 HG.out [.int .i64 v] ?hn ?hpos ?hfit (one_one _ _) w.heap.size w ((Below.refl _ _).alloc (Nat.le_refl _) _) (Nat.le_refl _) ?_))
  case hn => exact (Nat.min_eq_left h1).symm
  case hpos =>
    intro j u hu
    match j, hu with
    | 0, hu => exact h0.at hu
  case hfit => rw [ints_length, List.length_replicate]; exact h1
  intro w1 hg1 hb1
  have hpart : Blk w1 w.heap.size 3 (Rp.part v c 1).toArray := by rw [← HP.out]; exact hg1.out
  clear hg1 hmk HSRC HG
  have HPART := Lib.hid hpart
  clear hpart
  go_wp2
  go_loopw [8] (fun n wr => ∃ k : Nat, 1 ≤ k ∧ k ≤ c ∧ n = .int .i64 (k : Int) ∧ Blk wr w.heap.size 3 (Rp.part v c k).toArray ∧ Below w.heap.size w wr) (fun n _ => c + 1 - (intOf n).toNat)
  case atStart => exact ⟨1, by omega, h1, rfl, HPART.out, hb1⟩
  case round =>
    obtain ⟨k, hk1, hkc, rfl, hblk, hbel⟩ := hrel
    have HB := Lib.hid hblk
    clear hblk HPART
    by_cases hlt : k < c
    · go_wp2
      have hs1 : IntKind.i64.wrap ((k : Int) + (min k (c - k) : Nat)) = (k : Int) + (min k (c - k) : Nat) := IntWalk.i64_in _ (by omega)
      have hi1 : (0 : Int) ≤ (k : Int) := by omega
      have hi2 : (k : Int) ≤ (c : Int) := by omega
      have hne : ¬ c = k := by omega
      obtain ⟨news, hnews⟩ : ∃ news, news = ints (List.replicate (min k (c - k)) v) := ⟨_, rfl⟩
      have hsrc : ∀ (j : Nat) (v_1 : Value), news[j]? = some v_1 → wr.drew.cell? ((⟨w.heap.size, 0, none⟩ : Addr).add j) = some v_1 := fun j u hu => by
        rw [hnews] at hu
        rw [Addr.add_lit, Nat.zero_add]
        exact (HB.out.drew).at (by simpa using Rp.part_at v c k (min k (c - k)) (by omega) j u hu)
      have HSRC := Lib.hid hsrc
      clear hsrc
      have hblk2 : wr.drew.heap[w.heap.size]? = some (.cells (Rp.part v c k).toArray 3 (0, 0)) := HB.out
      have HB2 := Lib.hid hblk2
      clear hblk2
      have hbd := hbel.drew
      have hlen : news.length = Nat.min k (c - k) := by rw [hnews, ints_length, List.length_replicate]
      have HLEN := Lib.hid hlen
      clear hlen
      have hfit : k + news.length ≤ (Rp.part v c k).length := by rw [Rp.part_length _ _ _ hkc, hnews, ints_length, List.length_replicate]; omega
      have hone : ∀ u ∈ news, u.oneCell' = true := by rw [hnews]; exact Rp.ints_one _
      have HN := Lib.hid hnews
      clear hnews
      go_region_law ((go_loud (refine step_copy_splice (by kernel_rfl) (.tmp 41) (.tmp 44) 28 28 (by kernel_rfl) 3 Try.underlying28 Try.sizeInt (some ⟨w.heap.size, k, none⟩) (some ⟨w.heap.size, 0, none⟩) (Nat.sub c k) (Nat.sub c k) k c (by kernel_rfl) (by kernel_rfl) w.heap.size k (Rp.part v c k) 3 HB2.out news HLEN.out (fun _ => ⟨rfl, _, rfl, HSRC.out⟩) hfit hone w.heap.size w hbd (Nat.le_refl _) ?_; intro w2 hg2 hb2)))
      have hl2 : news.length = min k (c - k) := HLEN.out
      have hms : (min k (c - k) : Nat) ≤ c - k := Nat.min_le_right _ _
      have hmp : 1 ≤ (min k (c - k) : Nat) := by omega
      obtain ⟨m, hm⟩ : ∃ m : Nat, m = min k (c - k) := ⟨_, rfl⟩
      rw [← hm] at hms hmp hl2 HN hs1
      clear hm HLEN hfit hone
      rw [hl2]
      clear hl2
      have hfin : Blk w2 w.heap.size 3 (Rp.part v c (k + m)).toArray := by
        have h := hg2.out
        rw [HN.out, Rp.part_more v c k m (by omega)] at h
        exact h
      have HF := Lib.hid hfin
      clear hfin hg2
      simp only [Act.put, List.getElem_toArray, List.getElem_cons_succ, List.getElem_cons_zero, List.setIfInBounds_toArray, List.set_cons_succ, List.set_cons_zero]
      rw [hs1]
      go_wp2
      exact ⟨⟨k + m, by omega, by omega, by go_num, HF.out, hb2⟩, by simp [intOf]; omega⟩
    · obtain rfl : k = c := by omega
      go_wp2
      go_ret
      exact ⟨rfl, by rw [← Rp.part_all]; exact HB.out, hbel⟩

theorem Repeat_any (v : Int) (c : Nat) (g0 : Nat) (w : World) (h0 : Blk w g0 3 #[.int .i64 v]) (hc : c ≤ 65536) :
    Calls Try.prog 23 #[.slice (some ⟨g0, 0, none⟩) 1 1, .int .i64 (c : Int)] w fun e w' =>
      e = .returned (.slice (some ⟨w.heap.size, 0, none⟩) c c) ∧ Blk w' w.heap.size 3 (ints (List.replicate c v)).toArray ∧ Below w.heap.size w w' := by
  rcases Nat.eq_zero_or_pos c with h | h
  · subst h; exact Repeat_none v g0 w h0
  · exact Repeat_some v c g0 w h0 hc h

end Go.Proofs.Ytebekdnihncenaa
