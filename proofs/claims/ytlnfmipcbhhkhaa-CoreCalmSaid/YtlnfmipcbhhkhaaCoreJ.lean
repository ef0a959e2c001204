/-
  The walks of clash, of what it asks, and of the two functions of slices through which it asks. Conditions: the instructions are right.
-/
import Derived.Test.YtlnfmipcbhhkhaaCoreI
namespace Go.Proofs.Ytlnfmipcbhhkhaa
set_option linter.unusedVariables false
open Go.RowKit Adj

namespace Cr
/-- A function with one captured variable, asked span by span. -/
def AsksS (w : World) (fK : Nat) (c0 : Value) (p : Int × Int → Bool) (l : List (Int × Int)) : Prop :=
  (∀ (args : Array Value) (W : World), (callFunc fK args).run Try.prog W = .ok (.enter fK args) W) ∧
    ∀ q ∈ l, ∀ W, Below w.heap.size w W → Calls Try.prog fK #[.agg #[.int .i64 q.1, .int .i64 q.2], c0] W fun e W' => e = .returned (.bool (p q)) ∧ Below W.heap.size W W'
theorem any_take {l : List (Int × Int)} {p : Int × Int → Bool} {k : Nat} (h : k < l.length) : (l.take (k + 1)).any p = ((l.take k).any p || p l[k]) := by
  rw [List.take_succ_eq_append_getElem h, List.any_append]; simp
theorem call_enters {P : Program} {f : FuncId} {fn : Func} {c : Code} (hf : P.funcs[f]? = some fn) (hname : (fn.name == "runtime.NumGoroutine") = false) (hb : fn.body = some c) (args : Array Value) (w : World) :
    (callFunc f args).run P w = .ok (.enter f args) w := by
  have h1 : fn.name ≠ "runtime.NumGoroutine" := by simpa using hname
  simp [callFunc, hf, h1, hb]
end Cr

set_option maxRecDepth 100000 in
set_option maxHeartbeats 4000000 in
theorem IndexFunc_any (fK : Nat) (c0 : Value) (p : Int × Int → Bool) (A : Option Addr) (cap : Nat) (l : List (Int × Int)) (w : World) (hp : Cr.AsksS w fK c0 p l) (hl : l.length ≤ 1000000) (hm : IntsAt w w.heap.size A (AdjC.two l)) :
    Calls Try.prog 40 #[.slice A l.length cap, .func (.func fK) #[] #[c0]] w fun e w' => ∃ r : Int, e = .returned (.int .i64 r) ∧ ((0 ≤ r ↔ l.any p = true) ∧ -1 ≤ r) ∧ Below w.heap.size w w' := by
  have hcf := hp.1
  have HP := Lib.hid hp
  have HM := Lib.hid hm
  clear hp hm
  go_enter Try.func40, Try.ntmps40
  go_wp2_with fail
  go_loopw [8] (fun i wr => ∃ k : Nat, k ≤ l.length ∧ i = .int .i64 (k : Int) ∧ Below w.heap.size w wr ∧ (l.take k).any p = false) (fun i _ => l.length - (intOf i).toNat)
  case atStart => exact ⟨0, by omega, rfl, Below.refl _ _, by simp⟩
  case round =>
    obtain ⟨k, hk, rfl, hb, hno⟩ := hrel
    have HNO := Lib.hid hno
    have HB := Lib.hid hb
    clear hno hb
    by_cases hlt : k < l.length
    · obtain ⟨b, off, rfl, hbl⟩ := HM.out.spot (by rw [AdjC.two_length]; omega)
      have h0 := IntsAt.at_ (HM.out.below HB.out) ((AdjC.two_at l k 0 hlt (by omega)).trans rfl)
      have h1 := IntsAt.at_ (HM.out.below HB.out) ((AdjC.two_at l k 1 hlt (by omega)).trans rfl)
      have hi1 : (0 : Int) ≤ (k : Int) := by omega
      have hi2 : (k : Int) < (l.length : Int) := by omega
      have HASK := Lib.hid (HP.out.2 l[k] (List.getElem_mem hlt) wr HB.out)
      have HT := Lib.hid (Cr.any_take (p := p) hlt)
      have HG := Lib.hid (fun h => List.any_eq_true.2 ⟨l[k], List.getElem_mem hlt, h⟩ : p l[k] = true → l.any p = true)
      obtain ⟨q, hq⟩ : ∃ q, l[k] = q := ⟨_, rfl⟩
      rw [hq] at h0 h1 HASK HT HG
      rw [← Nat.add_assoc] at h0 h1
      rw [Nat.add_zero] at h0
      clear hq
      by_cases hpx : p q = true
      · go_wp2_with fail
        refine HASK.out.mono ?_
        rintro e w1 ⟨rfl, hb1⟩
        have HB1 := Lib.hid (HB.out.trans (hb1.mono HB.out.size))
        rw [hpx]
        clear hb1
        go_wp2_with fail
        go_ret
        exact ⟨_, rfl, ⟨⟨fun _ => HG.out hpx, fun _ => by omega⟩, by omega⟩, HB1.out⟩
      · have hpx' : p q = false := by simpa using hpx
        go_wp2_with fail
        refine HASK.out.mono ?_
        rintro e w1 ⟨rfl, hb1⟩
        have HB1 := Lib.hid (HB.out.trans (hb1.mono HB.out.size))
        rw [hpx']
        clear hb1
        go_wp2_with fail
        go_roundw
        case rel => exact ⟨k + 1, by omega, by go_num, HB1.out, by rw [HT.out, HNO.out, hpx']; rfl⟩
        case measure => simp [intOf]; omega
    · obtain rfl : k = l.length := by omega
      go_wp2_with fail
      go_ret
      have := HNO.out
      rw [List.take_length] at this
      exact ⟨_, rfl, ⟨⟨fun h => by omega, fun h => by rw [this] at h; cases h⟩, by omega⟩, HB.out⟩

set_option maxHeartbeats 1000000 in
theorem ContainsFunc_any (fK : Nat) (c0 : Value) (p : Int × Int → Bool) (A : Option Addr) (cap : Nat) (l : List (Int × Int)) (w : World) (hp : Cr.AsksS w fK c0 p l) (hl : l.length ≤ 1000000) (hm : IntsAt w w.heap.size A (AdjC.two l)) :
    Calls Try.prog 30 #[.slice A l.length cap, .func (.func fK) #[] #[c0]] w fun e w' => e = .returned (.bool (l.any p)) ∧ Below w.heap.size w w' := by
  have HI := Lib.hid (IndexFunc_any fK c0 p A cap l w hp hl hm)
  clear hp hm
  go_enter Try.func30, Try.ntmps30
  go_wp2_with fail
  refine HI.out.mono ?_
  rintro e w1 ⟨r, rfl, hr, hb⟩
  have HR := Lib.hid hr
  have HB := Lib.hid hb
  have hr1 := hr.2
  clear hr hb
  go_wp2_with fail
  go_ret
  exact ⟨ret_bool (by rw [Bool.eq_iff_iff, decide_eq_true_iff]; exact HR.out.1), HB.out⟩

namespace Cr
/-- A span of right code. -/
def Small (s : Int × Int) : Prop := -1048576 ≤ s.1 ∧ s.1 ≤ 1048576 ∧ 0 ≤ s.2 ∧ s.2 ≤ 4096
end Cr

theorem clash11_any (q s : Int × Int) (g : Nat) (w : World) (hq : Cr.Small q) (hs : Cr.Small s) (hg : Blk w g 66 #[.int .i64 s.1, .int .i64 s.2]) :
    Calls Try.prog 31 #[.agg #[.int .i64 q.1, .int .i64 q.2], .pointer (some ⟨g, 0, none⟩)] w fun e w' => e = .returned (.bool (AdjC.meet q s)) ∧ Below w.heap.size w w' := by
  have HO := Lib.hid (fun W => overlap_any q s W hq.1 hq.2.1 hq.2.2.1 hq.2.2.2 hs.1 hs.2.1 hs.2.2.1 hs.2.2.2)
  have c0 := fun o => (hg.alloc o).cell 0
  have c1 := fun o => (hg.alloc o).cell 1
  have hlt := hg.lt
  clear hg hq hs
  go_enter Try.func31, Try.ntmps31
  go_wp2_with fail
  ((with_reducible refine (HO.out _).mono ?_); rintro e w1 ⟨rfl, hb⟩)
  have HB := Lib.hid (((Below.refl _ _).alloc (Nat.le_refl _) _).trans (hb.mono (by simp)))
  clear hb
  go_wp2_with fail
  go_ret
  exact ⟨rfl, HB.out⟩

theorem clash1_any (A : Option Addr) (cap : Nat) (l : List (Int × Int)) (s : Int × Int) (w : World) (hl : l.length ≤ 3) (hm : IntsAt w w.heap.size A (AdjC.two l)) (hs : Cr.Small s) (hq : ∀ q ∈ l, Cr.Small q) :
    Calls Try.prog 29 #[.slice A l.length cap, .agg #[.int .i64 s.1, .int .i64 s.2]] w fun e w' => e = .returned (.bool (l.any fun q => AdjC.meet q s)) ∧ Below w.heap.size w w' := by
  have hB := (Below.refl w.heap.size w).alloc (Nat.le_refl _) (.cells #[.int .i64 s.1, .int .i64 s.2] 66)
  have HCF := Lib.hid (ContainsFunc_any 31 (.pointer (some ⟨w.heap.size, 0, none⟩)) (fun q => AdjC.meet q s) A cap l (w.alloc (.cells #[.int .i64 s.1, .int .i64 s.2] 66)) (by
    obtain ⟨c, hc⟩ : ∃ c, Try.f31.body = some c := ⟨_, rfl⟩
    refine ⟨Cr.call_enters Try.func31 (by kernel_rfl) hc, fun q hqm W hb => ?_⟩
    exact clash11_any q s w.heap.size W (hq q hqm) hs ((Blk.new w 66 #[.int .i64 s.1, .int .i64 s.2]).below hb (by simp))) (by omega) ((hm.below hB).up hB.size))
  have hmf : ∀ (fn : Fn) (first cap : Array Value) (w : World), (Instr.makeFunc fn first cap).run Try.prog w = .ok (.func fn first cap) w := fun _ _ _ _ => rfl
  have HB := Lib.hid hB
  clear hB hm
  go_enter Try.func29, Try.ntmps29
  go_wp2_with fail
  refine HCF.out.mono ?_
  rintro e w1 ⟨rfl, hb⟩
  have HB2 := Lib.hid (HB.out.trans (hb.mono HB.out.size))
  clear hb
  go_wp2_with fail
  go_ret
  exact ⟨rfl, HB2.out⟩
end Go.Proofs.Ytlnfmipcbhhkhaa
