/-
  The walks of slices.IndexFunc, slices.ContainsFunc at numbers and of what Peak asks. Conditions: what is asked says yes or no and leaves what was.
-/
import Derived.Test.YtkopkicdmbnpgaaRoomE
namespace Go.Proofs.Ytkopkicdmbnpgaa
set_option linter.unusedVariables false
open Go.RowKit Adj

namespace Rm
/-- A function asked of a number: it says yes or no. -/
def AskOk (w : World) (fK : Nat) (cap : Array Value) (q : Int → Bool) (dom : Int → Prop) : Prop :=
  (∀ (args : Array Value) (W : World), (callFunc fK args).run Try.prog W = .ok (.enter fK args) W) ∧
    ∀ x : Int, dom x → ∀ W, Below w.heap.size w W → Calls Try.prog fK (#[.int .i64 x] ++ cap) W fun e W' => e = .returned (.bool (q x)) ∧ Below W.heap.size W W'
end Rm
set_option maxRecDepth 100000 in
set_option maxHeartbeats 4000000 in
theorem indexFunc_any (w : World) (fK : Nat) (cc : Array Value) (q : Int → Bool) (dom : Int → Prop) (A : Option Addr) (L : List Int) (n c : Nat) (hn : L.length = n) (hbig : n ≤ 4611686018427387904) (hc : Rm.AskOk w fK cc q dom) (hd : ∀ x ∈ L, dom x) (h : IntsAt w w.heap.size A L) :
    Calls Try.prog 51 #[.slice A n c, .func (.func fK) #[] cc] w fun e w' => ∃ r : Int, e = .returned (.int .i64 r) ∧ decide (0 ≤ r) = L.any q ∧ Below w.heap.size w w' := by
  have hcf := hc.1
  have HC := Lib.hid hc.2
  have HD := Lib.hid hd
  have HI := Lib.hid h
  have HN := Lib.hid hn
  have HB0 := Lib.hid (Below.refl w.heap.size w)
  clear hc hd h hn
  go_enter Try.func51, Try.ntmps51
  go_wp2_with fail
  go_loopw [8] (fun i wr => ∃ k : Nat, i = .int .i64 (k : Int) ∧ k ≤ n ∧ (L.take k).any q = false ∧ Below w.heap.size w wr) (fun i _ => n - (intOf i).toNat)
  case atStart => exact ⟨0, rfl, by omega, by simp, HB0.out⟩
  case round =>
    obtain ⟨k, rfl, hk, hany, hb⟩ := hrel
    have HA := Lib.hid hany
    have HB := Lib.hid hb
    clear hany hb
    by_cases hlt : k < n
    · obtain ⟨b, off, rfl, r1⟩ := ints_cell HI.out (by have := HN.out; omega)
      have c1 := (HB.out.cell (cell_lt (r1 k (by have := HN.out; omega)))).trans (r1 k (by have := HN.out; omega))
      have hkl : k < L.length := by have := HN.out; omega
      obtain ⟨x, hx⟩ : ∃ x, L[k] = x := ⟨_, rfl⟩
      have hgx : L.getD k 0 = x := by rw [List.getD_eq_getElem?_getD, List.getElem?_eq_getElem hkl]; exact hx
      rw [hgx] at c1
      have HX := Lib.hid (show x ∈ L by rw [← hx]; exact List.getElem_mem hkl)
      have HTK := Lib.hid (show L.take (k + 1) = L.take k ++ [x] by rw [← hx]; exact List.take_succ_eq_append_getElem hkl)
      have HCC := Lib.hid (HC.out x (HD.out x HX.out))
      clear r1 hx hgx hkl
      go_wp2_with fail
      ((with_reducible refine (HCC.out _ HB.out).mono ?_); rintro e w5 ⟨rfl, hb5⟩)
      have HB5 := Lib.hid (HB.out.trans (hb5.mono HB.out.size))
      clear hb5
      cases hqx : q x with
      | true =>
        have HF := Lib.hid (show L.any q = true from List.any_eq_true.2 ⟨x, HX.out, hqx⟩)
        go_wp2_with fail
        go_ret
        exact ⟨(k : Int), rfl, by rw [HF.out]; simp, HB5.out⟩
      | false =>
        have HQ := Lib.hid hqx
        go_wp2_with fail
        go_roundw
        case rel => exact ⟨k + 1, by go_num, by omega, by rw [HTK.out, List.any_append, HA.out]; simp [HQ.out], HB5.out⟩
        case measure => simp [intOf]; omega
    · obtain rfl : k = n := by omega
      go_wp2_with fail
      go_ret
      exact ⟨-1, rfl, by have h := HA.out; rw [List.take_of_length_le (by have := HN.out; omega)] at h; rw [h]; decide, HB.out⟩

set_option maxRecDepth 100000 in
theorem containsFunc_any (w : World) (fK : Nat) (cc : Array Value) (q : Int → Bool) (dom : Int → Prop) (A : Option Addr) (L : List Int) (n c : Nat) (hn : L.length = n) (hbig : n ≤ 4611686018427387904) (hc : Rm.AskOk w fK cc q dom) (hd : ∀ x ∈ L, dom x) (h : IntsAt w w.heap.size A L) :
    Calls Try.prog 26 #[.slice A n c, .func (.func fK) #[] cc] w fun e w' => e = .returned (.bool (L.any q)) ∧ Below w.heap.size w w' := by
  have HX := Lib.hid (indexFunc_any w fK cc q dom A L n c hn hbig hc hd h)
  clear hc hd h hn
  go_enter Try.func26, Try.ntmps26
  go_wp2_with fail
  ((with_reducible refine HX.out.mono ?_); rintro e w5 ⟨r, rfl, hr, hb5⟩)
  have HR := Lib.hid hr
  have HB := Lib.hid hb5
  clear hr hb5
  go_wp2_with fail
  go_ret
  exact ⟨by rw [← HR.out]; rfl, HB.out⟩

set_option maxRecDepth 100000 in
theorem peakAsk (w : World) (bd bm n : Nat) (M : List Bool) (hM : M.length = n) (h1 : w.cell? ⟨bd, 0, none⟩ = some (.slice (some ⟨bm, 0, none⟩) n n)) (h2 : Blk w bm 4 (Rm.bools M).toArray) :
    Rm.AskOk w 27 #[.pointer (some ⟨bd, 0, none⟩)] (fun x => !(M.getD x.toNat false)) (fun x => 0 ≤ x ∧ x < n) := by
  refine ⟨fun _ _ => rfl, fun x hx W hb => ?_⟩
  obtain ⟨i, rfl⟩ : ∃ i : Nat, x = (i : Int) := ⟨x.toNat, by omega⟩
  have i1 : i < n := by omega
  have c1 := (hb.cell (cell_lt h1)).trans h1
  have c2 := (h2.below hb h2.lt).at (Rm.bools_at M i (by omega))
  have HB := Lib.hid (Below.refl W.heap.size W)
  show Calls _ _ #[.int .i64 (i : Int), .pointer (some ⟨bd, 0, none⟩)] _ fun e W' => e = .returned (.bool (!(M.getD i false))) ∧ Below W.heap.size W W'
  generalize M.getD i false = y at c2 ⊢
  clear hb h1 h2 hx hM
  go_enter Try.func27, Try.ntmps27
  go_wp2_with fail
  go_ret
  exact ⟨rfl, HB.out⟩
end Go.Proofs.Ytkopkicdmbnpgaa
