/-
  The walks of slices.IndexFunc and slices.DeleteFunc at what lies. Conditions: the row is the call's own.
-/
import Derived.Test.YtkopkicdmbnpgaaRoomX
namespace Go.Proofs.Ytkopkicdmbnpgaa
set_option linter.unusedVariables false
open Go.RowKit Adj

set_option maxRecDepth 100000 in
set_option maxHeartbeats 4000000 in
theorem idxLaid_any (w : World) (L : List AdjL.Laid) (A : Option Addr) (n c bx : Nat) (f : Int) (hn : L.length = n) (hbig : n ≤ 1048576) (hx : w.cell? ⟨bx, 0, none⟩ = some (.int .i64 f)) (h : IntsAt w w.heap.size A (Ld.lints L)) :
    Calls Try.prog 63 #[.slice A n c, .func (.func 45) #[] #[.pointer (some ⟨bx, 0, none⟩)]] w fun e w' => ∃ r : Int, e = .returned (.int .i64 r) ∧ Below w.heap.size w w' ∧
      ((r = -1 ∧ ∀ y ∈ L, f < y.to) ∨ ∃ i : Nat, r = (i : Int) ∧ ∃ hi : i < L.length, (∀ t (ht : t < L.length), t < i → f < L[t].to) ∧ L[i].to ≤ f) := by
  have hcf : ∀ (args : Array Value) (W : World), (callFunc 45 args).run Try.prog W = .ok (.enter 45 args) W := fun _ _ => rfl
  have HN := Lib.hid hn
  have HI := Lib.hid h
  have HX := Lib.hid hx
  have HB0 := Lib.hid (Below.refl w.heap.size w)
  clear hn h hx
  go_enter Try.func63, Try.ntmps63
  go_wp2_with fail
  go_loopw [8] (fun kv wr => ∃ k : Nat, kv = .int .i64 (k : Int) ∧ k ≤ n ∧ (∀ t (ht : t < L.length), t < k → f < L[t].to) ∧ Below w.heap.size w wr) (fun kv _ => n - (intOf kv).toNat)
  case atStart => exact ⟨0, rfl, by omega, fun t _ h => by omega, HB0.out⟩
  case round =>
    obtain ⟨k, rfl, hk, hno, hb⟩ := hrel
    have HNO := Lib.hid hno
    have HB := Lib.hid hb
    clear hno hb
    by_cases hkn : k < n
    · have hkl : k < L.length := by have := HN.out; omega
      obtain ⟨b, off, rfl, hbb⟩ := Ld.spot HI.out hkl
      obtain ⟨y1, y2, y3⟩ := Ld.cells HI.out hkl
      have c1 := (HB.out.cell (cell_lt y1)).trans y1
      have c2 := (HB.out.cell (cell_lt y2)).trans y2
      have c3 := (HB.out.cell (cell_lt y3)).trans y3
      have HCC := Lib.hid (lay2_any wr bx f L[k] ((HB.out.cell (cell_lt HX.out)).trans HX.out))
      have HNX := Lib.hid (show f < L[k].to → ∀ t (ht : t < L.length), t < k + 1 → f < L[t].to from fun h t ht htk => by
        by_cases e : t = k
        · subst e; exact h
        · exact HNO.out t ht (by omega))
      have HYS := Lib.hid (show L[k].to ≤ f → ∃ i : Nat, (k : Int) = (i : Int) ∧ ∃ hi : i < L.length, (∀ t (ht : t < L.length), t < i → f < L[t].to) ∧ L[i].to ≤ f from fun h => ⟨k, rfl, hkl, HNO.out, h⟩)
      generalize L[k] = y at c1 c2 c3 HCC HNX HYS
      obtain ⟨a, e, t⟩ := y
      unfold Ld.laidV at HCC
      simp only at c1 c2 c3 HCC HNX HYS
      clear y1 y2 y3
      go_wp2_with fail
      ((with_reducible refine HCC.out.mono ?_); rintro e w5 ⟨rfl, hb5⟩)
      have HB5 := Lib.hid (HB.out.trans (hb5.mono HB.out.size))
      clear hb5
      by_cases htf : t ≤ f
      · rw [decide_eq_true htf]
        have HR := Lib.hid (HYS.out htf)
        go_wp2_with fail
        go_ret
        exact ⟨_, rfl, HB5.out, .inr HR.out⟩
      · rw [decide_eq_false htf]
        have HR := Lib.hid (HNX.out (by omega))
        go_wp2_with fail
        go_roundw
        case rel => exact ⟨k + 1, by go_num, by omega, HR.out, HB5.out⟩
        case measure => simp [intOf]; omega
    · obtain rfl : k = n := by omega
      go_wp2_with fail
      go_ret
      exact ⟨-1, rfl, HB.out, .inl ⟨rfl, fun y hy => by
        obtain ⟨t, ht, e⟩ := List.getElem_of_mem hy
        rw [← e]; exact HNO.out t ht (by have := HN.out; omega)⟩⟩
end Go.Proofs.Ytkopkicdmbnpgaa
