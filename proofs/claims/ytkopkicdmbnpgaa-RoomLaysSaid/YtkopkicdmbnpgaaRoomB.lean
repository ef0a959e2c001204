/-
  The walk of the reference's Tree. Conditions: both lists can be read.
-/
import Derived.Test.YtkopkicdmbnpgaaRoomA
import Derived.Test.YtkopkicdmbnpgaaClimbPlain
import Derived.Test.YtkopkicdmbnpgaaInts
namespace Go.Proofs.Ytkopkicdmbnpgaa
set_option linter.unusedVariables false
open Go.RowKit Adj

theorem ints_cell {w : World} {B : Nat} {A : Option Addr} {l : List Int} (h : IntsAt w B A l) (hp : 0 < l.length) : ∃ b off, A = some ⟨b, off, none⟩ ∧ ∀ i, i < l.length → w.cell? ⟨b, off + i, none⟩ = some (.int .i64 (l.getD i 0)) := by
  obtain ⟨b, off, rfl, _⟩ := h.spot hp
  exact ⟨b, off, rfl, fun i hi => by rw [h.get hi, List.getD_eq_getElem?_getD, List.getElem?_eq_getElem hi]; rfl⟩

set_option maxRecDepth 100000 in
set_option maxHeartbeats 4000000 in
theorem refTree_any (w : World) (B : Nat) (ab ws : List Int) (A A' : Option Addr) (n m c c' : Nat) (hn : ab.length = n) (hm : ws.length = m) (h1 : IntsAt w B A ab) (h2 : IntsAt w B A' ws) :
    Calls Try.prog 17 #[.slice A n c, .slice A' m c'] w fun e w' => e = .returned (.int .i64 (AdjR.treeBad ab ws)) ∧ w' = w := by
  by_cases hbad : n ≠ m ∨ 4096 < n
  · have HE := Lib.hid (show AdjR.treeBad ab ws = 2 by unfold AdjR.treeBad; rw [if_pos (by omega)])
    clear hn hm h1 h2
    go_enter Try.func17, Try.ntmps17
    go_wp2_with fail
    all_goals first | (exfalso; simp at *; omega) | (go_ret; exact ⟨ret_int HE.out.symm, rfl⟩)
  · obtain rfl : n = m := by omega
    have hbig : n ≤ 4096 := by omega
    have HE := Lib.hid (show AdjR.treeBad ab ws = AdjR.firstBad (AdjR.at_ ab ws) n by unfold AdjR.treeBad; rw [if_neg (by omega), hn])
    have HN := Lib.hid (And.intro hn hm)
    have H1 := Lib.hid h1
    have H2 := Lib.hid h2
    clear hbad hn hm h1 h2
    go_enter Try.func17, Try.ntmps17
    go_wp2_with fail
    go_loopw [5, 6, 19] (fun _ _ i wr => ∃ k : Nat, i = .int .i64 (k : Int) ∧ k ≤ n ∧ AdjR.firstBad (AdjR.at_ ab ws) k = 0 ∧ wr = w) (fun _ _ i _ => n - (intOf i).toNat)
    case atStart => exact ⟨0, rfl, by omega, rfl, rfl⟩
    case round =>
      obtain ⟨k, rfl, hk, hg, rfl⟩ := hrel
      have HG := Lib.hid hg
      clear hg
      by_cases hlt : k < n
      · obtain ⟨b, off, rfl, r1⟩ := ints_cell H1.out (by have := HN.out; omega)
        obtain ⟨b', off', rfl, r2⟩ := ints_cell H2.out (by have := HN.out; omega)
        have c1 := r1 k (by have := HN.out; omega)
        have c2 := r2 k (by have := HN.out; omega)
        have HA := Lib.hid (show AdjR.at_ ab ws k = AdjR.nodeBad n k (ab.getD k 0) (ws.getD k 0) by unfold AdjR.at_; rw [HN.out.1])
        generalize ab.getD k 0 = a at c1 HA
        generalize ws.getD k 0 = x at c2 HA
        clear r1 r2
        by_cases hl : k + 1 = n
        · have q0 : (n : Int) - 1 = (k : Int) := by omega
          go_wp2_with fail
          all_goals first
            | (go_ret
               refine ⟨ret_int ?_, rfl⟩
               have hv : AdjR.at_ ab ws k ≠ 0 := by
                 rw [HA.out]
                 try simp only [ne_eq] at *
                 unfold AdjR.nodeBad; (repeat' split) <;> omega
               rw [HE.out, AdjR.firstBad_at hlt HG.out hv, HA.out]
               try simp only [ne_eq] at *
               unfold AdjR.nodeBad; (repeat' split) <;> omega)
            | (go_roundw
               case rel =>
                 refine ⟨k + 1, by go_num, by omega, AdjR.firstBad_next HG.out ?_, by trivial⟩
                 rw [HA.out]
                 try simp only [beq_iff_eq, beq_eq_false_iff_ne, ne_eq, bne_iff_ne] at *
                 unfold AdjR.nodeBad; (repeat' split) <;> omega
               case measure => simp [intOf]; omega)
        · have q0 : ((k : Int) == (n : Int) - 1) = false := by simp; omega
          have q1 : decide ((k : Int) < (n : Int) - 1) = true := decide_eq_true (by omega)
          go_wp2_with fail
          all_goals first
            | (go_ret
               refine ⟨ret_int ?_, rfl⟩
               have hv : AdjR.at_ ab ws k ≠ 0 := by
                 rw [HA.out]
                 try simp only [beq_eq_false_iff_ne, ne_eq] at *
                 unfold AdjR.nodeBad; (repeat' split) <;> omega
               rw [HE.out, AdjR.firstBad_at hlt HG.out hv, HA.out]
               try simp only [beq_eq_false_iff_ne, ne_eq] at *
               unfold AdjR.nodeBad; (repeat' split) <;> omega)
            | (go_roundw
               case rel =>
                 refine ⟨k + 1, by go_num, by omega, AdjR.firstBad_next HG.out ?_, by trivial⟩
                 rw [HA.out]
                 try simp only [beq_eq_false_iff_ne, ne_eq] at *
                 unfold AdjR.nodeBad; (repeat' split) <;> omega
               case measure => simp [intOf]; omega)
      · obtain rfl : k = n := by omega
        go_wp2_with fail
        go_ret
        exact ⟨ret_int (by rw [HE.out, HG.out]), rfl⟩
end Go.Proofs.Ytkopkicdmbnpgaa
