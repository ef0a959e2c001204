/-
  The walks of the reference's Do, whatever the instruction, and of goes. Conditions: what is read lies there.
-/
import Derived.Test.YtlnfmipcbhhkhaaCoreV2
import Derived.Test.YtlnfmipcbhhkhaaCoreV3
import Derived.Test.YtlnfmipcbhhkhaaCoreV4
import Derived.Test.YtlnfmipcbhhkhaaCoreV5
import Derived.Test.YtlnfmipcbhhkhaaCoreV6
import Derived.Test.YtlnfmipcbhhkhaaCoreV7
namespace Go.Proofs.Ytlnfmipcbhhkhaa
set_option linter.unusedVariables false
open Go.RowKit Adj

/-- Do, whatever the instruction (no Post, no Wait). -/
theorem Do_any (W : World) (gp gm : Nat) (Ap Am : Option Addr) (cp cm : Nat) (s : AdjC.St) (x : AdjC.I) (mv : Bool) (padn memn : Int) (hw : AdjC.wrongI padn memn mv x = 0) (h34 : ¬ (x.d = 3 ∨ x.d = 4)) (hp : Cr.Mm W Ap gp s.pad) (hm : Cr.Mm W Am gm s.mem) (hne : gp ≠ gm)
    (hl : (s.pad.length : Int) = padn) (hlm : (s.mem.length : Int) = memn) (hl4 : s.pad.length ≤ 4096) (hlm4 : s.mem.length ≤ 1048576) :
    Calls Try.prog 22 #[Cr.insV x, .slice Ap s.pad.length cp, .slice Am s.mem.length cm] W fun e w' => e = .returned (.tuple #[]) ∧ Cr.Dm W gp gm Ap Am (AdjC.doI x s).pad (AdjC.doI x s).mem w' := by
  have hk := AdjC.right_kind hw
  obtain ⟨hn, _⟩ := AdjC.right_small hw h34
  have hmv : x.d = 1 ∨ x.d = 2 → mv = true := fun h => by
    cases mv with
    | true => rfl
    | false => have := AdjC.right_maker hw; omega
  obtain ⟨d, a, b, c, n, v⟩ := x
  simp only at hk hn h34 hmv
  obtain ⟨n, rfl⟩ : ∃ m : Nat, n = (m : Int) := ⟨n.toNat, by omega⟩
  have hnn : n ≤ 4096 := by omega
  have hd : d = 1 ∨ d = 2 ∨ d = 5 ∨ d = 6 ∨ d = 7 ∨ d = 8 ∨ d = 9 ∨ d = 10 ∨ d = 11 ∨ d = 12 ∨ d = 13 ∨ d = 14 := by omega
  subst hl hlm
  rcases hd with rfl | rfl | rfl | rfl | rfl | rfl | rfl | rfl | rfl | rfl | rfl | rfl
  · obtain rfl := hmv (.inl rfl)
    obtain ⟨_, h2, h3⟩ := AdjC.right_moves hw (.inl rfl)
    exact Do_load W gp gm Ap Am cp cm s.pad s.mem a b c v n hp hm hne hl4 hlm4 hnn (fun h => h2 (by simp only; omega)) h3
  · obtain rfl := hmv (.inr rfl)
    obtain ⟨_, h2, h3⟩ := AdjC.right_moves hw (.inr rfl)
    exact Do_store W gp gm Ap Am cp cm s.pad s.mem a b c v n hp hm hne hl4 hlm4 hnn (fun h => h2 (by simp only; omega)) h3
  · obtain ⟨_, _, h2, h3, h4⟩ := AdjC.right_each hw (show (5 : Int) ≤ 5 ∧ (5 : Int) ≤ 14 ∧ (5 : Int) ≠ 13 from by decide)
    exact Do_set W gp gm Ap Am cp cm s.pad s.mem a b c v n hp hm hne hl4 hlm4 hnn (fun h => h2 (by simp only; omega))
  · obtain ⟨_, _, h2, h3, h4⟩ := AdjC.right_each hw (show (5 : Int) ≤ 6 ∧ (6 : Int) ≤ 14 ∧ (6 : Int) ≠ 13 from by decide)
    exact Do_add W gp gm Ap Am cp cm s.pad s.mem a b c v n hp hm hne hl4 hlm4 hnn (fun h => h2 (by simp only; omega)) (fun h => h3 (show (6 : Int) ≠ 5 from by decide) (by simp only; omega)) (fun h => h4 (show (6 : Int) ≠ 5 ∧ (6 : Int) ≠ 14 from by decide) (by simp only; omega))
  · obtain ⟨_, _, h2, h3, h4⟩ := AdjC.right_each hw (show (5 : Int) ≤ 7 ∧ (7 : Int) ≤ 14 ∧ (7 : Int) ≠ 13 from by decide)
    exact Do_sub W gp gm Ap Am cp cm s.pad s.mem a b c v n hp hm hne hl4 hlm4 hnn (fun h => h2 (by simp only; omega)) (fun h => h3 (show (7 : Int) ≠ 5 from by decide) (by simp only; omega)) (fun h => h4 (show (7 : Int) ≠ 5 ∧ (7 : Int) ≠ 14 from by decide) (by simp only; omega))
  · obtain ⟨_, _, h2, h3, h4⟩ := AdjC.right_each hw (show (5 : Int) ≤ 8 ∧ (8 : Int) ≤ 14 ∧ (8 : Int) ≠ 13 from by decide)
    exact Do_mul W gp gm Ap Am cp cm s.pad s.mem a b c v n hp hm hne hl4 hlm4 hnn (fun h => h2 (by simp only; omega)) (fun h => h3 (show (8 : Int) ≠ 5 from by decide) (by simp only; omega)) (fun h => h4 (show (8 : Int) ≠ 5 ∧ (8 : Int) ≠ 14 from by decide) (by simp only; omega))
  · obtain ⟨_, _, h2, h3, h4⟩ := AdjC.right_each hw (show (5 : Int) ≤ 9 ∧ (9 : Int) ≤ 14 ∧ (9 : Int) ≠ 13 from by decide)
    exact Do_max W gp gm Ap Am cp cm s.pad s.mem a b c v n hp hm hne hl4 hlm4 hnn (fun h => h2 (by simp only; omega)) (fun h => h3 (show (9 : Int) ≠ 5 from by decide) (by simp only; omega)) (fun h => h4 (show (9 : Int) ≠ 5 ∧ (9 : Int) ≠ 14 from by decide) (by simp only; omega))
  · obtain ⟨_, _, h2, h3, h4⟩ := AdjC.right_each hw (show (5 : Int) ≤ 10 ∧ (10 : Int) ≤ 14 ∧ (10 : Int) ≠ 13 from by decide)
    exact Do_less W gp gm Ap Am cp cm s.pad s.mem a b c v n hp hm hne hl4 hlm4 hnn (fun h => h2 (by simp only; omega)) (fun h => h3 (show (10 : Int) ≠ 5 from by decide) (by simp only; omega)) (fun h => h4 (show (10 : Int) ≠ 5 ∧ (10 : Int) ≠ 14 from by decide) (by simp only; omega))
  · obtain ⟨_, _, h2, h3, h4⟩ := AdjC.right_each hw (show (5 : Int) ≤ 11 ∧ (11 : Int) ≤ 14 ∧ (11 : Int) ≠ 13 from by decide)
    exact Do_pick W gp gm Ap Am cp cm s.pad s.mem a b c v n hp hm hne hl4 hlm4 hnn (fun h => h2 (by simp only; omega)) (fun h => h3 (show (11 : Int) ≠ 5 from by decide) (by simp only; omega)) (fun h => h4 (show (11 : Int) ≠ 5 ∧ (11 : Int) ≠ 14 from by decide) (by simp only; omega))
  · obtain ⟨_, _, h2, h3, h4⟩ := AdjC.right_each hw (show (5 : Int) ≤ 12 ∧ (12 : Int) ≤ 14 ∧ (12 : Int) ≠ 13 from by decide)
    exact Do_mac W gp gm Ap Am cp cm s.pad s.mem a b c v n hp hm hne hl4 hlm4 hnn (fun h => h2 (by simp only; omega)) (fun h => h3 (show (12 : Int) ≠ 5 from by decide) (by simp only; omega)) (fun h => h4 (show (12 : Int) ≠ 5 ∧ (12 : Int) ≠ 14 from by decide) (by simp only; omega))
  · obtain ⟨_, h2, h3, h4⟩ := AdjC.right_inner hw rfl
    exact Do_inner W gp gm Ap Am cp cm s.pad s.mem a b c v n hp hm hne hl4 hlm4 hnn h2 (fun h => h3 (by simp only; omega)) (fun h => h4 (by simp only; omega))
  · obtain ⟨_, _, h2, h3, h4⟩ := AdjC.right_each hw (show (5 : Int) ≤ 14 ∧ (14 : Int) ≤ 14 ∧ (14 : Int) ≠ 13 from by decide)
    exact Do_more W gp gm Ap Am cp cm s.pad s.mem a b c v n hp hm hne hl4 hlm4 hnn (fun h => h2 (by simp only; omega)) (fun h => h3 (show (14 : Int) ≠ 5 from by decide) (by simp only; omega))

namespace Cr
def goesB (L : List AdjC.I) (sems : List Int) : Bool := match L with | [] => false | x :: _ => decide (x.d ≠ 4) || decide (0 < AdjC.at_ sems x.a)
def semsV (sems : List Int) : Value := .agg #[.int .i64 (AdjC.at_ sems 0), .int .i64 (AdjC.at_ sems 1), .int .i64 (AdjC.at_ sems 2), .int .i64 (AdjC.at_ sems 3), .int .i64 (AdjC.at_ sems 4), .int .i64 (AdjC.at_ sems 5), .int .i64 (AdjC.at_ sems 6), .int .i64 (AdjC.at_ sems 7), .int .i64 (AdjC.at_ sems 8), .int .i64 (AdjC.at_ sems 9), .int .i64 (AdjC.at_ sems 10), .int .i64 (AdjC.at_ sems 11), .int .i64 (AdjC.at_ sems 12), .int .i64 (AdjC.at_ sems 13), .int .i64 (AdjC.at_ sems 14), .int .i64 (AdjC.at_ sems 15)]
theorem goes_mover (c : AdjC.Code) (s : AdjC.St) : goesB (c.mover.drop s.i) s.sems = AdjC.canA c s := by
  unfold AdjC.canA goesB
  rcases Nat.lt_or_ge s.i c.mover.length with h | h
  · rw [List.drop_eq_getElem_cons h, List.getElem?_eq_getElem h]; rfl
  · rw [List.drop_eq_nil_of_le h, List.getElem?_eq_none h]
theorem goes_maker (c : AdjC.Code) (s : AdjC.St) : goesB (c.maker.drop s.j) s.sems = AdjC.canB c s := by
  unfold AdjC.canB goesB
  rcases Nat.lt_or_ge s.j c.maker.length with h | h
  · rw [List.drop_eq_getElem_cons h, List.getElem?_eq_getElem h]; rfl
  · rw [List.drop_eq_nil_of_le h, List.getElem?_eq_none h]
theorem sems_at (sems : List Int) {k : Nat} (hk : k < 16) : (#[.int .i64 (AdjC.at_ sems 0), .int .i64 (AdjC.at_ sems 1), .int .i64 (AdjC.at_ sems 2), .int .i64 (AdjC.at_ sems 3), .int .i64 (AdjC.at_ sems 4), .int .i64 (AdjC.at_ sems 5), .int .i64 (AdjC.at_ sems 6), .int .i64 (AdjC.at_ sems 7), .int .i64 (AdjC.at_ sems 8), .int .i64 (AdjC.at_ sems 9), .int .i64 (AdjC.at_ sems 10), .int .i64 (AdjC.at_ sems 11), .int .i64 (AdjC.at_ sems 12), .int .i64 (AdjC.at_ sems 13), .int .i64 (AdjC.at_ sems 14), .int .i64 (AdjC.at_ sems 15)] : Array Value)[k]? = some (.int .i64 (AdjC.at_ sems (k : Int))) := by
  have : k = 0 ∨ k = 1 ∨ k = 2 ∨ k = 3 ∨ k = 4 ∨ k = 5 ∨ k = 6 ∨ k = 7 ∨ k = 8 ∨ k = 9 ∨ k = 10 ∨ k = 11 ∨ k = 12 ∨ k = 13 ∨ k = 14 ∨ k = 15 := by omega
  rcases this with rfl | rfl | rfl | rfl | rfl | rfl | rfl | rfl | rfl | rfl | rfl | rfl | rfl | rfl | rfl | rfl <;> rfl
end Cr
set_option maxRecDepth 100000 in
set_option maxHeartbeats 4000000 in
theorem goes_any (L : List AdjC.I) (A : Option Addr) (cap : Nat) (sems : List Int) (w : World) (hL : IntsAt w w.heap.size A (AdjC.flat L)) (hr : ∀ x, L.head? = some x → x.d = 4 → 0 ≤ x.a ∧ x.a < 16) (hlen : L.length ≤ 262144) :
    Calls Try.prog 21 #[.slice A L.length cap, Cr.semsV sems] w fun e w' => e = .returned (.bool (Cr.goesB L sems)) ∧ Below w.heap.size w w' := by
  unfold Cr.semsV
  have HB := Lib.hid (fun o => (Below.refl w.heap.size w).alloc (Nat.le_refl _) o)
  cases L with
  | nil =>
    clear hL hr hlen
    go_enter Try.func21, Try.ntmps21
    go_wp2_with fail
    go_ret
    exact ⟨rfl, HB.out _⟩
  | cons x L =>
    obtain ⟨b, off, rfl, hbl⟩ := hL.spot (by rw [AdjC.flat_length]; simp)
    obtain ⟨x0, x1, _⟩ := Cr.six_cells hL (k := 0) (by simp) rfl
    simp only [List.getElem_cons_zero, Nat.zero_mul, Nat.add_zero] at x0 x1
    have y0 := fun o => (World.cell?_alloc_lt w o ⟨b, off, none⟩ hbl).trans x0
    have y1 := fun o => (World.cell?_alloc_lt w o ⟨b, off + 1, none⟩ hbl).trans x1
    have HR := Lib.hid (hr x rfl)
    have HN := Lib.hid (Blk.new w 47 #[.int .i64 (AdjC.at_ sems 0), .int .i64 (AdjC.at_ sems 1), .int .i64 (AdjC.at_ sems 2), .int .i64 (AdjC.at_ sems 3), .int .i64 (AdjC.at_ sems 4), .int .i64 (AdjC.at_ sems 5), .int .i64 (AdjC.at_ sems 6), .int .i64 (AdjC.at_ sems 7), .int .i64 (AdjC.at_ sems 8), .int .i64 (AdjC.at_ sems 9), .int .i64 (AdjC.at_ sems 10), .int .i64 (AdjC.at_ sems 11), .int .i64 (AdjC.at_ sems 12), .int .i64 (AdjC.at_ sems 13), .int .i64 (AdjC.at_ sems 14), .int .i64 (AdjC.at_ sems 15)])
    clear hL hr x0 x1
    by_cases h4 : x.d = 4
    · obtain ⟨sm, hs⟩ : ∃ sm : Nat, x.a = (sm : Int) := ⟨x.a.toNat, by have := HR.out h4; omega⟩
      have hs16 : sm < 16 := by have := HR.out h4; omega
      have HV := Lib.hid (show Cr.goesB (x :: L) sems = decide (0 < AdjC.at_ sems (sm : Int)) by unfold Cr.goesB; simp [h4, hs])
      have z := HN.out.cell sm
      rw [Cr.sems_at sems hs16] at z
      obtain ⟨u, hu⟩ : ∃ u, AdjC.at_ sems (sm : Int) = u := ⟨_, rfl⟩
      rw [hu] at z HV
      rw [hs] at y1
      rw [h4] at y0
      clear h4 hs hu
      go_enter Try.func21, Try.ntmps21
      go_wp2_with fail
      go_ret
      exact ⟨by rw [HV.out]; rfl, HB.out _⟩
    · have HV := Lib.hid (show Cr.goesB (x :: L) sems = true by unfold Cr.goesB; simp [h4])
      have q4 : (x.d != 4) = true := by simpa using h4
      clear h4
      go_enter Try.func21, Try.ntmps21
      go_wp2_with fail
      go_ret
      exact ⟨by rw [HV.out]; rfl, HB.out _⟩
end Go.Proofs.Ytlnfmipcbhhkhaa
