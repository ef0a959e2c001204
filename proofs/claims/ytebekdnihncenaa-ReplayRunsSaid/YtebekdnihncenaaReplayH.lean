/-
  The walk of (player).plan: what a plan does, whatever the player is. Conditions: the player does each move that meets no error.
-/
import Derived.Test.YtebekdnihncenaaReplayG
namespace Go.Proofs.Ytebekdnihncenaa
set_option linter.unusedVariables false
open Go.RowKit Adj Adj8

namespace Rp
/-- A player that does each move that meets no error; I tells how the play stands. -/
def Plays (N : Int) (fK : Nat) (cap : Array Value) (I : Nat → St → World → Prop) : Prop :=
  (∀ (args : Array Value) (w : World), (callFunc fK args).run Try.prog w = .ok (.enter fK args) w) ∧ ∀ (c : Nat) (x : St) (d k : Int) (w : World), I c x w → c ≤ 1048576 → moveErr N x d k = 0 → Calls Try.prog fK (#[.int .i64 d, .int .i64 k] ++ cap) w fun e w' => e = .returned (.tuple #[]) ∧ I (c + 1) (moveDo x d k) w'
/-- What a plan of n steps leaves of a play. -/
def After (n slot s : Nat) (x y : St) : Prop :=
  y.left = x.at_ ∧ y.cost = x.cost + ((T n s : Nat) : Int) ∧ y.kept.length = x.kept.length ∧ ∀ i, i < slot → y.kept[i]? = x.kept[i]?
theorem after_one {slot s : Nat} {x : St} (hl : x.left = x.at_ + 1) : After 1 slot s x (moveDo x 4 0) :=
  ⟨by show x.left - 1 = _; omega, by rw [T_one]; show x.cost = x.cost + 0; omega, rfl, fun _ _ => rfl⟩
end Rp

theorem results_none {fn : Func} (h : fn.results = #[]) (tmps : Array Value) (P : Program) (w : World) : (results fn tmps).run P w = .ok (.tuple #[]) w := by simp [results, h]

set_option maxHeartbeats 2000000 in
theorem plan_one (N : Int) (fK : Nat) (cap : Array Value) (I : Nat → St → World → Prop) (slot s c : Nat) (x : St) (w : World) (hp : Rp.Plays N fK cap I) (hx : I c x w) (hc : c ≤ 1048576) (hl : x.left = x.at_ + 1) :
    Calls Try.prog 26 #[.func (.func fK) #[] cap, .int .i64 1, .int .i64 (slot : Int), .int .i64 (s : Int)] w fun e w' => e = .returned (.tuple #[]) ∧ ∃ y c', I c' y w' ∧ c' = c + 1 ∧ Rp.After 1 slot s x y := by
  have HP := Lib.hid hp
  have hcf := hp.1
  clear hp
  have HE := Lib.hid (Adj8.err_back (n := N) (k := 0) (show x.at_ = x.left - 1 by omega))
  go_enter Try.func26, Try.ntmps26
  go_wp2_with fail
  refine (HP.out.2 c x 4 0 _ hx hc HE.out).mono ?_
  rintro e w1 ⟨rfl, hI⟩
  have HI := Lib.hid hI
  clear hI
  go_wp2_with fail
  refine bodyPost_ret (results_none rfl _ _ _) rfl ?_
  exact ⟨rfl, _, _, HI.out, rfl, Rp.after_one hl⟩

/-- What stands at the loop's head: m steps are left to be gone back through from here. -/
def Rp.Head (n m slot s : Nat) (x y : St) : Prop :=
  y.at_ = x.at_ ∧ y.left = x.at_ + (m : Int) ∧ y.cost + ((T m s : Nat) : Int) = x.cost + ((T n s : Nat) : Int) ∧ y.kept.length = x.kept.length ∧ y.kept.getD slot 0 = x.at_ ∧ ∀ i, i < slot → y.kept[i]? = x.kept[i]?

theorem Rp.head_start {n slot s : Nat} {x : St} (hl : x.left = x.at_ + (n : Int)) (hk : slot < x.kept.length) : Rp.Head n n slot s x (moveDo x 2 (slot : Int)) := by
  refine ⟨rfl, hl, rfl, by show (x.kept.set _ _).length = _; simp, ?_, fun i hi => ?_⟩
  · show (x.kept.set (slot : Int).toNat x.at_).getD slot 0 = x.at_
    simp [hk]
  · show (x.kept.set (slot : Int).toNat x.at_)[i]? = _
    rw [List.getElem?_set_ne (by simp; omega)]

namespace Rp
/-- j steps further on. -/
def ahd (y : St) (j : Nat) : St := { y with at_ := y.at_ + (j : Int), cost := y.cost + (j : Int) }
theorem ahd_zero (y : St) : ahd y 0 = y := by simp [ahd]
theorem ahd_next (y : St) (j : Nat) (k : Int) : moveDo (ahd y j) 1 k = ahd y (j + 1) := by
  show St.mk (y.at_ + (j : Int) + 1) y.left (y.cost + (j : Int) + 1) y.kept = St.mk (y.at_ + ((j + 1 : Nat) : Int)) y.left (y.cost + ((j + 1 : Nat) : Int)) y.kept
  congr 1 <;> omega
theorem ahd_err {N : Int} {S n m slot s j : Nat} {x y : St} (h : Head n m slot s x y) (hf : y.fine N S) (hj : j < m) : moveErr N (ahd y j) 1 0 = 0 := by
  refine err_ahead ?_
  obtain ⟨h1, h2, _⟩ := h
  obtain ⟨f1, f2, f3, f4, _⟩ := hf
  show ¬ y.at_ + (j : Int) = N
  omega
theorem ahd_left {n m slot s j : Nat} {x y : St} (h : Head n m slot s x y) (hj : j < m) : (ahd y j).left = (ahd y j).at_ + ((m : Int) - (j : Int)) := by
  obtain ⟨h1, h2, _⟩ := h
  show y.left = y.at_ + (j : Int) + ((m : Int) - (j : Int))
  omega
theorem kept_same {n m slot s j a b c : Nat} {x y z : St} (h : Head n m slot s x y) (hz : After a (slot + 1) c (ahd y j) z) (hk : slot < x.kept.length) : z.kept.getD slot 0 = x.at_ := by
  obtain ⟨_, _, _, _, h5, _⟩ := h
  obtain ⟨_, _, _, z4⟩ := hz
  rw [List.getD_eq_getElem?_getD, z4 slot (by omega), ← List.getD_eq_getElem?_getD]
  exact h5
theorem load_err {N : Int} {n m slot s j a c : Nat} {x y z : St} (h : Head n m slot s x y) (hz : After a (slot + 1) c (ahd y j) z) (h0 : 0 ≤ x.at_) (hk : slot < x.kept.length) : moveErr N z 3 (slot : Int) = 0 := by
  have hs := kept_same (b := 0) h hz hk
  obtain ⟨_, _, _, h4, _⟩ := h
  obtain ⟨_, _, z3, _⟩ := hz
  have e3 : z.kept.length = y.kept.length := z3
  refine err_load ?_ ?_
  · rw [e3, h4]; omega
  · rw [Int.toNat_natCast, hs]; omega
theorem head_next {n m slot s j : Nat} {x y z : St} (h : Head n m slot s x y) (hz : After (m - j) (slot + 1) (s - 1) (ahd y j) z) (hsp : T m s = j + T j s + T (m - j) (s - 1)) (hj : j < m) (hk : slot < x.kept.length) : Head n j slot s x (moveDo z 3 (slot : Int)) := by
  have hs := kept_same (b := 0) h hz hk
  obtain ⟨h1, h2, h3, h4, h5, h6⟩ := h
  obtain ⟨z1, z2, z3, z4⟩ := hz
  have e3 : z.kept.length = y.kept.length := z3
  have e1 : z.left = y.at_ + (j : Int) := z1
  have e2 : z.cost = y.cost + (j : Int) + ((T (m - j) (s - 1) : Nat) : Int) := z2
  refine ⟨?_, ?_, ?_, ?_, ?_, ?_⟩
  · show z.kept.getD (slot : Int).toNat 0 = x.at_
    rw [Int.toNat_natCast]; exact hs
  · show z.left = _
    omega
  · show z.cost + _ = _
    omega
  · show z.kept.length = _
    omega
  · exact hs
  · intro i hi
    show z.kept[i]? = _
    rw [z4 i (by omega)]
    exact h6 i hi
theorem head_one {n slot s : Nat} {x y : St} (h : Head n 1 slot s x y) : y.at_ = y.left - 1 := by
  obtain ⟨h1, h2, _⟩ := h
  omega
theorem head_end {n slot s : Nat} {x y : St} (h : Head n 1 slot s x y) : After n slot s x (moveDo y 4 0) := by
  obtain ⟨h1, h2, h3, h4, h5, h6⟩ := h
  rw [T_one] at h3
  refine ⟨?_, ?_, h4, h6⟩
  · show y.left - 1 = _
    omega
  · show y.cost = _
    omega
end Rp

set_option maxHeartbeats 4000000 in
theorem plan_any (N : Int) (S : Nat) (hN : 0 ≤ N) (hN2 : N ≤ 256) (hS : S ≤ 16) (fK : Nat) (cap : Array Value) (I : Nat → St → World → Prop) (hp : Rp.Plays N fK cap I) (hfine : ∀ c x w, I c x w → x.fine N S) : ∀ (n slot s c : Nat) (x : St) (w : World),
    I c x w → c + T n s + 3 * n ≤ 1048576 → n ≤ 256 → slot + s = S → (2 ≤ n → 1 ≤ s) → x.left = x.at_ + (n : Int) →
    Calls Try.prog 26 #[.func (.func fK) #[] cap, .int .i64 (n : Int), .int .i64 (slot : Int), .int .i64 (s : Int)] w fun e w' => e = .returned (.tuple #[]) ∧ ∃ y c', I c' y w' ∧ c' ≤ c + T n s + 3 * n ∧ (1 ≤ n → c' + 1 ≤ c + T n s + 3 * n) ∧ Rp.After n slot s x y := by
  intro n
  induction n using Nat.strongRecOn with
  | _ n ih =>
    intro slot s c x w hx hcb hn hss h2 hl
    by_cases hn0 : n = 0
    · subst hn0
      have hcf := hp.1
      go_enter Try.func26, Try.ntmps26
      go_wp2_with fail
      refine bodyPost_ret (results_none rfl _ _ _) rfl ?_
      exact ⟨rfl, x, c, hx, by omega, fun h => by omega, by simpa using hl, by rw [T_zero]; omega, rfl, fun _ _ => rfl⟩
    by_cases hn1 : n = 1
    · subst hn1
      refine (plan_one N fK cap I slot s c x w hp hx (by omega) (by simpa using hl)).mono ?_
      rintro e w' ⟨he, y, c', h1, h2, h3⟩
      exact ⟨he, y, c', h1, by omega, fun _ => by omega, h3⟩
    have hn2 : 2 ≤ n := by omega
    have hs1 := h2 hn2
    have hs16 : s ≤ 16 := by omega
    have hslot : slot ≤ 16 := by omega
    have hf := hfine c x w hx
    obtain ⟨f1, f2, f3, f4, f5, f6⟩ := hf
    have HP := Lib.hid hp
    have hcf := hp.1
    have ihI : ∀ (a b c : Int) (q : Nat) (x : St) (W : World), I q x W → q + T a.toNat c.toNat + 3 * a.toNat ≤ 1048576 → 0 ≤ a → a < n → 0 ≤ b → 0 ≤ c → b + c = S → (2 ≤ a → 1 ≤ c) → x.left = x.at_ + a →
        Calls Try.prog 26 #[.func (.func fK) #[] cap, .int .i64 a, .int .i64 b, .int .i64 c] W fun e w' => e = .returned (.tuple #[]) ∧ ∃ y q', I q' y w' ∧ q' ≤ q + T a.toNat c.toNat + 3 * a.toNat ∧ (1 ≤ a.toNat → q' + 1 ≤ q + T a.toNat c.toNat + 3 * a.toNat) ∧ Rp.After a.toNat b.toNat c.toNat x y := by
      intro a b c q x W hx hq ha hb hc hd he hf hg
      obtain ⟨a, rfl⟩ := Int.eq_ofNat_of_zero_le ha
      obtain ⟨b, rfl⟩ := Int.eq_ofNat_of_zero_le hc
      obtain ⟨c, rfl⟩ := Int.eq_ofNat_of_zero_le hd
      exact ih a (by omega) b c q x W hx hq (by omega) (by omega) (by omega) hg
    have IH := Lib.hid ihI
    clear ihI
    have HFINE := Lib.hid hfine
    have HX := Lib.hid hx
    have HL := Lib.hid hl
    have HSS := Lib.hid hss
    have F5 := Lib.hid f5
    clear hp ih hfine hx hl hss f5 f6
    have q0 : ((n : Int) == 0) = false := by simp; omega
    have q1 : ((n : Int) == 1) = false := by simp; omega
    have HE0 := Lib.hid (Adj8.err_keep (n := N) (x := x) (k := (slot : Int)) (by rw [F5.out, ← HSS.out]; omega))
    go_enter Try.func26, Try.ntmps26
    go_wp2_with fail
    refine (HP.out.2 c x 2 _ _ HX.out (by omega) HE0.out).mono ?_
    rintro e w1 ⟨rfl, hI⟩
    have HI := Lib.hid hI
    clear hI
    go_wp2_with fail
    go_loopw [1] (fun v wr => ∃ m : Nat, 1 ≤ m ∧ m ≤ n ∧ v = .int .i64 (m : Int) ∧ ∃ y cy, I cy y wr ∧ cy + T m s + 3 * m ≤ c + 1 + T n s + 3 * n ∧ Rp.Head n m slot s x y) (fun v _ => (intOf v).toNat)
    case atStart => exact ⟨n, by omega, Nat.le_refl _, rfl, _, _, HI.out, by omega, Rp.head_start HL.out (by rw [F5.out, ← HSS.out]; omega)⟩
    case round =>
      obtain ⟨m, hm1, hmn, rfl, y, cy, hIy, hcy, hy⟩ := hrel
      have HIY := Lib.hid hIy
      have HY := Lib.hid hy
      clear hIy hy HI
      by_cases hlt : 1 < m
      · go_wp2_with (go_at_call 30; refine (split_any _ _ _ (by omega) (by omega) (by omega) (by omega)).mono ?_; rintro e w2 ⟨k, rfl, hk1, hk2, hsp, rfl⟩)
        have HSP := Lib.hid hsp
        clear hsp
        go_loopw [24] (fun v wr => ∃ j : Nat, j ≤ k ∧ v = .int .i64 (j : Int) ∧ I (cy + j) (Rp.ahd y j) wr) (fun v _ => k + 1 - (intOf v).toNat)
        case atStart => exact ⟨0, by omega, rfl, by rw [Rp.ahd_zero]; exact HIY.out⟩
        case round =>
          obtain ⟨j, hj, rfl, hIj⟩ := hrel
          have HIJ := Lib.hid hIj
          clear hIj
          by_cases hjk : j < k
          · have HEA := Lib.hid (Rp.ahd_err HY.out (HFINE.out _ _ _ HIY.out) (show j < m by omega))
            go_wp2_with fail
            refine (HP.out.2 _ _ 1 0 _ HIJ.out (by omega) HEA.out).mono ?_
            rintro e w3 ⟨rfl, hI3⟩
            have HI3 := Lib.hid hI3
            clear hI3
            go_wp2_with fail
            exact ⟨⟨j + 1, by omega, by go_num, by rw [← Rp.ahd_next y j 0]; exact HI3.out⟩, by simp [intOf]; omega⟩
          · obtain rfl : j = k := by omega
            have hsj := HSP.out.1
            have HSJ := Lib.hid HSP.out.2
            have hq : cy + j + T (m - j) (s - 1) + 3 * (m - j) ≤ 1048576 := by have := HSJ.out; omega
            go_wp2_with fail
            refine (IH.out _ _ _ _ _ _ HIJ.out (by rw [show ((m : Int) - (j : Int)).toNat = m - j from by omega, show ((s : Int) - 1).toNat = s - 1 from by omega]; exact hq) (by omega) (by omega) (by omega) (by omega) (by have := HSS.out; omega) (by omega) (Rp.ahd_left HY.out (by omega))).mono ?_
            rintro e w4 ⟨rfl, z, cz, hIz, hcz1, hcz2, hz⟩
            rw [show ((m : Int) - (j : Int)).toNat = m - j from by omega, show ((slot : Int) + 1).toNat = slot + 1 from by omega, show ((s : Int) - 1).toNat = s - 1 from by omega] at hz
            rw [show ((m : Int) - (j : Int)).toNat = m - j from by omega, show ((s : Int) - 1).toNat = s - 1 from by omega] at hcz1 hcz2
            have hcz : cz + 1 ≤ cy + j + T (m - j) (s - 1) + 3 * (m - j) := hcz2 (by omega)
            clear hcz1 hcz2
            have HIZ := Lib.hid hIz
            have HZ := Lib.hid hz
            clear hIz hz
            have HEL := Lib.hid (Rp.load_err (N := N) HY.out HZ.out f1 (by rw [F5.out, ← HSS.out]; omega))
            go_wp2_with fail
            refine (HP.out.2 _ _ 3 _ _ HIZ.out (by omega) HEL.out).mono ?_
            rintro e w5 ⟨rfl, hI5⟩
            have HI5 := Lib.hid hI5
            clear hI5
            go_wp2_with fail
            refine ⟨⟨j, by omega, by omega, rfl, _, _, HI5.out, by have := HSJ.out; omega, Rp.head_next HY.out HZ.out HSP.out.2 hk2 (by rw [F5.out, ← HSS.out]; omega)⟩, by simp [intOf]; omega⟩
      · obtain rfl : m = 1 := by omega
        have HE1 := Lib.hid (Adj8.err_back (n := N) (k := 0) (Rp.head_one HY.out))
        go_wp2_with fail
        have ht1 : T 1 s = 0 := T_one s
        refine (HP.out.2 cy y 4 0 _ HIY.out (by omega) HE1.out).mono ?_
        rintro e w3 ⟨rfl, hI3⟩
        have HI3 := Lib.hid hI3
        clear hI3
        go_wp2_with fail
        go_end0
        exact ⟨rfl, _, _, HI3.out, by omega, fun _ => by omega, Rp.head_end HY.out⟩

end Go.Proofs.Ytebekdnihncenaa
