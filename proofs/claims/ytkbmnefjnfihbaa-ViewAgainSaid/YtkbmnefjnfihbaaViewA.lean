/-
  The walks of slices.IndexFunc, ContainsFunc, Index, Contains at ints; of Size, the program's and the reference's. Conditions: the list can be read.
-/
import Derived.Test.YtkbmnefjnfihbaaRows
import Derived.Test.YtkbmnefjnfihbaaMem
import Derived.Test.YtkbmnefjnfihbaaViewPlain
namespace Go.Proofs.Ytkbmnefjnfihbaa
set_option linter.unusedVariables false
open Go.RowKit Adj

namespace Vw
/-- A list of ints that a slice value holds. -/
def IntsAt (w : World) (B : Nat) (A : Option Addr) (l : List Int) : Prop :=
  0 < l.length → ∃ b off, A = some ⟨b, off, none⟩ ∧ b < B ∧ ∀ i (h : i < l.length), w.cell? ⟨b, off + i, none⟩ = some (.int .i64 l[i])
theorem IntsAt.below {w w' : World} {B : Nat} {A : Option Addr} {l : List Int} (h : IntsAt w B A l) (hb : Below B w w') : IntsAt w' B A l := fun hp => by
  obtain ⟨b, off, hA, hlt, hc⟩ := h hp
  exact ⟨b, off, hA, hlt, fun i hi => (hb.cell (p := ⟨b, off + i, none⟩) hlt).trans (hc i hi)⟩
theorem IntsAt.up {w : World} {B B' : Nat} {A : Option Addr} {l : List Int} (h : IntsAt w B A l) (hb : B ≤ B') : IntsAt w B' A l := fun hp => by
  obtain ⟨b, off, hA, hlt, hc⟩ := h hp
  exact ⟨b, off, hA, by omega, hc⟩
/-- A function that is asked entry by entry. -/
def Asks (fK : Nat) (p : Int → Bool) : Prop :=
  (∀ (args : Array Value) (w : World), (callFunc fK args).run Try.prog w = .ok (.enter fK args) w) ∧ ∀ (x : Int) (w : World), Calls Try.prog fK #[.int .i64 x] w fun e w' => e = .returned (.bool (p x)) ∧ w = w'
/-- Where the first entry is that p takes; -1: there is none. -/
def Found (p : Int → Bool) (l : List Int) (r : Int) : Prop := (0 ≤ r ↔ l.any p = true) ∧ -1 ≤ r
end Vw

theorem call_enters {P : Program} {f : FuncId} {fn : Func} {c : Code} (hf : P.funcs[f]? = some fn) (hname : (fn.name == "runtime.NumGoroutine") = false) (hb : fn.body = some c) (args : Array Value) (w : World) :
    (callFunc f args).run P w = .ok (.enter f args) w := by
  have h1 : fn.name ≠ "runtime.NumGoroutine" := by simpa using hname
  simp [callFunc, hf, h1, hb]

set_option maxHeartbeats 1000000 in
theorem IndexFunc_any (fK : Nat) (p : Int → Bool) (hp : Vw.Asks fK p) (A : Option Addr) (cap : Nat) (l : List Int) (B : Nat) (w : World) (hl : l.length ≤ 9223372036854775807) (hm : Vw.IntsAt w B A l) :
    Calls Try.prog 56 #[.slice A l.length cap, .func (.func fK) #[] #[]] w fun e w' => ∃ r : Int, e = .returned (.int .i64 r) ∧ Vw.Found p l r ∧ w = w' := by
  have hcf := hp.1
  have HP := Lib.hid hp
  have HM := Lib.hid hm
  clear hp hm
  go_enter Try.func56, Try.ntmps56
  go_wp2_with fail
  go_loop [5, 8] (fun _ i => ∃ k : Nat, k ≤ l.length ∧ i = .int .i64 (k : Int) ∧ (l.take k).any p = false) (fun _ i => l.length + 1 - (intOf i).toNat)
  case atStart => exact ⟨0, by omega, rfl, by simp⟩
  case round =>
    obtain ⟨k, hk, rfl, hno⟩ := hrel
    have HNO := Lib.hid hno
    clear hno
    by_cases hlt : k < l.length
    · obtain ⟨b, off, rfl, hb, hc⟩ := HM.out (by omega)
      have hck := hc k hlt
      have hi1 : (0 : Int) ≤ (k : Int) := by omega
      have hi2 : (k : Int) < (l.length : Int) := by omega
      clear hc
      have HASK := Lib.hid (HP.out.2 l[k])
      have HL := Lib.hid (AdjV.any_take_next l p k hlt)
      have HG := Lib.hid (fun h => AdjV.any_of_take (p := p) hlt h)
      generalize l[k] = x at hck HASK HL HG
      by_cases hpx : p x = true
      · go_wp2_with fail
        refine (HASK.out _).mono ?_
        rintro e w1 ⟨rfl, rfl⟩
        rw [hpx]
        go_wp2_with fail
        go_ret
        exact ⟨_, rfl, ⟨⟨fun _ => HG.out hpx, fun _ => by omega⟩, by omega⟩, rfl⟩
      · have hpx' : p x = false := by simpa using hpx
        go_wp2_with fail
        refine (HASK.out _).mono ?_
        rintro e w1 ⟨rfl, rfl⟩
        rw [hpx']
        go_wp2_with fail
        go_round
        case rel => exact ⟨k + 1, by omega, by go_num, by rw [HL.out, HNO.out, hpx']; rfl⟩
        case measure => simp [intOf]; omega
    · obtain rfl : k = l.length := by omega
      go_wp2_with fail
      go_ret
      have := HNO.out
      rw [List.take_length] at this
      exact ⟨_, rfl, ⟨⟨fun h => by omega, fun h => by rw [this] at h; cases h⟩, by omega⟩, rfl⟩

set_option maxHeartbeats 1000000 in
theorem ContainsFunc_any (fK : Nat) (p : Int → Bool) (hp : Vw.Asks fK p) (A : Option Addr) (cap : Nat) (l : List Int) (B : Nat) (w : World) (hl : l.length ≤ 9223372036854775807) (hm : Vw.IntsAt w B A l) :
    Calls Try.prog 37 #[.slice A l.length cap, .func (.func fK) #[] #[]] w fun e w' => e = .returned (.bool (l.any p)) ∧ w = w' := by
  have HI := Lib.hid (IndexFunc_any fK p hp A cap l B w hl hm)
  clear hp hm
  go_enter Try.func37, Try.ntmps37
  go_wp2_with fail
  refine HI.out.mono ?_
  rintro e w1 ⟨r, rfl, hr, rfl⟩
  have HR := Lib.hid hr
  have hr1 := hr.2
  clear hr
  go_wp2_with fail
  go_ret
  exact ⟨ret_bool (by rw [Bool.eq_iff_iff, decide_eq_true_iff]; exact HR.out.1), rfl⟩

theorem Size1_any : Vw.Asks 38 AdjV.bad := by
  obtain ⟨c, hc⟩ : ∃ c, Try.f38.body = some c := ⟨_, rfl⟩
  refine ⟨call_enters Try.func38 (by kernel_rfl) hc, fun x w => ?_⟩
  clear hc c
  by_cases h1 : x < 0
  · have h : AdjV.bad x = true := by unfold AdjV.bad; simp [h1]
    have H := Lib.hid h
    clear h
    go_enter Try.func38, Try.ntmps38
    go_wp2
    go_ret
    exact ⟨by rw [H.out]; rfl, rfl⟩
  · by_cases h2 : 4096 < x
    · have h : AdjV.bad x = true := by unfold AdjV.bad; simp [h2]
      have H := Lib.hid h
      clear h
      go_enter Try.func38, Try.ntmps38
      go_wp2
      go_ret
      exact ⟨by rw [H.out]; rfl, rfl⟩
    · have h : AdjV.bad x = false := by unfold AdjV.bad; simp [h1, h2]
      have H := Lib.hid h
      clear h
      go_enter Try.func38, Try.ntmps38
      go_wp2
      go_ret
      exact ⟨by rw [H.out]; rfl, rfl⟩

set_option maxHeartbeats 1000000 in
theorem Index_any (x : Int) (A : Option Addr) (cap : Nat) (l : List Int) (B : Nat) (w : World) (hl : l.length ≤ 9223372036854775807) (hm : Vw.IntsAt w B A l) :
    Calls Try.prog 57 #[.slice A l.length cap, .int .i64 x] w fun e w' => ∃ r : Int, e = .returned (.int .i64 r) ∧ Vw.Found (x == ·) l r ∧ w = w' := by
  have HM := Lib.hid hm
  clear hm
  go_enter Try.func57, Try.ntmps57
  go_wp2_with fail
  go_loop [5, 8] (fun _ i => ∃ k : Nat, k ≤ l.length ∧ i = .int .i64 (k : Int) ∧ (l.take k).any (x == ·) = false) (fun _ i => l.length + 1 - (intOf i).toNat)
  case atStart => exact ⟨0, by omega, rfl, by simp⟩
  case round =>
    obtain ⟨k, hk, rfl, hno⟩ := hrel
    have HNO := Lib.hid hno
    clear hno
    by_cases hlt : k < l.length
    · obtain ⟨b, off, rfl, hb, hc⟩ := HM.out (by omega)
      have hck := hc k hlt
      have hi1 : (0 : Int) ≤ (k : Int) := by omega
      have hi2 : (k : Int) < (l.length : Int) := by omega
      clear hc
      have HL := Lib.hid (AdjV.any_take_next l (x == ·) k hlt)
      have HG := Lib.hid (fun h => AdjV.any_of_take (p := (x == ·)) hlt h)
      generalize l[k] = y at hck HL HG
      by_cases hpx : (x == y) = true
      · go_wp2_with fail
        go_ret
        exact ⟨_, rfl, ⟨⟨fun _ => HG.out hpx, fun _ => by omega⟩, by omega⟩, rfl⟩
      · have hpx' : (x == y) = false := by simpa using hpx
        clear hpx
        go_wp2_with fail
        go_round
        case rel => exact ⟨k + 1, by omega, by go_num, by rw [HL.out, HNO.out]; simpa using hpx'⟩
        case measure => simp [intOf]; omega
    · obtain rfl : k = l.length := by omega
      go_wp2_with fail
      go_ret
      have := HNO.out
      rw [List.take_length] at this
      exact ⟨_, rfl, ⟨⟨fun h => by omega, fun h => by rw [this] at h; cases h⟩, by omega⟩, rfl⟩

set_option maxHeartbeats 1000000 in
theorem Contains_any (x : Int) (A : Option Addr) (cap : Nat) (l : List Int) (B : Nat) (w : World) (hl : l.length ≤ 9223372036854775807) (hm : Vw.IntsAt w B A l) :
    Calls Try.prog 39 #[.slice A l.length cap, .int .i64 x] w fun e w' => e = .returned (.bool (decide (x ∈ l))) ∧ w = w' := by
  have HI := Lib.hid (Index_any x A cap l B w hl hm)
  clear hm
  go_enter Try.func39, Try.ntmps39
  go_wp2_with fail
  refine HI.out.mono ?_
  rintro e w1 ⟨r, rfl, hr, rfl⟩
  have HR := Lib.hid hr
  have hr1 := hr.2
  clear hr
  go_wp2_with fail
  go_ret
  refine ⟨ret_bool ?_, rfl⟩
  rw [Bool.eq_iff_iff, decide_eq_true_iff, decide_eq_true_iff, HR.out.1, List.any_eq_true]
  constructor
  · rintro ⟨y, hy, hxy⟩
    rw [beq_iff_eq] at hxy
    exact hxy ▸ hy
  · intro h
    exact ⟨x, h, by simp⟩

theorem Vw.mul_bound (n d : Int) (h0 : 0 ≤ n) (h1 : n ≤ 65537) (h2 : 0 ≤ d) (h3 : d ≤ 4096) : 0 ≤ n * d ∧ n * d ≤ 268439552 :=
  ⟨Int.mul_nonneg h0 h2, by have := Int.mul_le_mul h1 h3 h2 (by omega); omega⟩
theorem Vw.zero_next (l : List Int) (k : Nat) (h : k < l.length) : (0 : Int) ∈ l.take (k + 1) → (0 : Int) ∈ l.take k ∨ l[k] = 0 := by
  rw [AdjV.take_next l k h, List.mem_append, List.mem_singleton]
  rintro (h | h)
  · exact .inl h
  · exact .inr h.symm
theorem Vw.zero_mul' {l m : List Int} {d n : Int} (h : (0 : Int) ∈ m → (0 : Int) ∈ l ∨ d = 0) (hz : (0 : Int) ∈ l → n = 0) : (0 : Int) ∈ m → n * d = 0 := fun hm => by
  rcases h hm with h | h
  · rw [hz h, Int.zero_mul]
  · rw [h, Int.mul_zero]

theorem Vw.mul_pos (n d : Int) (h0 : 1 ≤ n) (h1 : 1 ≤ d) : 1 ≤ n * d := by
  have := Int.mul_le_mul h0 h1 (by omega) (by omega)
  omega
theorem Vw.zero_iff (l : List Int) (k : Nat) (h : k < l.length) : decide ((0 : Int) ∈ l.take (k + 1)) = (decide ((0 : Int) ∈ l.take k) || decide (l[k] = 0)) := by
  rw [AdjV.take_next l k h, Bool.eq_iff_iff]
  simp only [List.mem_append, List.mem_singleton, Bool.or_eq_true, decide_eq_true_iff]
  constructor
  · rintro (h | h)
    · exact .inl h
    · exact .inr h.symm
  · rintro (h | h)
    · exact .inl h
    · exact .inr h.symm
theorem Vw.min_spell (x : Int) (hb : 65536 < x) : Value.int .i64 (if 65537 < x then 65537 else x) = .int .i64 65537 := by
  split
  · rfl
  · rw [show x = 65537 from by omega]

/-- What Size of the program and of the reference answers. -/
def Vw.sizeR (l : List Int) : Value := .tuple #[.int .i64 (AdjV.size l).1, .int .i64 (AdjV.size l).2]

set_option maxHeartbeats 2000000 in
theorem Size_any (A : Option Addr) (cap : Nat) (l : List Int) (B : Nat) (w : World) (hl : l.length ≤ 9223372036854775807) (hm : Vw.IntsAt w B A l) :
    Calls Try.prog 11 #[.slice A l.length cap] w fun e w' => e = .returned (Vw.sizeR l) ∧ w = w' := by
  by_cases h1 : 6 < l.length
  · have HS := Lib.hid (AdjV.size_rank h1)
    have h1' : (6 : Int) < (l.length : Int) := by omega
    go_enter Try.func11, Try.ntmps11
    go_wp2_with fail
    go_ret2
    exact ⟨by unfold Vw.sizeR; rw [HS.out]; rfl, rfl⟩
  have h1' : ¬ (6 : Int) < (l.length : Int) := by omega
  have HCF := Lib.hid (ContainsFunc_any _ _ Size1_any A cap l B w hl hm)
  by_cases h2 : l.any AdjV.bad = true
  · have HS := Lib.hid (AdjV.size_range h1 h2)
    clear hm
    go_enter Try.func11, Try.ntmps11
    go_wp2_with fail
    refine HCF.out.mono ?_
    rintro e w1 ⟨rfl, rfl⟩
    rw [h2]
    go_wp2_with fail
    go_ret2
    exact ⟨by unfold Vw.sizeR; rw [HS.out]; rfl, rfl⟩
  have h2' : l.any AdjV.bad = false := by simpa using h2
  have hall : ∀ i (h : i < l.length), 0 ≤ l[i] ∧ l[i] ≤ 4096 := fun i hi => AdjV.bad_false.1 (by
    have := List.any_eq_false.1 h2' l[i] (List.getElem_mem hi)
    simpa using this)
  have HALL := Lib.hid hall
  have H2 := Lib.hid h2'
  have HCO := Lib.hid (fun W h => Contains_any 0 A cap l B W hl h)
  have HM := Lib.hid hm
  clear hall h2 h2' hm
  by_cases h3 : (0 : Int) ∈ l
  · have HS := Lib.hid (AdjV.size_none h1 H2.out h3)
    have hco : decide ((0 : Int) ∈ l) = true := by simpa using h3
    have HCT := Lib.hid hco
    have H3 := Lib.hid h3
    clear hco h3
    go_enter Try.func11, Try.ntmps11
    go_wp2_with fail
    refine HCF.out.mono ?_
    rintro e w1 ⟨rfl, rfl⟩
    rw [H2.out]
    go_wp2_with fail
    go_loop [4, 6, 14] (fun v _ i => ∃ (k : Nat) (n : Int), k ≤ l.length ∧ i = .int .i64 (k : Int) ∧ v = .int .i64 n ∧ 0 ≤ n ∧ n ≤ 65537 ∧ ((0 : Int) ∈ l.take k → n = 0)) (fun _ _ i => l.length + 1 - (intOf i).toNat)
    case atStart => exact ⟨0, 1, by omega, rfl, rfl, by omega, by omega, by simp⟩
    case round =>
      obtain ⟨k, n, hk, rfl, rfl, hn0, hn1, hz⟩ := hrel
      have HZ := Lib.hid hz
      clear hz
      by_cases hlt : k < l.length
      · obtain ⟨b, off, rfl, hb, hc⟩ := HM.out (by omega)
        have hck := hc k hlt
        have hd := HALL.out k hlt
        have hi1 : (0 : Int) ≤ (k : Int) := by omega
        have hi2 : (k : Int) < (l.length : Int) := by omega
        clear hc
        have HT := Lib.hid (Vw.zero_next l k hlt)
        generalize l[k] = d at hck hd HT
        have hp := Vw.mul_bound n d hn0 hn1 hd.1 hd.2
        have hdd := hd.1
        have HP := Lib.hid (Vw.zero_mul' HT.out HZ.out)
        by_cases hbig : 65536 < n * d
        · go_wp2_with fail
          refine (HCO.out _ HM.out).mono ?_
          rintro e w1 ⟨rfl, rfl⟩
          rw [HCT.out]
          go_wp2_with fail
          exact ⟨⟨k + 1, 65537, by omega, by go_num, by first | exact Vw.min_spell _ hbig | rfl, by omega, by omega, fun h => by have := HP.out h; omega⟩, by simp [intOf]; omega⟩
        · go_wp2_with fail
          exact ⟨⟨k + 1, n * d, by omega, by go_num, rfl, hp.1, by omega, HP.out⟩, by simp [intOf]; omega⟩
      · obtain rfl : k = l.length := by omega
        have hn := HZ.out (by rw [List.take_length]; exact H3.out)
        subst hn
        go_wp2_with fail
        go_ret2
        exact ⟨by unfold Vw.sizeR; rw [HS.out]; rfl, rfl⟩
  · have hco : decide ((0 : Int) ∈ l) = false := by simpa using h3
    have HCT := Lib.hid hco
    have hpos : ∀ i (h : i < l.length), 1 ≤ l[i] := fun i hi => by
      have := HALL.out i hi
      have h0 : l[i] ≠ 0 := fun e => h3 (e ▸ List.getElem_mem hi)
      omega
    have HPOS := Lib.hid hpos
    have H3 := Lib.hid h3
    clear hco h3 hpos
    go_enter Try.func11, Try.ntmps11
    go_wp2_with fail
    refine HCF.out.mono ?_
    rintro e w1 ⟨rfl, rfl⟩
    rw [H2.out]
    go_wp2_with fail
    go_loop [4, 6, 14] (fun v _ i => ∃ (k : Nat) (n : Int), k ≤ l.length ∧ i = .int .i64 (k : Int) ∧ v = .int .i64 n ∧ 1 ≤ n ∧ n ≤ 65536 ∧ n = AdjV.prod (l.take k)) (fun _ _ i => l.length + 1 - (intOf i).toNat)
    case atStart => exact ⟨0, 1, by omega, rfl, rfl, by omega, by omega, by simp [AdjV.prod]⟩
    case round =>
      obtain ⟨k, n, hk, rfl, rfl, hn0, hn1, hz⟩ := hrel
      have HZ := Lib.hid hz
      clear hz
      by_cases hlt : k < l.length
      · obtain ⟨b, off, rfl, hb, hc⟩ := HM.out (by omega)
        have hck := hc k hlt
        have hd := HALL.out k hlt
        have hd1 := HPOS.out k hlt
        have hi1 : (0 : Int) ≤ (k : Int) := by omega
        have hi2 : (k : Int) < (l.length : Int) := by omega
        clear hc
        have HT := Lib.hid (show AdjV.prod (l.take (k + 1)) = AdjV.prod (l.take k) * l[k] by rw [AdjV.take_next l k hlt, AdjV.prod_snoc])
        generalize l[k] = d at hck hd hd1 HT
        have hp := Vw.mul_bound n d (by omega) (by omega) hd.1 hd.2
        have hp1 := Vw.mul_pos n d hn0 hd1
        by_cases hbig : 65536 < n * d
        · have HS := Lib.hid (AdjV.size_much h1 H2.out H3.out (by
            have := AdjV.prod_take_le l (k + 1) (fun d hd => by
              obtain ⟨i, hi, rfl⟩ := List.getElem_of_mem hd
              exact HPOS.out i hi)
            rw [HT.out, ← HZ.out] at this
            omega))
          go_wp2_with fail
          refine (HCO.out _ HM.out).mono ?_
          rintro e w1 ⟨rfl, rfl⟩
          rw [HCT.out]
          go_wp2_with fail
          go_ret2
          exact ⟨by unfold Vw.sizeR; rw [HS.out]; rfl, rfl⟩
        · go_wp2_with fail
          exact ⟨⟨k + 1, n * d, by omega, by go_num, rfl, hp1, by omega, by rw [HT.out, ← HZ.out]⟩, by simp [intOf]; omega⟩
      · obtain rfl : k = l.length := by omega
        have hn := HZ.out
        rw [List.take_length] at hn
        have HS := Lib.hid (AdjV.size_ok h1 H2.out H3.out (by rw [← hn]; omega))
        have HN := Lib.hid hn
        clear hn
        go_wp2_with fail
        go_ret2
        exact ⟨by unfold Vw.sizeR; rw [HS.out, ← HN.out]; rfl, rfl⟩

set_option maxHeartbeats 2000000 in
theorem refSize_any (A : Option Addr) (cap : Nat) (l : List Int) (B : Nat) (w : World) (hl : l.length ≤ 9223372036854775807) (hm : Vw.IntsAt w B A l) :
    Calls Try.prog 12 #[.slice A l.length cap] w fun e w' => e = .returned (Vw.sizeR l) ∧ w = w' := by
  by_cases h1 : 6 < l.length
  · have HS := Lib.hid (AdjV.size_rank h1)
    have h1' : (6 : Int) < (l.length : Int) := by omega
    go_enter Try.func12, Try.ntmps12
    go_wp2_with fail
    go_ret2
    exact ⟨by unfold Vw.sizeR; rw [HS.out]; rfl, rfl⟩
  have h1' : ¬ (6 : Int) < (l.length : Int) := by omega
  have HM := Lib.hid hm
  clear hm
  go_enter Try.func12, Try.ntmps12
  go_wp2_with fail
  go_loop [4, 6, 15] (fun v _ i => ∃ k : Nat, k ≤ l.length ∧ i = .int .i64 (k : Int) ∧ v = .bool (decide ((0 : Int) ∈ l.take k)) ∧ (l.take k).any AdjV.bad = false) (fun _ _ i => l.length + 1 - (intOf i).toNat)
  case atStart => exact ⟨0, by omega, rfl, by simp, by simp⟩
  case round =>
    obtain ⟨k, hk, rfl, rfl, hno⟩ := hrel
    have HNO := Lib.hid hno
    clear hno
    by_cases hlt : k < l.length
    · obtain ⟨b, off, rfl, hb, hc⟩ := HM.out (by omega)
      have hck := hc k hlt
      have hi1 : (0 : Int) ≤ (k : Int) := by omega
      have hi2 : (k : Int) < (l.length : Int) := by omega
      clear hc
      have HT := Lib.hid (Vw.zero_iff l k hlt)
      have HB := Lib.hid (AdjV.any_take_next l AdjV.bad k hlt)
      have HG := Lib.hid (fun h => AdjV.size_range h1 (AdjV.any_of_take (p := AdjV.bad) hlt h))
      generalize l[k] = d at hck HT HB HG
      by_cases hd1 : d < 0
      · have HS := Lib.hid (HG.out (by unfold AdjV.bad; simp [hd1]))
        go_wp2_with fail
        go_ret2
        exact ⟨by unfold Vw.sizeR; rw [HS.out]; rfl, rfl⟩
      by_cases hd2 : 4096 < d
      · have HS := Lib.hid (HG.out (by unfold AdjV.bad; simp [hd2]))
        go_wp2_with fail
        go_ret2
        exact ⟨by unfold Vw.sizeR; rw [HS.out]; rfl, rfl⟩
      have HOK := Lib.hid (show AdjV.bad d = false from AdjV.bad_false.2 (by omega))
      generalize hz0 : decide ((0 : Int) ∈ l.take k) = z at *
      have HZ0 := Lib.hid hz0
      clear hz0
      by_cases hd0 : d = 0
      · have hq : (d == 0) = true := by simpa using hd0
        have HD := Lib.hid hd0
        clear hd0
        go_wp2_with fail
        go_round
        case rel => exact ⟨k + 1, by omega, by go_num, by rw [HT.out, HD.out]; simp, by rw [HB.out, HNO.out, HOK.out]; rfl⟩
        case measure => simp [intOf]; omega
      · have hq : (d == 0) = false := by simpa using hd0
        have HD := Lib.hid hd0
        clear hd0
        go_wp2_with fail
        go_round
        case rel => exact ⟨k + 1, by omega, by go_num, by rw [HT.out, ← HZ0.out]; simp [HD.out], by rw [HB.out, HNO.out, HOK.out]; rfl⟩
        case measure => simp [intOf]; omega
    · obtain rfl : k = l.length := by omega
      have hno := HNO.out
      rw [List.take_length] at hno
      have H2 := Lib.hid hno
      rw [List.take_length]
      clear hno HNO
      by_cases h3 : (0 : Int) ∈ l
      · have hz : decide ((0 : Int) ∈ l) = true := by simpa using h3
        have HS := Lib.hid (AdjV.size_none h1 H2.out h3)
        rw [hz]
        clear hz h3
        go_wp2_with fail
        go_ret2
        exact ⟨by unfold Vw.sizeR; rw [HS.out]; rfl, rfl⟩
      · have hz : decide ((0 : Int) ∈ l) = false := by simpa using h3
        rw [hz]
        have hall : ∀ i (h : i < l.length), 1 ≤ l[i] ∧ l[i] ≤ 4096 := fun i hi => by
          have := AdjV.bad_false.1 (by
            have := List.any_eq_false.1 H2.out l[i] (List.getElem_mem hi)
            simpa using this)
          have h0 : l[i] ≠ 0 := fun e => h3 (e ▸ List.getElem_mem hi)
          omega
        have HALL := Lib.hid hall
        have H3 := Lib.hid h3
        clear hz h3 hall
        go_wp2_with fail
        go_loop [7, 9, 31] (fun v _ i => ∃ (k : Nat) (n : Int), k ≤ l.length ∧ i = .int .i64 (k : Int) ∧ v = .int .i64 n ∧ 1 ≤ n ∧ n ≤ 65536 ∧ n = AdjV.prod (l.take k)) (fun _ _ i => l.length + 1 - (intOf i).toNat)
        case atStart => exact ⟨0, 1, by omega, rfl, rfl, by omega, by omega, by simp [AdjV.prod]⟩
        case round =>
          obtain ⟨k, n, hk, rfl, rfl, hn0, hn1, hz⟩ := hrel
          have HZ := Lib.hid hz
          clear hz
          by_cases hlt : k < l.length
          · obtain ⟨b, off, rfl, hb, hc⟩ := HM.out (by omega)
            have hck := hc k hlt
            have hd := HALL.out k hlt
            have hi1 : (0 : Int) ≤ (k : Int) := by omega
            have hi2 : (k : Int) < (l.length : Int) := by omega
            clear hc
            have HT := Lib.hid (show AdjV.prod (l.take (k + 1)) = AdjV.prod (l.take k) * l[k] by rw [AdjV.take_next l k hlt, AdjV.prod_snoc])
            generalize l[k] = d at hck hd HT
            have hp := Vw.mul_bound n d (by omega) (by omega) (by omega) hd.2
            have hp1 := Vw.mul_pos n d hn0 hd.1
            by_cases hbig : 65536 < n * d
            · have HS := Lib.hid (AdjV.size_much h1 H2.out H3.out (by
                have := AdjV.prod_take_le l (k + 1) (fun d hd => by
                  obtain ⟨i, hi, rfl⟩ := List.getElem_of_mem hd
                  exact (HALL.out i hi).1)
                rw [HT.out, ← HZ.out] at this
                omega))
              go_wp2_with fail
              go_ret2
              exact ⟨by unfold Vw.sizeR; rw [HS.out]; rfl, rfl⟩
            · go_wp2_with fail
              go_round
              case rel => exact ⟨k + 1, n * d, by omega, by go_num, rfl, hp1, by omega, by rw [HT.out, ← HZ.out]⟩
              case measure => simp [intOf]; omega
          · obtain rfl : k = l.length := by omega
            have hn := HZ.out
            rw [List.take_length] at hn
            have HS := Lib.hid (AdjV.size_ok h1 H2.out H3.out (by rw [← hn]; omega))
            have HN := Lib.hid hn
            clear hn
            go_wp2_with fail
            go_ret2
            exact ⟨by unfold Vw.sizeR; rw [HS.out, ← HN.out]; rfl, rfl⟩

end Go.Proofs.Ytkbmnefjnfihbaa
