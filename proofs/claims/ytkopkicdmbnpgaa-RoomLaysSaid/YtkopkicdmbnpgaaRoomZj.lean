/-
  The walk of the reference's Lay. Conditions: the lives can be read.
-/
import Derived.Test.YtkopkicdmbnpgaaRoomZi
import Derived.Test.YtkopkicdmbnpgaaRoomOwn
namespace Go.Proofs.Ytkopkicdmbnpgaa
set_option linter.unusedVariables false
open Go.RowKit Adj

namespace Ld
theorem pick_head {l : List AdjL.Life} {T T' : List Int} {n c : Nat} {M : List Bool} {i : Int} (hs : AdjS.Srt (AdjL.fromOf l) T) (hT : ∀ x ∈ T, 0 ≤ x ∧ x < (n : Int)) (hM : ∀ k, k < n → (M.getD k false = false ↔ (k : Int) ∈ T))
    (hc : c < n) (hcf : M.getD c false = false) (hlow : ∀ j, j < n → M.getD j false = false → j = c ∨ AdjS.lt (AdjL.fromOf l) (c : Int) (j : Int)) (hTe : T = i :: T') : i = (c : Int) := by
  subst hTe
  have h1 := hT i (List.mem_cons_self ..)
  obtain ⟨z, rfl⟩ : ∃ z : Nat, i = (z : Int) := ⟨i.toNat, by omega⟩
  have h2 := (hM z (by omega)).2 (List.mem_cons_self ..)
  have h3 := (hM c hc).1 hcf
  rcases hlow z (by omega) h2 with h4 | h4
  · rw [h4]
  · rcases List.mem_cons.1 h3 with h5 | h5
    · exact h5.symm
    · exact absurd ((List.pairwise_cons.1 hs).1 _ h5) (fun h6 => AdjS.lt_asymm h4 h6)
theorem best_next (l : List AdjL.Life) (out : List Int) (D : List Bool) (i k : Nat) : AdjL.bestTo l out D i (k + 1) = if D.getD k false && (decide (AdjL.bestTo l out D i k < 0) || decide (out.getD k 0 + (AdjL.get l k).w < AdjL.bestTo l out D i k)) && AdjL.freeTo l out D i (out.getD k 0 + (AdjL.get l k).w) l.length then out.getD k 0 + (AdjL.get l k).w else AdjL.bestTo l out D i k := rfl
theorem best_bd {l : List AdjL.Life} {out : List Int} {D : List Bool} {i : Nat} {B : Int} (hB : 0 ≤ B) (h : ∀ k, k < l.length → 0 ≤ out.getD k 0 + (AdjL.get l k).w ∧ out.getD k 0 + (AdjL.get l k).w ≤ B) : ∀ k, k ≤ l.length → -1 ≤ AdjL.bestTo l out D i k ∧ AdjL.bestTo l out D i k ≤ B
  | 0, _ => by
    unfold AdjL.bestTo
    split <;> omega
  | k + 1, hk => by
    have ih := best_bd (D := D) (i := i) hB h k (by omega)
    have h1 := h k (by omega)
    rw [best_next]
    split
    · omega
    · exact ih
theorem taken {l : List AdjL.Life} {T : List Int} {n q : Nat} {M : List Bool} (hs : AdjS.Srt (AdjL.fromOf l) ((q : Int) :: T)) (hM : ∀ k, k < n → (M.getD k false = false ↔ (k : Int) ∈ (q : Int) :: T)) (hl : M.length = n) (hq : q < n) :
    ∀ k, k < n → ((M.set q true).getD k false = false ↔ (k : Int) ∈ T) := by
  intro k hk
  rw [AdjR.getD_set M q k (by rw [hl]; exact hq)]
  by_cases e : k = q
  · subst e
    rw [if_pos rfl]
    refine ⟨fun h => (by cases h), fun h => ?_⟩
    exact absurd ((List.pairwise_cons.1 hs).1 _ h) (fun h6 => AdjS.lt_asymm h6 h6)
  · rw [if_neg e, hM k hk, List.mem_cons]
    refine ⟨fun h => h.elim (fun h => absurd (by omega) e) id, .inr⟩
theorem from_nat (l : List AdjL.Life) (j : Nat) : AdjL.fromOf l (j : Int) = (AdjL.get l j).f := by unfold AdjL.fromOf; rw [Int.toNat_natCast]
end Ld

set_option maxRecDepth 100000 in
set_option maxHeartbeats 8000000 in
theorem refLay_any (w : World) (l : List AdjL.Life) (A : Option Addr) (n c : Nat) (hn : l.length = n) (h : IntsAt w w.heap.size A (AdjL.flat l)) :
    Calls Try.prog 24 #[.slice A n c] w fun e w' => ∃ v, e = .returned (.tuple #[v, .int .i64 (AdjL.lay l).2.1, .int .i64 (AdjL.lay l).2.2]) ∧ Below w.heap.size w w' ∧ ∃ AO cO, v = .slice AO (AdjL.lay l).1.length cO ∧ IntsAt w' w'.heap.size AO (AdjL.lay l).1 := by
  have HW := Lib.hid (refWrong_any w l A n c hn h)
  by_cases hbad : AdjL.wrong l = 0
  · obtain ⟨hlen, hok⟩ := AdjL.wrong_ok hbad
    have hbig : n ≤ 4096 := by omega
    have HOK := Lib.hid hok
    have H := Lib.hid h
    have HN := Lib.hid hn
    have HLAY := Lib.hid (show AdjL.lay l = if 1048576 < (AdjL.laySt l).all then ([], 0, 5) else ((AdjL.laySt l).out, (AdjL.laySt l).all, 0) by unfold AdjL.lay; rw [if_neg (by rw [hbad]; decide)])
    rw [hbad] at HW
    have hmk := fun W => run_make_int n (by omega) W
    have hmb := fun W => run_make_bool n (by omega) W
    clear hbad hok h hn hlen
    go_enter Try.func24, Try.ntmps24
    go_wp2_with fail
    ((with_reducible refine HW.out.mono ?_); rintro e w1 ⟨rfl, hb1⟩)
    have HB1 := Lib.hid hb1
    clear hb1
    go_wp2_with fail
    have HBO := Lib.hid (show Blk (((w1.alloc (.cells (Adj.ints (List.replicate n 0)).toArray 3)).alloc (.cells (Rm.bools (List.replicate n false)).toArray 4)).alloc (.cells (Rm.bools (List.replicate n false)).toArray 4)) w1.heap.size 3 (Adj.ints (List.replicate n 0)).toArray from ((Blk.new _ _ _).alloc _).alloc _)
    have HBD := Lib.hid (show Blk (((w1.alloc (.cells (Adj.ints (List.replicate n 0)).toArray 3)).alloc (.cells (Rm.bools (List.replicate n false)).toArray 4)).alloc (.cells (Rm.bools (List.replicate n false)).toArray 4)) (w1.heap.size + 1) 4 (Rm.bools (List.replicate n false)).toArray by
      have h2 := (Blk.new (w1.alloc (.cells (Adj.ints (List.replicate n 0)).toArray 3)) 4 (Rm.bools (List.replicate n false)).toArray).alloc (.cells (Rm.bools (List.replicate n false)).toArray 4)
      simpa using h2)
    have HBM := Lib.hid (show Blk (((w1.alloc (.cells (Adj.ints (List.replicate n 0)).toArray 3)).alloc (.cells (Rm.bools (List.replicate n false)).toArray 4)).alloc (.cells (Rm.bools (List.replicate n false)).toArray 4)) (w1.heap.size + 1 + 1) 4 (Rm.bools (List.replicate n false)).toArray by
      have h2 := Blk.new ((w1.alloc (.cells (Adj.ints (List.replicate n 0)).toArray 3)).alloc (.cells (Rm.bools (List.replicate n false)).toArray 4)) 4 (Rm.bools (List.replicate n false)).toArray
      simpa using h2)
    have HBS := Lib.hid ((((Below.refl w1.heap.size w1).alloc (Nat.le_refl _) (.cells (Adj.ints (List.replicate n 0)).toArray 3)).alloc (by simp) (.cells (Rm.bools (List.replicate n false)).toArray 4)).alloc (by simp; omega) (.cells (Rm.bools (List.replicate n false)).toArray 4))
    have HOP := Lib.hid (show (AdjL.order l).length = n by rw [(AdjL.order_perm l).length_eq, AdjL.upToN_length, HN.out])
    have HOK0 := Lib.hid (show AdjL.Ok l (AdjL.order l) (List.replicate n false) ⟨List.replicate n 0, [], 0⟩ by
      have h2 := AdjL.ok_start l
      rwa [HN.out] at h2)
    have HST0 := Lib.hid (show AdjL.laySt l = AdjL.layGo l (AdjL.order l) ⟨List.replicate n 0, [], 0⟩ by unfold AdjL.laySt; rw [HN.out])
    have HM0 := Lib.hid (show ∀ k, k < n → ((List.replicate n false).getD k false = false ↔ (k : Int) ∈ (AdjL.order l).drop 0) from fun k hk => by
      refine ⟨fun _ => ?_, fun _ => ?_⟩
      · rw [List.drop_zero]
        exact (AdjL.order_perm l).symm.subset (AdjL.upToN_mem.2 ⟨by omega, by rw [HN.out]; omega⟩)
      · rw [List.getD_eq_getElem?_getD, List.getElem?_replicate]; split <;> rfl)
    go_loopw [9, 32] (fun av kv wr => ∃ (r : Nat) (D M : List Bool) (s : AdjL.St), kv = .int .i64 (r : Int) ∧ av = .int .i64 s.all ∧ r ≤ n ∧ AdjL.Ok l ((AdjL.order l).drop r) D s ∧ AdjL.laySt l = AdjL.layGo l ((AdjL.order l).drop r) s ∧ s.all ≤ (r : Int) * 1048576 ∧ M.length = n ∧ (∀ k, k < n → (M.getD k false = false ↔ (k : Int) ∈ (AdjL.order l).drop r)) ∧ Below w1.heap.size w1 wr ∧ Blk wr w1.heap.size 3 (Adj.ints s.out).toArray ∧ Blk wr (w1.heap.size + 1) 4 (Rm.bools D).toArray ∧ Blk wr (w1.heap.size + 1 + 1) 4 (Rm.bools M).toArray) (fun _ kv _ => n - (intOf kv).toNat)
    case atStart => exact ⟨0, List.replicate n false, List.replicate n false, ⟨List.replicate n 0, [], 0⟩, rfl, rfl, by omega, HOK0.out, HST0.out, by show (0 : Int) ≤ _; omega, by simp, HM0.out, HBS.out, HBO.out, HBD.out, HBM.out⟩
    case round =>
      obtain ⟨r, D, M, s, rfl, rfl, hr, hok, hst, hall, hml, hmm, hb, hout, hd, hm⟩ := hrel
      have HOK2 := Lib.hid hok
      have HST := Lib.hid hst
      have HML := Lib.hid hml
      have HMM := Lib.hid hmm
      have HB6 := Lib.hid hb
      have HOUT := Lib.hid hout
      have HDD := Lib.hid hd
      have HMB := Lib.hid hm
      have hall0 := hok.all0
      have HBW := Lib.hid (HB1.out.trans (hb.mono HB1.out.size))
      clear hok hst hml hmm hb hout hd hm
      by_cases hrk : r < n
      · have hro : r < (AdjL.order l).length := by have := HOP.out; omega
        have HDR := Lib.hid (show (AdjL.order l).drop r = (AdjL.order l)[r] :: (AdjL.order l).drop (r + 1) from List.drop_eq_getElem_cons hro)
        obtain ⟨b, off, rfl, hbL⟩ := Lv.spot H.out (k := 0) (by have := HN.out; omega)
        have HCF := Lib.hid (fun j (hj : j < n) => show wr.cell? ⟨b, off + j * 3, none⟩ = some (.int .i64 (AdjL.get l j).f) ∧ wr.cell? ⟨b, off + j * 3 + 1, none⟩ = some (.int .i64 (AdjL.get l j).t) ∧ wr.cell? ⟨b, off + j * 3 + 2, none⟩ = some (.int .i64 (AdjL.get l j).w) by
          have hjl : j < l.length := by have := HN.out; omega
          have hg1 : AdjL.get l j = l[j] := by unfold AdjL.get; rw [List.getD_eq_getElem?_getD, List.getElem?_eq_getElem hjl]; rfl
          obtain ⟨y1, y2, y3⟩ := Lv.cells H.out hjl
          rw [hg1]
          exact ⟨(HBW.out.cell (cell_lt y1)).trans y1, (HBW.out.cell (cell_lt y2)).trans y2, (HBW.out.cell (cell_lt y3)).trans y3⟩)
        have HCM := Lib.hid (fun j (hj : j < n) => show wr.cell? ⟨w1.heap.size + 1 + 1, j, none⟩ = some (.bool (M.getD j false)) from HMB.out.at (Rm.bools_at M j (by rw [HML.out]; exact hj)))
        obtain ⟨W6, hW6⟩ : ∃ W6, W6 = wr := ⟨_, rfl⟩
        subst hW6
        go_wp2_with fail
        go_loopw [10, 36] (fun cv kv wr => ∃ (k : Nat) (cur : Int), kv = .int .i64 (k : Int) ∧ cv = .int .i64 cur ∧ k ≤ n ∧ (∃ d, wr = W6.drewN d) ∧ ((cur = -1 ∧ ∀ j, j < k → M.getD j false = true) ∨ ∃ q : Nat, cur = (q : Int) ∧ q < k ∧ M.getD q false = false ∧ ∀ j, j < k → M.getD j false = false → j = q ∨ AdjS.lt (AdjL.fromOf l) (q : Int) (j : Int))) (fun _ kv _ => n - (intOf kv).toNat)
        case atStart => exact ⟨0, -1, rfl, rfl, by omega, ⟨0, rfl⟩, .inl ⟨rfl, fun j hj => by omega⟩⟩
        case round =>
          obtain ⟨k, cur, rfl, rfl, hk, ⟨d, hd⟩, hcur⟩ := hrel
          have HD := Lib.hid hd
          clear hd
          have HC := Lib.hid hcur
          clear hcur
          by_cases hkL : k < n
          · have c1 : wr.cell? ⟨w1.heap.size + 1 + 1, k, none⟩ = some (.bool (M.getD k false)) := by rw [HD.out]; exact HCM.out k hkL
            have hk0 : (0 : Int) ≤ (k : Int) := by omega
            have hkn2 : (k : Int) < (n : Int) := by omega
            cases hmk : M.getD k false with
            | true =>
              have HN2 := Lib.hid (show (cur = -1 ∧ ∀ j, j < k + 1 → M.getD j false = true) ∨ ∃ q : Nat, cur = (q : Int) ∧ q < k + 1 ∧ M.getD q false = false ∧ ∀ j, j < k + 1 → M.getD j false = false → j = q ∨ AdjS.lt (AdjL.fromOf l) (q : Int) (j : Int) by
                rcases HC.out with ⟨e, h1⟩ | ⟨q, e, hc, h1, h2⟩
                · exact .inl ⟨e, fun j hj => by
                    by_cases ej : j = k
                    · rw [ej]; exact hmk
                    · exact h1 j (by omega)⟩
                · exact .inr ⟨q, e, by omega, h1, fun j hj hf => by
                    by_cases ej : j = k
                    · rw [ej, hmk] at hf; cases hf
                    · exact h2 j (by omega) hf⟩)
              rw [hmk] at c1
              clear hmk
              go_wp2_with fail
              go_quiet (fail)
              have HDQ := Lib.hid (show wr.drewN nq = W6.drewN (d + nq) by rw [HD.out, World.drewN_drewN])
              generalize wr.drewN nq = wq at HDQ ⊢
              go_wp2_with fail
              go_roundw
              case rel => exact ⟨k + 1, cur, by go_num, rfl, by omega, ⟨_, HDQ.out⟩, HN2.out⟩
              case measure => simp [intOf]; omega
            | false =>
              have HMK := Lib.hid hmk
              rw [hmk] at c1
              clear hmk
              rcases HC.out with ⟨rfl, hall⟩ | ⟨q, rfl, hck, hcf, hlow⟩
              · have HN2 := Lib.hid (show ((k : Int) = -1 ∧ ∀ j, j < k + 1 → M.getD j false = true) ∨ ∃ q : Nat, (k : Int) = (q : Int) ∧ q < k + 1 ∧ M.getD q false = false ∧ ∀ j, j < k + 1 → M.getD j false = false → j = q ∨ AdjS.lt (AdjL.fromOf l) (q : Int) (j : Int) from
                  .inr ⟨k, rfl, by omega, HMK.out, fun j hj hf => by
                    by_cases ej : j = k
                    · exact .inl ej
                    · rw [hall j (by omega)] at hf; cases hf⟩)
                clear hall
                go_wp2_with fail
                go_quiet (fail)
                have HDQ := Lib.hid (show wr.drewN nq = W6.drewN (d + nq) by rw [HD.out, World.drewN_drewN])
                generalize wr.drewN nq = wq at HDQ ⊢
                go_wp2_with fail
                go_roundw
                case rel => exact ⟨k + 1, (k : Int), by go_num, rfl, by omega, ⟨_, HDQ.out⟩, HN2.out⟩
                case measure => simp [intOf]; omega
              · have hcL : q < n := by omega
                have c2 : wr.cell? ⟨b, off + k * 3, none⟩ = some (.int .i64 (AdjL.get l k).f) := by rw [HD.out]; exact (HCF.out k hkL).1
                have c3 : wr.cell? ⟨b, off + q * 3, none⟩ = some (.int .i64 (AdjL.get l q).f) := by rw [HD.out]; exact (HCF.out q hcL).1
                have HLT := Lib.hid (show AdjS.lt (AdjL.fromOf l) (k : Int) (q : Int) ↔ (AdjL.get l k).f < (AdjL.get l q).f by
                  unfold AdjS.lt; rw [Ld.from_nat, Ld.from_nat]; omega)
                have HN1 := Lib.hid (show AdjS.lt (AdjL.fromOf l) (k : Int) (q : Int) → ((k : Int) = -1 ∧ ∀ j, j < k + 1 → M.getD j false = true) ∨ ∃ q : Nat, (k : Int) = (q : Int) ∧ q < k + 1 ∧ M.getD q false = false ∧ ∀ j, j < k + 1 → M.getD j false = false → j = q ∨ AdjS.lt (AdjL.fromOf l) (q : Int) (j : Int) from fun h =>
                  .inr ⟨k, rfl, by omega, HMK.out, fun j hj hf => by
                    by_cases ej : j = k
                    · exact .inl ej
                    · rcases hlow j (by omega) hf with e | e
                      · subst e; exact .inr h
                      · exact .inr (AdjS.lt_trans h e)⟩)
                have HN2 := Lib.hid (show ¬ AdjS.lt (AdjL.fromOf l) (k : Int) (q : Int) → ((q : Int) = -1 ∧ ∀ j, j < k + 1 → M.getD j false = true) ∨ ∃ q' : Nat, (q : Int) = (q' : Int) ∧ q' < k + 1 ∧ M.getD q' false = false ∧ ∀ j, j < k + 1 → M.getD j false = false → j = q' ∨ AdjS.lt (AdjL.fromOf l) (q' : Int) (j : Int) from fun h =>
                  .inr ⟨q, rfl, by omega, hcf, fun j hj hf => by
                    by_cases ej : j = k
                    · subst ej
                      exact .inr (AdjS.lt_total (by omega) h)
                    · exact hlow j (by omega) hf⟩)
                clear hlow hcf
                have hq0 : (0 : Int) ≤ (q : Int) := by omega
                have hqn2 : (q : Int) < (n : Int) := by omega
                generalize (AdjL.get l k).f = fk at c2 HLT
                generalize (AdjL.get l q).f = fq at c3 HLT
                by_cases hlt : fk < fq
                · have HN3 := Lib.hid (HN1.out (HLT.out.2 hlt))
                  go_wp2_with fail
                  go_quiet (fail)
                  have HDQ := Lib.hid (show wr.drewN nq = W6.drewN (d + nq) by rw [HD.out, World.drewN_drewN])
                  generalize wr.drewN nq = wq at HDQ ⊢
                  go_wp2_with fail
                  go_roundw
                  case rel => exact ⟨k + 1, (k : Int), by go_num, rfl, by omega, ⟨_, HDQ.out⟩, HN3.out⟩
                  case measure => simp [intOf]; omega
                · have HN3 := Lib.hid (HN2.out (fun h => hlt (HLT.out.1 h)))
                  have dlt : decide (fk < fq) = false := by simpa using hlt
                  go_wp2_with fail
                  go_quiet (fail)
                  have HDQ := Lib.hid (show wr.drewN nq = W6.drewN (d + nq) by rw [HD.out, World.drewN_drewN])
                  generalize wr.drewN nq = wq at HDQ ⊢
                  go_wp2_with fail
                  go_roundw
                  case rel => exact ⟨k + 1, (q : Int), by go_num, rfl, by omega, ⟨_, HDQ.out⟩, HN3.out⟩
                  case measure => simp [intOf]; omega
          · obtain rfl : n = k := by omega
            have HSR := Lib.hid HOK2.out.srt
            have HRG := Lib.hid (fun x (hx : x ∈ (AdjL.order l).drop r) => show 0 ≤ x ∧ x < (n : Int) by
              have := HOK2.out.rng x hx
              rw [HN.out] at this; exact this)
            obtain ⟨q, rfl, hqn, hqf, hlow⟩ : ∃ q : Nat, cur = (q : Int) ∧ q < n ∧ M.getD q false = false ∧ ∀ j, j < n → M.getD j false = false → j = q ∨ AdjS.lt (AdjL.fromOf l) (q : Int) (j : Int) := by
              rcases HC.out with ⟨e, h1⟩ | h1
              · exfalso
                have h2 := HRG.out ((AdjL.order l)[r]) (by rw [HDR.out]; exact List.mem_cons_self ..)
                obtain ⟨z, hz⟩ : ∃ z : Nat, (AdjL.order l)[r] = (z : Int) := ⟨((AdjL.order l)[r]).toNat, by omega⟩
                have h3 := (HMM.out z (by omega)).2 (by rw [HDR.out, ← hz]; exact List.mem_cons_self ..)
                rw [h1 z (by omega)] at h3
                cases h3
              · exact h1
            have HX := Lib.hid (show (AdjL.order l)[r] = (q : Int) from Ld.pick_head HSR.out HRG.out HMM.out hqn hqf hlow HDR.out)
            have HDR2 := Lib.hid (show (AdjL.order l).drop r = (q : Int) :: (AdjL.order l).drop (r + 1) by rw [HDR.out, HX.out])
            have HOK3 := Lib.hid (show AdjL.Ok l ((q : Int) :: (AdjL.order l).drop (r + 1)) D s by rw [← HDR2.out]; exact HOK2.out)
            have HST3 := Lib.hid (show AdjL.laySt l = AdjL.layGo l ((AdjL.order l).drop (r + 1)) (AdjL.step l q s) by
              rw [HST.out, HDR2.out]; rfl)
            have HTK := Lib.hid (show ∀ j, j < n → ((M.set q true).getD j false = false ↔ (j : Int) ∈ (AdjL.order l).drop (r + 1)) from Ld.taken (by rw [← HDR2.out]; exact HSR.out) (by rw [← HDR2.out]; exact HMM.out) HML.out hqn)
            clear hqf hlow HC
            have hq0 : (0 : Int) ≤ (q : Int) := by omega
            have hqn2 : (q : Int) < (n : Int) := by omega
            have HO6 := Lib.hid (show Blk wr w1.heap.size 3 (Adj.ints s.out).toArray by rw [HD.out]; exact HOUT.out)
            have HD6 := Lib.hid (show Blk wr (w1.heap.size + 1) 4 (Rm.bools D).toArray by rw [HD.out]; exact HDD.out)
            have HM6 := Lib.hid (show Blk wr (w1.heap.size + 1 + 1) 4 (Rm.bools M).toArray by rw [HD.out]; exact HMB.out)
            have HBr := Lib.hid (show Below w1.heap.size w1 wr by rw [HD.out]; exact below_drewN HB6.out d)
            have HCQ := Lib.hid (show wr.cell? ⟨b, off + q * 3, none⟩ = some (.int .i64 (AdjL.get l q).f) ∧ wr.cell? ⟨b, off + q * 3 + 1, none⟩ = some (.int .i64 (AdjL.get l q).t) ∧ wr.cell? ⟨b, off + q * 3 + 2, none⟩ = some (.int .i64 (AdjL.get l q).w) by
              rw [HD.out]; exact HCF.out q hqn)
            have hblt : b < w1.heap.size := by have := HB1.out.size; omega
            have HW1 := Lib.hid (fun o (v : Value) (hv : wr.cell? ⟨b, o, none⟩ = some v) => show w1.cell? ⟨b, o, none⟩ = some v from (HBr.out.cell (p := ⟨b, o, none⟩) hblt).symm.trans hv)
            have fm := HM6.out.frozen q
            have hum : wr.cell? ⟨w1.heap.size + 1 + 1, q, none⟩ = some (.bool (M.getD q false)) := HM6.out.at (Rm.bools_at M q (by rw [HML.out]; exact hqn))
            have HM7 := Lib.hid (show Blk (wr.setCell ⟨w1.heap.size + 1 + 1, q, none⟩ (.bool true)) (w1.heap.size + 1 + 1) 4 (Rm.bools (M.set q true)).toArray by
              have h2 := HM6.out.set_ q (.bool true)
              rwa [Rm.bools_set] at h2)
            have HO7 := Lib.hid (HO6.out.far (p := ⟨w1.heap.size + 1 + 1, q, none⟩) (by show w1.heap.size ≠ w1.heap.size + 1 + 1; omega) (.bool true))
            have HD7 := Lib.hid (HD6.out.far (p := ⟨w1.heap.size + 1 + 1, q, none⟩) (by show w1.heap.size + 1 ≠ w1.heap.size + 1 + 1; omega) (.bool true))
            have HB7 := Lib.hid (HBr.out.setCell (p := ⟨w1.heap.size + 1 + 1, q, none⟩) (by show w1.heap.size ≤ w1.heap.size + 1 + 1; omega) (.bool true))
            obtain ⟨W7, hW7⟩ : ∃ W7, wr.setCell ⟨w1.heap.size + 1 + 1, q, none⟩ (.bool true) = W7 := ⟨_, rfl⟩
            rw [hW7] at HM7 HO7 HD7 HB7
            have c1 : W7.cell? ⟨b, off + q * 3, none⟩ = some (.int .i64 (AdjL.get l q).f) := (HB7.out.cell (p := ⟨b, off + q * 3, none⟩) hblt).trans (HW1.out _ _ HCQ.out.1)
            have c2 : W7.cell? ⟨b, off + q * 3 + 1, none⟩ = some (.int .i64 (AdjL.get l q).t) := (HB7.out.cell (p := ⟨b, off + q * 3 + 1, none⟩) hblt).trans (HW1.out _ _ HCQ.out.2.1)
            have c3 : W7.cell? ⟨b, off + q * 3 + 2, none⟩ = some (.int .i64 (AdjL.get l q).w) := (HB7.out.cell (p := ⟨b, off + q * 3 + 2, none⟩) hblt).trans (HW1.out _ _ HCQ.out.2.2)
            have HCZ := Lib.hid (HW1.out _ _ HCQ.out.2.2)
            have hql : q < l.length := by have := HN.out; omega
            have hbx : ¬ AdjL.bad (AdjL.get l q) := HOK.out _ (AdjL.get_mem hql)
            obtain ⟨X, hX⟩ : ∃ X, AdjL.get l q = X := ⟨_, rfl⟩
            have HXG := Lib.hid hX
            rw [hX] at c1 c2 c3 HCZ hbx
            clear hX HCQ HW1
            obtain ⟨f, t, z⟩ := X
            simp only at c1 c2 c3 HCZ
            have hbx2 : ¬ (f < 0 ∨ t < f ∨ 1048576 < t ∨ z < 0 ∨ 1048576 < z) := hbx
            clear hbx
            have HNE := Lib.hid (show AdjL.nothing (AdjL.get l q) = (z == 0 || f == t) by rw [HXG.out]; rfl)
            by_cases hz : z = 0
            · have HNT := Lib.hid (show AdjL.nothing (AdjL.get l q) = true by rw [HNE.out, hz]; rfl)
              subst hz
              have HOK4 := Lib.hid (show AdjL.Ok l ((AdjL.order l).drop (r + 1)) D s by
                have h2 := AdjL.ok_step HOK.out HOK3.out
                rwa [HNT.out, if_pos rfl, AdjL.step, if_pos HNT.out] at h2)
              have HST4 := Lib.hid (show AdjL.laySt l = AdjL.layGo l ((AdjL.order l).drop (r + 1)) s by
                have h2 := HST3.out
                rwa [AdjL.step, if_pos HNT.out] at h2)
              go_wp2_with fail
              go_quiet (fail)
              have HBq := Lib.hid (below_drewN HB7.out nq)
              have HOq := Lib.hid (HO7.out.drewN nq)
              have HDq := Lib.hid (HD7.out.drewN nq)
              have HMq := Lib.hid (HM7.out.drewN nq)
              generalize W7.drewN nq = W8 at HBq HOq HDq HMq ⊢
              go_wp2_with fail
              go_roundw
              case rel => exact ⟨r + 1, D, M.set q true, s, by go_num, rfl, by omega, HOK4.out, HST4.out, by omega, by rw [List.length_set]; exact HML.out, HTK.out, HBq.out, HOq.out, HDq.out, HMq.out⟩
              case measure => simp [intOf]; omega
            · have dz : (z == 0) = false := by simpa using hz
              by_cases hft : f = t
              · have HNT := Lib.hid (show AdjL.nothing (AdjL.get l q) = true by rw [HNE.out, hft]; simp)
                subst hft
                have dff : (f == f) = true := by simp
                have HOK4 := Lib.hid (show AdjL.Ok l ((AdjL.order l).drop (r + 1)) D s by
                  have h2 := AdjL.ok_step HOK.out HOK3.out
                  rwa [HNT.out, if_pos rfl, AdjL.step, if_pos HNT.out] at h2)
                have HST4 := Lib.hid (show AdjL.laySt l = AdjL.layGo l ((AdjL.order l).drop (r + 1)) s by
                  have h2 := HST3.out
                  rwa [AdjL.step, if_pos HNT.out] at h2)
                go_wp2_with fail
                go_quiet (fail)
                have HBq := Lib.hid (below_drewN HB7.out nq)
                have HOq := Lib.hid (HO7.out.drewN nq)
                have HDq := Lib.hid (HD7.out.drewN nq)
                have HMq := Lib.hid (HM7.out.drewN nq)
                generalize W7.drewN nq = W8 at HBq HOq HDq HMq ⊢
                go_wp2_with fail
                go_roundw
                case rel => exact ⟨r + 1, D, M.set q true, s, by go_num, rfl, by omega, HOK4.out, HST4.out, by omega, by rw [List.length_set]; exact HML.out, HTK.out, HBq.out, HOq.out, HDq.out, HMq.out⟩
                case measure => simp [intOf]; omega
              · have dft : (f == t) = false := by simpa using hft
                have HNT := Lib.hid (show AdjL.nothing (AdjL.get l q) = false by rw [HNE.out, dz, dft]; rfl)
                have HBE0 := Lib.hid (AdjL.best_eq HOK.out HOK3.out HNT.out)
                obtain ⟨p0, p1, p2, p3⟩ := AdjL.place_spec HOK.out HOK3.out HNT.out
                have HOK4 := Lib.hid (AdjL.ok_step HOK.out HOK3.out)
                have HSE := Lib.hid (show AdjL.step l q s = ⟨s.out.set q (AdjL.lowest (AdjL.now (AdjL.get l q) s.lies) (AdjL.get l q).w 0), AdjL.put (AdjL.now (AdjL.get l q) s.lies) ⟨AdjL.lowest (AdjL.now (AdjL.get l q) s.lies) (AdjL.get l q).w 0, AdjL.lowest (AdjL.now (AdjL.get l q) s.lies) (AdjL.get l q).w 0 + (AdjL.get l q).w, (AdjL.get l q).t⟩, max s.all (AdjL.lowest (AdjL.now (AdjL.get l q) s.lies) (AdjL.get l q).w 0 + (AdjL.get l q).w)⟩ by
                  unfold AdjL.step; rw [if_neg (by rw [HNT.out]; decide)])
                rw [HSE.out, HNT.out, if_neg (by decide)] at HOK4
                rw [HSE.out] at HST3
                have hpall : AdjL.lowest (AdjL.now (AdjL.get l q) s.lies) (AdjL.get l q).w 0 ≤ s.all := by
                  rcases p1 with p1 | ⟨k2, hk2, hD2, p1, _⟩
                  · omega
                  · have h2 := (HOK3.out.some_ k2 hk2 hD2).2.2.1
                    omega
                have HWQ := Lib.hid (show (AdjL.get l q).w = z by rw [HXG.out])
                rw [HWQ.out] at HBE0 HOK4 HST3 hpall p0
                generalize AdjL.put (AdjL.now (AdjL.get l q) s.lies) ⟨AdjL.lowest (AdjL.now (AdjL.get l q) s.lies) z 0, AdjL.lowest (AdjL.now (AdjL.get l q) s.lies) z 0 + z, (AdjL.get l q).t⟩ = Lq at HOK4 HST3
                generalize AdjL.lowest (AdjL.now (AdjL.get l q) s.lies) z 0 = p at HBE0 HOK4 HST3 hpall p0
                have HST4 := Lib.hid HST3.out
                have HBE := Lib.hid (show AdjL.bestTo l s.out D q n = p by rw [← HBE0.out, HN.out])
                have HOL := Lib.hid (show s.out.length = n by rw [HOK3.out.outl, HN.out])
                have HDL := Lib.hid (show D.length = n by rw [HOK3.out.dl, HN.out])
                have HOW := Lib.hid (fun j (hj : j < l.length) => show (0 ≤ s.out.getD j 0 ∧ s.out.getD j 0 ≤ s.all) ∧ 0 ≤ (AdjL.get l j).w ∧ (AdjL.get l j).w ≤ 1048576 by
                  have h2 : ¬ AdjL.bad (AdjL.get l j) := HOK.out _ (AdjL.get_mem hj)
                  unfold AdjL.bad at h2
                  cases hc : D.getD j false with
                  | true =>
                    have h1 := HOK3.out.some_ j hj hc
                    exact ⟨⟨h1.2.1, by have := h1.2.2.1; omega⟩, by omega⟩
                  | false =>
                    have h1 := HOK3.out.none_ j hj hc
                    exact ⟨by omega, by omega⟩)
                have HOR := Lib.hid (fun j (hj : j < n) => show 0 ≤ s.out.getD j 0 ∧ s.out.getD j 0 ≤ 8589934592 by
                  have := HOW.out j (by have := HN.out; omega)
                  omega)
                have HBB := Lib.hid (fun j => show j ≤ n → -1 ≤ AdjL.bestTo l s.out D q j ∧ AdjL.bestTo l s.out D q j ≤ 8589934592 from fun hj => Ld.best_bd (by omega) (fun m hm => by have := HOW.out m hm; omega) j (by have := HN.out; omega))
                have HI7 := Lib.hid (fun W (hb : Below w1.heap.size w1 W) => (H.out.below (HB1.out.trans (hb.mono HB1.out.size))).up (HB1.out.trans (hb.mono HB1.out.size)).size)
                clear p1 p2 p3 hft hz HSE HST3
                go_wp2_with fail
                go_quiet (fail)
                have HBq := Lib.hid (below_drewN HB7.out nq)
                have HOq := Lib.hid (HO7.out.drewN nq)
                have HDq := Lib.hid (HD7.out.drewN nq)
                have HMq := Lib.hid (HM7.out.drewN nq)
                clear c1 c2 c3 hW7 fm hum
                generalize W7.drewN nq = wq at HBq HOq HDq HMq ⊢
                have HF0 := Lib.hid (free_any wq l s.out D (some ⟨b, off, none⟩) n c q w1.heap.size (w1.heap.size + 1) 0 HN.out (by omega) HOK.out hqn (by omega) HOL.out HDL.out HOR.out (HI7.out wq HBq.out) HOq.out HDq.out)
                have HBZ := Lib.hid (show AdjL.bestTo l s.out D q 0 = if AdjL.freeTo l s.out D q 0 n then 0 else -1 by rw [← HN.out]; rfl)
                generalize AdjL.freeTo l s.out D q 0 n = fr at HF0 HBZ
                cases fr with
                | true =>
                  have HB00 := Lib.hid (show AdjL.bestTo l s.out D q 0 = 0 by rw [HBZ.out]; rfl)
                  go_wp2_with fail
                  ((with_reducible refine HF0.out.mono ?_); rintro e W8 ⟨rfl, hb8⟩)
                  have HB8 := Lib.hid (HBq.out.trans (hb8.mono HBq.out.size))
                  have HO8 := Lib.hid (HOq.out.below hb8 HOq.out.lt)
                  have HD8 := Lib.hid (HDq.out.below hb8 HDq.out.lt)
                  have HM8 := Lib.hid (HMq.out.below hb8 HMq.out.lt)
                  clear hb8
                  go_wp2_with fail
                  go_loopw [12, 92] (fun bv kv wr => ∃ k : Nat, kv = .int .i64 (k : Int) ∧ bv = .int .i64 (AdjL.bestTo l s.out D q k) ∧ k ≤ n ∧ Below W8.heap.size W8 wr) (fun _ kv _ => n - (intOf kv).toNat)
                  case atStart => exact ⟨0, rfl, by rw [HB00.out], by omega, Below.refl _ _⟩
                  case round =>
                    obtain ⟨k, rfl, rfl, hk, hb⟩ := hrel
                    have HBX := Lib.hid hb
                    have HBWx := Lib.hid (HB8.out.trans (hb.mono HB8.out.size))
                    have HOx := Lib.hid (HO8.out.below hb HO8.out.lt)
                    have HDx := Lib.hid (HD8.out.below hb HD8.out.lt)
                    have HMx := Lib.hid (HM8.out.below hb HM8.out.lt)
                    clear hb
                    have hbb := HBB.out k
                    by_cases hkn : k < n
                    · have hkl : k < l.length := by have := HN.out; omega
                      have HBN := Lib.hid (show AdjL.bestTo l s.out D q (k + 1) = if D.getD k false && (decide (AdjL.bestTo l s.out D q k < 0) || decide (s.out.getD k 0 + (AdjL.get l k).w < AdjL.bestTo l s.out D q k)) && AdjL.freeTo l s.out D q (s.out.getD k 0 + (AdjL.get l k).w) n then s.out.getD k 0 + (AdjL.get l k).w else AdjL.bestTo l s.out D q k by
                        rw [Ld.best_next, HN.out])
                      have hg1 : AdjL.get l k = l[k] := by unfold AdjL.get; rw [List.getD_eq_getElem?_getD, List.getElem?_eq_getElem hkl]; rfl
                      obtain ⟨y1, y2, y3⟩ := Lv.cells H.out hkl
                      rw [← hg1] at y1 y2 y3
                      have c1 := ((HB1.out.trans (HBWx.out.mono HB1.out.size)).cell (cell_lt y1)).trans y1
                      have c2 := ((HB1.out.trans (HBWx.out.mono HB1.out.size)).cell (cell_lt y2)).trans y2
                      have c3 := ((HB1.out.trans (HBWx.out.mono HB1.out.size)).cell (cell_lt y3)).trans y3
                      have co : wr.cell? ⟨w1.heap.size, k, none⟩ = some (.int .i64 (s.out.getD k 0)) := HOx.out.at (by
                        have h3 := ints_at s.out k (by rw [HOL.out]; exact hkn)
                        rw [List.getD_eq_getElem?_getD, List.getElem?_eq_getElem (by rw [HOL.out]; exact hkn)]
                        simpa using h3)
                      have hor := (HOW.out k hkl).1
                      have hbx : ¬ AdjL.bad (AdjL.get l k) := HOK.out _ (AdjL.get_mem hkl)
                      have hk0 : (0 : Int) ≤ (k : Int) := by omega
                      have hkn2 : (k : Int) < (n : Int) := by omega
                      clear y1 y2 y3 hg1
                      generalize AdjL.get l k = y at c1 c2 c3 hbx HBN
                      generalize s.out.getD k 0 = o at co hor HBN
                      obtain ⟨f', t', z'⟩ := y
                      simp only at c1 c2 c3 HBN
                      have hbx2 : ¬ (f' < 0 ∨ t' < f' ∨ 1048576 < t' ∨ z' < 0 ∨ 1048576 < z') := hbx
                      clear hbx
                      have HYB := Lib.hid (Blk.new wr 37 #[.int .i64 f', .int .i64 t', .int .i64 z'])
                      have HBY := Lib.hid (HBX.out.alloc HBX.out.size (.cells #[.int .i64 f', .int .i64 t', .int .i64 z'] 37))
                      have HOy := Lib.hid (HOx.out.alloc (.cells #[.int .i64 f', .int .i64 t', .int .i64 z'] 37))
                      have HDy := Lib.hid (HDx.out.alloc (.cells #[.int .i64 f', .int .i64 t', .int .i64 z'] 37))
                      have co2 := (World.cell?_alloc_lt wr (.cells #[.int .i64 f', .int .i64 t', .int .i64 z'] 37) ⟨w1.heap.size, k, none⟩ (cell_lt co)).trans co
                      obtain ⟨W9, hW9⟩ : ∃ W9, wr.alloc (.cells #[.int .i64 f', .int .i64 t', .int .i64 z'] 37) = W9 := ⟨_, rfl⟩
                      rw [hW9] at HYB HBY HOy HDy co2
                      have x2 := HYB.out.cell 2
                      have q1 : IntKind.i64.wrap (o + z') = o + z' := IntWalk.i64_in _ (by omega)
                      clear co
                      go_wp2_with fail
                      go_quiet (fail)
                      have HBQ := Lib.hid (below_drewN HBY.out nq)
                      have HOq := Lib.hid (HOy.out.drewN nq)
                      have HDq := Lib.hid (HDy.out.drewN nq)
                      clear co2 x2 c1 c2 c3 hW9
                      generalize W9.drewN nq = wq at HBQ HOq HDq ⊢
                      have HBWq := Lib.hid (HB8.out.trans (HBQ.out.mono HB8.out.size))
                      have cd : wq.cell? ⟨w1.heap.size + 1, k, none⟩ = some (.bool (D.getD k false)) := HDq.out.at (Rm.bools_at D k (by rw [HDL.out]; exact hkn))
                      generalize AdjL.bestTo l s.out D q k = best at hbb HBN ⊢
                      generalize D.getD k false = d at cd HBN
                      cases d with
                      | false =>
                        have HV := Lib.hid (show AdjL.bestTo l s.out D q (k + 1) = best by rw [HBN.out]; exact if_neg (by simp))
                        go_wp2_with fail
                        go_roundw
                        case rel => exact ⟨k + 1, by go_num, by rw [HV.out], by omega, HBQ.out⟩
                        case measure => simp [intOf]; omega
                      | true =>
                        by_cases e1 : best < 0
                        · have HFA := Lib.hid (free_any wq l s.out D (some ⟨b, off, none⟩) n c q w1.heap.size (w1.heap.size + 1) (o + z') HN.out (by omega) HOK.out (by omega) (by omega) HOL.out HDL.out HOR.out (HI7.out wq HBWq.out) HOq.out HDq.out)
                          cases hfr : AdjL.freeTo l s.out D q (o + z') n with
                          | true =>
                            rw [hfr] at HFA
                            have HV := Lib.hid (show AdjL.bestTo l s.out D q (k + 1) = o + z' by rw [HBN.out, hfr]; exact if_pos (by simp [e1]))
                            clear hfr
                            go_wp2_with fail
                            ((with_reducible refine HFA.out.mono ?_); rintro e W11 ⟨rfl, hb⟩)
                            have HBf := Lib.hid (HBQ.out.trans (hb.mono HBQ.out.size))
                            clear hb
                            go_wp2_with fail
                            go_roundw
                            case rel => exact ⟨k + 1, by go_num, by rw [HV.out], by omega, HBf.out⟩
                            case measure => simp [intOf]; omega
                          | false =>
                            rw [hfr] at HFA
                            have HV := Lib.hid (show AdjL.bestTo l s.out D q (k + 1) = best by rw [HBN.out, hfr]; exact if_neg (by simp))
                            clear hfr
                            go_wp2_with fail
                            ((with_reducible refine HFA.out.mono ?_); rintro e W11 ⟨rfl, hb⟩)
                            have HBf := Lib.hid (HBQ.out.trans (hb.mono HBQ.out.size))
                            clear hb
                            go_wp2_with fail
                            go_roundw
                            case rel => exact ⟨k + 1, by go_num, by rw [HV.out], by omega, HBf.out⟩
                            case measure => simp [intOf]; omega
                        · have d1 : decide (best < 0) = false := by simpa using e1
                          by_cases e2 : o + z' < best
                          · have HFA := Lib.hid (free_any wq l s.out D (some ⟨b, off, none⟩) n c q w1.heap.size (w1.heap.size + 1) (o + z') HN.out (by omega) HOK.out (by omega) (by omega) HOL.out HDL.out HOR.out (HI7.out wq HBWq.out) HOq.out HDq.out)
                            cases hfr : AdjL.freeTo l s.out D q (o + z') n with
                            | true =>
                              rw [hfr] at HFA
                              have HV := Lib.hid (show AdjL.bestTo l s.out D q (k + 1) = o + z' by rw [HBN.out, hfr]; exact if_pos (by simp [e2]))
                              clear hfr
                              go_wp2_with fail
                              ((with_reducible refine HFA.out.mono ?_); rintro e W11 ⟨rfl, hb⟩)
                              have HBf := Lib.hid (HBQ.out.trans (hb.mono HBQ.out.size))
                              clear hb
                              go_wp2_with fail
                              go_roundw
                              case rel => exact ⟨k + 1, by go_num, by rw [HV.out], by omega, HBf.out⟩
                              case measure => simp [intOf]; omega
                            | false =>
                              rw [hfr] at HFA
                              have HV := Lib.hid (show AdjL.bestTo l s.out D q (k + 1) = best by rw [HBN.out, hfr]; exact if_neg (by simp))
                              clear hfr
                              go_wp2_with fail
                              ((with_reducible refine HFA.out.mono ?_); rintro e W11 ⟨rfl, hb⟩)
                              have HBf := Lib.hid (HBQ.out.trans (hb.mono HBQ.out.size))
                              clear hb
                              go_wp2_with fail
                              go_roundw
                              case rel => exact ⟨k + 1, by go_num, by rw [HV.out], by omega, HBf.out⟩
                              case measure => simp [intOf]; omega
                          · have d2 : decide (o + z' < best) = false := by simpa using e2
                            have HV := Lib.hid (show AdjL.bestTo l s.out D q (k + 1) = best by rw [HBN.out]; exact if_neg (by simp [e1, e2]))
                            go_wp2_with fail
                            go_roundw
                            case rel => exact ⟨k + 1, by go_num, by rw [HV.out], by omega, HBQ.out⟩
                            case measure => simp [intOf]; omega
                    · obtain rfl : k = n := by omega
                      rw [HBE.out] at hbb ⊢
                      have fo := HOx.out.frozen q
                      have fd := HDx.out.frozen q
                      obtain ⟨uo, huo⟩ : ∃ u, wr.cell? ⟨w1.heap.size, q, none⟩ = some u := ⟨_, (HOx.out.cell q).trans (Array.getElem?_eq_getElem (by rw [List.size_toArray]; unfold Adj.ints; rw [List.length_map, HOL.out]; exact hqn))⟩
                      obtain ⟨ud, hud⟩ : ∃ u, wr.cell? ⟨w1.heap.size + 1, q, none⟩ = some u := ⟨_, HDx.out.at (Rm.bools_at D q (by rw [HDL.out]; exact hqn))⟩
                      have HO9 := Lib.hid (show Blk ((wr.setCell ⟨w1.heap.size, q, none⟩ (.int .i64 p)).setCell ⟨w1.heap.size + 1, q, none⟩ (.bool true)) w1.heap.size 3 (Adj.ints (s.out.set q p)).toArray by
                        have h2 := HOx.out.set_ q (.int .i64 p)
                        rw [ints_set] at h2
                        exact h2.far (by show w1.heap.size ≠ w1.heap.size + 1; omega) _)
                      have HD9 := Lib.hid (show Blk ((wr.setCell ⟨w1.heap.size, q, none⟩ (.int .i64 p)).setCell ⟨w1.heap.size + 1, q, none⟩ (.bool true)) (w1.heap.size + 1) 4 (Rm.bools (D.set q true)).toArray by
                        have h2 := (HDx.out.far (p := ⟨w1.heap.size, q, none⟩) (by show w1.heap.size + 1 ≠ w1.heap.size; omega) (.int .i64 p)).set_ q (.bool true)
                        rwa [Rm.bools_set] at h2)
                      have HM9 := Lib.hid ((HMx.out.far (p := ⟨w1.heap.size, q, none⟩) (by show w1.heap.size + 1 + 1 ≠ w1.heap.size; omega) (.int .i64 p)).far (p := ⟨w1.heap.size + 1, q, none⟩) (by show w1.heap.size + 1 + 1 ≠ w1.heap.size + 1; omega) (.bool true))
                      have HB9 := Lib.hid ((HBWx.out.setCell (p := ⟨w1.heap.size, q, none⟩) (Nat.le_refl _) (.int .i64 p)).setCell (p := ⟨w1.heap.size + 1, q, none⟩) (by show w1.heap.size ≤ w1.heap.size + 1; omega) (.bool true))
                      have cz : ((wr.setCell ⟨w1.heap.size, q, none⟩ (.int .i64 p)).setCell ⟨w1.heap.size + 1, q, none⟩ (.bool true)).cell? ⟨b, off + q * 3 + 2, none⟩ = some (.int .i64 z) := (HB9.out.cell (p := ⟨b, off + q * 3 + 2, none⟩) (cell_lt HCZ.out)).trans HCZ.out
                      have hud2 : (wr.setCell ⟨w1.heap.size, q, none⟩ (.int .i64 p)).cell? ⟨w1.heap.size + 1, q, none⟩ = some ud := by
                        have h2 := (HDx.out.far (p := ⟨w1.heap.size, q, none⟩) (by show w1.heap.size + 1 ≠ w1.heap.size; omega) (.int .i64 p)).cell q
                        rw [h2, ← HDx.out.cell q]; exact hud
                      obtain ⟨W12, hW12⟩ : ∃ W12, (wr.setCell ⟨w1.heap.size, q, none⟩ (.int .i64 p)).setCell ⟨w1.heap.size + 1, q, none⟩ (.bool true) = W12 := ⟨_, rfl⟩
                      rw [hW12] at HO9 HD9 HM9 HB9 cz
                      by_cases hgt : s.all < p + z
                      · have hmax : max s.all (p + z) = p + z := by omega
                        rw [hmax] at HST4 HOK4
                        go_wp2_with fail
                        go_roundw
                        case rel => exact ⟨r + 1, D.set q true, M.set q true, ⟨s.out.set q p, Lq, p + z⟩, by go_num, rfl, by omega, HOK4.out, HST4.out, by show p + z ≤ _; omega, by rw [List.length_set]; exact HML.out, HTK.out, HB9.out, HO9.out, HD9.out, HM9.out⟩
                        case measure => simp [intOf]; omega
                      · have hmax : max s.all (p + z) = s.all := by omega
                        rw [hmax] at HST4 HOK4
                        go_wp2_with fail
                        go_roundw
                        case rel => exact ⟨r + 1, D.set q true, M.set q true, ⟨s.out.set q p, Lq, s.all⟩, by go_num, rfl, by omega, HOK4.out, HST4.out, by show s.all ≤ _; omega, by rw [List.length_set]; exact HML.out, HTK.out, HB9.out, HO9.out, HD9.out, HM9.out⟩
                        case measure => simp [intOf]; omega
                | false =>
                  have HB00 := Lib.hid (show AdjL.bestTo l s.out D q 0 = -1 by rw [HBZ.out]; rfl)
                  go_wp2_with fail
                  ((with_reducible refine HF0.out.mono ?_); rintro e W8 ⟨rfl, hb8⟩)
                  have HB8 := Lib.hid (HBq.out.trans (hb8.mono HBq.out.size))
                  have HO8 := Lib.hid (HOq.out.below hb8 HOq.out.lt)
                  have HD8 := Lib.hid (HDq.out.below hb8 HDq.out.lt)
                  have HM8 := Lib.hid (HMq.out.below hb8 HMq.out.lt)
                  clear hb8
                  go_wp2_with fail
                  go_loopw [12, 92] (fun bv kv wr => ∃ k : Nat, kv = .int .i64 (k : Int) ∧ bv = .int .i64 (AdjL.bestTo l s.out D q k) ∧ k ≤ n ∧ Below W8.heap.size W8 wr) (fun _ kv _ => n - (intOf kv).toNat)
                  case atStart => exact ⟨0, rfl, by rw [HB00.out], by omega, Below.refl _ _⟩
                  case round =>
                    obtain ⟨k, rfl, rfl, hk, hb⟩ := hrel
                    have HBX := Lib.hid hb
                    have HBWx := Lib.hid (HB8.out.trans (hb.mono HB8.out.size))
                    have HOx := Lib.hid (HO8.out.below hb HO8.out.lt)
                    have HDx := Lib.hid (HD8.out.below hb HD8.out.lt)
                    have HMx := Lib.hid (HM8.out.below hb HM8.out.lt)
                    clear hb
                    have hbb := HBB.out k
                    by_cases hkn : k < n
                    · have hkl : k < l.length := by have := HN.out; omega
                      have HBN := Lib.hid (show AdjL.bestTo l s.out D q (k + 1) = if D.getD k false && (decide (AdjL.bestTo l s.out D q k < 0) || decide (s.out.getD k 0 + (AdjL.get l k).w < AdjL.bestTo l s.out D q k)) && AdjL.freeTo l s.out D q (s.out.getD k 0 + (AdjL.get l k).w) n then s.out.getD k 0 + (AdjL.get l k).w else AdjL.bestTo l s.out D q k by
                        rw [Ld.best_next, HN.out])
                      have hg1 : AdjL.get l k = l[k] := by unfold AdjL.get; rw [List.getD_eq_getElem?_getD, List.getElem?_eq_getElem hkl]; rfl
                      obtain ⟨y1, y2, y3⟩ := Lv.cells H.out hkl
                      rw [← hg1] at y1 y2 y3
                      have c1 := ((HB1.out.trans (HBWx.out.mono HB1.out.size)).cell (cell_lt y1)).trans y1
                      have c2 := ((HB1.out.trans (HBWx.out.mono HB1.out.size)).cell (cell_lt y2)).trans y2
                      have c3 := ((HB1.out.trans (HBWx.out.mono HB1.out.size)).cell (cell_lt y3)).trans y3
                      have co : wr.cell? ⟨w1.heap.size, k, none⟩ = some (.int .i64 (s.out.getD k 0)) := HOx.out.at (by
                        have h3 := ints_at s.out k (by rw [HOL.out]; exact hkn)
                        rw [List.getD_eq_getElem?_getD, List.getElem?_eq_getElem (by rw [HOL.out]; exact hkn)]
                        simpa using h3)
                      have hor := (HOW.out k hkl).1
                      have hbx : ¬ AdjL.bad (AdjL.get l k) := HOK.out _ (AdjL.get_mem hkl)
                      have hk0 : (0 : Int) ≤ (k : Int) := by omega
                      have hkn2 : (k : Int) < (n : Int) := by omega
                      clear y1 y2 y3 hg1
                      generalize AdjL.get l k = y at c1 c2 c3 hbx HBN
                      generalize s.out.getD k 0 = o at co hor HBN
                      obtain ⟨f', t', z'⟩ := y
                      simp only at c1 c2 c3 HBN
                      have hbx2 : ¬ (f' < 0 ∨ t' < f' ∨ 1048576 < t' ∨ z' < 0 ∨ 1048576 < z') := hbx
                      clear hbx
                      have HYB := Lib.hid (Blk.new wr 37 #[.int .i64 f', .int .i64 t', .int .i64 z'])
                      have HBY := Lib.hid (HBX.out.alloc HBX.out.size (.cells #[.int .i64 f', .int .i64 t', .int .i64 z'] 37))
                      have HOy := Lib.hid (HOx.out.alloc (.cells #[.int .i64 f', .int .i64 t', .int .i64 z'] 37))
                      have HDy := Lib.hid (HDx.out.alloc (.cells #[.int .i64 f', .int .i64 t', .int .i64 z'] 37))
                      have co2 := (World.cell?_alloc_lt wr (.cells #[.int .i64 f', .int .i64 t', .int .i64 z'] 37) ⟨w1.heap.size, k, none⟩ (cell_lt co)).trans co
                      obtain ⟨W9, hW9⟩ : ∃ W9, wr.alloc (.cells #[.int .i64 f', .int .i64 t', .int .i64 z'] 37) = W9 := ⟨_, rfl⟩
                      rw [hW9] at HYB HBY HOy HDy co2
                      have x2 := HYB.out.cell 2
                      have q1 : IntKind.i64.wrap (o + z') = o + z' := IntWalk.i64_in _ (by omega)
                      clear co
                      go_wp2_with fail
                      go_quiet (fail)
                      have HBQ := Lib.hid (below_drewN HBY.out nq)
                      have HOq := Lib.hid (HOy.out.drewN nq)
                      have HDq := Lib.hid (HDy.out.drewN nq)
                      clear co2 x2 c1 c2 c3 hW9
                      generalize W9.drewN nq = wq at HBQ HOq HDq ⊢
                      have HBWq := Lib.hid (HB8.out.trans (HBQ.out.mono HB8.out.size))
                      have cd : wq.cell? ⟨w1.heap.size + 1, k, none⟩ = some (.bool (D.getD k false)) := HDq.out.at (Rm.bools_at D k (by rw [HDL.out]; exact hkn))
                      generalize AdjL.bestTo l s.out D q k = best at hbb HBN ⊢
                      generalize D.getD k false = d at cd HBN
                      cases d with
                      | false =>
                        have HV := Lib.hid (show AdjL.bestTo l s.out D q (k + 1) = best by rw [HBN.out]; exact if_neg (by simp))
                        go_wp2_with fail
                        go_roundw
                        case rel => exact ⟨k + 1, by go_num, by rw [HV.out], by omega, HBQ.out⟩
                        case measure => simp [intOf]; omega
                      | true =>
                        by_cases e1 : best < 0
                        · have HFA := Lib.hid (free_any wq l s.out D (some ⟨b, off, none⟩) n c q w1.heap.size (w1.heap.size + 1) (o + z') HN.out (by omega) HOK.out (by omega) (by omega) HOL.out HDL.out HOR.out (HI7.out wq HBWq.out) HOq.out HDq.out)
                          cases hfr : AdjL.freeTo l s.out D q (o + z') n with
                          | true =>
                            rw [hfr] at HFA
                            have HV := Lib.hid (show AdjL.bestTo l s.out D q (k + 1) = o + z' by rw [HBN.out, hfr]; exact if_pos (by simp [e1]))
                            clear hfr
                            go_wp2_with fail
                            ((with_reducible refine HFA.out.mono ?_); rintro e W11 ⟨rfl, hb⟩)
                            have HBf := Lib.hid (HBQ.out.trans (hb.mono HBQ.out.size))
                            clear hb
                            go_wp2_with fail
                            go_roundw
                            case rel => exact ⟨k + 1, by go_num, by rw [HV.out], by omega, HBf.out⟩
                            case measure => simp [intOf]; omega
                          | false =>
                            rw [hfr] at HFA
                            have HV := Lib.hid (show AdjL.bestTo l s.out D q (k + 1) = best by rw [HBN.out, hfr]; exact if_neg (by simp))
                            clear hfr
                            go_wp2_with fail
                            ((with_reducible refine HFA.out.mono ?_); rintro e W11 ⟨rfl, hb⟩)
                            have HBf := Lib.hid (HBQ.out.trans (hb.mono HBQ.out.size))
                            clear hb
                            go_wp2_with fail
                            go_roundw
                            case rel => exact ⟨k + 1, by go_num, by rw [HV.out], by omega, HBf.out⟩
                            case measure => simp [intOf]; omega
                        · have d1 : decide (best < 0) = false := by simpa using e1
                          by_cases e2 : o + z' < best
                          · have HFA := Lib.hid (free_any wq l s.out D (some ⟨b, off, none⟩) n c q w1.heap.size (w1.heap.size + 1) (o + z') HN.out (by omega) HOK.out (by omega) (by omega) HOL.out HDL.out HOR.out (HI7.out wq HBWq.out) HOq.out HDq.out)
                            cases hfr : AdjL.freeTo l s.out D q (o + z') n with
                            | true =>
                              rw [hfr] at HFA
                              have HV := Lib.hid (show AdjL.bestTo l s.out D q (k + 1) = o + z' by rw [HBN.out, hfr]; exact if_pos (by simp [e2]))
                              clear hfr
                              go_wp2_with fail
                              ((with_reducible refine HFA.out.mono ?_); rintro e W11 ⟨rfl, hb⟩)
                              have HBf := Lib.hid (HBQ.out.trans (hb.mono HBQ.out.size))
                              clear hb
                              go_wp2_with fail
                              go_roundw
                              case rel => exact ⟨k + 1, by go_num, by rw [HV.out], by omega, HBf.out⟩
                              case measure => simp [intOf]; omega
                            | false =>
                              rw [hfr] at HFA
                              have HV := Lib.hid (show AdjL.bestTo l s.out D q (k + 1) = best by rw [HBN.out, hfr]; exact if_neg (by simp))
                              clear hfr
                              go_wp2_with fail
                              ((with_reducible refine HFA.out.mono ?_); rintro e W11 ⟨rfl, hb⟩)
                              have HBf := Lib.hid (HBQ.out.trans (hb.mono HBQ.out.size))
                              clear hb
                              go_wp2_with fail
                              go_roundw
                              case rel => exact ⟨k + 1, by go_num, by rw [HV.out], by omega, HBf.out⟩
                              case measure => simp [intOf]; omega
                          · have d2 : decide (o + z' < best) = false := by simpa using e2
                            have HV := Lib.hid (show AdjL.bestTo l s.out D q (k + 1) = best by rw [HBN.out]; exact if_neg (by simp [e1, e2]))
                            go_wp2_with fail
                            go_roundw
                            case rel => exact ⟨k + 1, by go_num, by rw [HV.out], by omega, HBQ.out⟩
                            case measure => simp [intOf]; omega
                    · obtain rfl : k = n := by omega
                      rw [HBE.out] at hbb ⊢
                      have fo := HOx.out.frozen q
                      have fd := HDx.out.frozen q
                      obtain ⟨uo, huo⟩ : ∃ u, wr.cell? ⟨w1.heap.size, q, none⟩ = some u := ⟨_, (HOx.out.cell q).trans (Array.getElem?_eq_getElem (by rw [List.size_toArray]; unfold Adj.ints; rw [List.length_map, HOL.out]; exact hqn))⟩
                      obtain ⟨ud, hud⟩ : ∃ u, wr.cell? ⟨w1.heap.size + 1, q, none⟩ = some u := ⟨_, HDx.out.at (Rm.bools_at D q (by rw [HDL.out]; exact hqn))⟩
                      have HO9 := Lib.hid (show Blk ((wr.setCell ⟨w1.heap.size, q, none⟩ (.int .i64 p)).setCell ⟨w1.heap.size + 1, q, none⟩ (.bool true)) w1.heap.size 3 (Adj.ints (s.out.set q p)).toArray by
                        have h2 := HOx.out.set_ q (.int .i64 p)
                        rw [ints_set] at h2
                        exact h2.far (by show w1.heap.size ≠ w1.heap.size + 1; omega) _)
                      have HD9 := Lib.hid (show Blk ((wr.setCell ⟨w1.heap.size, q, none⟩ (.int .i64 p)).setCell ⟨w1.heap.size + 1, q, none⟩ (.bool true)) (w1.heap.size + 1) 4 (Rm.bools (D.set q true)).toArray by
                        have h2 := (HDx.out.far (p := ⟨w1.heap.size, q, none⟩) (by show w1.heap.size + 1 ≠ w1.heap.size; omega) (.int .i64 p)).set_ q (.bool true)
                        rwa [Rm.bools_set] at h2)
                      have HM9 := Lib.hid ((HMx.out.far (p := ⟨w1.heap.size, q, none⟩) (by show w1.heap.size + 1 + 1 ≠ w1.heap.size; omega) (.int .i64 p)).far (p := ⟨w1.heap.size + 1, q, none⟩) (by show w1.heap.size + 1 + 1 ≠ w1.heap.size + 1; omega) (.bool true))
                      have HB9 := Lib.hid ((HBWx.out.setCell (p := ⟨w1.heap.size, q, none⟩) (Nat.le_refl _) (.int .i64 p)).setCell (p := ⟨w1.heap.size + 1, q, none⟩) (by show w1.heap.size ≤ w1.heap.size + 1; omega) (.bool true))
                      have cz : ((wr.setCell ⟨w1.heap.size, q, none⟩ (.int .i64 p)).setCell ⟨w1.heap.size + 1, q, none⟩ (.bool true)).cell? ⟨b, off + q * 3 + 2, none⟩ = some (.int .i64 z) := (HB9.out.cell (p := ⟨b, off + q * 3 + 2, none⟩) (cell_lt HCZ.out)).trans HCZ.out
                      have hud2 : (wr.setCell ⟨w1.heap.size, q, none⟩ (.int .i64 p)).cell? ⟨w1.heap.size + 1, q, none⟩ = some ud := by
                        have h2 := (HDx.out.far (p := ⟨w1.heap.size, q, none⟩) (by show w1.heap.size + 1 ≠ w1.heap.size; omega) (.int .i64 p)).cell q
                        rw [h2, ← HDx.out.cell q]; exact hud
                      obtain ⟨W12, hW12⟩ : ∃ W12, (wr.setCell ⟨w1.heap.size, q, none⟩ (.int .i64 p)).setCell ⟨w1.heap.size + 1, q, none⟩ (.bool true) = W12 := ⟨_, rfl⟩
                      rw [hW12] at HO9 HD9 HM9 HB9 cz
                      by_cases hgt : s.all < p + z
                      · have hmax : max s.all (p + z) = p + z := by omega
                        rw [hmax] at HST4 HOK4
                        go_wp2_with fail
                        go_roundw
                        case rel => exact ⟨r + 1, D.set q true, M.set q true, ⟨s.out.set q p, Lq, p + z⟩, by go_num, rfl, by omega, HOK4.out, HST4.out, by show p + z ≤ _; omega, by rw [List.length_set]; exact HML.out, HTK.out, HB9.out, HO9.out, HD9.out, HM9.out⟩
                        case measure => simp [intOf]; omega
                      · have hmax : max s.all (p + z) = s.all := by omega
                        rw [hmax] at HST4 HOK4
                        go_wp2_with fail
                        go_roundw
                        case rel => exact ⟨r + 1, D.set q true, M.set q true, ⟨s.out.set q p, Lq, s.all⟩, by go_num, rfl, by omega, HOK4.out, HST4.out, by show s.all ≤ _; omega, by rw [List.length_set]; exact HML.out, HTK.out, HB9.out, HO9.out, HD9.out, HM9.out⟩
                        case measure => simp [intOf]; omega
      · obtain rfl : r = n := by omega
        have HSD := Lib.hid (show AdjL.laySt l = s by rw [HST.out, List.drop_eq_nil_of_le (by rw [HOP.out]; exact Nat.le_refl _)]; rfl)
        rw [HSD.out] at HLAY
        by_cases hgt : 1048576 < s.all
        · have HR := Lib.hid (HLAY.out.trans (if_pos hgt))
          go_wp2_with fail
          go_ret3
          rw [HR.out]
          first | exact ⟨_, rfl, HBW.out, none, 0, rfl, IntsAt.nil⟩ | exact ⟨_, rfl, HBW.out, none, ⟨0, rfl⟩, IntsAt.nil⟩
        · have HR := Lib.hid (HLAY.out.trans (if_neg hgt))
          have HOL := Lib.hid (show s.out.length = r by rw [HOK2.out.outl, HN.out])
          go_wp2_with fail
          go_ret3
          rw [HR.out]
          refine ⟨_, rfl, HBW.out, some ⟨w1.heap.size, 0, none⟩, ⟨r, ?_⟩, IntsAt.of_blk HOUT.out⟩
          show Value.slice _ r r = Value.slice _ s.out.length r
          rw [HOL.out]
  · have HR := Lib.hid (show AdjL.lay l = ([], 0, AdjL.wrong l) by unfold AdjL.lay; rw [if_pos hbad])
    generalize AdjL.wrong l = q at hbad HW HR
    have h1 : (q == 0) = false := by simpa using hbad
    have h2 : (q != 0) = true := by simpa using hbad
    go_enter Try.func24, Try.ntmps24
    go_wp2_with fail
    ((with_reducible refine HW.out.mono ?_); rintro e w1 ⟨rfl, hb1⟩)
    have HB1 := Lib.hid hb1
    clear hb1
    go_wp2_with fail
    all_goals first | (exfalso; simp at *; omega) | (go_ret3; rw [HR.out]; first | exact ⟨_, rfl, HB1.out, none, 0, rfl, IntsAt.nil⟩ | exact ⟨_, rfl, HB1.out, none, ⟨0, rfl⟩, IntsAt.nil⟩)
end Go.Proofs.Ytkopkicdmbnpgaa
