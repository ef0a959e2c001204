/-
  The walk of slices.DeleteFunc at what lies. Conditions: the row is the call's own.
-/
import Derived.Test.YtkopkicdmbnpgaaRoomZ
namespace Go.Proofs.Ytkopkicdmbnpgaa
set_option linter.unusedVariables false
open Go.RowKit Adj

set_option maxRecDepth 100000 in
set_option maxHeartbeats 4000000 in
theorem delete_any (w : World) (base : Nat) (L : List AdjL.Laid) (v : Value) (bx : Nat) (f : Int) (hbig : L.length ≤ 1048576) (hx : w.cell? ⟨bx, 0, none⟩ = some (.int .i64 f)) (hbx : v.ownBlock ≠ some bx) (hb0 : base ≤ w.heap.size)
    (h : w.ownsRow base 78 3 v L.length (Adj.ints (Ld.lints L))) :
    Calls Try.prog 44 #[v, .func (.func 45) #[] #[.pointer (some ⟨bx, 0, none⟩)]] w fun e w' => ∃ v', e = .returned v' ∧ Ld.Kp base w w' v ∧ w'.ownsRow base 78 3 v' (Ld.keep f L).length (Adj.ints (Ld.lints (Ld.keep f L))) := by
  have hcf : ∀ (args : Array Value) (W : World), (callFunc 45 args).run Try.prog W = .ok (.enter 45 args) W := fun _ _ => rfl
  obtain ⟨A, c, rfl⟩ := Rm.own_form h
  have HINT := Lib.hid (Ld.ints_own h)
  have H := Lib.hid h
  have HX := Lib.hid hx
  obtain ⟨n, hn⟩ : ∃ n, L.length = n := ⟨_, rfl⟩
  have HN := Lib.hid hn
  have HIX := Lib.hid (idxLaid_any w L A n c bx f hn (by omega) hx HINT.out)
  rw [hn] at hbig ⊢
  clear hn h hx
  go_enter Try.func44, Try.ntmps44
  go_wp2_with fail
  ((with_reducible refine HIX.out.mono ?_); rintro e w1 ⟨r, rfl, hb1, hr⟩)
  have HB1 := Lib.hid hb1
  clear hb1
  rcases hr with ⟨rfl, hall⟩ | ⟨i, rfl, hi, hlo, hdel⟩
  · have HK := Lib.hid (Ld.keep_all hall)
    clear hall
    go_wp2_with fail
    go_ret
    refine ⟨_, rfl, ⟨HB1.out.mono hb0, fun h hh _ => HB1.out.block h hh⟩, ?_⟩
    rw [HK.out]
    have h := Rm.own_keep H.out (fun g hg => HB1.out.block g (H.out.lt g hg).2)
    rw [HN.out] at h ⊢
    exact h
  · obtain ⟨g, cap, cur, e1, hbg, hcur, hcap, hmax, hsz, htake⟩ : ∃ g cap cur, (Value.slice A L.length c) = .slice (some ⟨g, 0, none⟩) L.length cap ∧ base ≤ g ∧ w.heap[g]? = some (.cells cur 78 (0, 0)) ∧ L.length ≤ cap ∧ cap ≤ maxLen ∧ cur.size = cap * 3 ∧ cur.toList.take (L.length * 3) = Adj.ints (Ld.lints L) := by
      rcases H.out.2 with ⟨_, e2⟩ | ⟨g, cap, cur, e1, h2, h3, h4, h5, h6, h7⟩
      · omega
      · exact ⟨g, cap, cur, e1, h2, h3, h4, h5, h6, h7⟩
    obtain ⟨hA, hc⟩ : A = some ⟨g, 0, none⟩ ∧ c = cap := by injection e1 with a b c'; exact ⟨a, c'⟩
    subst hA
    subst hc
    have HBK := Lib.hid (show Blk w g 78 cur from hcur)
    have hgl : g < w.heap.size := HBK.out.lt
    have HCU := Lib.hid (fun (t : Nat) (x : Int) (ht : (Ld.lints L)[t]? = some x) => show cur[t]? = some (Value.int .i64 x) by
      have hl := (List.getElem?_eq_some_iff.1 ht).1
      rw [Ld.lints_length] at hl
      have h1 : (Adj.ints (Ld.lints L))[t]? = some (.int .i64 x) := by unfold Adj.ints; rw [List.getElem?_map, ht]; rfl
      rw [← htake, List.getElem?_take, if_pos (by omega)] at h1
      simpa using h1)
    have HSZ := Lib.hid (And.intro hsz (And.intro hcap hmax))
    have hin : i < n := by have := HN.out; omega
    have HKI := Lib.hid (show Ld.keep f (L.take i) = L.take i from Ld.keep_all (fun y hy => by
      obtain ⟨t, ht, e⟩ := List.getElem_of_mem hy
      rw [List.length_take] at ht
      rw [List.getElem_take] at e
      rw [← e]
      exact hlo t (by omega) (by omega)))
    have HD0 := Lib.hid (show Ld.Dl w g c cur f L i (i + 1) w1 by
      have e : Ld.keep f (L.take (i + 1)) = L.take i := by rw [Ld.keep_next hi, if_neg (by omega), HKI.out]
      refine ⟨(Sr.Fr.refl w g).below HB1.out, by rw [e, List.length_take]; omega, cur, HBK.out.below HB1.out hgl, hsz, fun t x hx => ?_, fun _ _ => rfl⟩
      rw [e] at hx
      refine HCU.out t x ?_
      rw [← hx]
      have hl := (List.getElem?_eq_some_iff.1 hx).1
      conv => lhs; rw [← List.take_append_drop i L, Ld.lints_append]
      rw [List.getElem?_append_left hl])
    have HNB := Lib.hid (show bx ≠ g from fun e => hbx (by rw [e]; rfl))
    clear hcur hsz hcap hmax htake hlo hdel HIX e1 hbx
    go_wp2_with fail
    go_loopw [5, 6] (fun iv jv wr => ∃ (i j : Nat), iv = .int .i64 (i : Int) ∧ jv = .int .i64 (j : Int) ∧ i < j ∧ j ≤ n ∧ Ld.Dl w g c cur f L i j wr) (fun _ jv _ => n - (intOf jv).toNat)
    case atStart => exact ⟨i, i + 1, rfl, by go_num, by omega, by omega, HD0.out⟩
    case round =>
      obtain ⟨i, j, rfl, rfl, hij, hj, hd⟩ := hrel
      have HD := Lib.hid hd
      clear hd
      have hgr : g < wr.heap.size := Nat.lt_of_lt_of_le hgl HD.out.fr.size
      by_cases hjn : j < n
      · have hjl : j < L.length := by have := HN.out; omega
        have HCJ := Lib.hid (fun (m : Nat) (x : Int) (hm : m < 3) (hx : (Ld.three L[j])[m]? = some x) => show wr.cell? ⟨g, j * 3 + m, none⟩ = some (.int .i64 x) by
          obtain ⟨cur', k1, k2, k3, k4⟩ := HD.out.row
          rw [k1.cell, k4 _ (by omega)]
          exact HCU.out _ _ ((Ld.lints_at L j m hjl hm).trans hx))
        have c1 : wr.cell? ⟨g, j * 3, none⟩ = some (.int .i64 L[j].at_) := HCJ.out 0 _ (by omega) rfl
        have c2 : wr.cell? ⟨g, j * 3 + 1, none⟩ = some (.int .i64 L[j].end_) := HCJ.out 1 _ (by omega) rfl
        have c3 : wr.cell? ⟨g, j * 3 + 2, none⟩ = some (.int .i64 L[j].to) := HCJ.out 2 _ (by omega) rfl
        have HDR := Lib.hid (fun wr' (h : Ld.Dl w g c cur f L i j wr') (hn : ¬ f < L[j].to) => h.drop hjl hn)
        have HTK := Lib.hid (fun wr' (h : Ld.Dl w g c cur f L i j wr') (hn : f < L[j].to) => h.take hjl hij (by have := HSZ.out; omega) hn)
        have hbg2 : bx ≠ g := HNB.out
        have hxr : wr.cell? ⟨bx, 0, none⟩ = some (.int .i64 f) := (HD.out.fr.cell (cell_lt HX.out) hbg2).trans HX.out
        generalize L[j] = y at c1 c2 c3 HDR HTK
        clear HCJ
        obtain ⟨a, e, t⟩ := y
        simp only at c1 c2 c3 HDR HTK
        have HXB := Lib.hid (Blk.new wr 78 #[.int .i64 a, .int .i64 e, .int .i64 t])
        have HD2 := Lib.hid (HD.out.below hgr ((Below.refl _ _).alloc (Nat.le_refl _) (.cells #[.int .i64 a, .int .i64 e, .int .i64 t] 78)))
        have hx2 := (World.cell?_alloc_lt wr (.cells #[.int .i64 a, .int .i64 e, .int .i64 t] 78) ⟨bx, 0, none⟩ (cell_lt hxr)).trans hxr
        obtain ⟨W2, hW2⟩ : ∃ W2, wr.alloc (.cells #[.int .i64 a, .int .i64 e, .int .i64 t] 78) = W2 := ⟨_, rfl⟩
        rw [hW2] at HXB HD2 hx2
        have hg2 : g < W2.heap.size := Nat.lt_of_lt_of_le hgl HD2.out.fr.size
        have x0 := HXB.out.cell 0
        have x1 := HXB.out.cell 1
        have x2 := HXB.out.cell 2
        have HCC := Lib.hid (lay2_any W2 bx f ⟨a, e, t⟩ hx2)
        unfold Ld.laidV at HCC
        simp only at HCC
        clear hxr
        go_wp2_with fail
        ((with_reducible refine HCC.out.mono ?_); rintro ee w5 ⟨rfl, hb5⟩)
        have HD5 := Lib.hid (HD2.out.below hg2 hb5)
        have HX5 := Lib.hid (HXB.out.below hb5 HXB.out.lt)
        clear hb5 x0 x1 x2 hx2 hW2 c1 c2 c3
        by_cases htf : t ≤ f
        · rw [decide_eq_true htf]
          have HR := Lib.hid (HDR.out w5 HD5.out (by omega))
          go_wp2_with fail
          go_roundw
          case rel =>
            refine ⟨_, _, _, _, _, _, _, _, _, _, _, _, _, _, _, _, _, _, _, _, _, _, _, ?_, rfl⟩
            exact ⟨i, j + 1, rfl, by go_num, by omega, by omega, HR.out⟩
          case measure => simp [intOf]; omega
        · rw [decide_eq_false htf]
          have HR := Lib.hid (HTK.out w5 HD5.out (by show f < t; omega))
          have x0 := HX5.out.cell 0
          have x1 := HX5.out.cell 1
          have x2 := HX5.out.cell 2
          have HPC := Lib.hid (fun m (hm : m < 3) => show (∃ u, w5.cell? ⟨g, i * 3 + m, none⟩ = some u) ∧ w5.frozen? ⟨g, i * 3 + m, none⟩ = false by
            obtain ⟨cur', k1, k2, _, _⟩ := HD5.out.row
            have hs := HSZ.out
            have hnn := HN.out
            refine ⟨⟨cur'[i * 3 + m]'(by omega), ?_⟩, k1.frozen _⟩
            rw [k1.cell, Array.getElem?_eq_getElem])
          obtain ⟨⟨u0, p0⟩, f0⟩ := HPC.out 0 (by omega)
          obtain ⟨⟨u1, p1⟩, f1⟩ := HPC.out 1 (by omega)
          obtain ⟨⟨u2, p2⟩, f2⟩ := HPC.out 2 (by omega)
          rw [Nat.add_zero] at p0 f0
          obtain ⟨w6, hw6⟩ : ∃ w6, ((w5.setCell ⟨g, i * 3, none⟩ (.int .i64 a)).setCell ⟨g, i * 3 + 1, none⟩ (.int .i64 e)).setCell ⟨g, i * 3 + 2, none⟩ (.int .i64 t) = w6 := ⟨_, rfl⟩
          rw [hw6] at HR
          go_wp2_with fail
          go_roundw
          case rel =>
            refine ⟨_, _, _, _, _, _, _, _, _, _, _, _, _, _, _, _, _, _, _, _, _, _, _, ?_, rfl⟩
            exact ⟨i + 1, j + 1, by go_num, by go_num, by omega, by omega, HR.out⟩
          case measure => simp [intOf]; omega
      · obtain rfl : j = n := by omega
        have hcap : j ≤ c := by have := HSZ.out; have := HN.out; omega
        have hcm : c ≤ 9223372036854775807 := by have := HSZ.out.2.2; unfold maxLen at this; omega
        have hclr := fun ty => clear_laid wr ty g (i * 3) (j - i) (c - i) (by omega) (fun m hm => by
          obtain ⟨cur', k1, k2, _, _⟩ := HD.out.row
          rw [k1.cell, Array.getElem?_eq_getElem (by omega)]; rfl) (fun m hm => by
          obtain ⟨cur', k1, _⟩ := HD.out.row
          exact k1.frozen _)
        have HW9 := Lib.hid (show Sr.Fr w (wr.setCells g (i * 3) (List.replicate ((j - i) * 3) (.int .i64 0))) g ∧ ∃ cur', Blk (wr.setCells g (i * 3) (List.replicate ((j - i) * 3) (.int .i64 0))) g 78 cur' ∧ cur'.size = c * 3 ∧ ∀ (t : Nat) (x : Int), (Ld.lints (Ld.keep f L))[t]? = some x → cur'[t]? = some (.int .i64 x) from by
          obtain ⟨cur', k1, k2, k3, _⟩ := HD.out.row
          have hlen := HD.out.len
          have hTA : L.take j = L := List.take_of_length_le (by have := HN.out; omega)
          rw [hTA] at k3 hlen
          obtain ⟨cur2, q1, q2, q3⟩ := Ld.setCells_blk (List.replicate ((j - i) * 3) (.int .i64 0)) (i * 3) wr cur' k1
          refine ⟨HD.out.fr.trans (Ld.setCells_fr _ _ _), cur2, q1, by rw [q2, k2], fun t x hx => ?_⟩
          have hl := (List.getElem?_eq_some_iff.1 hx).1
          rw [Ld.lints_length, hlen] at hl
          rw [q3 t (by omega)]
          exact k3 t x hx)
        have HKL := Lib.hid (show (Ld.keep f L).length = i by
          have hlen := HD.out.len
          rwa [List.take_of_length_le (by have := HN.out; omega)] at hlen)
        obtain ⟨W9, hW9⟩ : ∃ W9, wr.setCells g (i * 3) (List.replicate ((j - i) * 3) (.int .i64 0)) = W9 := ⟨_, rfl⟩
        rw [hW9] at HW9 hclr
        have hij0 : (0 : Int) ≤ (i : Int) := by omega
        have hij1 : (i : Int) ≤ (j : Int) := by omega
        have hic : i ≤ c := by omega
        have hcne : c ≠ i := by omega
        go_wp2_with fail
        go_ret
        obtain ⟨hfr, cur', k1, k2, k3⟩ := HW9.out
        refine ⟨_, rfl, ⟨hfr.from hb0 hbg, fun h hh hne => hfr.block h hh (fun e => hne (by rw [e]; rfl))⟩, ?_, .inr ⟨g, c, cur', by rw [HKL.out]; rfl, hbg, k1, by rw [HKL.out]; exact hic, HSZ.out.2.2, k2, ?_⟩⟩
        · unfold Adj.ints; rw [List.length_map, Ld.lints_length]; omega
        · apply List.ext_getElem?
          intro t
          rw [List.getElem?_take]
          have hll := Ld.lints_length (Ld.keep f L)
          by_cases ht : t < (Ld.keep f L).length * 3
          · rw [if_pos ht]
            have hx : (Ld.lints (Ld.keep f L))[t]? = some ((Ld.lints (Ld.keep f L))[t]'(by omega)) := List.getElem?_eq_getElem (by omega)
            have h1 := k3 t _ hx
            unfold Adj.ints
            rw [List.getElem?_map, hx]
            simpa using h1
          · rw [if_neg ht]
            symm
            rw [List.getElem?_eq_none_iff]
            unfold Adj.ints; rw [List.length_map]; omega
end Go.Proofs.Ytkopkicdmbnpgaa
