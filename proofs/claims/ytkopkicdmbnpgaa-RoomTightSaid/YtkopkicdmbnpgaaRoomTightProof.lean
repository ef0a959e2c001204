/-
  PROVED: RoomTightSaid: for every list of lives and every number of words the law RoomTight returns true: things of one size take just as much room as is needed at one time. No condition.
-/
import Derived.Test.YtkopkicdmbnpgaaRoomZg
import Derived.Test.YtkopkicdmbnpgaaRoomV
import Derived.Test.YtkopkicdmbnpgaaOpenLives
import Derived.Test.YtkopkicdmbnpgaaLawRow
import Derived.Test.YtkopkicdmbnpgaaChecked
import Derived.Test.YtkopkicdmbnpgaaRows
import Derived.ProofKit
import Derived.Deep.QuietTactic
import Derived.BigQuiet
namespace Go.Proofs.Ytkopkicdmbnpgaa.roomTight
open Go.ChangeShapes Go.WideShapes Go.ChangeAt Go.RowKit Adj
set_option linter.unusedVariables false

theorem own : ownKnob Try.prog.godebug = none := by kernel_rfl
theorem laid : laidOutB Try.prog = true := by kernel_rfl
theorem infoLife : (Try.prog.info? 37).map (fun i => (i.zero, i.size, i.bytes)) = some (some (.agg #[.int .i64 0, .int .i64 0, .int .i64 0]), 3, 24) := by kernel_rfl
def evened (l : List AdjL.Life) (z : Int) : List AdjL.Life := l.map fun x => ⟨x.f, x.t, z⟩
theorem evened_len (l : List AdjL.Life) (z : Int) : (evened l z).length = l.length := List.length_map _
theorem evened_take {l : List AdjL.Life} {z : Int} {k : Nat} (hk : k < l.length) : evened (l.take (k + 1)) z = evened (l.take k) z ++ [⟨l[k].f, l[k].t, z⟩] := by
  unfold evened
  rw [List.take_succ_eq_append_getElem hk, List.map_append]; rfl
theorem evened_get {l : List AdjL.Life} {z : Int} {k : Nat} (hk : k < (evened l z).length) : (AdjL.get (evened l z) k).w = z := by
  have e : (evened l z)[k] = ⟨(l[k]'(by rw [← evened_len l z]; exact hk)).f, (l[k]'(by rw [← evened_len l z]; exact hk)).t, z⟩ := List.getElem_map ..
  unfold AdjL.get
  rw [List.getD_eq_getElem?_getD, List.getElem?_eq_getElem hk]
  show AdjL.Life.w ((evened l z)[k]) = z
  rw [e]
theorem cells_snoc (l : List AdjL.Life) (x : AdjL.Life) : Adj.ints (AdjL.flat (l ++ [x])) = Adj.ints (AdjL.flat l) ++ [.int .i64 x.f, .int .i64 x.t, .int .i64 x.w] := by
  unfold AdjL.flat Adj.ints
  rw [List.flatMap_append, List.map_append]; rfl
theorem slice_len {H : Type} {enc : TypeId × Value → H} {P : Program} {w : World} {base : Nat} {spare : Nat → Bool} {held : Bool} {t e : TypeId} {fuel : Nat} {A : Option Addr} {n c : Nat} {x : DataW H × List MemPlace} (ht : P.underlying t = some (.slice e)) (h : DataW.trod enc P w base spare held fuel t [.slice A n c] = some x) :
    n = 0 ∨ ∃ es sp, x.1 = .slice es sp ∧ es.length = n := by
  rcases Go.Deep.open_slice ht h with ⟨h0, _⟩ | ⟨a, len, cap, m, k, D, Pl, hcs, _, _, _, _, hx, _⟩
  · simp at h0; exact .inl h0.2.1
  · simp at hcs
    obtain ⟨_, rfl, _⟩ := hcs
    exact .inr ⟨_, _, by rw [hx], by simp⟩

set_option maxRecDepth 100000 in
set_option maxHeartbeats 8000000 in
theorem walk (A : Option Addr) (cap : Nat) (z : Int) (l : List AdjL.Life) (w : World) (hbig : l.length * 24 ≤ 140737488351232) (h : IntsAt w w.heap.size A (AdjL.flat l)) :
    Calls Try.prog 8 #[.slice A l.length cap, .int .i64 z] w fun e w' => e = .returned (.bool true) ∧ Below w.heap.size w w' := by
  have HAL := Lib.hid (alive_any w)
  obtain ⟨n, hn⟩ : ∃ n, l.length = n := ⟨_, rfl⟩
  have H := Lib.hid h
  have HN := Lib.hid hn
  have HI := Lib.hid (info_parts infoLife)
  rw [hn] at hbig ⊢
  clear h hn
  obtain ⟨i0, hi0⟩ := HI.out
  have HI0 := Lib.hid hi0
  clear hi0
  go_enter Try.func8, Try.ntmps8
  go_wp2_with fail
  refine HAL.out.mono ?_
  rintro e w1 ⟨rfl, hb1⟩
  have HB1 := Lib.hid hb1
  clear hb1
  go_wp2_with fail
  go_loopw [5, 16] (fun v kv wr => ∃ k : Nat, kv = .int .i64 (k : Int) ∧ k ≤ n ∧ Below w1.heap.size w1 wr ∧ wr.ownsRow w1.heap.size 37 3 v k (Adj.ints (AdjL.flat (evened (l.take k) z)))) (fun _ kv _ => n - (intOf kv).toNat)
  case atStart => exact ⟨0, rfl, by omega, Below.refl _ _, rfl, .inl ⟨rfl, rfl⟩⟩
  case round =>
    obtain ⟨k, rfl, hk, hb, hown⟩ := hrel
    have HB := Lib.hid hb
    have HOWN := Lib.hid hown
    have HBW := Lib.hid (HB1.out.trans (hb.mono HB1.out.size))
    obtain ⟨AL, cL, hlv⟩ := Rm.own_form hown
    subst hlv
    clear hb hown
    by_cases hkn : k < n
    · have hkl : k < l.length := by have := HN.out; omega
      obtain ⟨b, off, rfl, hbb⟩ := Lv.spot H.out hkl
      obtain ⟨y1, y2, y3⟩ := Lv.cells H.out hkl
      have c1 := (HBW.out.cell (cell_lt y1)).trans y1
      have c2 := (HBW.out.cell (cell_lt y2)).trans y2
      have c3 := (HBW.out.cell (cell_lt y3)).trans y3
      have HE := Lib.hid (show Adj.ints (AdjL.flat (evened (l.take (k + 1)) z)) = Adj.ints (AdjL.flat (evened (l.take k) z)) ++ [.int .i64 l[k].f, .int .i64 l[k].t, .int .i64 z] by rw [evened_take hkl, cells_snoc])
      generalize l[k] = x at c1 c2 c3 HE
      obtain ⟨f, t, q⟩ := x
      simp only at c1 c2 c3 HE
      have HXB := Lib.hid (Blk.new wr 37 #[.int .i64 f, .int .i64 t, .int .i64 q])
      have HB2 := Lib.hid (HB.out.alloc HB.out.size (.cells #[.int .i64 f, .int .i64 t, .int .i64 q] 37))
      have HO2 := Lib.hid (HOWN.out.alloc (.cells #[.int .i64 f, .int .i64 t, .int .i64 q] 37))
      clear y1 y2 y3
      obtain ⟨W2, hW2⟩ : ∃ W2, wr.alloc (.cells #[.int .i64 f, .int .i64 t, .int .i64 q] 37) = W2 := ⟨_, rfl⟩
      rw [hW2] at HXB HB2 HO2
      have x0 := HXB.out.cell 0
      have x1 := HXB.out.cell 1
      have x2 := HXB.out.cell 2
      obtain ⟨g1, g2, g3, g4⟩ := HI0.out
      have hs1 := HB2.out.size
      go_wp2_with (at_builtin; refine wpList_append_any _ rfl _ _ 33 rfl w1.heap.size 37 i0 (.agg #[.int .i64 0, .int .i64 0, .int .i64 0]) 3 24 Try.underlying33 g1 g2 g3 g4 rfl (by decide) _ _ _ rfl (HO2.out.alloc _) _ (some ⟨W2.heap.size, 0, none⟩) 1 1 [.int .i64 f, .int .i64 t, .int .i64 z] rfl (Lv.reads_cells (Blk.new _ 37 _) rfl) (by intro u hu; simp at hu; rcases hu with rfl | rfl | rfl <;> rfl) (by unfold maxLen; omega) (by omega) (by simp; omega) ?_)
      intro v' w6 how hgr _
      have HBZ := Lib.hid ((HB2.out.alloc HB2.out.size (.cells #[.int .i64 f, .int .i64 t, .int .i64 z] 37)).grown hgr (by simp; omega) (fun g hg => (HO2.out.lt g hg).1))
      have HO6 := Lib.hid (show w6.ownsRow w1.heap.size 37 3 v' (k + 1) (Adj.ints (AdjL.flat (evened (l.take (k + 1)) z))) by rw [HE.out]; exact how)
      clear how hgr
      go_wp2_with fail
      go_roundw
      case rel => exact ⟨k + 1, by go_num, by omega, HBZ.out, HO6.out⟩
      case measure => simp [intOf]; omega
    · obtain rfl : k = n := by omega
      have HTA := Lib.hid (show l.take k = l from List.take_of_length_le (by have := HN.out; omega))
      have HIS := Lib.hid (show IntsAt wr wr.heap.size AL (AdjL.flat (evened l z)) by
        have h2 := RowAt.of_own HOWN.out
        rw [HTA.out] at h2
        exact h2)
      have HEL := Lib.hid (show (evened l z).length = k by rw [evened_len, HN.out])
      have HEG := Lib.hid (fun j (hj : j < (evened l z).length) => evened_get hj)
      generalize evened l z = S at HIS HEL HEG
      have HLAY := Lib.hid (Lay_any wr S AL k cL HEL.out HIS.out)
      have HLOAD := Lib.hid (fun W (hb : Below wr.heap.size wr W) => Load_any W S AL k cL HEL.out ((HIS.out.below hb).up hb.size))
      by_cases hbad : (AdjL.lay S).2.2 = 0
      · have hwr : AdjL.wrong S = 0 := by
          refine Decidable.byContradiction (fun hw => ?_)
          unfold AdjL.lay at hbad
          rw [if_pos hw] at hbad
          exact hw hbad
        obtain ⟨hlen, hok⟩ := AdjL.wrong_ok hwr
        have hall : ¬ (1048576 < (AdjL.laySt S).all) := fun hw => by
          unfold AdjL.lay at hbad
          rw [if_neg (by rw [hwr]; decide), if_pos (by omega)] at hbad
          simp at hbad
        have hlay : AdjL.lay S = ((AdjL.laySt S).out, (AdjL.laySt S).all, 0) := by
          unfold AdjL.lay
          rw [if_neg (by rw [hwr]; decide), if_neg (by omega)]
        have ht := AdjL.tight hok HEG.out
        rw [hlay, ht] at HLAY
        rw [if_pos hwr, hwr] at HLOAD
        simp only at HLAY
        clear hbad hwr hok hlay hlen ht hall
        generalize AdjL.load S = ld at HLAY HLOAD
        go_wp2_with fail
        ((with_reducible refine HLAY.out.mono ?_); rintro e w2 ⟨v, rfl, hb2, AO, cO, rfl, hio⟩)
        have HB2 := Lib.hid (HBW.out.trans (hb2.mono HBW.out.size))
        have HL2 := Lib.hid (HLOAD.out w2 hb2)
        clear hb2 hio
        go_wp2_with fail
        ((with_reducible refine HL2.out.mono ?_); rintro e w3 ⟨rfl, hb3⟩)
        have HB3 := Lib.hid (HB2.out.trans (hb3.mono HB2.out.size))
        have q1 : (ld == ld) = true := by simp
        clear hb3
        go_wp2_with fail
        go_ret
        exact ⟨rfl, HB3.out⟩
      · have p0 : ((AdjL.lay S).2.2 == 0) = false := by simpa using hbad
        have p1 : ((AdjL.lay S).2.2 != 0) = true := by simpa using hbad
        generalize (AdjL.lay S).2.2 = e at HLAY p0 p1
        clear hbad
        go_wp2_with fail
        ((with_reducible refine HLAY.out.mono ?_); rintro e w2 ⟨v, rfl, hb2, AO, cO, rfl, hio⟩)
        have HB2 := Lib.hid (HBW.out.trans (hb2.mono HBW.out.size))
        clear hb2 hio
        go_wp2_with fail
        go_ret
        exact ⟨rfl, HB2.out⟩

set_option maxRecDepth 100000 in
theorem lifted (os : Os) (started : os.Started) (H : Type) (enc : TypeId × Value → H) :
    ReturnsInHanded {} Try.checked os 8 .any (Rows.roomTightSpec.pre6 enc Try.prog Try.f8 Rows.roomTightRow.domain false) (Rows.roomTightSpec.post enc Try.prog Try.f8 false true false false) := by
  refine Adj.law_lifted (C := Try.checked) (s := Rows.roomTightSpec) own started (by kernel_rfl) Try.func8 laid rfl rfl Try.underlying4
      (by rw [Try.params8]; intro t ht; simp only [List.mem_cons, List.not_mem_nil, or_false] at ht; rcases ht with rfl | rfl <;> exact ⟨by kernel_rfl, of_decide_eq_true (by kernel_rfl)⟩)
      (by intro ds hd; match ds, hd with | [d1, d2], _ => exact ⟨rfl, rfl, rfl⟩)
      (ChangeSpec.witness6 (enc := enc) (C := Try.checked) false ⟨#[], #[.slice none 0 0, .int .i64 0], []⟩ 8 (by kernel_rfl) (by kernel_rfl) (by kernel_rfl) (by kernel_rfl)) ?_
  intro W base args ds before hval0 hA0 _ hz0
  have hval : ∀ (j : Nat) t v, Try.f8.params[j]? = some t → args[j]? = some v → Value.okWide Try.prog W .any base t v := hval0
  have hA : DataW.TrodAll enc Try.prog W 0 (fun _ => true) true Try.f8.params.toList args.toList ds before := hA0
  have hz : (DataW.weightsEach Try.prog (Try.f8.params.toList ++ []) (ds ++ [])).all (· ≤ reachBytes) = true := hz0
  rw [Try.params8] at hA hval hz
  obtain ⟨v0, v1, d0, d1, p0, p1, rfl, rfl, rfl, h0, h1⟩ := trodAll_two hA
  obtain ⟨a0, len0, cap0, rfl⟩ := okWide_slice Try.underlying33 (hval 0 33 v0 rfl rfl)
  obtain ⟨z, rfl, rfl, rfl, w1⟩ := open_int Try.underlying3 (hval 1 3 v1 rfl rfl) h1
  obtain ⟨fuel, hf⟩ := h0
  have hf2 : DataW.trod enc Try.prog W 0 (fun _ => true) true fuel 33 [.slice a0 len0 cap0] = some (d0, p0) := by simpa [Value.cells] using hf
  have hl := slice_len Try.underlying33 hf2
  obtain ⟨A, l, cap, hv, hi, h1, h2⟩ := open_lives hf2
  have hbig : len0 * 24 ≤ 140737488351232 := by
    rcases hl with rfl | ⟨es, sp, e1, hlen⟩
    · omega
    · have e2 : d0 = .slice es sp := e1
      subst e2
      have := sized_slice hz (j := 0) (t := 33) (e := 37) (elems := es) (spare := sp) rfl rfl Try.underlying33
      rw [show Try.prog.bytesOf 37 = 24 by kernel_rfl, hlen] at this
      simp only [reachBytes] at this
      omega
  have e3 : len0 = l.length := by injection hv
  rw [hv]
  exact walk A cap z l W (by omega) hi

theorem proved : Rows.RoomTightSaid :=
  OpenClaim.holds_of_wide 8 Try.f8 rfl rfl rfl rfl rfl rfl rfl ⟨rfl, rfl, rfl, rfl, rfl⟩ rfl rfl rfl rfl rfl (by kernel_rfl) Try.func8 (by kernel_rfl)
    (of_decide_eq_true (by kernel_rfl)) (by unfold Func.isWrapper; first | (rw [if_pos (by decide +kernel)]; kernel_rfl) | (rw [if_neg (by decide +kernel)]; exact ⟨rfl, rfl⟩))
    (fun os started H enc _ => lifted os started H enc)
#print axioms proved
end Go.Proofs.Ytkopkicdmbnpgaa.roomTight
