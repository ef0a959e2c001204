/-
  slices.SortFunc of no changes; the walk of the program's Load. Conditions: the lives can be read.
-/
import Derived.Test.YtkopkicdmbnpgaaRoomT
import Derived.Test.YtkopkicdmbnpgaaRoomOwn
namespace Go.Proofs.Ytkopkicdmbnpgaa
set_option linter.unusedVariables false
open Go.RowKit Adj Go.Sort Go.Shelf

set_option maxRecDepth 100000 in
theorem insChg_nil (w : World) (A : Option Addr) (c : Nat) (F : Value) :
    Calls Try.prog 73 #[.slice A 0 c, .int .i64 0, .int .i64 0, F] w fun e w' => e = .returned (.tuple #[]) ∧ w' = w := by
  go_enter Try.func73, Try.ntmps73
  go_wp2_with fail
  refine wp_loop_rounds 1 ?_
  rw [rounds_succ]
  go_wp2_with fail
  go_end0
  exact ⟨rfl, rfl⟩
set_option maxRecDepth 100000 in
theorem pdqChg_nil (w : World) (A : Option Addr) (c : Nat) (lim : Int) (F : Value) :
    Calls Try.prog 61 #[.slice A 0 c, .int .i64 0, .int .i64 0, .int .i64 lim, F] w fun e w' => e = .returned (.tuple #[]) ∧ w' = w := by
  have HI := Lib.hid (insChg_nil w A c F)
  go_enter Try.func61, Try.ntmps61
  go_wp2_with fail
  refine wp_loop_rounds 1 ?_
  rw [rounds_succ]
  go_wp2_with fail
  ((with_reducible refine HI.out.mono ?_); rintro e w5 ⟨rfl, rfl⟩)
  go_wp2_with fail
  (try simp only [Exit.inBlock, Exit.then])
  refine bodyPost_ret (results_none rfl _ _ _) rfl ?_
  exact ⟨rfl, rfl⟩
set_option maxRecDepth 100000 in
theorem sortChg_nil (w : World) (A : Option Addr) (c : Nat) (F : Value) :
    Calls Try.prog 40 #[.slice A 0 c, F] w fun e w' => e = .returned (.tuple #[]) ∧ w' = w := by
  have HP := Lib.hid (fun lim => pdqChg_nil w A c lim F)
  have HL := Lib.hid (show Calls Try.prog 62 #[.int .u64 0] w fun e w' => e = .returned (.int .i64 (Lib.bitLen 0 : Nat)) ∧ w' = w from by
    have h := Any.bits_Len (SlLaysF0.n15.bits (P := Try.prog) (ρ := Try.sortChg_ren) { Try.sortChg with }) 0 w (by omega) (by omega)
    exact h)
  go_enter Try.func40, Try.ntmps40
  go_wp2_with fail
  ((with_reducible refine HL.out.mono ?_); rintro e w5 ⟨rfl, rfl⟩)
  go_wp2_with fail
  ((with_reducible refine (HP.out _).mono ?_); rintro e w5 ⟨rfl, rfl⟩)
  go_wp2_with fail
  go_end0
  exact ⟨rfl, rfl⟩

theorem Try.infoChg : (Try.prog.info? 71).map (fun i => (i.zero, i.size, i.bytes)) = some (some (.agg #[.int .i64 0, .int .i64 0]), 2, 16) := by kernel_rfl
namespace Lv
def chgCells (d : List (Int × Int)) : List Value := d.flatMap encC
theorem chgCells_append (a b : List (Int × Int)) : chgCells (a ++ b) = chgCells a ++ chgCells b := by simp [chgCells]
theorem chgCells_length : ∀ d : List (Int × Int), (chgCells d).length = 2 * d.length
  | [] => rfl
  | c :: d => by
    have := chgCells_length d
    show (encC c ++ chgCells d).length = _
    rw [List.length_append, this, List.length_cons]; show 2 + _ = _; omega
theorem chgCells_at : ∀ (d : List (Int × Int)) (j : Nat) (hj : j < d.length), (chgCells d)[j * 2]? = some (.int .i64 d[j].1) ∧ (chgCells d)[j * 2 + 1]? = some (.int .i64 d[j].2)
  | c :: d, 0, _ => ⟨rfl, rfl⟩
  | c :: d, j + 1, hj => by
    have ih := chgCells_at d j (by simpa using hj)
    show (encC c ++ chgCells d)[(j + 1) * 2]? = _ ∧ (encC c ++ chgCells d)[(j + 1) * 2 + 1]? = _
    rw [List.getElem?_append_right (by show 2 ≤ _; omega), List.getElem?_append_right (by show 2 ≤ _; omega)]
    have e1 : (j + 1) * 2 - (encC c).length = j * 2 := by show (j + 1) * 2 - 2 = _; omega
    have e2 : (j + 1) * 2 + 1 - (encC c).length = j * 2 + 1 := by show (j + 1) * 2 + 1 - 2 = _; omega
    rw [e1, e2]
    exact ih
theorem reads_cells {W : World} {g n s : Nat} {t : TypeId} {l : List Value} (h : Blk W g t l.toArray) (hl : l.length = n * s) : Adj.Reads W W.heap.size s (some ⟨g, 0, none⟩) n l :=
  ⟨hl, fun _ => ⟨⟨g, 0, none⟩, rfl, h.lt, fun j u hu => by
    have h2 : (⟨g, 0, none⟩ : Addr).add j = ⟨g, j, none⟩ := by
      unfold Addr.add
      split
      · rename_i e; subst e; rfl
      · simp
    rw [h2]
    exact h.at (by simpa using hu)⟩⟩
theorem row_of_own {W : World} {base g c : Nat} {d : List (Int × Int)} (h : W.ownsRow base 71 2 (.slice (some ⟨g, 0, none⟩) d.length c) d.length (chgCells d)) (hd : 0 < d.length) : Row W g d ∧ base ≤ g := by
  have hl := h.lt g rfl
  have hc := h.cells (g := g) rfl
  have hc2 : ∀ j u, (chgCells d)[j]? = some u → W.cell? ⟨g, j, none⟩ = some u := fun j u hu => by
    have h2 : (⟨g, 0, none⟩ : Addr).add j = ⟨g, j, none⟩ := by
      unfold Addr.add
      split
      · rename_i e; subst e; rfl
      · simp
    have := hc j u hu
    rwa [h2] at this
  refine ⟨⟨hl.2, fun i => ?_, fun j hj => ⟨hc2 _ _ (chgCells_at d j hj).1, hc2 _ _ (chgCells_at d j hj).2⟩⟩, hl.1⟩
  rcases h.2 with ⟨e1, _⟩ | ⟨g', cap, cur, e1, _, hh, _⟩
  · cases e1
  · have e : g = g' := by injection e1 with e; injection e with e; injection e
    subst e
    exact Adj.Blk.frozen (show Adj.Blk W g 71 cur from hh) i
theorem changes_small {l : List AdjL.Life} (h : ∀ x ∈ l, ¬ AdjL.bad x) {c : Int × Int} (hc : c ∈ AdjL.changes l) : -1048576 ≤ c.2 ∧ c.2 ≤ 1048576 := by
  obtain ⟨x, hx, _, e⟩ := AdjL.changes_mem hc
  have hb := h x hx
  unfold AdjL.bad at hb
  rcases e with e | e <;> rw [e] <;> dsimp only <;> omega
theorem changes_take {l : List AdjL.Life} {k : Nat} (hk : k < l.length) : AdjL.changes (l.take (k + 1)) = AdjL.changes (l.take k) ++ AdjL.change l[k] := by
  rw [List.take_succ_eq_append_getElem hk]
  unfold AdjL.changes
  rw [List.flatMap_append]; simp
theorem changes_len : ∀ l : List AdjL.Life, (AdjL.changes l).length ≤ 2 * l.length
  | [] => Nat.le_refl _
  | x :: l => by
    have := changes_len l
    show (AdjL.change x ++ AdjL.changes l).length ≤ _
    rw [List.length_append, List.length_cons]
    have : (AdjL.change x).length ≤ 2 := by unfold AdjL.change; split <;> simp
    omega
end Lv

set_option maxRecDepth 100000 in
set_option maxHeartbeats 4000000 in
theorem Load_any (w : World) (l : List AdjL.Life) (A : Option Addr) (n c : Nat) (hn : l.length = n) (h : IntsAt w w.heap.size A (AdjL.flat l)) :
    Calls Try.prog 19 #[.slice A n c] w fun e w' => e = .returned (.tuple #[.int .i64 (if AdjL.wrong l = 0 then AdjL.load l else 0), .int .i64 (AdjL.wrong l)]) ∧ Below w.heap.size w w' := by
  have HW := Lib.hid (Wrong_any w l A n c hn h)
  by_cases hbad : AdjL.wrong l = 0
  · obtain ⟨hlen, hok⟩ := AdjL.wrong_ok hbad
    have HOK := Lib.hid hok
    have H := Lib.hid h
    have HN := Lib.hid hn
    rw [hbad] at HW ⊢
    rw [if_pos rfl]
    obtain ⟨i0, hi0, hz0, hz1, hz2⟩ := info_parts Try.infoChg
    have HI := Lib.hid (And.intro hi0 (And.intro hz0 (And.intro hz1 hz2)))
    clear hi0 hz0 hz1 hz2 hbad hok h hn
    go_enter Try.func19, Try.ntmps19
    go_wp2_with fail
    ((with_reducible refine HW.out.mono ?_); rintro e w1 ⟨rfl, hb1⟩)
    have HB1 := Lib.hid hb1
    clear hb1
    go_wp2_with fail
    go_loopw [5, 19] (fun v kv wr => ∃ k : Nat, kv = .int .i64 (k : Int) ∧ k ≤ n ∧ Below w.heap.size w wr ∧ wr.ownsRow w.heap.size 71 2 v (AdjL.changes (l.take k)).length (Lv.chgCells (AdjL.changes (l.take k)))) (fun _ kv _ => n - (intOf kv).toNat)
    case atStart => exact ⟨0, rfl, by omega, HB1.out, rfl, .inl ⟨rfl, rfl⟩⟩
    case round =>
      obtain ⟨k, rfl, hk, hb, hov⟩ := hrel
      have HB := Lib.hid hb
      have HO := Lib.hid hov
      obtain ⟨Av, cv, rfl⟩ := Rm.own_form hov
      clear hb hov
      have hsz : w.heap.size ≤ wr.heap.size := HB.out.size
      by_cases hkn : k < n
      · have hkl : k < l.length := by have := HN.out; omega
        obtain ⟨b, off, rfl, hbb⟩ := Lv.spot H.out hkl
        obtain ⟨y1, y2, y3⟩ := Lv.cells H.out hkl
        have c1 := (HB.out.cell (cell_lt y1)).trans y1
        have c2 := (HB.out.cell (cell_lt y2)).trans y2
        have c3 := (HB.out.cell (cell_lt y3)).trans y3
        have HCT := Lib.hid (Lv.changes_take hkl)
        have hcl := Lv.changes_len (l.take k)
        rw [List.length_take] at hcl
        have hbx := HOK.out l[k] (List.getElem_mem hkl)
        obtain ⟨d, hd⟩ : ∃ d, AdjL.changes (l.take k) = d := ⟨_, rfl⟩
        rw [hd] at HCT HO hcl
        rw [hd]
        have hd2 : d.length ≤ 8192 := by omega
        have HX := Lib.hid (show Blk (wr.alloc (.cells #[.int .i64 l[k].f, .int .i64 l[k].t, .int .i64 l[k].w] 37)) wr.heap.size 37 #[.int .i64 l[k].f, .int .i64 l[k].t, .int .i64 l[k].w] from Blk.new _ _ _)
        have HNT := Lib.hid (fun W => nothing_any W l[k])
        have HCG := Lib.hid (show AdjL.change l[k] = if AdjL.nothing l[k] then [] else [(l[k].f, l[k].w), (l[k].t, -l[k].w)] from rfl)
        generalize l[k] = x at c1 c2 c3 HCT HX HNT hbx HCG
        obtain ⟨f, t, z⟩ := x
        unfold Lv.lifeV at HNT
        simp only at c1 c2 c3 HX HNT
        have hbx2 : ¬ (f < 0 ∨ t < f ∨ 1048576 < t ∨ z < 0 ∨ 1048576 < z) := hbx
        have HB2 := Lib.hid (HB.out.alloc HB.out.size (.cells #[.int .i64 f, .int .i64 t, .int .i64 z] 37))
        have HO2 := Lib.hid (HO.out.alloc (.cells #[.int .i64 f, .int .i64 t, .int .i64 z] 37))
        have hzz : -1048576 ≤ -z ∧ -z ≤ 0 := by omega
        have qz : IntKind.i64.wrap (-z) = -z := IntWalk.i64_in _ (by omega)
        clear y1 y2 y3 hd hbx
        obtain ⟨W2, hW2⟩ : ∃ W2, wr.alloc (.cells #[.int .i64 f, .int .i64 t, .int .i64 z] 37) = W2 := ⟨_, rfl⟩
        rw [hW2] at HX HB2 HO2
        have x0 := HX.out.cell 0
        have x1 := HX.out.cell 1
        have x2 := HX.out.cell 2
        go_wp2_with fail
        ((with_reducible refine (HNT.out _).mono ?_); rintro e w5 ⟨rfl, hb5⟩)
        have HX5 := Lib.hid (HX.out.below hb5 HX.out.lt)
        have HB5 := Lib.hid (HB2.out.trans (hb5.mono HB2.out.size))
        have HO5 := Lib.hid (Rm.own_keep HO2.out (fun g hg => hb5.block g (HO2.out.lt g hg).2))
        clear hb5 x0 x1 x2 hW2
        have x0 := HX5.out.cell 0
        have x1 := HX5.out.cell 1
        have x2 := HX5.out.cell 2
        cases hnt : AdjL.nothing ⟨f, t, z⟩ with
        | true =>
          have HC2 := Lib.hid (show AdjL.changes (l.take (k + 1)) = d by rw [HCT.out, HCG.out, if_pos hnt, List.append_nil])
          clear hnt
          go_wp2_with fail
          go_roundw
          case rel => exact ⟨k + 1, by go_num, by omega, HB5.out, by rw [HC2.out]; exact HO5.out⟩
          case measure => simp [intOf]; omega
        | false =>
          have HC2 := Lib.hid (show AdjL.changes (l.take (k + 1)) = d ++ [(f, z), (t, -z)] by rw [HCT.out, HCG.out, if_neg (by rw [hnt]; decide)])
          clear hnt
          obtain ⟨g1, g2, g3, g4⟩ := HI.out
          have HB6 := Lib.hid HB5.out.size
          go_wp2_with (at_builtin; refine wpList_append_any _ rfl _ _ 68 rfl w.heap.size 71 i0 (.agg #[.int .i64 0, .int .i64 0]) 2 16 Try.underlying68 g1 g2 g3 g4 rfl (by decide) _ _ _ rfl (HO5.out.alloc _) _ (some ⟨w5.heap.size, 0, none⟩) 2 2 [.int .i64 f, .int .i64 z, .int .i64 t, .int .i64 (-z)] rfl (Lv.reads_cells (Blk.new _ 71 _) rfl) (by intro u hu; simp at hu; rcases hu with rfl | rfl | rfl | rfl <;> rfl) (by unfold maxLen; omega) (by omega) (by have := HB6.out; simp; omega) ?_)
          intro v' w6 how hgr _
          have HBZ := Lib.hid ((HB5.out.alloc HB5.out.size (.cells #[.int .i64 f, .int .i64 z, .int .i64 t, .int .i64 (-z)] 71)).grown hgr (by have := HB6.out; simp; omega) (fun g hg => (HO5.out.lt g hg).1))
          have HO6 := Lib.hid (show w6.ownsRow w.heap.size 71 2 v' (AdjL.changes (l.take (k + 1))).length (Lv.chgCells (AdjL.changes (l.take (k + 1)))) by
            rw [HC2.out, List.length_append, Lv.chgCells_append]; exact how)
          clear how hgr
          go_wp2_with fail
          go_roundw
          case rel => exact ⟨k + 1, by go_num, by omega, HBZ.out, HO6.out⟩
          case measure => simp [intOf]; omega
      · obtain rfl : k = n := by omega
        have HTA := Lib.hid (show l.take k = l from List.take_of_length_le (by have := HN.out; omega))
        rw [HTA.out] at HO ⊢
        have hcl := Lv.changes_len l
        have hdl : (AdjL.changes l).length ≤ 8192 := by omega
        have HSM := Lib.hid (fun c (hc : c ∈ AdjL.changes l) => Lv.changes_small HOK.out hc)
        have HSL := Lib.hid (fun d (hp : d.Perm (AdjL.changes l)) (hs : AdjL.Srt d) => AdjL.sweep_load HOK.out hp hs)
        have HS := Lib.hid (show Calls Try.prog 40 #[.slice Av (AdjL.changes l).length cv, .func (.func 41) #[] #[]] wr fun e w' => e = .returned (.tuple #[]) ∧ ∃ d' : List (Int × Int), d'.Perm (AdjL.changes l) ∧ AdjL.Srt d' ∧ (∀ (j : Nat) (hj : j < d'.length), ∃ g, Av = some ⟨g, 0, none⟩ ∧ w'.cell? ⟨g, j * 2, none⟩ = some (.int .i64 d'[j].1) ∧ w'.cell? ⟨g, j * 2 + 1, none⟩ = some (.int .i64 d'[j].2)) ∧ Below w.heap.size w w' from by
          have HB' := HB.out
          have HO' := HO.out
          generalize AdjL.changes l = d at HO' hdl
          by_cases hd : 0 < d.length
          · obtain ⟨g, cap, hv, _⟩ := HO'.form hd
            have hA : Av = some ⟨g, 0, none⟩ := by injection hv
            subst hA
            have hrow := Lv.row_of_own HO' hd
            refine (sortChg_any wr g cv _ d rfl (by omega) hrow.1).mono ?_
            rintro e w' ⟨rfl, d', p1, p2, p3, p4⟩
            exact ⟨rfl, d', p1, p2, fun j hj => ⟨g, rfl, p3 j hj⟩, HB'.trans (p4 w.heap.size hrow.2)⟩
          · have e : d = [] := List.length_eq_zero_iff.1 (by omega)
            subst e
            refine (sortChg_nil wr Av cv _).mono ?_
            rintro e w' ⟨rfl, rfl⟩
            exact ⟨rfl, [], List.Perm.refl _, List.Pairwise.nil, fun j hj => by simp at hj, HB'⟩)
        generalize hdd : AdjL.changes l = d at HS hdl HSM HSL
        clear hdd
        go_wp2_with fail
        ((with_reducible refine HS.out.mono ?_); rintro e w5 ⟨rfl, d', hp, hs, hcells, hb5⟩)
        have HCE := Lib.hid hcells
        have HB5 := Lib.hid hb5
        have HAN := Lib.hid (HSL.out d' hp hs)
        have HSM2 := Lib.hid (fun c (hc : c ∈ d') => HSM.out c (hp.subset hc))
        have HDL := Lib.hid hp.length_eq
        clear hcells hb5 hp hs
        go_wp2_with fail
        go_loopw [8, 9, 45] (fun nv mv kv wr => ∃ (k : Nat) (now most : Int), kv = .int .i64 (k : Int) ∧ nv = .int .i64 now ∧ mv = .int .i64 most ∧ k ≤ d.length ∧ (-((k : Int) * 1048576) ≤ now ∧ now ≤ (k : Int) * 1048576) ∧ (0 ≤ most ∧ most ≤ (k : Int) * 1048576) ∧ AdjL.sweep d' 0 0 = AdjL.sweep (d'.drop k) now most ∧ Below w5.heap.size w5 wr) (fun _ _ kv _ => d.length - (intOf kv).toNat)
        case atStart => exact ⟨0, 0, 0, rfl, rfl, rfl, by omega, by omega, by omega, rfl, Below.refl _ _⟩
        case round =>
          obtain ⟨k2, now, most, rfl, rfl, rfl, hk2, ⟨hn0, hn1⟩, ⟨hm0, hm1⟩, hsw, hb⟩ := hrel
          have HSW := Lib.hid hsw
          have HBS := Lib.hid hb
          clear hsw hb
          have HBZ := Lib.hid (HB5.out.trans (HBS.out.mono HB5.out.size))
          by_cases hlt : k2 < d.length
          · have hkl : k2 < d'.length := by have := HDL.out; omega
            obtain ⟨g, rfl, y1, y2⟩ := HCE.out k2 hkl
            have c1 := (HBS.out.cell (cell_lt y1)).trans y1
            have c2 := (HBS.out.cell (cell_lt y2)).trans y2
            have hsm := HSM2.out d'[k2] (List.getElem_mem hkl)
            have HDR := Lib.hid (show AdjL.sweep d' 0 0 = AdjL.sweep (d'.drop (k2 + 1)) (now + d'[k2].2) (max most (now + d'[k2].2)) by
              rw [HSW.out, List.drop_eq_getElem_cons hkl]; rfl)
            generalize d'[k2] = x at c1 c2 hsm HDR
            obtain ⟨t, y⟩ := x
            simp only at c1 c2 hsm HDR
            obtain ⟨hy0, hy1⟩ := hsm
            have HB6 := Lib.hid (HBS.out.alloc HBS.out.size (.cells #[.int .i64 t, .int .i64 y] 71))
            have HX := Lib.hid (Blk.new wr 71 #[.int .i64 t, .int .i64 y])
            obtain ⟨W2, hW2⟩ : ∃ W2, wr.alloc (.cells #[.int .i64 t, .int .i64 y] 71) = W2 := ⟨_, rfl⟩
            rw [hW2] at HB6 HX
            have x0 := HX.out.cell 0
            have x1 := HX.out.cell 1
            clear y1 y2
            by_cases hgt : most < now + y
            · have hmax : max most (now + y) = now + y := by omega
              rw [hmax] at HDR
              go_wp2_with fail
              go_roundw
              case rel => exact ⟨k2 + 1, now + y, now + y, by go_num, rfl, rfl, by omega, by omega, by omega, HDR.out, HB6.out⟩
              case measure => simp [intOf]; omega
            · have hmax : max most (now + y) = most := by omega
              rw [hmax] at HDR
              go_wp2_with fail
              go_roundw
              case rel => exact ⟨k2 + 1, now + y, most, by go_num, rfl, rfl, by omega, by omega, by omega, HDR.out, HB6.out⟩
              case measure => simp [intOf]; omega
          · obtain rfl : k2 = d.length := by omega
            have HAN2 := Lib.hid (show AdjL.load l = most by
              rw [← HAN.out, HSW.out, List.drop_eq_nil_of_le (by have := HDL.out; omega)]; rfl)
            go_wp2_with fail
            go_ret2
            exact ⟨by rw [HAN2.out]; rfl, HBZ.out⟩
  · rw [if_neg hbad]
    generalize AdjL.wrong l = t at hbad HW
    have t0 : (t == 0) = false := by simpa using hbad
    clear hn h
    go_enter Try.func19, Try.ntmps19
    go_wp2_with fail
    ((with_reducible refine HW.out.mono ?_); rintro e w1 ⟨rfl, hb1⟩)
    have HB1 := Lib.hid hb1
    clear hb1
    go_wp2_with fail
    all_goals first | (exfalso; simp at *; omega) | (go_ret2; exact ⟨rfl, HB1.out⟩)
end Go.Proofs.Ytkopkicdmbnpgaa
