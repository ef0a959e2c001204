/-
  The walk of the program's Lay. Conditions: the lives can be read.
-/
import Derived.Test.YtkopkicdmbnpgaaRoomZf
import Derived.Test.YtkopkicdmbnpgaaRoomI
namespace Go.Proofs.Ytkopkicdmbnpgaa
set_option linter.unusedVariables false
open Go.RowKit Adj

namespace Ld
def idn (n k : Nat) : List Int := AdjL.upToN k ++ List.replicate (n - k) 0
theorem idn_len {n k : Nat} (h : k ≤ n) : (idn n k).length = n := by unfold idn; rw [List.length_append, AdjL.upToN_length, List.length_replicate]; omega
theorem idn_set {n k : Nat} (h : k < n) : (idn n k).set k (k : Int) = idn n (k + 1) := by
  unfold idn
  rw [List.set_append_right _ _ (by rw [AdjL.upToN_length]; exact Nat.le_refl _), AdjL.upToN_length, Nat.sub_self, show n - k = (n - (k + 1)) + 1 by omega, List.replicate_succ, List.set_cons_zero]
  show _ = (AdjL.upToN k ++ [(k : Int)]) ++ _
  rw [List.append_assoc]; rfl
end Ld

set_option maxRecDepth 100000 in
set_option maxHeartbeats 8000000 in
theorem Lay_any (w : World) (l : List AdjL.Life) (A : Option Addr) (n c : Nat) (hn : l.length = n) (h : IntsAt w w.heap.size A (AdjL.flat l)) :
    Calls Try.prog 23 #[.slice A n c] w fun e w' => ∃ v, e = .returned (.tuple #[v, .int .i64 (AdjL.lay l).2.1, .int .i64 (AdjL.lay l).2.2]) ∧ Below w.heap.size w w' ∧ ∃ AO cO, v = .slice AO (AdjL.lay l).1.length cO ∧ IntsAt w' w'.heap.size AO (AdjL.lay l).1 := by
  have HBX := Lib.hid (Blk.new w 33 #[.slice A n c])
  have HW0 := Lib.hid ((Below.refl w.heap.size w).alloc (Nat.le_refl _) (.cells #[.slice A n c] 33))
  have HW := Lib.hid (Wrong_any (w.alloc (.cells #[.slice A n c] 33)) l A n c hn ((h.alloc (Nat.le_refl _) _).up (by simp)))
  have hsz : (w.alloc (.cells #[.slice A n c] 33)).heap.size = w.heap.size + 1 := by simp
  have cbx := HBX.out.cell 0
  generalize hw0 : w.alloc (.cells #[.slice A n c] 33) = w0 at HBX HW0 HW hsz cbx
  by_cases hbad : AdjL.wrong l = 0
  · obtain ⟨hlen, hok⟩ := AdjL.wrong_ok hbad
    have hbig : n ≤ 4096 := by omega
    have HOK := Lib.hid hok
    have H := Lib.hid h
    have HN := Lib.hid hn
    have HLAY := Lib.hid (show AdjL.lay l = if 1048576 < (AdjL.laySt l).all then ([], 0, 5) else ((AdjL.laySt l).out, (AdjL.laySt l).all, 0) by unfold AdjL.lay; rw [if_neg (by rw [hbad]; decide)])
    rw [hbad] at HW
    have hmk := fun W => run_make_int n (by omega) W
    have hmf : ∀ (fn : Fn) (first cap : Array Value) (w : World), (Instr.makeFunc fn first cap).run Try.prog w = .ok (.func fn first cap) w := fun _ _ _ _ => rfl
    clear hbad hok h hn hlen
    go_enter Try.func23, Try.ntmps23
    go_wp2_with fail
    ((with_reducible refine HW.out.mono ?_); rintro e w1 ⟨rfl, hb1⟩)
    have HB1 := Lib.hid (HW0.out.trans (hb1.mono (by omega)))
    have HX1 := Lib.hid (HBX.out.below hb1 (by omega))
    have hs1 : w.heap.size < w1.heap.size := by have := hb1.size; omega
    clear hb1 hw0 cbx
    have cbx : w1.cell? ⟨w.heap.size, 0, none⟩ = some (.slice A n c) := HX1.out.cell 0
    go_wp2_with fail
    go_loopw [26] (fun kv wr => ∃ k : Nat, kv = .int .i64 (k : Int) ∧ k ≤ n ∧ Below w1.heap.size w1 wr ∧ Blk wr w1.heap.size 3 (Adj.ints (Ld.idn n k)).toArray) (fun kv _ => n - (intOf kv).toNat)
    case atStart => exact ⟨0, rfl, by omega, (Below.refl _ _).alloc (Nat.le_refl _) _, Blk.new _ _ _⟩
    case round =>
      obtain ⟨k, rfl, hk, hb, hblk⟩ := hrel
      have HB := Lib.hid hb
      have HBK := Lib.hid hblk
      clear hb hblk
      by_cases hkn : k < n
      · have HBN := Lib.hid (show Blk (wr.setCell ⟨w1.heap.size, k, none⟩ (.int .i64 (k : Int))) w1.heap.size 3 (Adj.ints (Ld.idn n (k + 1))).toArray by
          have h2 := HBK.out.set_ k (.int .i64 (k : Int))
          rwa [ints_set, Ld.idn_set hkn] at h2)
        have HBB := Lib.hid (HB.out.setCell (p := ⟨w1.heap.size, k, none⟩) (Nat.le_refl _) (.int .i64 (k : Int)))
        have fz := HBK.out.frozen k
        obtain ⟨u, hu⟩ : ∃ u, wr.cell? ⟨w1.heap.size, k, none⟩ = some u := ⟨_, (HBK.out.cell k).trans (Array.getElem?_eq_getElem (by
          have h2 := Ld.idn_len (n := n) (k := k) (by omega)
          rw [List.size_toArray]; unfold Adj.ints; rw [List.length_map]; omega))⟩
        obtain ⟨W2, hW2⟩ : ∃ W2, wr.setCell ⟨w1.heap.size, k, none⟩ (.int .i64 (k : Int)) = W2 := ⟨_, rfl⟩
        rw [hW2] at HBN HBB
        go_wp2_with fail
        go_roundw
        case rel => exact ⟨k + 1, by go_num, by omega, HBB.out, HBN.out⟩
        case measure => simp [intOf]; omega
      · obtain rfl : k = n := by omega
        have HBE := Lib.hid (HB1.out.trans (HB.out.mono HB1.out.size))
        have HS := Lib.hid (show Calls Try.prog 28 #[.slice (some ⟨w1.heap.size, 0, none⟩) k k, .func (.func 43) #[] #[.pointer (some ⟨w.heap.size, 0, none⟩)]] wr fun e w' => e = .returned (.tuple #[]) ∧ Below w1.heap.size w1 w' ∧ ∃ cur, Blk w' w1.heap.size 3 cur ∧ ∀ (j : Nat) (x : Int), (AdjL.order l)[j]? = some x → cur[j]? = some (.int .i64 x) from by
          have hidn : Ld.idn k k = AdjL.upToN k := by unfold Ld.idn; rw [Nat.sub_self]; simp
          have hblk := HBK.out
          rw [hidn] at hblk
          have hup := AdjL.upToN_length k
          by_cases hk0 : 0 < k
          · obtain ⟨bL, off, rfl, hbL⟩ := Lv.spot H.out (k := 0) (by have := HN.out; omega)
            have hI : IntsAt wr wr.heap.size (some ⟨bL, off, none⟩) (AdjL.flat l) := (H.out.below HBE.out).up HBE.out.size
            have hbox : wr.cell? ⟨w.heap.size, 0, none⟩ = some (.slice (some ⟨bL, off, none⟩) k c) := (HB.out.cell (p := ⟨w.heap.size, 0, none⟩) hs1).trans cbx
            have hcmp := layCmp wr w1.heap.size w.heap.size bL off k c l HN.out hbox hI ⟨by omega, by omega⟩
            have hro : Sr.Ro wr w1.heap.size (AdjL.upToN k) wr := ⟨Sr.Fr.refl _ _, HBK.out.lt, _, hblk, fun j x hx => by
              unfold Adj.ints; simp [hx]⟩
            have hcon := sortStable_any wr wr w1.heap.size k _ _ (AdjL.fromOf l) _ (AdjL.upToN k) k hup.symm (by omega) hcmp (fun x hx => AdjL.upToN_mem.1 hx) (AdjL.upToN_asc k) hro
            refine hcon.mono ?_
            rintro e w' ⟨rfl, T, t1, t2, t3⟩
            have hT : T = AdjL.order l := AdjL.order_eq (by rw [HN.out]; exact t1) t2
            subst hT
            exact ⟨rfl, HB.out.trans (t3.fr.from HB.out.size (Nat.le_refl _)), t3.row⟩
          · obtain rfl : k = 0 := by omega
            refine (sortStable_nil wr _ 0 _).mono ?_
            rintro e w' ⟨rfl, rfl⟩
            refine ⟨rfl, HB.out, _, hblk, fun j x hx => ?_⟩
            have : (AdjL.order l).length = 0 := by rw [(AdjL.order_perm l).length_eq, AdjL.upToN_length, HN.out]
            have h3 := (List.getElem?_eq_some_iff.1 hx).1
            omega)
        have cbx2 := (HB.out.cell (p := ⟨w.heap.size, 0, none⟩) hs1).trans cbx
        go_wp2_with fail
        ((with_reducible refine HS.out.mono ?_); rintro e w5 ⟨rfl, hb5, cur, hcur, hord⟩)
        have HB5 := Lib.hid hb5
        have HBE5 := Lib.hid (HB1.out.trans (hb5.mono HB1.out.size))
        have HCU := Lib.hid hcur
        have HORD := Lib.hid hord
        have cbx5 := (hb5.cell (p := ⟨w.heap.size, 0, none⟩) hs1).trans cbx
        clear hb5 hcur hord cbx cbx2
        have HOP := Lib.hid (show (AdjL.order l).length = k by rw [(AdjL.order_perm l).length_eq, AdjL.upToN_length, HN.out])
        have HOS := Lib.hid (show Adj.Blk (w5.alloc (.cells (Adj.ints (List.replicate k 0)).toArray 3)) w5.heap.size 3 (Adj.ints (List.replicate l.length 0)).toArray by rw [HN.out]; exact Blk.new _ _ _)
        have hg6 : w1.heap.size < w5.heap.size := HCU.out.lt
        go_wp2_with fail
        go_loopw [9, 10, 42] (fun av lv kv wr => ∃ (r : Nat) (D : List Bool) (s : AdjL.St), kv = .int .i64 (r : Int) ∧ av = .int .i64 s.all ∧ r ≤ k ∧ AdjL.Ok l ((AdjL.order l).drop r) D s ∧ AdjL.laySt l = AdjL.layGo l ((AdjL.order l).drop r) s ∧ s.all ≤ (r : Int) * 1048576 ∧ s.lies.length ≤ r ∧ Below w5.heap.size w5 wr ∧ Blk wr w5.heap.size 3 (Adj.ints s.out).toArray ∧ wr.ownsRow (w5.heap.size + 1) 78 3 lv s.lies.length (Adj.ints (Ld.lints s.lies))) (fun _ _ kv _ => k - (intOf kv).toNat)
        case atStart => exact ⟨0, _, ⟨List.replicate l.length 0, [], 0⟩, rfl, rfl, by omega, AdjL.ok_start l, rfl, by show (0 : Int) ≤ _; omega, by show (0 : Nat) ≤ 0; omega, (Below.refl _ _).alloc (Nat.le_refl _) _, HOS.out, rfl, .inl ⟨rfl, rfl⟩⟩
        case round =>
          obtain ⟨r, D, s, rfl, rfl, hr, hok, hst, hall, hll, hb, hout, hown⟩ := hrel
          have HOK2 := Lib.hid hok
          have HST := Lib.hid hst
          have HB6 := Lib.hid hb
          have HOUT := Lib.hid hout
          have HOWN := Lib.hid hown
          have hall0 := hok.all0
          have HBW := Lib.hid (HBE5.out.trans (hb.mono HBE5.out.size))
          obtain ⟨AL, cL, hlv⟩ := Rm.own_form hown
          subst hlv
          have hsb : w5.heap.size + 1 ≤ wr.heap.size := hout.lt
          clear hok hst hb hout hown
          by_cases hrk : r < k
          · have hro : r < (AdjL.order l).length := by have := HOP.out; omega
            have HDR := Lib.hid (show (AdjL.order l).drop r = (AdjL.order l)[r] :: (AdjL.order l).drop (r + 1) from List.drop_eq_getElem_cons hro)
            have c6 : wr.cell? ⟨w1.heap.size, r, none⟩ = some (.int .i64 (AdjL.order l)[r]) := (HB6.out.cell (p := ⟨w1.heap.size, r, none⟩) hg6).trans (HCU.out.at (HORD.out r _ (List.getElem?_eq_getElem hro)))
            have hrng := (AdjL.upToN_mem (n := l.length)).1 ((AdjL.order_perm l).subset (List.getElem_mem hro))
            generalize (AdjL.order l)[r] = xi at c6 HDR hrng
            obtain ⟨i, rfl⟩ : ∃ i : Nat, xi = (i : Int) := ⟨xi.toNat, by omega⟩
            have hil : i < l.length := by omega
            have hik : (i : Int) < (k : Int) := by have := HN.out; omega
            have hi0 : (0 : Int) ≤ (i : Int) := by omega
            have HOK3 := Lib.hid (show AdjL.Ok l ((i : Int) :: (AdjL.order l).drop (r + 1)) D s by rw [← HDR.out]; exact HOK2.out)
            have HST3 := Lib.hid (show AdjL.laySt l = AdjL.layGo l ((AdjL.order l).drop (r + 1)) (AdjL.step l i s) by
              rw [HST.out, HDR.out]; rfl)
            have HOK4 := Lib.hid (AdjL.ok_step HOK.out HOK3.out)
            have cbx6 := (HB6.out.cell (p := ⟨w.heap.size, 0, none⟩) (by show w.heap.size < w5.heap.size; omega)).trans cbx5
            obtain ⟨bL, off, rfl, hbL⟩ := Lv.spot H.out hil
            have hget : AdjL.get l i = l[i] := by unfold AdjL.get; rw [List.getD_eq_getElem?_getD, List.getElem?_eq_getElem hil]; rfl
            obtain ⟨y1, y2, y3⟩ := Lv.cells H.out hil
            rw [← hget] at y1 y2 y3
            have c1 := (HBW.out.cell (cell_lt y1)).trans y1
            have c2 := (HBW.out.cell (cell_lt y2)).trans y2
            have c3 := (HBW.out.cell (cell_lt y3)).trans y3
            have hbx := HOK.out _ (AdjL.get_mem hil)
            have HNT := Lib.hid (fun W => nothing_any W (AdjL.get l i))
            have HSTEP := Lib.hid (show AdjL.step l i s = if AdjL.nothing (AdjL.get l i) then s else ⟨s.out.set i (AdjL.lowest (AdjL.now (AdjL.get l i) s.lies) (AdjL.get l i).w 0), AdjL.put (AdjL.now (AdjL.get l i) s.lies) ⟨AdjL.lowest (AdjL.now (AdjL.get l i) s.lies) (AdjL.get l i).w 0, AdjL.lowest (AdjL.now (AdjL.get l i) s.lies) (AdjL.get l i).w 0 + (AdjL.get l i).w, (AdjL.get l i).t⟩, max s.all (AdjL.lowest (AdjL.now (AdjL.get l i) s.lies) (AdjL.get l i).w 0 + (AdjL.get l i).w)⟩ from rfl)
            have HPS := Lib.hid (AdjL.place_spec HOK.out HOK3.out)
            have HKP := Lib.hid (show AdjL.now (AdjL.get l i) s.lies = Ld.keep (AdjL.get l i).f s.lies from rfl)
            clear y1 y2 y3 hget
            generalize AdjL.get l i = x at c1 c2 c3 hbx HNT HSTEP HPS HKP HOK4
            obtain ⟨f, t, z⟩ := x
            unfold Lv.lifeV at HNT
            simp only at c1 c2 c3 HNT HKP
            have hbx2 : ¬ (f < 0 ∨ t < f ∨ 1048576 < t ∨ z < 0 ∨ 1048576 < z) := hbx
            have HXB := Lib.hid (Blk.new wr 37 #[.int .i64 f, .int .i64 t, .int .i64 z])
            have HB7 := Lib.hid (HB6.out.alloc HB6.out.size (.cells #[.int .i64 f, .int .i64 t, .int .i64 z] 37))
            have HO7 := Lib.hid (HOWN.out.alloc (.cells #[.int .i64 f, .int .i64 t, .int .i64 z] 37))
            have HU7 := Lib.hid (HOUT.out.alloc (.cells #[.int .i64 f, .int .i64 t, .int .i64 z] 37))
            clear hbx
            obtain ⟨W2, hW2⟩ : ∃ W2, wr.alloc (.cells #[.int .i64 f, .int .i64 t, .int .i64 z] 37) = W2 := ⟨_, rfl⟩
            have hW2s : W2.heap.size = wr.heap.size + 1 := by rw [← hW2]; simp
            rw [hW2] at HXB HB7 HO7 HU7
            have x0 := HXB.out.cell 0
            have x1 := HXB.out.cell 1
            have x2 := HXB.out.cell 2
            go_wp2_with fail
            ((with_reducible refine (HNT.out _).mono ?_); rintro e w8 ⟨rfl, hb8⟩)
            have HX8 := Lib.hid (HXB.out.below hb8 HXB.out.lt)
            have HB8 := Lib.hid (HB7.out.trans (hb8.mono HB7.out.size))
            have HO8 := Lib.hid (Rm.own_keep HO7.out (fun g hg => hb8.block g (HO7.out.lt g hg).2))
            have HU8 := Lib.hid (HU7.out.below hb8 HU7.out.lt)
            have hs8 : w5.heap.size + 1 ≤ w8.heap.size := HU8.out.lt
            clear hb8 x0 x1 x2 hW2 c1 c2 c3 cbx6 c6
            cases hnt : AdjL.nothing ⟨f, t, z⟩ with
            | true =>
              rw [hnt] at HSTEP HOK4
              have HSE := Lib.hid (HSTEP.out.trans (if_pos rfl))
              rw [HSE.out] at HST3 HOK4
              rw [if_pos rfl] at HOK4
              clear hnt
              go_wp2_with fail
              go_roundw
              case rel => exact ⟨r + 1, D, s, by go_num, rfl, by omega, HOK4.out, HST3.out, by omega, by omega, HB8.out, HU8.out, HO8.out⟩
              case measure => simp [intOf]; omega
            | false =>
              rw [hnt] at HSTEP HOK4
              obtain ⟨p0, p1, p2, p3⟩ := HPS.out hnt
              have HSE := Lib.hid (HSTEP.out.trans (if_neg (by decide)))
              rw [HSE.out] at HST3 HOK4
              rw [if_neg (by decide)] at HOK4
              have hap := AdjL.filter_apart HOK3.out.apart (fun y => decide (f < y.to))
              have HAP := Lib.hid (show AdjL.Apart (Ld.keep f s.lies) from hap)
              have hplt : AdjL.lowest (AdjL.now ⟨f, t, z⟩ s.lies) z 0 ≤ s.all := by
                rcases p1 with p1 | ⟨k2, hk2, hD2, p1, _⟩
                · have h1 : AdjL.lowest (AdjL.now ⟨f, t, z⟩ s.lies) z 0 = 0 := p1
                  omega
                · have h1 : AdjL.lowest (AdjL.now ⟨f, t, z⟩ s.lies) z 0 = _ := p1
                  have h2 := (HOK3.out.some_ k2 hk2 hD2).2.2.1
                  omega
              have hpz : 0 ≤ AdjL.lowest (AdjL.now ⟨f, t, z⟩ s.lies) z 0 := p0
              have HLB := Lib.hid (fun y (hy : y ∈ Ld.keep f s.lies) => show 0 ≤ y.at_ ∧ y.end_ ≤ 1099511627776 by
                have h1 := HAP.out.2 y hy
                obtain ⟨k2, hk2, hD2, rfl⟩ := HOK3.out.from_ y (List.mem_filter.1 hy).1
                have h2 := (HOK3.out.some_ k2 hk2 hD2).2.2.1
                exact ⟨h1.1, by show s.out.getD k2 0 + (AdjL.get l k2).w ≤ _; omega⟩)
              have hkl := List.length_filter_le (fun y : AdjL.Laid => decide (f < y.to)) s.lies
              have hkl2 : (Ld.keep f s.lies).length ≤ s.lies.length := hkl
              have HDE := Lib.hid (delete_any w8 (w5.heap.size + 1) s.lies (.slice AL s.lies.length cL) wr.heap.size f (by omega) (HX8.out.cell 0) (fun e => (Rm.own_blk_ne HO8.out HX8.out (by decide)) e) hs8 HO8.out)
              have x0 := HX8.out.cell 0
              have x1 := HX8.out.cell 1
              have x2 := HX8.out.cell 2
              rw [HKP.out] at HSE HST3 HOK4 hplt hpz
              obtain ⟨p, hp⟩ : ∃ p, AdjL.lowest (Ld.keep f s.lies) z 0 = p := ⟨_, rfl⟩
              rw [hp] at HSE HST3 HOK4 hplt hpz
              have HP := Lib.hid hp
              have HXNE := Lib.hid (show (Value.slice AL s.lies.length cL).ownBlock ≠ some wr.heap.size from Rm.own_blk_ne HO8.out HX8.out (by decide))
              clear hp hap hkl p0 p1 p2 p3 hnt HPS HKP
              go_wp2_with fail
              ((with_reducible refine HDE.out.mono ?_); rintro e w9 ⟨v9, rfl, hkp9, ho9⟩)
              have HB9 := Lib.hid (HB8.out.trans (hkp9.1.mono (by omega)))
              have HX9 := Lib.hid (show Adj.Blk w9 wr.heap.size 37 #[.int .i64 f, .int .i64 t, .int .i64 z] from (hkp9.2 _ HX8.out.lt HXNE.out).trans HX8.out)
              have HU9 := Lib.hid (HU8.out.below hkp9.1 (by omega))
              have HO9 := Lib.hid ho9
              have hs9 : w5.heap.size + 1 ≤ w9.heap.size := HU9.out.lt
              obtain ⟨A9, c9, hv9⟩ := Rm.own_form ho9
              subst hv9
              clear hkp9 ho9 x0 x1 x2
              have HLW := Lib.hid (lowest_any w9 (Ld.keep f s.lies) A9 _ c9 z rfl (by omega) (by omega) HLB.out (Ld.ints_own HO9.out))
              rw [HP.out] at HLW
              have x0 := HX9.out.cell 0
              have x1 := HX9.out.cell 1
              have x2 := HX9.out.cell 2
              go_wp2_with fail
              ((with_reducible refine HLW.out.mono ?_); rintro e wa ⟨rfl, hba⟩)
              have HBa := Lib.hid (HB9.out.trans (hba.mono HB9.out.size))
              have HXa := Lib.hid (HX9.out.below hba HX9.out.lt)
              have HUa := Lib.hid (HU9.out.below hba HU9.out.lt)
              have HOa := Lib.hid (Rm.own_keep HO9.out (fun g hg => hba.block g (HO9.out.lt g hg).2))
              clear hba x0 x1 x2
              have fz := HUa.out.frozen i
              obtain ⟨u, hu⟩ : ∃ u, wa.cell? ⟨w5.heap.size, i, none⟩ = some u := ⟨_, (HUa.out.cell i).trans (Array.getElem?_eq_getElem (by
                rw [List.size_toArray]; unfold Adj.ints; rw [List.length_map, HOK3.out.outl]; exact hil))⟩
              have HUb := Lib.hid (show Adj.Blk (wa.setCell ⟨w5.heap.size, i, none⟩ (.int .i64 p)) w5.heap.size 3 (Adj.ints (s.out.set i p)).toArray by
                have h2 := HUa.out.set_ i (.int .i64 p)
                rwa [ints_set] at h2)
              have HBb := Lib.hid (HBa.out.setCell (p := ⟨w5.heap.size, i, none⟩) (Nat.le_refl _) (.int .i64 p))
              have HXb := Lib.hid (HXa.out.far (p := ⟨w5.heap.size, i, none⟩) (by show wr.heap.size ≠ w5.heap.size; omega) (.int .i64 p))
              have HOb := Lib.hid (Rm.own_keep HOa.out (fun g hg => Below.heap_setCell wa ⟨w5.heap.size, i, none⟩ (.int .i64 p) g (by have := (HOa.out.lt g hg).1; show g ≠ w5.heap.size; omega)))
              obtain ⟨wb, hwb⟩ : ∃ wb, wa.setCell ⟨w5.heap.size, i, none⟩ (.int .i64 p) = wb := ⟨_, rfl⟩
              rw [hwb] at HUb HBb HXb HOb
              go_wp2_with fail
              have co : wb.cell? ⟨w5.heap.size, i, none⟩ = some (.int .i64 p) := HUb.out.at (by
                have h2 : i < (s.out.set i p).length := by rw [List.length_set, HOK3.out.outl]; exact hil
                have h3 := ints_at (s.out.set i p) i h2
                rw [List.getElem_set_self] at h3
                simpa using h3)
              have x1 := HXb.out.cell 1
              have x2 := HXb.out.cell 2
              have hik2 : (i : Int) < (k : Int) := hik
              have qz : IntKind.i64.wrap (p + z) = p + z := IntWalk.i64_in _ (by omega)
              have hlq := AdjL.under_le (Ld.keep f s.lies) p
              have HBS := Lib.hid (bsearch_any wb.drew (Ld.keep f s.lies) A9 _ c9 p rfl (by omega) HAP.out (Ld.ints_own (show wb.drew.ownsRow (w5.heap.size + 1) 78 3 _ _ _ from HOb.out)))
              have hsb2 : w5.heap.size + 1 ≤ wb.heap.size := HUb.out.lt
              clear hu fz hwb
              by_cases hgt : s.all < p + z
              · have hmax : max s.all (p + z) = p + z := by omega
                rw [hmax] at HST3 HOK4
                go_upto_region 21 with (fail)
                refine wp_region_T (fun w' => w'.cell? ⟨w5.heap.size, i, none⟩ = some (.int .i64 p) ∧ w'.cell? ⟨wr.heap.size, 2, none⟩ = some (.int .i64 z)) 9 (fun _ => True) 9 10 rfl (by kernel_rfl) ⟨⟨co, x2⟩, trivial⟩ (fun hHeld => ?_)
                simp only [List.replicate_succ, List.replicate_zero]
                refine wpT_take 0 62 (v := ?_) hHeld.1 hHeld.2 rfl rfl (by kernel_rfl) (fun _ _ _ h => h) rfl ?_ ?_
                rotate_left
                · (intro w hSw; (try dsimp only at hSw); go_simp; try with_reducible rfl)
                try simp only [Act.put, List.setIfInBounds_toArray, List.set_cons_zero, List.set_cons_succ]
                refine wpT_take 1 63 (v := ?_) hHeld.1 hHeld.2 rfl rfl (by kernel_rfl) (fun _ _ _ h => h) rfl ?_ ?_
                rotate_left
                · (intro w hSw; (try dsimp only at hSw); go_simp; try with_reducible rfl)
                try simp only [Act.put, List.setIfInBounds_toArray, List.set_cons_zero, List.set_cons_succ]
                refine wpT_take 2 64 (v := ?_) hHeld.1 hHeld.2 rfl rfl (by kernel_rfl) (fun _ _ _ h => h) rfl ?_ ?_
                rotate_left
                · (intro w hSw; (try dsimp only at hSw); go_simp; try with_reducible rfl)
                try simp only [Act.put, List.setIfInBounds_toArray, List.set_cons_zero, List.set_cons_succ]
                refine wpT_take 3 65 (v := ?_) hHeld.1 hHeld.2 rfl rfl (by kernel_rfl) (fun _ _ _ h => h) rfl ?_ ?_
                rotate_left
                · (intro w hSw; (try dsimp only at hSw); go_simp; try with_reducible rfl)
                try simp only [Act.put, List.setIfInBounds_toArray, List.set_cons_zero, List.set_cons_succ]
                refine wpT_take 4 66 (v := ?_) hHeld.1 hHeld.2 rfl rfl (by kernel_rfl) (fun _ _ _ h => h) rfl ?_ ?_
                rotate_left
                · (intro w hSw; (try dsimp only at hSw); go_simp; try with_reducible rfl)
                try simp only [Act.put, List.setIfInBounds_toArray, List.set_cons_zero, List.set_cons_succ]
                refine wpT_take 5 67 (v := ?_) hHeld.1 hHeld.2 rfl rfl (by kernel_rfl) (fun _ _ _ h => h) rfl ?_ ?_
                rotate_left
                · (intro w hSw; (try dsimp only at hSw); go_simp; try with_reducible rfl)
                try simp only [Act.put, List.setIfInBounds_toArray, List.set_cons_zero, List.set_cons_succ]
                refine wpT_take 6 68 (v := ?_) hHeld.1 hHeld.2 rfl rfl (by kernel_rfl) (fun _ _ _ h => h) rfl ?_ ?_
                rotate_left
                · (intro w hSw; (try dsimp only at hSw); go_simp; try with_reducible rfl)
                try simp only [Act.put, List.setIfInBounds_toArray, List.set_cons_zero, List.set_cons_succ]
                refine wpT_take 7 69 (v := ?_) hHeld.1 hHeld.2 rfl rfl (by kernel_rfl) (fun _ _ _ h => h) rfl ?_ ?_
                rotate_left
                · (intro w hSw; (try dsimp only at hSw); go_simp; try with_reducible rfl)
                try simp only [Act.put, List.setIfInBounds_toArray, List.set_cons_zero, List.set_cons_succ]
                refine wpT_take 8 70 (v := ?_) hHeld.1 hHeld.2 rfl rfl (by kernel_rfl) (fun _ _ _ h => h) rfl ?_ ?_
                rotate_left
                · (intro w hSw; (try dsimp only at hSw); go_simp; try with_reducible rfl)
                try simp only [Act.put, List.setIfInBounds_toArray, List.set_cons_zero, List.set_cons_succ]
                refine wpT_tail [_] 9 [] rfl (by kernel_rfl) ?_
                go_wp2_with fail
                ((with_reducible refine HBS.out.mono ?_); rintro e wd ⟨bb, rfl, hbd⟩)
                have HBd := Lib.hid (HBb.out.drew.trans (hbd.mono HBb.out.drew.size))
                have HXd := Lib.hid (HXb.out.drew.below hbd HXb.out.lt)
                have HUd := Lib.hid (HUb.out.drew.below hbd HUb.out.lt)
                have HOd := Lib.hid (Rm.own_keep (show wb.drew.ownsRow (w5.heap.size + 1) 78 3 _ _ _ from HOb.out) (fun g hg => hbd.block g (HOb.out.lt g hg).2))
                have hsd : w5.heap.size + 1 ≤ wd.heap.size := HUd.out.lt
                have hxd : wr.heap.size < wd.heap.size := HXd.out.lt
                have cod : wd.cell? ⟨w5.heap.size, i, none⟩ = some (.int .i64 p) := (hbd.cell (p := ⟨w5.heap.size, i, none⟩) (cell_lt co)).trans co
                have x1d : wd.cell? ⟨wr.heap.size, 1, none⟩ = some (.int .i64 t) := HXd.out.cell 1
                have x2d : wd.cell? ⟨wr.heap.size, 2, none⟩ = some (.int .i64 z) := HXd.out.cell 2
                clear hbd co x1 x2
                go_wp2_with fail
                refine wp_region_T (fun w' => w'.cell? ⟨w5.heap.size, i, none⟩ = some (.int .i64 p) ∧ w'.cell? ⟨wr.heap.size, 1, none⟩ = some (.int .i64 t) ∧ w'.cell? ⟨wr.heap.size, 2, none⟩ = some (.int .i64 z)) 17 (fun _ => True) 17 19 rfl (by kernel_rfl) ⟨⟨cod, x1d, x2d⟩, trivial⟩ (fun hHeld => ?_)
                simp only [List.replicate_succ, List.replicate_zero]
                refine wpT_takeC [] 0 80 (v := ?_) hHeld.1 hHeld.2 rfl rfl (by kernel_rfl) (fun _ _ _ h => h) (yields_yes rfl ?_) ?_
                rotate_left
                · (intro w hSw; (try dsimp only at hSw); go_simp; try with_reducible rfl)
                try simp only [Act.put, List.setIfInBounds_toArray, List.set_cons_zero, List.set_cons_succ]
                refine wpT_takeC [] 1 81 (v := ?_) hHeld.1 hHeld.2 rfl rfl (by kernel_rfl) (fun _ _ _ h => h) (yields_yes rfl ?_) ?_
                rotate_left
                · (intro w hSw; (try dsimp only at hSw); go_simp; try with_reducible rfl)
                try simp only [Act.put, List.setIfInBounds_toArray, List.set_cons_zero, List.set_cons_succ]
                refine wpT_takeC [4, 5, 15, 16] 2 82 (v := ?_) hHeld.1 hHeld.2 rfl rfl (by kernel_rfl) (fun _ _ _ h => h) (yields_yes rfl ?_) ?_
                rotate_left
                · (intro w hSw; (try dsimp only at hSw); go_simp; try with_reducible rfl)
                try simp only [Act.put, List.setIfInBounds_toArray, List.set_cons_zero, List.set_cons_succ]
                refine wpT_takeC [4, 5, 15, 16] 3 83 (v := ?_) hHeld.1 hHeld.2 rfl rfl (by kernel_rfl) (fun _ _ _ h => h) (yields_yes rfl ?_) ?_
                rotate_left
                · (intro w hSw; (try dsimp only at hSw); go_simp; try with_reducible rfl)
                try simp only [Act.put, List.setIfInBounds_toArray, List.set_cons_zero, List.set_cons_succ]
                refine wpT_takeC [5, 15, 16] 4 84 (v := ?_) hHeld.1 hHeld.2 rfl rfl (by kernel_rfl) (fun _ _ _ h => h) (yields_yes rfl ?_) ?_
                rotate_left
                · (intro w hSw; (try dsimp only at hSw); go_simp; try with_reducible rfl)
                try simp only [Act.put, List.setIfInBounds_toArray, List.set_cons_zero, List.set_cons_succ]
                refine wpT_takeC [15, 16] 5 85 (v := ?_) hHeld.1 hHeld.2 rfl rfl (by kernel_rfl) (fun _ _ _ h => h) (yields_yes rfl ?_) ?_
                rotate_left
                · (intro w hSw; (try dsimp only at hSw); go_simp; try with_reducible rfl)
                try simp only [Act.put, List.setIfInBounds_toArray, List.set_cons_zero, List.set_cons_succ]
                refine wpT_takeC [8, 9, 12, 15, 16] 6 86 (v := ?_) hHeld.1 hHeld.2 rfl rfl (by kernel_rfl) (fun _ _ _ h => h) (yields_yes rfl ?_) ?_
                rotate_left
                · (intro w hSw; (try dsimp only at hSw); go_simp; try with_reducible rfl)
                try simp only [Act.put, List.setIfInBounds_toArray, List.set_cons_zero, List.set_cons_succ]
                refine wpT_takeC [8, 9, 12, 15, 16] 7 87 (v := ?_) hHeld.1 hHeld.2 rfl rfl (by kernel_rfl) (fun _ _ _ h => h) (yields_yes rfl ?_) ?_
                rotate_left
                · (intro w hSw; (try dsimp only at hSw); go_simp; try with_reducible rfl)
                try simp only [Act.put, List.setIfInBounds_toArray, List.set_cons_zero, List.set_cons_succ]
                refine wpT_takeC [9, 12, 15, 16] 8 88 (v := ?_) hHeld.1 hHeld.2 rfl rfl (by kernel_rfl) (fun _ _ _ h => h) (yields_yes rfl ?_) ?_
                rotate_left
                · (intro w hSw; (try dsimp only at hSw); go_simp; try with_reducible rfl)
                try simp only [Act.put, List.setIfInBounds_toArray, List.set_cons_zero, List.set_cons_succ]
                refine wpT_takeC [12, 15, 16] 9 89 (v := ?_) hHeld.1 hHeld.2 rfl rfl (by kernel_rfl) (fun _ _ _ h => h) (yields_yes rfl ?_) ?_
                rotate_left
                · (intro w hSw; (try dsimp only at hSw); go_simp; try with_reducible rfl)
                try simp only [Act.put, List.setIfInBounds_toArray, List.set_cons_zero, List.set_cons_succ]
                refine wpT_takeC [11, 12, 15, 16] 10 90 (v := ?_) hHeld.1 hHeld.2 rfl rfl (by kernel_rfl) (fun _ _ _ h => h) (yields_yes rfl ?_) ?_
                rotate_left
                · (intro w hSw; (try dsimp only at hSw); go_simp; try with_reducible rfl)
                try simp only [Act.put, List.setIfInBounds_toArray, List.set_cons_zero, List.set_cons_succ]
                refine wpT_takeC [12, 15, 16] 11 91 (v := ?_) hHeld.1 hHeld.2 rfl rfl (by kernel_rfl) (fun _ _ _ h => h) (yields_yes rfl ?_) ?_
                rotate_left
                · (intro w hSw; (try dsimp only at hSw); go_simp; try with_reducible rfl)
                try simp only [Act.put, List.setIfInBounds_toArray, List.set_cons_zero, List.set_cons_succ]
                refine wpT_takeC [15, 16] 12 92 (v := ?_) hHeld.1 hHeld.2 rfl rfl (by kernel_rfl) (fun _ _ _ h => h) (yields_yes rfl ?_) ?_
                rotate_left
                · (intro w hSw; (try dsimp only at hSw); go_simp; try with_reducible rfl)
                try simp only [Act.put, List.setIfInBounds_toArray, List.set_cons_zero, List.set_cons_succ]
                refine wpT_takeC [14, 15, 16] 13 93 (v := ?_) hHeld.1 hHeld.2 rfl rfl (by kernel_rfl) (fun _ _ _ h => h) (yields_yes rfl ?_) ?_
                rotate_left
                · (intro w hSw; (try dsimp only at hSw); go_simp; try with_reducible rfl)
                try simp only [Act.put, List.setIfInBounds_toArray, List.set_cons_zero, List.set_cons_succ]
                refine wpT_takeC [15, 16] 14 94 (v := ?_) hHeld.1 hHeld.2 rfl rfl (by kernel_rfl) (fun _ _ _ h => h) (yields_yes rfl ?_) ?_
                rotate_left
                · (intro w hSw; (try dsimp only at hSw); go_simp; try with_reducible rfl)
                try simp only [Act.put, List.setIfInBounds_toArray, List.set_cons_zero, List.set_cons_succ]
                refine wpT_takeC [16] 15 95 (v := ?_) hHeld.1 hHeld.2 rfl rfl (by kernel_rfl) (fun _ _ _ h => h) (yields_yes rfl ?_) ?_
                rotate_left
                · (intro w hSw; (try dsimp only at hSw); go_simp; try with_reducible rfl)
                try simp only [Act.put, List.setIfInBounds_toArray, List.set_cons_zero, List.set_cons_succ]
                refine wpT_one 16 (by kernel_rfl) (stepT_early rfl rfl (fun K hK => ?_))
                go_simp
                have HGN := Lib.hid (show Adj.Blk (wd.alloc (.cells #[.int .i64 p, .int .i64 (p + z), .int .i64 t] 78)).drew wd.heap.size 78 (Ld.three' ⟨p, p + z, t⟩).toArray from (Blk.new wd 78 #[.int .i64 p, .int .i64 (p + z), .int .i64 t]).drew)
                have HBe := Lib.hid (show Below wd.heap.size wd (wd.alloc (.cells #[.int .i64 p, .int .i64 (p + z), .int .i64 t] 78)).drew from ((Below.refl _ _).alloc (Nat.le_refl _) _).drew)
                have HHE := Lib.hid (show ((wd.alloc (.cells #[.int .i64 p, .int .i64 (p + z), .int .i64 t] 78)).drew.cell? ⟨w5.heap.size, i, none⟩ = some (.int .i64 p) ∧ (wd.alloc (.cells #[.int .i64 p, .int .i64 (p + z), .int .i64 t] 78)).drew.cell? ⟨wr.heap.size, 1, none⟩ = some (.int .i64 t) ∧ (wd.alloc (.cells #[.int .i64 p, .int .i64 (p + z), .int .i64 t] 78)).drew.cell? ⟨wr.heap.size, 2, none⟩ = some (.int .i64 z)) ∧ True from
                  ⟨⟨(HBe.out.cell (p := ⟨w5.heap.size, i, none⟩) (cell_lt cod)).trans cod, (HBe.out.cell (p := ⟨wr.heap.size, 1, none⟩) (cell_lt x1d)).trans x1d, (HBe.out.cell (p := ⟨wr.heap.size, 2, none⟩) (cell_lt x2d)).trans x2d⟩, trivial⟩)
                refine hK.out _ _ HHE.out (fun hHeld2 => ?_)
                clear hK K hHeld hHeld2
                try simp only [List.setIfInBounds_toArray, List.set_cons_zero, List.set_cons_succ]
                generalize hwe : (wd.alloc (.cells #[.int .i64 p, .int .i64 (p + z), .int .i64 t] 78)).drew = we at HGN HBe HHE ⊢
                have HOe := Lib.hid (Rm.own_keep HOd.out (fun g hg => HBe.out.block g (HOd.out.lt g hg).2))
                have HIN := Lib.hid (insert_any we (w5.heap.size + 1) (Ld.keep f s.lies) _ ⟨p, p + z, t⟩ wd.heap.size (AdjL.under (Ld.keep f s.lies) p) hlq (by omega) (by have := HBe.out.size; omega) (fun e => by have := (HOd.out.lt _ e).2; omega) HOe.out HGN.out)
                clear hwe
                refine wpT_tail [_, _] 17 [18] rfl (by kernel_rfl) ?_
                go_wp2_with fail
                ((with_reducible refine HIN.out.mono ?_); rintro e wf ⟨vf, rfl, hkf, hof⟩)
                have HBf := Lib.hid ((HBd.out.trans (HBe.out.mono HBd.out.size)).trans (hkf.1.mono (by omega)))
                have HUf := Lib.hid ((HUd.out.below HBe.out HUd.out.lt).below hkf.1 (by omega))
                have HOf := Lib.hid (show wf.ownsRow (w5.heap.size + 1) 78 3 vf (AdjL.put (Ld.keep f s.lies) ⟨p, p + z, t⟩).length (Adj.ints (Ld.lints (AdjL.put (Ld.keep f s.lies) ⟨p, p + z, t⟩))) from hof)
                have HLL := Lib.hid (show (AdjL.put (Ld.keep f s.lies) ⟨p, p + z, t⟩).length ≤ r + 1 by
                  have h2 := Ld.putAt_length (Ld.keep f s.lies) (AdjL.under (Ld.keep f s.lies) p) ⟨p, p + z, t⟩ hlq
                  have h3 : (AdjL.put (Ld.keep f s.lies) ⟨p, p + z, t⟩).length = (Ld.putAt (Ld.keep f s.lies) (AdjL.under (Ld.keep f s.lies) p) ⟨p, p + z, t⟩).length := rfl
                  omega)
                obtain ⟨Af, cf, hvf⟩ := Rm.own_form hof
                subst hvf
                clear hkf hof cod x1d x2d
                go_wp2_with fail
                go_roundw
                case rel => exact ⟨r + 1, D.set i true, ⟨s.out.set i p, AdjL.put (Ld.keep f s.lies) ⟨p, p + z, t⟩, (p + z)⟩, by go_num, rfl, by omega, HOK4.out, HST3.out, by show (p + z) ≤ _; omega, HLL.out, HBf.out, HUf.out, HOf.out⟩
                case measure => simp [intOf]; omega
              · have hmax : max s.all (p + z) = s.all := by omega
                rw [hmax] at HST3 HOK4
                go_upto_region 21 with (fail)
                refine wp_region_T (fun w' => w'.cell? ⟨w5.heap.size, i, none⟩ = some (.int .i64 p) ∧ w'.cell? ⟨wr.heap.size, 2, none⟩ = some (.int .i64 z)) 9 (fun _ => True) 9 10 rfl (by kernel_rfl) ⟨⟨co, x2⟩, trivial⟩ (fun hHeld => ?_)
                simp only [List.replicate_succ, List.replicate_zero]
                refine wpT_take 0 62 (v := ?_) hHeld.1 hHeld.2 rfl rfl (by kernel_rfl) (fun _ _ _ h => h) rfl ?_ ?_
                rotate_left
                · (intro w hSw; (try dsimp only at hSw); go_simp; try with_reducible rfl)
                try simp only [Act.put, List.setIfInBounds_toArray, List.set_cons_zero, List.set_cons_succ]
                refine wpT_take 1 63 (v := ?_) hHeld.1 hHeld.2 rfl rfl (by kernel_rfl) (fun _ _ _ h => h) rfl ?_ ?_
                rotate_left
                · (intro w hSw; (try dsimp only at hSw); go_simp; try with_reducible rfl)
                try simp only [Act.put, List.setIfInBounds_toArray, List.set_cons_zero, List.set_cons_succ]
                refine wpT_take 2 64 (v := ?_) hHeld.1 hHeld.2 rfl rfl (by kernel_rfl) (fun _ _ _ h => h) rfl ?_ ?_
                rotate_left
                · (intro w hSw; (try dsimp only at hSw); go_simp; try with_reducible rfl)
                try simp only [Act.put, List.setIfInBounds_toArray, List.set_cons_zero, List.set_cons_succ]
                refine wpT_take 3 65 (v := ?_) hHeld.1 hHeld.2 rfl rfl (by kernel_rfl) (fun _ _ _ h => h) rfl ?_ ?_
                rotate_left
                · (intro w hSw; (try dsimp only at hSw); go_simp; try with_reducible rfl)
                try simp only [Act.put, List.setIfInBounds_toArray, List.set_cons_zero, List.set_cons_succ]
                refine wpT_take 4 66 (v := ?_) hHeld.1 hHeld.2 rfl rfl (by kernel_rfl) (fun _ _ _ h => h) rfl ?_ ?_
                rotate_left
                · (intro w hSw; (try dsimp only at hSw); go_simp; try with_reducible rfl)
                try simp only [Act.put, List.setIfInBounds_toArray, List.set_cons_zero, List.set_cons_succ]
                refine wpT_take 5 67 (v := ?_) hHeld.1 hHeld.2 rfl rfl (by kernel_rfl) (fun _ _ _ h => h) rfl ?_ ?_
                rotate_left
                · (intro w hSw; (try dsimp only at hSw); go_simp; try with_reducible rfl)
                try simp only [Act.put, List.setIfInBounds_toArray, List.set_cons_zero, List.set_cons_succ]
                refine wpT_take 6 68 (v := ?_) hHeld.1 hHeld.2 rfl rfl (by kernel_rfl) (fun _ _ _ h => h) rfl ?_ ?_
                rotate_left
                · (intro w hSw; (try dsimp only at hSw); go_simp; try with_reducible rfl)
                try simp only [Act.put, List.setIfInBounds_toArray, List.set_cons_zero, List.set_cons_succ]
                refine wpT_take 7 69 (v := ?_) hHeld.1 hHeld.2 rfl rfl (by kernel_rfl) (fun _ _ _ h => h) rfl ?_ ?_
                rotate_left
                · (intro w hSw; (try dsimp only at hSw); go_simp; try with_reducible rfl)
                try simp only [Act.put, List.setIfInBounds_toArray, List.set_cons_zero, List.set_cons_succ]
                refine wpT_take 8 70 (v := ?_) hHeld.1 hHeld.2 rfl rfl (by kernel_rfl) (fun _ _ _ h => h) rfl ?_ ?_
                rotate_left
                · (intro w hSw; (try dsimp only at hSw); go_simp; try with_reducible rfl)
                try simp only [Act.put, List.setIfInBounds_toArray, List.set_cons_zero, List.set_cons_succ]
                refine wpT_tail [_] 9 [] rfl (by kernel_rfl) ?_
                go_wp2_with fail
                ((with_reducible refine HBS.out.mono ?_); rintro e wd ⟨bb, rfl, hbd⟩)
                have HBd := Lib.hid (HBb.out.drew.trans (hbd.mono HBb.out.drew.size))
                have HXd := Lib.hid (HXb.out.drew.below hbd HXb.out.lt)
                have HUd := Lib.hid (HUb.out.drew.below hbd HUb.out.lt)
                have HOd := Lib.hid (Rm.own_keep (show wb.drew.ownsRow (w5.heap.size + 1) 78 3 _ _ _ from HOb.out) (fun g hg => hbd.block g (HOb.out.lt g hg).2))
                have hsd : w5.heap.size + 1 ≤ wd.heap.size := HUd.out.lt
                have hxd : wr.heap.size < wd.heap.size := HXd.out.lt
                have cod : wd.cell? ⟨w5.heap.size, i, none⟩ = some (.int .i64 p) := (hbd.cell (p := ⟨w5.heap.size, i, none⟩) (cell_lt co)).trans co
                have x1d : wd.cell? ⟨wr.heap.size, 1, none⟩ = some (.int .i64 t) := HXd.out.cell 1
                have x2d : wd.cell? ⟨wr.heap.size, 2, none⟩ = some (.int .i64 z) := HXd.out.cell 2
                clear hbd co x1 x2
                go_wp2_with fail
                refine wp_region_T (fun w' => w'.cell? ⟨w5.heap.size, i, none⟩ = some (.int .i64 p) ∧ w'.cell? ⟨wr.heap.size, 1, none⟩ = some (.int .i64 t) ∧ w'.cell? ⟨wr.heap.size, 2, none⟩ = some (.int .i64 z)) 17 (fun _ => True) 17 19 rfl (by kernel_rfl) ⟨⟨cod, x1d, x2d⟩, trivial⟩ (fun hHeld => ?_)
                simp only [List.replicate_succ, List.replicate_zero]
                refine wpT_takeC [] 0 80 (v := ?_) hHeld.1 hHeld.2 rfl rfl (by kernel_rfl) (fun _ _ _ h => h) (yields_yes rfl ?_) ?_
                rotate_left
                · (intro w hSw; (try dsimp only at hSw); go_simp; try with_reducible rfl)
                try simp only [Act.put, List.setIfInBounds_toArray, List.set_cons_zero, List.set_cons_succ]
                refine wpT_takeC [] 1 81 (v := ?_) hHeld.1 hHeld.2 rfl rfl (by kernel_rfl) (fun _ _ _ h => h) (yields_yes rfl ?_) ?_
                rotate_left
                · (intro w hSw; (try dsimp only at hSw); go_simp; try with_reducible rfl)
                try simp only [Act.put, List.setIfInBounds_toArray, List.set_cons_zero, List.set_cons_succ]
                refine wpT_takeC [4, 5, 15, 16] 2 82 (v := ?_) hHeld.1 hHeld.2 rfl rfl (by kernel_rfl) (fun _ _ _ h => h) (yields_yes rfl ?_) ?_
                rotate_left
                · (intro w hSw; (try dsimp only at hSw); go_simp; try with_reducible rfl)
                try simp only [Act.put, List.setIfInBounds_toArray, List.set_cons_zero, List.set_cons_succ]
                refine wpT_takeC [4, 5, 15, 16] 3 83 (v := ?_) hHeld.1 hHeld.2 rfl rfl (by kernel_rfl) (fun _ _ _ h => h) (yields_yes rfl ?_) ?_
                rotate_left
                · (intro w hSw; (try dsimp only at hSw); go_simp; try with_reducible rfl)
                try simp only [Act.put, List.setIfInBounds_toArray, List.set_cons_zero, List.set_cons_succ]
                refine wpT_takeC [5, 15, 16] 4 84 (v := ?_) hHeld.1 hHeld.2 rfl rfl (by kernel_rfl) (fun _ _ _ h => h) (yields_yes rfl ?_) ?_
                rotate_left
                · (intro w hSw; (try dsimp only at hSw); go_simp; try with_reducible rfl)
                try simp only [Act.put, List.setIfInBounds_toArray, List.set_cons_zero, List.set_cons_succ]
                refine wpT_takeC [15, 16] 5 85 (v := ?_) hHeld.1 hHeld.2 rfl rfl (by kernel_rfl) (fun _ _ _ h => h) (yields_yes rfl ?_) ?_
                rotate_left
                · (intro w hSw; (try dsimp only at hSw); go_simp; try with_reducible rfl)
                try simp only [Act.put, List.setIfInBounds_toArray, List.set_cons_zero, List.set_cons_succ]
                refine wpT_takeC [8, 9, 12, 15, 16] 6 86 (v := ?_) hHeld.1 hHeld.2 rfl rfl (by kernel_rfl) (fun _ _ _ h => h) (yields_yes rfl ?_) ?_
                rotate_left
                · (intro w hSw; (try dsimp only at hSw); go_simp; try with_reducible rfl)
                try simp only [Act.put, List.setIfInBounds_toArray, List.set_cons_zero, List.set_cons_succ]
                refine wpT_takeC [8, 9, 12, 15, 16] 7 87 (v := ?_) hHeld.1 hHeld.2 rfl rfl (by kernel_rfl) (fun _ _ _ h => h) (yields_yes rfl ?_) ?_
                rotate_left
                · (intro w hSw; (try dsimp only at hSw); go_simp; try with_reducible rfl)
                try simp only [Act.put, List.setIfInBounds_toArray, List.set_cons_zero, List.set_cons_succ]
                refine wpT_takeC [9, 12, 15, 16] 8 88 (v := ?_) hHeld.1 hHeld.2 rfl rfl (by kernel_rfl) (fun _ _ _ h => h) (yields_yes rfl ?_) ?_
                rotate_left
                · (intro w hSw; (try dsimp only at hSw); go_simp; try with_reducible rfl)
                try simp only [Act.put, List.setIfInBounds_toArray, List.set_cons_zero, List.set_cons_succ]
                refine wpT_takeC [12, 15, 16] 9 89 (v := ?_) hHeld.1 hHeld.2 rfl rfl (by kernel_rfl) (fun _ _ _ h => h) (yields_yes rfl ?_) ?_
                rotate_left
                · (intro w hSw; (try dsimp only at hSw); go_simp; try with_reducible rfl)
                try simp only [Act.put, List.setIfInBounds_toArray, List.set_cons_zero, List.set_cons_succ]
                refine wpT_takeC [11, 12, 15, 16] 10 90 (v := ?_) hHeld.1 hHeld.2 rfl rfl (by kernel_rfl) (fun _ _ _ h => h) (yields_yes rfl ?_) ?_
                rotate_left
                · (intro w hSw; (try dsimp only at hSw); go_simp; try with_reducible rfl)
                try simp only [Act.put, List.setIfInBounds_toArray, List.set_cons_zero, List.set_cons_succ]
                refine wpT_takeC [12, 15, 16] 11 91 (v := ?_) hHeld.1 hHeld.2 rfl rfl (by kernel_rfl) (fun _ _ _ h => h) (yields_yes rfl ?_) ?_
                rotate_left
                · (intro w hSw; (try dsimp only at hSw); go_simp; try with_reducible rfl)
                try simp only [Act.put, List.setIfInBounds_toArray, List.set_cons_zero, List.set_cons_succ]
                refine wpT_takeC [15, 16] 12 92 (v := ?_) hHeld.1 hHeld.2 rfl rfl (by kernel_rfl) (fun _ _ _ h => h) (yields_yes rfl ?_) ?_
                rotate_left
                · (intro w hSw; (try dsimp only at hSw); go_simp; try with_reducible rfl)
                try simp only [Act.put, List.setIfInBounds_toArray, List.set_cons_zero, List.set_cons_succ]
                refine wpT_takeC [14, 15, 16] 13 93 (v := ?_) hHeld.1 hHeld.2 rfl rfl (by kernel_rfl) (fun _ _ _ h => h) (yields_yes rfl ?_) ?_
                rotate_left
                · (intro w hSw; (try dsimp only at hSw); go_simp; try with_reducible rfl)
                try simp only [Act.put, List.setIfInBounds_toArray, List.set_cons_zero, List.set_cons_succ]
                refine wpT_takeC [15, 16] 14 94 (v := ?_) hHeld.1 hHeld.2 rfl rfl (by kernel_rfl) (fun _ _ _ h => h) (yields_yes rfl ?_) ?_
                rotate_left
                · (intro w hSw; (try dsimp only at hSw); go_simp; try with_reducible rfl)
                try simp only [Act.put, List.setIfInBounds_toArray, List.set_cons_zero, List.set_cons_succ]
                refine wpT_takeC [16] 15 95 (v := ?_) hHeld.1 hHeld.2 rfl rfl (by kernel_rfl) (fun _ _ _ h => h) (yields_yes rfl ?_) ?_
                rotate_left
                · (intro w hSw; (try dsimp only at hSw); go_simp; try with_reducible rfl)
                try simp only [Act.put, List.setIfInBounds_toArray, List.set_cons_zero, List.set_cons_succ]
                refine wpT_one 16 (by kernel_rfl) (stepT_early rfl rfl (fun K hK => ?_))
                go_simp
                have HGN := Lib.hid (show Adj.Blk (wd.alloc (.cells #[.int .i64 p, .int .i64 (p + z), .int .i64 t] 78)).drew wd.heap.size 78 (Ld.three' ⟨p, p + z, t⟩).toArray from (Blk.new wd 78 #[.int .i64 p, .int .i64 (p + z), .int .i64 t]).drew)
                have HBe := Lib.hid (show Below wd.heap.size wd (wd.alloc (.cells #[.int .i64 p, .int .i64 (p + z), .int .i64 t] 78)).drew from ((Below.refl _ _).alloc (Nat.le_refl _) _).drew)
                have HHE := Lib.hid (show ((wd.alloc (.cells #[.int .i64 p, .int .i64 (p + z), .int .i64 t] 78)).drew.cell? ⟨w5.heap.size, i, none⟩ = some (.int .i64 p) ∧ (wd.alloc (.cells #[.int .i64 p, .int .i64 (p + z), .int .i64 t] 78)).drew.cell? ⟨wr.heap.size, 1, none⟩ = some (.int .i64 t) ∧ (wd.alloc (.cells #[.int .i64 p, .int .i64 (p + z), .int .i64 t] 78)).drew.cell? ⟨wr.heap.size, 2, none⟩ = some (.int .i64 z)) ∧ True from
                  ⟨⟨(HBe.out.cell (p := ⟨w5.heap.size, i, none⟩) (cell_lt cod)).trans cod, (HBe.out.cell (p := ⟨wr.heap.size, 1, none⟩) (cell_lt x1d)).trans x1d, (HBe.out.cell (p := ⟨wr.heap.size, 2, none⟩) (cell_lt x2d)).trans x2d⟩, trivial⟩)
                refine hK.out _ _ HHE.out (fun hHeld2 => ?_)
                clear hK K hHeld hHeld2
                try simp only [List.setIfInBounds_toArray, List.set_cons_zero, List.set_cons_succ]
                generalize hwe : (wd.alloc (.cells #[.int .i64 p, .int .i64 (p + z), .int .i64 t] 78)).drew = we at HGN HBe HHE ⊢
                have HOe := Lib.hid (Rm.own_keep HOd.out (fun g hg => HBe.out.block g (HOd.out.lt g hg).2))
                have HIN := Lib.hid (insert_any we (w5.heap.size + 1) (Ld.keep f s.lies) _ ⟨p, p + z, t⟩ wd.heap.size (AdjL.under (Ld.keep f s.lies) p) hlq (by omega) (by have := HBe.out.size; omega) (fun e => by have := (HOd.out.lt _ e).2; omega) HOe.out HGN.out)
                clear hwe
                refine wpT_tail [_, _] 17 [18] rfl (by kernel_rfl) ?_
                go_wp2_with fail
                ((with_reducible refine HIN.out.mono ?_); rintro e wf ⟨vf, rfl, hkf, hof⟩)
                have HBf := Lib.hid ((HBd.out.trans (HBe.out.mono HBd.out.size)).trans (hkf.1.mono (by omega)))
                have HUf := Lib.hid ((HUd.out.below HBe.out HUd.out.lt).below hkf.1 (by omega))
                have HOf := Lib.hid (show wf.ownsRow (w5.heap.size + 1) 78 3 vf (AdjL.put (Ld.keep f s.lies) ⟨p, p + z, t⟩).length (Adj.ints (Ld.lints (AdjL.put (Ld.keep f s.lies) ⟨p, p + z, t⟩))) from hof)
                have HLL := Lib.hid (show (AdjL.put (Ld.keep f s.lies) ⟨p, p + z, t⟩).length ≤ r + 1 by
                  have h2 := Ld.putAt_length (Ld.keep f s.lies) (AdjL.under (Ld.keep f s.lies) p) ⟨p, p + z, t⟩ hlq
                  have h3 : (AdjL.put (Ld.keep f s.lies) ⟨p, p + z, t⟩).length = (Ld.putAt (Ld.keep f s.lies) (AdjL.under (Ld.keep f s.lies) p) ⟨p, p + z, t⟩).length := rfl
                  omega)
                obtain ⟨Af, cf, hvf⟩ := Rm.own_form hof
                subst hvf
                clear hkf hof cod x1d x2d
                go_wp2_with fail
                go_roundw
                case rel => exact ⟨r + 1, D.set i true, ⟨s.out.set i p, AdjL.put (Ld.keep f s.lies) ⟨p, p + z, t⟩, s.all⟩, by go_num, rfl, by omega, HOK4.out, HST3.out, by show s.all ≤ _; omega, HLL.out, HBf.out, HUf.out, HOf.out⟩
                case measure => simp [intOf]; omega
          · obtain rfl : r = k := by omega
            have HSD := Lib.hid (show AdjL.laySt l = s by rw [HST.out, List.drop_eq_nil_of_le (by rw [HOP.out]; exact Nat.le_refl _)]; rfl)
            rw [HSD.out] at HLAY
            by_cases hgt : 1048576 < s.all
            · have HR := Lib.hid (HLAY.out.trans (if_pos hgt))
              go_wp2_with fail
              go_ret3
              rw [HR.out]
              first | exact ⟨_, rfl, HBW.out, none, 0, rfl, IntsAt.nil⟩ | exact ⟨_, rfl, HBW.out, none, ⟨0, rfl⟩, IntsAt.nil⟩
            · have HR := Lib.hid (HLAY.out.trans (if_neg hgt))
              have HOL := Lib.hid (show s.out.length = r by rw [HOK2.out.outl, HN.out])
              go_wp2_with fail
              go_ret3
              rw [HR.out]
              refine ⟨_, rfl, HBW.out, some ⟨w5.heap.size, 0, none⟩, ⟨r, ?_⟩, IntsAt.of_blk HOUT.out⟩
              show Value.slice _ r r = Value.slice _ s.out.length r
              rw [HOL.out]
  · have HR := Lib.hid (show AdjL.lay l = ([], 0, AdjL.wrong l) by unfold AdjL.lay; rw [if_pos hbad])
    generalize AdjL.wrong l = q at hbad HW HR
    have h1 : (q == 0) = false := by simpa using hbad
    have h2 : (q != 0) = true := by simpa using hbad
    go_enter Try.func23, Try.ntmps23
    go_wp2_with fail
    ((with_reducible refine HW.out.mono ?_); rintro e w1 ⟨rfl, hb1⟩)
    have HB1 := Lib.hid (HW0.out.trans (hb1.mono (by omega)))
    clear hb1 hw0 cbx
    go_wp2_with fail
    all_goals first | (exfalso; simp at *; omega) | (go_ret3; rw [HR.out]; first | exact ⟨_, rfl, HB1.out, none, 0, rfl, IntsAt.nil⟩ | exact ⟨_, rfl, HB1.out, none, ⟨0, rfl⟩, IntsAt.nil⟩)
end Go.Proofs.Ytkopkicdmbnpgaa
