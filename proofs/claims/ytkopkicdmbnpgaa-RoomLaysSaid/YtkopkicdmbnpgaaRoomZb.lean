/-
  The builtins copy and append (of a length) at what lies; a row that is made longer. Conditions: those each theorem names.
-/
import Derived.Test.YtkopkicdmbnpgaaRoomZa
import Derived.Laws.CopyRow
import Derived.Lib.AppendZerosOnto
import Derived.Lib.Overlaps
import Derived.Lib.AppendZeros
import Derived.Deep.DeepAppendWide
namespace Go.Proofs.Ytkopkicdmbnpgaa
set_option linter.unusedVariables false
open Go.RowKit Adj

theorem Try.infoLaid : (Try.prog.info? 78).map (fun i => (i.zero, i.size, i.bytes)) = some (some (.agg #[.int .i64 0, .int .i64 0, .int .i64 0]), 3, 24) := by kernel_rfl
/-- 'copy' between rows of what lies. -/
theorem copy_laid (W : World) (ty : TypeId) (g o dLen dCap : Nat) (a : Addr) (sLen sCap : Nat) (cur : Array Value) (cs : List Value) (hg : Blk W g 78 cur) (hn : cs.length = Nat.min sLen dLen * 3)
    (hsrc : ∀ j v, cs[j]? = some v → W.cell? (a.add j) = some v) (hfit : o + cs.length ≤ cur.size) (h1 : ∀ v ∈ cs, v.oneCell' = true) :
    (Builtin.copy_ #[75, 75] ty #[.slice (some ⟨g, o, none⟩) dLen dCap, .slice (some a) sLen sCap]).run Try.prog W = .ok (goInt (Nat.min sLen dLen)) (W.setRow g (cur.toList.take o ++ cs ++ cur.toList.drop (o + cs.length)).toArray) := by
  have hl := run_loadCells_list (P := Try.prog) W a cs hsrc
  have hst := run_storeCells_at Try.prog g o 78 cs 0 cur W hg (by simpa using hfit) h1
  obtain ⟨i0, hi0, hz0, hz1, hz2⟩ := info_parts Try.infoLaid
  rw [hn] at hl
  simp [Builtin.copy_, run_underlying Try.underlying75, Builtin.lenOf, Builtin.firstCells, sizeOf, typeInfo, hi0, hz1, hl, hst]
theorem wpList_copy_run2 {P : Program} (w : World) {ops : Array Oper} {rest : List Oper} {o : Oper} {a : Act} {Q : Exit → Act → World → Prop} (hgd : o.guard = none) (d s : Operand) (t t' : TypeId)
    (ho : o.op = .call { callee := .builtin .copy, args := #[d, s], argTypes := #[t, t'] }) (v u : Value) (hd : a.eval d = v) (hs : a.eval s = u) {v' : Value} {w' : World}
    (hr : (Builtin.copy_ #[t, t'] o.type #[v, u]).run P w = .ok v' w') (h : wpList P ops Q rest (a.put o.dst v') w') : wpList P ops Q (o :: rest) a w :=
  wpList_plain hgd fun _ hK => by
    unfold Oper.wp
    simp [execOp, ho, resolve, invoke, builtin, hd, hs, hr, Result.andThen]
    exact hK _ _ h
theorem setRow_blk {W : World} {g : Nat} {t : TypeId} {cur cs : Array Value} (h : Blk W g t cur) : Blk (W.setRow g cs) g t cs := setRow_heap W g cur cs t (0, 0) h
theorem setRow_fr (W : World) (g : Nat) (cs : Array Value) : Sr.Fr W (W.setRow g cs) g :=
  ⟨rfl, rfl, rfl, by simp [World.setRow], fun h hh hne => by
    show (W.heap.modify g _)[h]? = _
    rw [Array.getElem?_modify, if_neg (fun e => hne e.symm)]⟩
end Go.Proofs.Ytkopkicdmbnpgaa
