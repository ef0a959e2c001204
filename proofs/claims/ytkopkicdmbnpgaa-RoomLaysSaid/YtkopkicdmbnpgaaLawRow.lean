/-
  How a law's row is met, once for all laws of plain data: if the law returns true on whatever can be read, and turns nothing of what was there, its row holds. No program in sight. No condition.
-/
import Derived.WalkKit
import Derived.ProofKit
import Derived.SizedLaws
import Derived.WideKeyArgs
namespace Adj
open Go Go.RowKit Go.WideShapes Go.ChangeShapes

section
variable {H : Type} {enc : TypeId × Value → H}

theorem trodAll_stays {P : Program} (hl : laidOutB P = true) {W W' : World} {sp : Nat → Bool} : ∀ {ts : List TypeId} {vs : List Value} {ds : List (DataW H)} {ps : List MemPlace},
    (∀ t ∈ ts, P.readableRec t = true ∧ t < P.types.size) → DataW.TrodAll enc P W 0 (fun _ => true) true ts vs ds ps →
    (∀ p ∈ ps, W.sameAt W' p) → (∀ p ∈ ps, sp p.block = true) → DataW.TrodAll enc P W' 0 sp true ts vs ds ps
  | [], [], [], _, _, h, _, _ => h
  | t :: ts, v :: vs, d :: ds, ps, ht, h, hs, hp => by
    obtain ⟨p, q, h1, h2, rfl⟩ := h
    have a := ht t (by simp)
    exact ⟨p, q, Go.WideElems.Trod_stays hl a.1 a.2 h1 (fun x hx => hs x (by simp [hx])) (fun x hx => hp x (by simp [hx])),
      trodAll_stays hl (fun u hu => ht u (by simp [hu])) h2 (fun x hx => hs x (by simp [hx])) (fun x hx => hp x (by simp [hx])), rfl⟩
  | [], [], _ :: _, _, _, h, _, _ => h.elim
  | [], _ :: _, _, _, _, h, _, _ => h.elim
  | _ :: _, [], _, _, _, h, _, _ => h.elim
  | _ :: _, _ :: _, [], _, _, h, _, _ => h.elim

theorem trodAll_length {P : Program} {W : World} {sp : Nat → Bool} {b : Nat} {hd : Bool} : ∀ {ts : List TypeId} {vs : List Value} {ds : List (DataW H)} {ps : List MemPlace},
    DataW.TrodAll enc P W b sp hd ts vs ds ps → ds.length = ts.length
  | [], [], [], _, _ => rfl
  | t :: ts, v :: vs, d :: ds, ps, h => by
    obtain ⟨p, q, _, h2, rfl⟩ := h
    simp [trodAll_length h2]
  | [], [], _ :: _, _, h => h.elim
  | [], _ :: _, _, _, h => h.elim
  | _ :: _, [], _, _, h => h.elim
  | _ :: _, _ :: _, [], _, h => h.elim

/-- What a law leaves: true, and its arguments as they read. -/
theorem post_of_law {P : Program} {f : Func} {s : ChangeSpec} {tb : TypeId} (hl : laidOutB P = true) (hv : s.vars = []) (hres : f.resultTypes = #[tb]) (hb : P.underlying tb = some .bool)
    (hr : ∀ t ∈ f.params.toList, P.readableRec t = true ∧ t < P.types.size)
    (hs : ∀ ds : List (DataW H), ds.length = f.params.toList.length → (s.fn H ds).results = [.lit (.bool true)] ∧ (s.fn H ds).args = ds ∧ (s.fn H ds).vars = [])
    {W W' : World} {args : Array Value} {ds gs : List (DataW H)} {before : List MemPlace}
    (hW : DataW.Whole enc P f.params.toList s.vars false W args.toList ds gs before) (hbel : Below W.heap.size W W') :
    s.post enc P f false true false false W args (.bool true) W' := by
  have hlt : ∀ p ∈ before, p.block < W.heap.size := fun p hp => hW.lt p hp
  have hW0 := hW
  obtain ⟨p, q, hA, hV, hpq, hz, hn⟩ := hW
  rw [hv] at hV
  obtain ⟨rfl, rfl⟩ : gs = [] ∧ q = [] := by
    cases gs with
    | nil => exact ⟨rfl, hV⟩
    | cons g gs => exact hV.elim
  rw [List.append_nil] at hpq
  subst hpq
  obtain ⟨e1, e2, e3⟩ := hs (ds ++ []) (by rw [List.append_nil]; exact trodAll_length hA)
  refine ⟨ds, [], before, [], before, [], hW0, ?_, ?_, ?_, World.keptBut_mono (fun p hp => ⟨hp, .inr (.inl hp)⟩) (hbel.frame (· ∈ before)), fun h => by cases h⟩
  · rw [e1, hres]
    exact ⟨[], [], ⟨1, by simp [DataW.trod, hb, Value.cells]⟩, rfl, rfl⟩
  · rw [e2, List.append_nil]
    exact trodAll_stays hl hr hA (fun x hx => hbel.same (hlt x hx)) (fun x hx => by simpa using hlt x hx)
  · rw [e3, hv]
    rfl

/-- THE ROW's STEP: a law that returns true on whatever can be read, turning nothing that was there. -/
theorem law_lifted {C : Checked} {os : Os} {f : FuncId} {fn : Func} {s : ChangeSpec} {tb : TypeId}
    (own : ownKnob C.prog.godebug = none) (started : os.Started) (noInit : C.prog.inits.idxOf? f = none) (hfn : C.prog.funcs[f]? = some fn)
    (hl : laidOutB C.prog = true) (hv : s.vars = []) (hres : fn.resultTypes = #[tb]) (hb : C.prog.underlying tb = some .bool)
    (hr : ∀ t ∈ fn.params.toList, C.prog.readableRec t = true ∧ t < C.prog.types.size)
    (hs : ∀ ds : List (DataW H), ds.length = fn.params.toList.length → (s.fn H ds).results = [.lit (.bool true)] ∧ (s.fn H ds).args = ds ∧ (s.fn H ds).vars = [])
    (witness : ∃ (w : World) (tape : Tape) (i : Input), w.os = os ∧ (w.forCall tape i).Shaped C.prog ∧ i.vars = [] ∧ Input.okWide C.prog (w.forCall tape i) .any w.heap.size f i ∧
      s.pre6 enc C.prog fn [] false (w.forCall tape i).memory i.args ∧ Assume.holds {} C.prog (lone (Frame.enter C.prog f i.args .normal) [] (w.forCall tape i)))
    (walk : ∀ (W : World) (base : Nat) (args : Array Value) (ds : List (DataW H)) (before : List MemPlace),
      (∀ (j : Nat) t v, fn.params[j]? = some t → args[j]? = some v → Value.okWide C.prog W .any base t v) →
      DataW.TrodAll enc C.prog W 0 (fun _ => true) true fn.params.toList args.toList ds before → W.noneFrozen before →
      (DataW.weightsEach C.prog (fn.params.toList ++ []) (ds ++ [])).all (· ≤ reachBytes) = true →
      Calls C.prog f args W fun e W' => e = .returned (.bool true) ∧ Below W.heap.size W W') :
    ReturnsInHanded {} C os f .any (s.pre6 enc C.prog fn [] false) (s.post enc C.prog fn false true false false) := by
  refine returnsInHanded_of_change_sized own started noInit hfn witness ?_
  intro W base args ds gs before hval hW _ hz _
  have hW0 := hW
  obtain ⟨p, q, hA, hV, hpq, hfz, hn⟩ := hW
  rw [hv] at hV
  obtain ⟨rfl, rfl⟩ : gs = [] ∧ q = [] := by
    cases gs with
    | nil => exact ⟨rfl, hV⟩
    | cons g gs => exact hV.elim
  rw [List.append_nil] at hpq
  subst hpq
  have hvt : s.plain.varTypes C.prog = [] := by
    simp [ChangeSpec.plain, hv, DataSpec.varTypes]
  rw [hvt] at hz
  refine (walk W base args ds before hval hA hfz hz).mono fun e W' ⟨he, hbel⟩ => ?_
  exact ⟨_, he, post_of_law hl hv hres hb hr hs hW0 hbel⟩
end
end Adj
