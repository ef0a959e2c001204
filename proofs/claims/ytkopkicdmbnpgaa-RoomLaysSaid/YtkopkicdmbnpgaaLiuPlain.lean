/-
  Plain: sums over a visit; who is visited. No program in sight. Conditions: those each theorem names.
-/
import Derived.Test.YtkopkicdmbnpgaaClimbPlain5
namespace AdjR
set_option linter.unusedVariables false

/-- A sum over what is visited. -/
def vsum (f : Nat → Int) (l : List Int) : Int := (l.map fun x => f x.toNat).sum
theorem vsum_append (f : Nat → Int) (a b : List Int) : vsum f (a ++ b) = vsum f a + vsum f b := by simp [vsum]
theorem vsum_nil (f : Nat → Int) : vsum f [] = 0 := rfl
theorem vsum_cons (f : Nat → Int) (x : Int) (l : List Int) : vsum f (x :: l) = f x.toNat + vsum f l := by simp [vsum]
theorem vsum_perm {f : Nat → Int} {a b : List Int} (h : a.Perm b) : vsum f a = vsum f b := by
  induction h with
  | nil => rfl
  | cons x _ ih => rw [vsum_cons, vsum_cons, ih]
  | swap x y l => simp only [vsum_cons]; omega
  | trans _ _ h1 h2 => rw [h1, h2]
theorem vsum_le {f g : Nat → Int} : ∀ {l : List Int}, (∀ x ∈ l, f x.toNat ≤ g x.toNat) → vsum f l ≤ vsum g l
  | [], _ => Int.le_refl _
  | x :: l, h => by
    rw [vsum_cons, vsum_cons]
    have h1 := h x (List.mem_cons_self ..)
    have h2 := vsum_le (fun y hy => h y (List.mem_cons_of_mem _ hy))
    omega
theorem vsum_nonneg {f : Nat → Int} : ∀ {l : List Int}, (∀ x ∈ l, 0 ≤ f x.toNat) → 0 ≤ vsum f l
  | [], _ => Int.le_refl _
  | x :: l, h => by
    rw [vsum_cons]
    have h1 := h x (List.mem_cons_self ..)
    have h2 := vsum_nonneg (fun y hy => h y (List.mem_cons_of_mem _ hy))
    omega
theorem vsum_mem {f : Nat → Int} : ∀ {l : List Int} {x : Int}, x ∈ l → (∀ y ∈ l, 0 ≤ f y.toNat) → f x.toNat ≤ vsum f l
  | y :: l, x, hx, h => by
    rw [vsum_cons]
    have h2 := vsum_nonneg (fun z hz => h z (List.mem_cons_of_mem y hz))
    have h3 := h y (List.mem_cons_self ..)
    rcases List.mem_cons.1 hx with rfl | hx
    · omega
    · have := vsum_mem hx (fun z hz => h z (List.mem_cons_of_mem y hz))
      omega
theorem vsum_flat (f : Nat → Int) (g : Int → List Int) : ∀ l : List Int, vsum f (l.map g).flatten = (l.map (fun c => vsum f (g c))).sum
  | [] => rfl
  | x :: l => by
    rw [List.map_cons, List.flatten_cons, vsum_append, vsum_flat f g l]; simp
theorem vsum_below (ab : List Int) (f : Nat → Int) (i : Nat) : ∀ m, vsum f (belowTo ab m i) = sumTo (fun k => if ab.getD k 0 = (i : Int) then f k else 0) m
  | 0 => rfl
  | m + 1 => by
    have ih := vsum_below ab f i m
    unfold belowTo sumTo
    split
    · rw [vsum_append, ih]; simp [vsum]
    · rw [ih]; simp
section
variable {ab ws : List Int} (hT : treeBad ab ws = 0)
include hT
theorem vsum_step (f : Nat → Int) {i : Nat} (hi : i < ab.length) : vsum f (visit (lows ab ws) i i) = f i + sumTo (fun k => if ab.getD k 0 = (i : Int) then vsum f (visit (lows ab ws) k k) else 0) i := by
  rw [visit_one (lows_lt hT) i, vsum_append, vsum_flat]
  have h1 : ((lows ab ws i).map (fun c => vsum f (visit (lows ab ws) c.toNat c.toNat))).sum = vsum (fun k => vsum f (visit (lows ab ws) k k)) (lows ab ws i) := rfl
  rw [h1, vsum_perm (lows_perm i), below_all hT i ab.length (by omega) (Nat.le_refl _), vsum_below]
  simp [vsum]; omega
omit hT in
theorem vsum_split (g : Nat → Int) (i : Nat) : sumTo (fun k => if (i : Int) ≤ ab.getD k 0 then g k else 0) i = sumTo (fun k => if ab.getD k 0 = (i : Int) then g k else 0) i + sumTo (fun k => if ((i + 1 : Nat) : Int) ≤ ab.getD k 0 then g k else 0) i := by
  refine sumTo_split (fun k hk => ?_)
  by_cases e : ab.getD k 0 = (i : Int)
  · rw [if_pos (by omega), if_pos e, if_neg (by omega)]; omega
  · by_cases e2 : (i : Int) ≤ ab.getD k 0
    · rw [if_pos e2, if_neg e, if_pos (by omega)]; omega
    · rw [if_neg e2, if_neg e, if_neg (by omega)]; omega
theorem vsum_held (f : Nat → Int) : ∀ i : Nat, i < ab.length → sumTo (fun k => if (i : Int) ≤ ab.getD k 0 then vsum f (visit (lows ab ws) k k) else 0) i = sumTo f i
  | 0, _ => rfl
  | i + 1, hi => by
    have ih := vsum_held f i (by omega)
    have h1 := vsum_step hT f (i := i) (by omega)
    have h2 := vsum_split (ab := ab) (fun k => vsum f (visit (lows ab ws) k k)) i
    have h3 := (treeOk hT).2.2 i (by omega)
    have h4 := (h3.2.1 (by omega)).1
    show sumTo _ i + (if ((i + 1 : Nat) : Int) ≤ ab.getD i 0 then vsum f (visit (lows ab ws) i i) else 0) = sumTo f i + f i
    rw [if_pos (by omega)]
    omega
/-- All are visited from the root. -/
theorem vsum_root (f : Nat → Int) (hn : 0 < ab.length) : vsum f (visit (lows ab ws) (ab.length - 1) (ab.length - 1)) = sumTo f ab.length := by
  have h1 := vsum_step hT f (i := ab.length - 1) (by omega)
  have h2 := vsum_held hT f (ab.length - 1) (by omega)
  have h3 : sumTo (fun k => if ab.getD k 0 = ((ab.length - 1 : Nat) : Int) then vsum f (visit (lows ab ws) k k) else 0) (ab.length - 1) = sumTo (fun k => if ((ab.length - 1 : Nat) : Int) ≤ ab.getD k 0 then vsum f (visit (lows ab ws) k k) else 0) (ab.length - 1) := sumTo_same (fun k hk => by
    have h4 := ((treeOk hT).2.2 k (by omega)).2.1 (by omega)
    by_cases e : ab.getD k 0 = ((ab.length - 1 : Nat) : Int)
    · rw [if_pos e, if_pos (by omega)]
    · rw [if_neg e, if_neg (by omega)])
  have h5 : sumTo f ab.length = sumTo f (ab.length - 1) + f (ab.length - 1) := by
    conv => lhs; rw [show ab.length = (ab.length - 1) + 1 by omega]
    rfl
  omega
theorem vsum_some {f : Nat → Int} (hf : ∀ k, 0 ≤ f k) {i : Nat} (hi : i < ab.length) : vsum f (visit (lows ab ws) i i) ≤ sumTo f (i + 1) := by
  have h1 := vsum_step hT f hi
  have h2 := vsum_held hT f i hi
  have h3 := vsum_split (ab := ab) (fun k => vsum f (visit (lows ab ws) k k)) i
  have h4 := sumTo_nonneg (n := i) (f := fun k => if ((i + 1 : Nat) : Int) ≤ ab.getD k 0 then vsum f (visit (lows ab ws) k k) else 0) (fun k hk => by
    split
    · exact vsum_nonneg (fun x _ => hf _)
    · omega)
  show _ ≤ sumTo f i + f i
  omega
theorem visit_range : ∀ (i : Nat) (x : Int), x ∈ visit (lows ab ws) i i → 0 ≤ x ∧ x ≤ (i : Int) := by
  intro i
  induction i using Nat.strongRecOn with
  | ind i ih =>
  intro x hx
  rw [visit_one (lows_lt hT) i] at hx
  rcases List.mem_append.1 hx with h | h
  · obtain ⟨l, hl, hxl⟩ := List.mem_flatten.1 h
    obtain ⟨c, hc, rfl⟩ := List.mem_map.1 hl
    have h1 := lows_lt hT i c hc
    have h2 := ih c.toNat (by omega) x hxl
    omega
  · rw [List.mem_singleton.1 h]; omega
theorem visit_self (i : Nat) : (i : Int) ∈ visit (lows ab ws) i i := by
  rw [visit_one (lows_lt hT) i]; simp
theorem visit_child {i : Nat} {c : Int} (hc : c ∈ lows ab ws i) {x : Int} (hx : x ∈ visit (lows ab ws) c.toNat c.toNat) : x ∈ visit (lows ab ws) i i := by
  rw [visit_one (lows_lt hT) i]
  exact List.mem_append_left _ (List.mem_flatten.2 ⟨_, List.mem_map.2 ⟨c, hc, rfl⟩, hx⟩)
omit hT in
theorem lows_mem {i k : Nat} : (k : Int) ∈ lows ab ws i ↔ k < ab.length ∧ ab.getD k 0 = (i : Int) := by
  rw [(lows_perm i).mem_iff, belowTo_mem]
  constructor
  · rintro ⟨j, e, h1, h2⟩
    obtain rfl : k = j := by omega
    exact ⟨h1, h2⟩
  · rintro ⟨h1, h2⟩
    exact ⟨k, rfl, h1, h2⟩
theorem visit_par : ∀ (a v : Nat), (v : Int) ∈ visit (lows ab ws) a a → v = a ∨ ∃ p : Nat, ab.getD v 0 = (p : Int) ∧ (p : Int) ∈ visit (lows ab ws) a a := by
  intro a
  induction a using Nat.strongRecOn with
  | ind a ih =>
  intro v hv
  have hv' := hv
  rw [visit_one (lows_lt hT) a] at hv
  rcases List.mem_append.1 hv with h | h
  · obtain ⟨l, hl, hxl⟩ := List.mem_flatten.1 h
    obtain ⟨c, hc, rfl⟩ := List.mem_map.1 hl
    have h1 := lows_lt hT a c hc
    obtain ⟨z, rfl⟩ : ∃ z : Nat, c = (z : Int) := ⟨c.toNat, by omega⟩
    rw [Int.toNat_natCast] at hxl
    right
    rcases ih z (by omega) v hxl with e | ⟨p, e, hp⟩
    · subst e
      exact ⟨a, ((lows_mem).1 hc).2, visit_self hT a⟩
    · exact ⟨p, e, visit_child hT hc (by rw [Int.toNat_natCast]; exact hp)⟩
  · left
    have := List.mem_singleton.1 h; omega
theorem visit_down : ∀ (a p v : Nat), v < ab.length → ab.getD v 0 = (p : Int) → (p : Int) ∈ visit (lows ab ws) a a → (v : Int) ∈ visit (lows ab ws) a a := by
  intro a
  induction a using Nat.strongRecOn with
  | ind a ih =>
  intro p v hv e hp
  have hp' := hp
  rw [visit_one (lows_lt hT) a] at hp
  rcases List.mem_append.1 hp with h | h
  · obtain ⟨l, hl, hxl⟩ := List.mem_flatten.1 h
    obtain ⟨c, hc, rfl⟩ := List.mem_map.1 hl
    have h1 := lows_lt hT a c hc
    exact visit_child hT hc (ih c.toNat (by omega) p v hv e hxl)
  · have h1 := List.mem_singleton.1 h
    obtain rfl : p = a := by omega
    exact visit_child hT ((lows_mem).2 ⟨hv, e⟩) (by rw [Int.toNat_natCast]; exact visit_self hT v)
omit hT in
theorem count_vsum {v : Nat} : ∀ {l : List Int}, (∀ x ∈ l, 0 ≤ x) → ((l.count (v : Int) : Nat) : Int) = vsum (fun k => if k = v then 1 else 0) l
  | [], _ => rfl
  | x :: l, h => by
    have ih := count_vsum (v := v) (l := l) (fun y hy => h y (List.mem_cons_of_mem _ hy))
    have h0 := h x (List.mem_cons_self ..)
    rw [vsum_cons, List.count_cons]
    by_cases e : x.toNat = v
    · have : x = (v : Int) := by omega
      rw [if_pos e, if_pos (by simp [this])]; omega
    · have : x ≠ (v : Int) := by omega
      rw [if_neg e, if_neg (by simp [this])]; omega
theorem visit_nodup {i : Nat} (hi : i < ab.length) : (visit (lows ab ws) i i).Nodup := by
  rw [List.nodup_iff_count]
  intro a
  by_cases ha : a ∈ visit (lows ab ws) i i
  · have h1 := visit_range hT i a ha
    obtain ⟨v, rfl⟩ : ∃ v : Nat, a = (v : Int) := ⟨a.toNat, by omega⟩
    have h2 := count_vsum (v := v) (l := visit (lows ab ws) i i) (fun x hx => (visit_range hT i x hx).1)
    have h3 := vsum_some hT (f := fun k => if k = v then 1 else 0) (fun k => by split <;> omega) hi
    have h4 : sumTo (fun k => if k = v then (1 : Int) else 0) (i + 1) = 1 := sumTo_one (by omega)
    omega
  · rw [List.count_eq_zero_of_not_mem ha]; omega
theorem visit_all {v : Nat} (hv : v < ab.length) : (v : Int) ∈ visit (lows ab ws) (ab.length - 1) (ab.length - 1) := by
  have h2 := count_vsum (v := v) (l := visit (lows ab ws) (ab.length - 1) (ab.length - 1)) (fun x hx => (visit_range hT _ x hx).1)
  have h3 := vsum_root hT (fun k => if k = v then (1 : Int) else 0) (by omega)
  have h4 : sumTo (fun k => if k = v then (1 : Int) else 0) ab.length = 1 := sumTo_one hv
  exact List.count_pos_iff.1 (by omega)
theorem visit_len_root (hn : 0 < ab.length) : (visit (lows ab ws) (ab.length - 1) (ab.length - 1)).length = ab.length := by
  have h3 := vsum_root hT (fun _ => (1 : Int)) hn
  have h4 : ∀ l : List Int, vsum (fun _ => (1 : Int)) l = (l.length : Int) := fun l => by
    induction l with
    | nil => rfl
    | cons x l ih => rw [vsum_cons, ih, List.length_cons]; omega
  have h5 : ∀ m, sumTo (fun _ => (1 : Int)) m = (m : Int) := fun m => by
    induction m with
    | zero => rfl
    | succ m ih => show sumTo _ m + 1 = _; omega
  rw [h4, h5] at h3
  omega
/-- Trees below two of one list hold nothing in common. -/
theorem visit_apart {i : Nat} (hi : i < ab.length) {c d : Int} (hc : c ∈ lows ab ws i) (hd : d ∈ lows ab ws i) (hne : c ≠ d) : ∀ x ∈ visit (lows ab ws) c.toNat c.toNat, x ∉ visit (lows ab ws) d.toNat d.toNat := by
  have h1 := visit_nodup hT hi
  rw [visit_one (lows_lt hT) i] at h1
  have h2 := (List.nodup_append.1 h1).1
  unfold List.Nodup at h2
  rw [List.pairwise_flatten, List.pairwise_map] at h2
  have h3 := h2.2
  have key : ∀ (l : List Int), l.Pairwise (fun a b => ∀ x ∈ visit (lows ab ws) a.toNat a.toNat, ∀ y ∈ visit (lows ab ws) b.toNat b.toNat, x ≠ y) → c ∈ l → d ∈ l → ∀ x ∈ visit (lows ab ws) c.toNat c.toNat, x ∉ visit (lows ab ws) d.toNat d.toNat := by
    intro l
    induction l with
    | nil => intro _ h; cases h
    | cons z l ih =>
      intro hp h4 h5 x hx hx2
      have h6 := List.pairwise_cons.1 hp
      rcases List.mem_cons.1 h4 with e4 | e4 <;> rcases List.mem_cons.1 h5 with e5 | e5
      · exact hne (e4.trans e5.symm)
      · rw [e4] at hx; exact h6.1 d e5 x hx x hx2 rfl
      · rw [e5] at hx2; exact h6.1 c e4 x hx2 x hx rfl
      · exact ih h6.2 e4 e5 x hx hx2
  exact key _ h3 hc hd
end
end AdjR
