/- Rules for stepping through code: part 1. -/
import Derived.Tactics
import Derived.Deep.Quiet
import Derived.Laws.Rows
/-! The walk's own words: a frame as a list of slots; what a piece of code comes to. -/
namespace Go.Proofs.Ytodaagikppaidaa.Eng
open Go

abbrev Env := List (Nat × Value)

def look : Env → Nat → Option Value
  | [], _ => none
  | (k, v) :: r, t => match Nat.beq k t with | true => some v | false => look r t

def Fits (n : Nat) (L : Env) (a : Act) : Prop := a.defers = [] ∧ a.tmps.size = n ∧ ∀ t v, look L t = some v → a.tmps[t]? = some v

theorem lt_of_blt {d n : Nat} (h : Nat.blt d n = true) : d < n := Nat.le_of_ble_eq_true h
theorem Fits.put {n : Nat} {L : Env} {a : Act} (h : Fits n L a) {d : Nat} (hd : d < n) (v : Value) : Fits n ((d, v) :: L) (a.put (some d) v) := by
  obtain ⟨h1, h2, h3⟩ := h
  refine ⟨h1, by simp [Act.put, h2], fun t u hu => ?_⟩
  unfold look at hu
  by_cases hdt : d = t
  · subst hdt
    rw [Nat.beq_refl] at hu
    injection hu with hu
    subst hu
    simp [Act.put, Array.getElem?_setIfInBounds_self, h2, hd]
  · have hb : Nat.beq d t = false := by
      cases hc : Nat.beq d t
      · rfl
      · exact absurd (Nat.eq_of_beq_eq_true hc) hdt
    rw [hb] at hu
    simp only [Act.put, Array.getElem?_setIfInBounds_ne hdt]
    exact h3 t u hu

theorem Fits.putU {n : Nat} {L : Env} {a : Act} (h : Fits n L a) (d : Option Nat) (hd : ∀ t, d = some t → look L t = none) (v : Value) : Fits n L (a.put d v) := by
  cases d with
  | none => exact h
  | some d =>
    obtain ⟨h1, h2, h3⟩ := h
    refine ⟨h1, by simp [Act.put, h2], fun t u hu => ?_⟩
    have hdt : d ≠ t := fun e => by subst e; rw [hd _ rfl] at hu; cases hu
    simp only [Act.put, Array.getElem?_setIfInBounds_ne hdt]
    exact h3 t u hu

def ev (L : Env) : Operand → Option Value
  | .tmp t => look L t
  | .const v => some v
  | .global g => some (.pointer (some ⟨g, 0, none⟩))
  | .func f => some (.func (.func f) #[] #[])

theorem ev_eval {n : Nat} {L : Env} {a : Act} (h : Fits n L a) {x : Operand} {v : Value} (hv : ev L x = some v) : a.eval x = v := by
  cases x with
  | tmp t => have := h.2.2 t v hv; simp [Act.eval, Array.getD_eq_getD_getElem?, this]
  | const u => injection hv
  | global g => injection hv
  | func f => injection hv

/-- All that L' says, L says. -/
def Sub (L L' : Env) : Prop := ∀ t v, look L' t = some v → look L t = some v
theorem Fits.sub {n : Nat} {L L' : Env} {a : Act} (h : Fits n L a) (hs : Sub L L') : Fits n L' a := ⟨h.1, h.2.1, fun t v hv => h.2.2 t v (hs t v hv)⟩
theorem Sub.nil (L : Env) : Sub L [] := fun _ _ h => by cases h
theorem Sub.cons {L L' : Env} {k : Nat} {v : Value} (hk : look L k = some v) (h : Sub L L') : Sub L ((k, v) :: L') := fun t u hu => by
  unfold look at hu
  cases hb : Nat.beq k t
  · rw [hb] at hu; exact h t u hu
  · rw [hb] at hu
    injection hu with hu
    have := Nat.eq_of_beq_eq_true hb
    subst this; subst hu
    exact hk

/-! ### frames of worlds -/
def Kp (S : List Nat) (w w' : World) : Prop :=
  w'.os = w.os ∧ w'.tape = w.tape ∧ w'.output = w.output ∧ w.heap.size ≤ w'.heap.size ∧ ∀ g, g < w.heap.size → g ∉ S → w'.heap[g]? = w.heap[g]?
theorem Kp.refl (S : List Nat) (w : World) : Kp S w w := ⟨rfl, rfl, rfl, Nat.le_refl _, fun _ _ _ => rfl⟩
theorem Kp.trans {S : List Nat} {a b c : World} (h : Kp S a b) (k : Kp S b c) : Kp S a c :=
  ⟨k.1.trans h.1, k.2.1.trans h.2.1, k.2.2.1.trans h.2.2.1, Nat.le_trans h.2.2.2.1 k.2.2.2.1, fun g hg hs => (k.2.2.2.2 g (Nat.lt_of_lt_of_le hg h.2.2.2.1) hs).trans (h.2.2.2.2 g hg hs)⟩
theorem Kp.mono {S S' : List Nat} {a b : World} (h : Kp S a b) (hs : ∀ g, g ∈ S → g ∈ S') : Kp S' a b :=
  ⟨h.1, h.2.1, h.2.2.1, h.2.2.2.1, fun g hg hn => h.2.2.2.2 g hg (fun hm => hn (hs g hm))⟩
/-- What a callee turned in blocks of S', each in S or new since w0. -/
theorem Kp.then_ {S S' : List Nat} {w0 w w' : World} (h : Kp S w0 w) (k : Kp S' w w') (hs : ∀ g, g ∈ S' → g ∈ S ∨ w0.heap.size ≤ g) : Kp S w0 w' :=
  ⟨k.1.trans h.1, k.2.1.trans h.2.1, k.2.2.1.trans h.2.2.1, Nat.le_trans h.2.2.2.1 k.2.2.2.1, fun g hg hn => (k.2.2.2.2 g (Nat.lt_of_lt_of_le hg h.2.2.2.1) (fun hm => (hs g hm).elim hn (fun h2 => by omega))).trans (h.2.2.2.2 g hg hn)⟩
theorem Kp.drew {S : List Nat} {a b : World} (h : Kp S a b) : Kp S a b.drew := h
theorem Kp.alloc {S : List Nat} {a b : World} (h : Kp S a b) (o : Obj) : Kp S a (b.alloc o) :=
  h.trans ⟨rfl, rfl, rfl, by simp, fun g hg _ => heap_alloc_old _ _ _ hg⟩
theorem Kp.cell {w w' : World} (h : Kp [] w w') {a : Addr} {v : Value} (hc : w.cell? a = some v) : w'.cell? a = some v := by
  have hb := block_lt_of_cell hc
  have := h.2.2.2.2 a.block hb (by simp)
  unfold World.cell? at hc ⊢
  rw [this]; exact hc

/-! ### judgements -/
section
variable (P : Program) (n : Nat)
/-- An operation's value, in every world that keeps what is. -/
def EvO (L : Env) (w : World) (o : Oper) (v : Value) : Prop :=
  ∀ a, Fits n L a → ∀ w', Kp [] w w' → (execOp a.eval o).run P w' = .ok (.value v) w'

/-- A list of operations in the text's order; N: what is to hold behind it. -/
def SL (ops : Array Oper) (l : List Oper) (N : Env → World → Prop) (L : Env) (w : World) : Prop :=
  ∀ a, Fits n L a → ∀ Q : Exit → Act → World → Prop, (∀ L' w' a', N L' w' → Fits n L' a' → Q .normal a' w') → wpList P ops Q l a w

abbrev Kt := List (Nat × (Env → World → Prop))
def exOf : Kt → Nat → Option (Env → World → Prop)
  | [], _ => none
  | (k, N) :: r, i => match Nat.beq k i with | true => some N | false => exOf r i

/-- Code: N behind it, X where a block is left, R where the function returns. -/
def CW (c : Code) (N : Env → World → Prop) (X : Kt) (R : Env → World → Prop) (L : Env) (w : World) : Prop :=
  ∀ a, Fits n L a → ∀ Q : Exit → Act → World → Prop, (∀ L' w' a', N L' w' → Fits n L' a' → Q .normal a' w') →
    (∀ i E, exOf X i = some E → ∀ L' w' a', E L' w' → Fits n L' a' → Q (.exit i) a' w') →
    (∀ L' w' a', R L' w' → Fits n L' a' → Q .ret a' w') → c.wp P Q a w
end

theorem least_ex {p : Nat → Prop} (h : ∃ k, p k) : ∃ k, p k ∧ ∀ j, p j → k ≤ j := by
  obtain ⟨k, hk⟩ := h
  induction k using Nat.strongRecOn with
  | _ k ih =>
    by_cases hh : ∃ j, j < k ∧ p j
    · obtain ⟨j, hj, hp⟩ := hh; exact ih j hj hp
    · exact ⟨k, hk, fun j hp => Nat.le_of_not_lt fun hj => hh ⟨j, hj, hp⟩⟩
open Classical in
noncomputable def leastOf (p : Nat → Prop) : Nat := if h : ∃ k, p k then Classical.choose (least_ex h) else 0
theorem leastOf_is {p : Nat → Prop} (h : ∃ k, p k) : p (leastOf p) := by
  unfold leastOf; rw [dif_pos h]; exact (Classical.choose_spec (least_ex h)).1
theorem leastOf_le {p : Nat → Prop} {j : Nat} (h : p j) : leastOf p ≤ j := by
  unfold leastOf; rw [dif_pos ⟨j, h⟩]; exact (Classical.choose_spec (least_ex ⟨j, h⟩)).2 j h

section
variable {P : Program} {n : Nat} {ops : Array Oper} {N R : Env → World → Prop} {X : Kt} {L : Env} {w : World}

theorem SL.nil (h : N L w) : SL P n ops [] N L w := fun a ha Q hN => hN _ _ _ h ha
/-- One operation that yields a value. -/
theorem SL.op {o : Oper} {l : List Oper} {d : Nat} {v : Value} (h : EvO P n L w o v)
    (k : SL P n ops l N ((d, v) :: L) w) (hd : o.dst = some d := by rfl) (hn : Nat.blt d n = true := by rfl) (hg : o.guard = none := by rfl) : SL P n ops (o :: l) N L w := by
  intro a ha Q hN
  refine wpList_plain hg fun K hK => ?_
  unfold Oper.wp
  rw [h a ha w (Kp.refl _ _), Oper.upon_value, hd]
  exact hK _ _ (k _ (ha.put (lt_of_blt hn) v) Q hN)

theorem CW.region {id : Nat} {l : List Oper} (h : SL P n l.toArray l N L w) : CW P n (.region id l.toArray false) N X R L w :=
  fun a ha Q hN _ _ => wp_region_lit (h a ha Q hN)
theorem CW.seq {x y : Code} (h : CW P n x (fun L w => CW P n y N X R L w) X R L w) : CW P n (.seq x y) N X R L w := by
  intro a ha Q hN hX hR
  refine wp_seq (h a ha _ ?_ ?_ ?_)
  · intro L' w' a' hc hf; exact hc a' hf Q hN hX hR
  · intro i E hE L' w' a' he hf; exact hX i E hE L' w' a' he hf
  · intro L' w' a' hr hf; exact hR L' w' a' hr hf
theorem CW.skip (h : N L w) : CW P n .skip N X R L w := fun a ha Q hN _ _ => wp_skip (hN _ _ _ h ha)
theorem CW.ret (h : R L w) : CW P n .ret N X R L w := fun a ha Q _ _ hR => wp_ret (hR _ _ _ h ha)
theorem CW.exit {i : Nat} {E : Env → World → Prop} (h : E L w) (hE : exOf X i = some E := by rfl) : CW P n (.exit i) N X R L w := fun a ha Q _ hX _ => wp_exit (hX i E hE _ _ _ h ha)
theorem CW.block {i : Nat} {c : Code} (h : CW P n c N ((i, N) :: X) R L w) : CW P n (.block i c) N X R L w := by
  intro a ha Q hN hX hR
  refine wp_block (h a ha _ ?_ ?_ ?_)
  · intro L' w' a' hn hf; exact hN L' w' a' hn hf
  · intro j E hE L' w' a' he hf
    unfold exOf at hE
    simp only [Exit.inBlock]
    cases hb : Nat.beq i j
    · rw [hb] at hE
      have hne : ¬ j = i := fun e => by subst e; rw [Nat.beq_refl] at hb; cases hb
      rw [if_neg hne]
      exact hX j E hE L' w' a' he hf
    · rw [hb] at hE
      injection hE with hE
      have := Nat.eq_of_beq_eq_true hb
      subst this; subst hE
      rw [if_pos rfl]
      exact hN L' w' a' he hf
  · intro L' w' a' hr hf; exact hR L' w' a' hr hf
theorem CW.cond {c : Operand} {x y : Code} {b : Bool} (hc : ev L c = some (.bool b)) (ht : b = true → CW P n x N X R L w) (hf : b = false → CW P n y N X R L w) : CW P n (.cond c x y) N X R L w := by
  intro a ha Q hN hX hR
  exact wp_cond_split (ev_eval ha hc) (fun h => ht h a ha Q hN hX hR) (fun h => hf h a ha Q hN hX hR)
theorem CW.ifp {c : Operand} {x y : Code} {p : Prop} [Decidable p] (hc : ev L c = some (.bool (decide p))) (ht : p → CW P n x N X R L w) (hf : ¬ p → CW P n y N X R L w) : CW P n (.cond c x y) N X R L w :=
  CW.cond hc (fun h => ht (of_decide_eq_true h)) (fun h => hf (of_decide_eq_false h))
/-- What stands behind is the same for more; fewer slots are kept. -/
theorem CW.sub {c : Code} {L' : Env} (h : CW P n c N X R L' w) (hs : Sub L L') : CW P n c N X R L w := fun a ha => h a (ha.sub hs)
theorem CW.mono {c : Code} {N' : Env → World → Prop} (h : CW P n c N' X R L w) (hn : ∀ L w, N' L w → N L w) : CW P n c N X R L w :=
  fun a ha Q hN hX hR => h a ha Q (fun L' w' a' h' hf => hN L' w' a' (hn _ _ h') hf) hX hR
/-- A loop: x tells the slots (J) and what holds (V); m goes down. -/
theorem CW.loop {α : Type} {c : Code} (J : α → Env) (V : α → World → Prop) (m : α → Nat) (x0 : α) (hs : Sub L (J x0)) (hv : V x0 w)
    (hr : ∀ x w, V x w → CW P n c (fun L' w' => ∃ x', Sub L' (J x') ∧ V x' w' ∧ m x' < m x) X R (J x) w) : CW P n (.loop c) N X R L w := by
  intro a ha Q _ hX hR
  let T : Act → World → Nat → Prop := fun a w k => ∃ x, m x = k ∧ V x w ∧ Fits n (J x) a
  refine wp_loop (fun a w => ∃ k, T a w k) (fun a w => leastOf (T a w)) ⟨_, x0, rfl, hv, ha.sub hs⟩ ?_
  intro a w hI
  obtain ⟨x, hm, hv, hf⟩ := leastOf_is hI
  refine hr x w hv a hf _ ?_ hX hR
  rintro L' w' a' ⟨x', hs', hv', hlt⟩ hf'
  have h2 : T a' w' (m x') := ⟨x', rfl, hv', hf'.sub hs'⟩
  exact ⟨⟨_, h2⟩, Nat.lt_of_le_of_lt (leastOf_le h2) (hm ▸ hlt)⟩
end
end Go.Proofs.Ytodaagikppaidaa.Eng
