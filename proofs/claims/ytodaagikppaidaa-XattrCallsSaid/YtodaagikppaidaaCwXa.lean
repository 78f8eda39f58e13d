/- Lists of attributes, in plain terms. -/
import Derived.Test.YtodaagikppaidaaCwE10
/-! Lists of attributes: plain. -/
namespace Go.Proofs.Ytodaagikppaidaa.Cl
open Go
abbrev Str := List UInt8
structure Xa where
  name : Str
  val : Str
instance : Inhabited Xa := ⟨⟨[], []⟩⟩
abbrev slt (a b : Str) : Bool := Op.bytesLess a b
theorem slt_irrefl : ∀ a : Str, slt a a = false
  | [] => rfl
  | x :: a => by have := slt_irrefl a; simp only [slt, Op.bytesLess] at this ⊢; simp [this, UInt8.lt_irrefl]
theorem slt_trans : ∀ {a b c : Str}, slt a b = true → slt b c = true → slt a c = true
  | [], _, [], h1, h2 => by cases ‹Str› <;> simp [slt, Op.bytesLess] at h1 h2
  | [], _, z :: c, _, _ => by simp [slt, Op.bytesLess]
  | x :: a, [], c, h1, _ => by simp [slt, Op.bytesLess] at h1
  | x :: a, y :: b, [], _, h2 => by simp [slt, Op.bytesLess] at h2
  | x :: a, y :: b, z :: c, h1, h2 => by
    have ih := @slt_trans a b c
    simp only [slt, Op.bytesLess, Bool.or_eq_true, Bool.and_eq_true, decide_eq_true_eq, beq_iff_eq] at h1 h2 ih ⊢
    rcases h1 with h1 | ⟨h1, h1'⟩ <;> rcases h2 with h2 | ⟨h2, h2'⟩
    · exact .inl (UInt8.lt_trans h1 h2)
    · subst h2; exact .inl h1
    · subst h1; exact .inl h2
    · subst h1; subst h2; exact .inr ⟨rfl, ih h1' h2'⟩
theorem slt_tri : ∀ a b : Str, slt a b = true ∨ a = b ∨ slt b a = true
  | [], [] => .inr (.inl rfl)
  | [], y :: b => .inl rfl
  | x :: a, [] => .inr (.inr rfl)
  | x :: a, y :: b => by
    simp only [slt, Op.bytesLess, Bool.or_eq_true, Bool.and_eq_true, decide_eq_true_eq, beq_iff_eq, List.cons.injEq]
    rcases UInt8.lt_or_lt_of_ne (a := x) (b := y) |> fun h => (Classical.em (x = y)).imp id h with h | h | h
    · subst h
      rcases slt_tri a b with h1 | h1 | h1
      · exact .inl (.inr ⟨rfl, h1⟩)
      · exact .inr (.inl ⟨rfl, h1⟩)
      · exact .inr (.inr (.inr ⟨rfl, h1⟩))
    · exact .inl (.inl h)
    · exact .inr (.inr (.inl h))
def xone (name val : Str) : Bool := decide (1 ≤ name.length) && decide (name.length ≤ 12) && !(decide ((0 : UInt8) ∈ name)) && decide (val.length ≤ 40)
def xgood (l : List Xa) (j : Nat) : Bool := xone (l.getD j default).name (l.getD j default).val && (decide (j = 0) || slt (l.getD (j - 1) default).name (l.getD j default).name)
def xright (l : List Xa) : Bool := decide (l.length ≤ 4) && (List.range l.length).all (xgood l)
/-- Where the name stands or would stand. -/
def XAt (l : List Xa) (name : Str) (p : Nat) : Prop := p ≤ l.length ∧ (∀ k (x : Xa), l[k]? = some x → k < p → slt x.name name = true) ∧ (∀ k (x : Xa), l[k]? = some x → p ≤ k → slt x.name name = false)
def XSorted (l : List Xa) : Prop := ∀ (i j : Nat) (x y : Xa), l[i]? = some x → l[j]? = some y → i < j → slt x.name y.name = true
def xhas (l : List Xa) (name : Str) (p : Nat) : Bool := match l[p]? with | some x => decide (x.name = name) | none => false
theorem xright_iff (l : List Xa) : xright l = true ↔ l.length ≤ 4 ∧ ∀ j, j < l.length → xgood l j = true := by
  simp [xright, List.all_eq_true, List.mem_range]
theorem XSorted.of_right {l : List Xa} (h : xright l = true) : XSorted l := by
  have hg := ((xright_iff l).1 h).2
  have step : ∀ j x y, l[j]? = some x → l[j + 1]? = some y → slt x.name y.name = true := fun j x y hx hy => by
    have := hg (j + 1) (List.getElem?_eq_some_iff.1 hy).1
    simp only [xgood, Bool.and_eq_true, Bool.or_eq_true, decide_eq_true_eq] at this
    have h2 := this.2.resolve_left (by omega)
    simpa [List.getD_eq_getElem?_getD, hx, hy] using h2
  intro i j x y hx hy hij
  obtain ⟨d, rfl⟩ : ∃ d, j = i + 1 + d := ⟨j - (i + 1), by omega⟩
  induction d generalizing y with
  | zero => exact step i x y hx hy
  | succ d ih =>
    have hl := (List.getElem?_eq_some_iff.1 hy).1
    have hz : l[i + 1 + d]? = some l[i + 1 + d] := List.getElem?_eq_getElem (by omega)
    exact slt_trans (ih _ hz (by omega)) (step (i + 1 + d) _ y hz (by rw [← hy]; rfl))
end Go.Proofs.Ytodaagikppaidaa.Cl
