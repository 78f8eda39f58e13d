/- The answers of the two sides are the same. -/
import Derived.Test.YtodaagikppaidaaCwXlaw1
/-! What the calls answer, in a form that two of them share; rows whose bytes are turned. -/
namespace Go.Proofs.Ytodaagikppaidaa.Cw
open Go Go.Proofs.Ytodaagikppaidaa.Eng Go.Proofs.Ytodaagikppaidaa.Cl
abbrev xfind (xs : List Xa) (name : List UInt8) : Option Xa := xs.find? (fun x => decide (x.name = name))
def GetS (xs : List Xa) (name : List UInt8) (e : Int) (bs : List UInt8) : Prop :=
  (xright xs = false → e = 3 ∧ bs = []) ∧ (xright xs = true → xfind xs name = none → e = 4 ∧ bs = []) ∧ (∀ x, xright xs = true → xfind xs name = some x → e = 0 ∧ bs = x.val)
theorem GetR.split {lo : Nat} {w : World} {xs : List Xa} {name : List UInt8} {v : Value} (h : GetR lo w xs name v) : ∃ u e bs, v = .tuple #[u, .int .i64 e] ∧ w.ownsRow lo T_uint8 1 u bs.length (bytesV bs) ∧ GetS xs name e bs := by
  unfold GetR at h
  by_cases hr : xright xs = true
  · rw [if_pos hr] at h
    cases hf : xs.find? (fun x => decide (x.name = name)) with
    | none => rw [hf] at h; exact ⟨_, 4, [], h, World.ownsRow_nil _ _ _ _, by simp [hr], fun _ _ => ⟨rfl, rfl⟩, fun x _ h => by rw [xfind, hf] at h; cases h⟩
    | some x =>
      rw [hf] at h
      obtain ⟨u, rfl, hrow⟩ := h
      exact ⟨u, 0, x.val, rfl, hrow, by simp [hr], fun _ h => (by rw [xfind, hf] at h; cases h), fun y _ h => (by rw [xfind, hf] at h; injection h with h; subst h; exact ⟨rfl, rfl⟩)⟩
  · rw [if_neg hr] at h
    exact ⟨_, 3, [], h, World.ownsRow_nil _ _ _ _, fun _ => ⟨rfl, rfl⟩, fun h => absurd h hr, fun _ h => absurd h hr⟩
def SetS (xs : List Xa) (name val : List UInt8) (e : Int) (ys : List Xa) : Prop :=
  (xright xs = false → e = 3 ∧ ys = []) ∧ (xright xs = true → xone name val = false → e = 2 ∧ ys = []) ∧ (xright xs = true → xone name val = true → xfind xs name = none ∧ xs.length = 4 → e = 5 ∧ ys = []) ∧
  (xright xs = true → xone name val = true → ¬ (xfind xs name = none ∧ xs.length = 4) → e = 0 ∧ SetOut xs name val ys)
theorem SetR.split {lo : Nat} {w : World} {xs : List Xa} {name val : List UInt8} {v : Value} (h : SetR lo w xs name val v) : ∃ u e ys, v = .tuple #[u, .int .i64 e] ∧ XNew lo w u ys ∧ SetS xs name val e ys := by
  unfold SetR at h
  by_cases hr : xright xs = true
  · rw [if_pos hr] at h
    by_cases ho : xone name val = true
    · rw [if_pos ho] at h
      by_cases hf : xs.find? (fun x => decide (x.name = name)) = none ∧ xs.length = 4
      · rw [if_pos hf] at h
        exact ⟨_, 5, [], h, XNew.nil, by simp [hr], by simp [ho], fun _ _ _ => ⟨rfl, rfl⟩, fun _ _ h => absurd hf h⟩
      · rw [if_neg hf] at h
        obtain ⟨u, ys, rfl, h1, h2⟩ := h
        exact ⟨u, 0, ys, rfl, h2, by simp [hr], by simp [ho], fun _ _ h => absurd h hf, fun _ _ _ => ⟨rfl, h1⟩⟩
    · rw [if_neg ho] at h
      exact ⟨_, 2, [], h, XNew.nil, by simp [hr], fun _ _ => ⟨rfl, rfl⟩, fun _ h => absurd h ho, fun _ h => absurd h ho⟩
  · rw [if_neg hr] at h
    exact ⟨_, 3, [], h, XNew.nil, fun _ => ⟨rfl, rfl⟩, fun h => absurd h hr, fun h => absurd h hr, fun h => absurd h hr⟩
theorem RSetR.split {I : Nat → Prop} {w : World} {xs : List Xa} {name val : List UInt8} {v : Value} (h : RSetR I w xs name val v) : ∃ u e ys, v = .tuple #[u, .int .i64 e] ∧ XS I w u ys ∧ SetS xs name val e ys := by
  unfold RSetR at h
  by_cases hr : xright xs = true
  · rw [if_pos hr] at h
    by_cases ho : xone name val = true
    · rw [if_pos ho] at h
      by_cases hf : xs.find? (fun x => decide (x.name = name)) = none ∧ xs.length = 4
      · rw [if_pos hf] at h
        exact ⟨_, 5, [], h, XS.nil _ _, by simp [hr], by simp [ho], fun _ _ _ => ⟨rfl, rfl⟩, fun _ _ h => absurd hf h⟩
      · rw [if_neg hf] at h
        obtain ⟨u, ys, rfl, h1, h2⟩ := h
        exact ⟨u, 0, ys, rfl, h2, by simp [hr], by simp [ho], fun _ _ h => absurd h hf, fun _ _ _ => ⟨rfl, h1⟩⟩
    · rw [if_neg ho] at h
      exact ⟨_, 2, [], h, XS.nil _ _, by simp [hr], fun _ _ => ⟨rfl, rfl⟩, fun _ h => absurd h ho, fun _ h => absurd h ho⟩
  · rw [if_neg hr] at h
    exact ⟨_, 3, [], h, XS.nil _ _, fun _ => ⟨rfl, rfl⟩, fun h => absurd h hr, fun h => absurd h hr, fun h => absurd h hr⟩
theorem XAt.uniq {xs : List Xa} {name : List UInt8} {p q : Nat} (hp : XAt xs name p) (hq : XAt xs name q) : p = q := by
  have key : ∀ {p q}, XAt xs name p → XAt xs name q → ¬ p < q := fun {p q} hp hq h => by
    have hz := List.getElem?_eq_getElem (l := xs) (i := p) (by have := hq.1; omega)
    have h1 := hp.2.2 p _ hz (Nat.le_refl _)
    rw [hq.2.1 p _ hz h] at h1; cases h1
  have := key hp hq; have := key hq hp; omega
theorem SetS.uniq {xs : List Xa} {name val : List UInt8} {e e' : Int} {ys ys' : List Xa} (h : SetS xs name val e ys) (h' : SetS xs name val e' ys') : e = e' ∧ ys = ys' := by
  cases hr : xright xs
  · have a := h.1 hr; have b := h'.1 hr; exact ⟨a.1.trans b.1.symm, a.2.trans b.2.symm⟩
  · cases ho : xone name val
    · have a := h.2.1 hr ho; have b := h'.2.1 hr ho; exact ⟨a.1.trans b.1.symm, a.2.trans b.2.symm⟩
    · by_cases hf : xfind xs name = none ∧ xs.length = 4
      · have a := h.2.2.1 hr ho hf; have b := h'.2.2.1 hr ho hf; exact ⟨a.1.trans b.1.symm, a.2.trans b.2.symm⟩
      · have a := h.2.2.2 hr ho hf; have b := h'.2.2.2 hr ho hf
        refine ⟨a.1.trans b.1.symm, ?_⟩
        obtain ⟨p, hp, e1⟩ := a.2; obtain ⟨q, hq, e2⟩ := b.2
        have := XAt.uniq hp hq; subst this
        rw [e1, e2]
def DropS (xs : List Xa) (name : List UInt8) (e : Int) (ys : List Xa) : Prop :=
  (xright xs = false → e = 3 ∧ ys = []) ∧ (xright xs = true → xfind xs name = none → e = 4 ∧ ys = []) ∧ (xright xs = true → ¬ xfind xs name = none → e = 0 ∧ DropOut xs name ys)
theorem DropR.split {lo : Nat} {w : World} {xs : List Xa} {name : List UInt8} {v : Value} (h : DropR lo w xs name v) : ∃ u e ys, v = .tuple #[u, .int .i64 e] ∧ XNew lo w u ys ∧ DropS xs name e ys := by
  unfold DropR at h
  by_cases hr : xright xs = true
  · rw [if_pos hr] at h
    by_cases hf : xs.find? (fun x => decide (x.name = name)) = none
    · rw [if_pos hf] at h
      exact ⟨_, 4, [], h, XNew.nil, by simp [hr], fun _ _ => ⟨rfl, rfl⟩, fun _ h => absurd hf h⟩
    · rw [if_neg hf] at h
      obtain ⟨u, ys, rfl, h1, h2⟩ := h
      exact ⟨u, 0, ys, rfl, h2, by simp [hr], fun _ h => absurd h hf, fun _ _ => ⟨rfl, h1⟩⟩
  · rw [if_neg hr] at h
    exact ⟨_, 3, [], h, XNew.nil, fun _ => ⟨rfl, rfl⟩, fun h => absurd h hr, fun h => absurd h hr⟩
theorem RDropR.split {I : Nat → Prop} {w : World} {xs : List Xa} {name : List UInt8} {v : Value} (h : RDropR I w xs name v) : ∃ u e ys, v = .tuple #[u, .int .i64 e] ∧ XS I w u ys ∧ DropS xs name e ys := by
  unfold RDropR at h
  by_cases hr : xright xs = true
  · rw [if_pos hr] at h
    by_cases hf : xs.find? (fun x => decide (x.name = name)) = none
    · rw [if_pos hf] at h
      exact ⟨_, 4, [], h, XS.nil _ _, by simp [hr], fun _ _ => ⟨rfl, rfl⟩, fun _ h => absurd hf h⟩
    · rw [if_neg hf] at h
      obtain ⟨u, ys, rfl, h1, h2⟩ := h
      exact ⟨u, 0, ys, rfl, h2, by simp [hr], fun _ h => absurd h hf, fun _ _ => ⟨rfl, h1⟩⟩
  · rw [if_neg hr] at h
    exact ⟨_, 3, [], h, XS.nil _ _, fun _ => ⟨rfl, rfl⟩, fun h => absurd h hr, fun h => absurd h hr⟩
theorem DropS.uniq {xs : List Xa} {name : List UInt8} {e e' : Int} {ys ys' : List Xa} (h : DropS xs name e ys) (h' : DropS xs name e' ys') : e = e' ∧ ys = ys' := by
  cases hr : xright xs
  · have a := h.1 hr; have b := h'.1 hr; exact ⟨a.1.trans b.1.symm, a.2.trans b.2.symm⟩
  · by_cases hf : xfind xs name = none
    · have a := h.2.1 hr hf; have b := h'.2.1 hr hf; exact ⟨a.1.trans b.1.symm, a.2.trans b.2.symm⟩
    · have a := h.2.2 hr hf; have b := h'.2.2 hr hf
      refine ⟨a.1.trans b.1.symm, ?_⟩
      obtain ⟨p, hp, _, e1⟩ := a.2; obtain ⟨q, hq, _, e2⟩ := b.2
      have := XAt.uniq hp hq; subst this
      rw [e1, e2]
theorem SetS.len {xs : List Xa} {name val : List UInt8} {e : Int} {ys : List Xa} (h : SetS xs name val e ys) : ys.length ≤ 5 := by
  cases hr : xright xs
  · rw [(h.1 hr).2]; simp
  · have h4 := ((xright_iff xs).1 hr).1
    cases ho : xone name val
    · rw [(h.2.1 hr ho).2]; simp
    · by_cases hf : xfind xs name = none ∧ xs.length = 4
      · rw [(h.2.2.1 hr ho hf).2]; simp
      · obtain ⟨p, hp, e1⟩ := (h.2.2.2 hr ho hf).2
        rw [e1, List.length_append, List.length_cons, List.length_take, List.length_drop]
        have := hp.1
        split <;> omega
theorem DropS.len {xs : List Xa} {name : List UInt8} {e : Int} {ys : List Xa} (h : DropS xs name e ys) : ys.length ≤ 5 := by
  cases hr : xright xs
  · rw [(h.1 hr).2]; simp
  · have h4 := ((xright_iff xs).1 hr).1
    by_cases hf : xfind xs name = none
    · rw [(h.2.1 hr hf).2]; simp
    · obtain ⟨p, hp, _, e1⟩ := (h.2.2 hr hf).2
      rw [e1, List.length_append, List.length_take, List.length_drop]
      omega
/-! ### all blocks -/
abbrev AllB (w : World) : Nat → Prop := fun g => g < w.heap.size
theorem Sl.all {I : Nat → Prop} {w : World} {size : Nat} {v : Value} {vs : List Value} (h : Sl I w size v vs) : Sl (AllB w) w size v vs := by
  obtain ⟨A, n, c, h1, h2, h3, h4⟩ := h
  refine ⟨A, n, c, h1, h2, h3, fun hn => ?_⟩
  obtain ⟨a, ha, _, hc⟩ := h4 hn
  cases vs with
  | nil => exact absurd rfl hn
  | cons u r => exact ⟨a, ha, (by have := block_lt_of_cell (hc 0 u rfl); rwa [block_of_add] at this), hc⟩
theorem Sl.kpA {w w' : World} {size : Nat} {v : Value} {vs : List Value} (h : Sl (AllB w) w size v vs) (hk : Kp [] w w') : Sl (AllB w') w' size v vs := Sl.all (h.up (Up.keep hk (fun _ h => h)))
theorem XS.all {I : Nat → Prop} {w : World} {v : Value} {xs : List Xa} (h : XS I w v xs) : XS (AllB w) w v xs := by
  obtain ⟨A, c, h1, h2, h3⟩ := h
  refine ⟨A, c, h1, h2, fun i x hx => ?_⟩
  obtain ⟨a, vv, ha, _, hc, hs⟩ := h3 i x hx
  exact ⟨a, vv, ha, (by have := block_lt_of_cell (hc 0 _ rfl); rwa [block_of_add, block_of_add] at this), hc, Sl.all hs⟩
theorem XS.kpA {w w' : World} {v : Value} {xs : List Xa} (h : XS (AllB w) w v xs) (hk : Kp [] w w') : XS (AllB w') w' v xs := (h.up (Up.keep hk (fun _ h => h))).all
def xidx (xs : List Xa) (name : List UInt8) : Int := match xs.findIdx? (fun x => decide (x.name = name)) with | some k => (k : Int) | none => -1
theorem w_Index' {I : Nat → Prop} {w : World} {v : Value} {xs : List Xa} (hv : XS I w v xs) (hb : xs.length ≤ 9223372036854775806) (name : List UInt8) : Ret P F_cloisterref16_Index [v, T name] w (fun v w' => v = .int .i64 (xidx xs name) ∧ w' = w) := (w_Index hv hb name).mono (fun _ _ h => h)
theorem xidx_lt {xs : List Xa} {name : List UInt8} : xidx xs name < 0 ↔ xfind xs name = none := idx_lt
theorem xidx_some {xs : List Xa} {name : List UInt8} (h : ¬ xidx xs name < 0) : ∃ k, xs.findIdx? (fun x => decide (x.name = name)) = some k ∧ xidx xs name = (k : Int) := by
  unfold xidx at *
  cases hk : xs.findIdx? (fun x => decide (x.name = name)) with
  | none => rw [hk] at h; exact absurd (by decide) h
  | some k => exact ⟨k, rfl, rfl⟩
theorem idx_some {xs : List Xa} {name : List UInt8} {k : Nat} (h : xs.findIdx? (fun x => decide (x.name = name)) = some k) : ∃ x, xs[k]? = some x ∧ xfind xs name = some x := by
  rw [List.findIdx?_eq_some_iff_getElem] at h
  obtain ⟨hl, h1, h2⟩ := h
  refine ⟨xs[k], List.getElem?_eq_getElem hl, ?_⟩
  rw [xfind, List.find?_eq_some_iff_getElem]
  exact ⟨h1, k, hl, rfl, fun j hj => by simpa using h2 j hj⟩
end Go.Proofs.Ytodaagikppaidaa.Cw
