/- xattr.Get answers as told. -/
import Derived.Test.YtodaagikppaidaaCwXat6
/-! Get, Set, Drop. -/
namespace Go.Proofs.Ytodaagikppaidaa.Cw
open Go Go.Proofs.Ytodaagikppaidaa.Eng Go.Proofs.Ytodaagikppaidaa.Cl
theorem find_at {xs : List Xa} {name : List UInt8} {p : Nat} (hs : XSorted xs) (hp : XAt xs name p) : xs.find? (fun x => decide (x.name = name)) = if xhas xs name p then xs[p]? else none := by
  have hne : ∀ k x, xs[k]? = some x → k < p → x.name ≠ name := fun k x hx hk e => by
    have := hp.2.1 k x hx hk; rw [e, slt_irrefl] at this; cases this
  split
  · rename_i h
    unfold xhas at h
    cases hx : xs[p]? with
    | none => rw [hx] at h; cases h
    | some x =>
      rw [hx] at h
      obtain ⟨hl, rfl⟩ := List.getElem?_eq_some_iff.1 hx
      rw [List.find?_eq_some_iff_getElem]
      exact ⟨h, p, hl, rfl, fun j hj => by have := hne j _ (List.getElem?_eq_getElem (by omega)) hj; simpa using this⟩
  · rename_i h
    rw [List.find?_eq_none]
    intro x hx
    obtain ⟨k, hk⟩ := List.mem_iff_getElem?.1 hx
    simp only [decide_eq_true_eq]
    intro e
    rcases Nat.lt_trichotomy k p with h1 | h1 | h1
    · exact hne k x hk h1 e
    · subst h1; exact h (by simp [xhas, hk, e])
    · have hl := (List.getElem?_eq_some_iff.1 hk).1
      have h2 := hs p k _ x (List.getElem?_eq_getElem (by omega)) hk h1
      rw [e, hp.2.2 p _ (List.getElem?_eq_getElem (by omega)) (Nat.le_refl _)] at h2
      cases h2
theorem NX.take {I : Nat → Prop} {lo : Nat} {w : World} {cs : List Value} {xs : List Xa} (h : NX I lo w cs xs) (p : Nat) : NX I lo w (cs.take (p * 2)) (xs.take p) := fun i x hx => by
  rw [List.getElem?_take] at hx
  split at hx
  · obtain ⟨vv, h1, h2, h3⟩ := h i x hx
    exact ⟨vv, by rw [List.getElem?_take, if_pos (by omega)]; exact h1, by rw [List.getElem?_take, if_pos (by omega)]; exact h2, h3⟩
  · cases hx
theorem NX.drop {I : Nat → Prop} {lo : Nat} {w : World} {cs : List Value} {xs : List Xa} (h : NX I lo w cs xs) (p : Nat) : NX I lo w (cs.drop (p * 2)) (xs.drop p) := fun i x hx => by
  rw [List.getElem?_drop] at hx
  obtain ⟨vv, h1, h2, h3⟩ := h _ x hx
  exact ⟨vv, by rw [List.getElem?_drop, ← h1]; congr 1; omega, by rw [List.getElem?_drop, ← h2]; congr 1; omega, h3⟩
theorem NX.app {I : Nat → Prop} {lo : Nat} {w : World} {cs cs' : List Value} {xs xs' : List Xa} (h : NX I lo w cs xs) (hl : cs.length = xs.length * 2) (h' : NX I lo w cs' xs') : NX I lo w (cs ++ cs') (xs ++ xs') := fun i x hx => by
  rw [List.getElem?_append] at hx
  split at hx
  · obtain ⟨vv, h1, h2, h3⟩ := h i x hx
    exact ⟨vv, by rw [List.getElem?_append_left (by omega)]; exact h1, by rw [List.getElem?_append_left (by omega)]; exact h2, h3⟩
  · obtain ⟨vv, h1, h2, h3⟩ := h' _ x hx
    exact ⟨vv, by rw [List.getElem?_append_right (by omega), ← h1]; congr 1; omega, by rw [List.getElem?_append_right (by omega), ← h2]; congr 1; omega, h3⟩
theorem NX.one {I : Nat → Prop} {lo : Nat} {w : World} {x : Xa} {vv : Value} (h3 : w.ownsRow lo T_uint8 1 vv x.val.length (bytesV x.val)) (h4 : ∀ g, vv.ownBlock = some g → I g) : NX I lo w [T x.name, vv] [x] := fun i y hy => by
  cases i with
  | zero => injection hy with hy; subst hy; exact ⟨vv, rfl, rfl, h3, h4⟩
  | succ i => cases hy
theorem NX.lo {I : Nat → Prop} {lo lo' : Nat} {w : World} {cs : List Value} {xs : List Xa} (h : NX I lo w cs xs) (hl : lo' ≤ lo) : NX I lo' w cs xs := fun i x hx => by
  obtain ⟨vv, h1, h2, h3, h4⟩ := h i x hx
  exact ⟨vv, h1, h2, own_base h3 (fun g hg => Nat.le_trans hl (own_lt h3 hg).1), h4⟩
theorem NX.ones {I : Nat → Prop} {lo : Nat} {w : World} {cs : List Value} {xs : List Xa} (h : NX I lo w cs xs) (hl : cs.length = xs.length * 2) : ∀ u ∈ cs, isOne u = true := fun u hu => by
  obtain ⟨k, hk⟩ := List.mem_iff_getElem?.1 hu
  have hkl := (List.getElem?_eq_some_iff.1 hk).1
  obtain ⟨vv, h1, h2, h3, _⟩ := h (k / 2) xs[k / 2] (List.getElem?_eq_getElem (by omega))
  rcases Nat.mod_two_eq_zero_or_one k with h0 | h0
  · rw [show k = 2 * (k / 2) by omega, h1] at hk; injection hk with hk; subst hk; rfl
  · rw [show k = 2 * (k / 2) + 1 by omega, h2] at hk; injection hk with hk; subst hk
    obtain ⟨A, c, rfl, _⟩ := own_form h3
    rfl
/-- What Get answers. -/
def GetR (lo : Nat) (w : World) (xs : List Xa) (name : List UInt8) (v : Value) : Prop :=
  if xright xs = true then match xs.find? (fun x => decide (x.name = name)) with
    | some x => ∃ u, v = .tuple #[u, .int .i64 0] ∧ w.ownsRow lo T_uint8 1 u x.val.length (bytesV x.val)
    | none => v = .tuple #[.slice none 0 0, .int .i64 4]
  else v = .tuple #[.slice none 0 0, .int .i64 3]
theorem xhas_some {xs : List Xa} {name : List UInt8} {p : Nat} (h : xhas xs name p = true) : ∃ x, xs[p]? = some x ∧ x.name = name := by
  unfold xhas at h
  cases hx : xs[p]? with
  | none => rw [hx] at h; cases h
  | some x => rw [hx] at h; exact ⟨x, rfl, by simpa using h⟩
theorem ite3 {b : Bool} : ((if b then (0 : Int) else 3) ≠ 0) ↔ b = false := by cases b <;> simp
theorem w_Get {I : Nat → Prop} {w : World} (hI : ∀ g, I g → g < w.heap.size) {v : Value} {xs : List Xa} (hv : XS I w v xs) (hb : xs.length * 40 ≤ 140737488351232) (hb2 : ∀ x, x ∈ xs → x.val.length ≤ 140737488355328) (name : List UInt8) : Ret P F_xattr_Get [v, T name] w (fun v w' => GetR w.heap.size w' xs name v ∧ Kp [] w w') := by
  refine Ret.enter func_xattr_Get rfl nt_xattr_Get ?_
  obtain ⟨A, c, ev, hnc, he⟩ := id hv
  subst ev
  have st := St.start I w hI []
  obtain ⟨w0, hw0⟩ : ∃ w0, w0 = w := ⟨_, rfl⟩
  subst hw0
  refine CW.seq ?_
  refine CW.region ?_
  refine SL.op (ev_assign rfl) ?_
  refine SL.op (ev_assign rfl) ?_
  refine SL.nil ?_
  refine CW.seq ?_
  refine CW.seq ?_
  refine CW.region ?_
  refine SL.op (ev_move rfl) ?_
  refine SL.call call_xattr_Check rfl (w_Check hI hv (by omega)) ?_; rintro v1 w1 ⟨rfl, kp1⟩
  have st1 := st.call kp1; have up1 := Up.kp kp1 st.lt
  have hvA := hv.up up1
  refine SL.op (ev_assign rfl) ?_
  refine SL.nil ?_
  refine CW.seq ?_
  refine CW.region ?_
  refine SL.op (ev_move rfl) ?_
  refine SL.op (ev_ne rfl rfl) ?_
  refine SL.nil ?_
  refine CW.ifp rfl (fun hr => ?_) (fun hr => ?_)
  · skip
    refine CW.seq ?_
    refine CW.region ?_
    refine SL.op (ev_move rfl) ?_
    refine SL.op (ev_assign rfl) ?_
    refine SL.op (ev_assign rfl) ?_
    refine SL.nil ?_
    refine CW.ret ?_
    refine RetOk.two rfl rfl ?_
    have hr2 := ite3.1 hr
    rw [hr2]
    exact ⟨by simp [GetR, hr2], st1.kp⟩
  · skip
    refine CW.skip ?_
    refine CW.seq ?_
    refine CW.region ?_
    refine SL.op (ev_move rfl) ?_
    refine SL.op (ev_move rfl) ?_
    have hr2 : xright xs = true := by
      rw [← Bool.not_eq_false]; exact fun h => hr (ite3.2 h)
    have hso := XSorted.of_right hr2
    refine SL.call call_xattr_at rfl (w_at st1.lt hvA hso (by omega) name) ?_; rintro v2 w2 ⟨⟨p, hp, rfl⟩, kp2⟩
    have st2 := st1.call kp2; have up2 := Up.kp kp2 st1.lt
    have hvB := hvA.up up2
    refine SL.op (ev_move rfl) ?_
    refine SL.op (ev_extract rfl rfl) ?_
    refine SL.op (ev_extract rfl rfl) ?_
    refine SL.op (ev_assign rfl) ?_
    refine SL.op (ev_assign rfl) ?_
    refine SL.nil ?_
    refine CW.seq ?_
    refine CW.seq ?_
    refine CW.region ?_
    refine SL.op (ev_move rfl) ?_
    refine SL.op (ev_not rfl) ?_
    refine SL.nil ?_
    refine CW.cond rfl (fun hh => ?_) (fun hh => ?_)
    · skip
      refine CW.seq ?_
      refine CW.region ?_
      refine SL.op (ev_assign rfl) ?_
      refine SL.op (ev_assign rfl) ?_
      refine SL.nil ?_
      refine CW.ret ?_
      refine RetOk.two rfl rfl ?_
      have hh2 : xhas xs name p = false := by simpa using hh
      have hf := find_at hso hp
      rw [hh2] at hf
      exact ⟨by simp [GetR, hr2, hf], st2.kp⟩
    · skip
      refine CW.skip ?_
      refine CW.seq ?_
      refine CW.region ?_
      have hh2 : xhas xs name p = true := by simpa using hh
      obtain ⟨x, hx, hxn⟩ := xhas_some hh2
      have hpl := (List.getElem?_eq_some_iff.1 hx).1
      obtain ⟨a, vv, ha, hia, hc, hsl⟩ := hvB.at' hx
      subst ha
      refine SL.op (ev_move rfl) ?_
      refine SL.op (ev_move rfl) ?_
      refine SL.op (ev_idx els_slapi_Xattr rfl rfl (by omega) (by omega)) ?_
      refine SL.op (ev_fld fld_api_Xattr_Value rfl) ?_
      refine SL.op (ev_load one_sluint8 rfl (hc 1 _ rfl)) ?_
      refine SL.call call_slices_Clone_byte rfl (w_Clone st2.lt hsl (hb2 x (List.mem_of_getElem? hx))) ?_; rintro v3 w3 ⟨kp3, hrow3⟩
      have st3 := st2.call kp3; have up3 := Up.kp kp3 st2.lt
      have hrow := hrow3
      refine SL.op (ev_assign rfl) ?_
      refine SL.op (ev_assign rfl) ?_
      refine SL.nil ?_
      refine CW.ret ?_
      refine RetOk.two rfl rfl ?_
      have hf := find_at hso hp
      rw [hh2, if_pos rfl, hx] at hf
      refine ⟨?_, st3.kp⟩
      simp only [GetR, hr2, hf, if_true]
      exact ⟨_, rfl, own_base hrow (fun g hg => Nat.le_trans (Nat.le_trans kp1.2.2.2.1 kp2.2.2.2.1) (own_lt hrow hg).1)⟩
end Go.Proofs.Ytodaagikppaidaa.Cw
