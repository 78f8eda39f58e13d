/- The fixed answers of the law hold. -/
import Derived.Test.YtodaagikppaidaaCwXref4
/-! fixed. -/
namespace Go.Proofs.Ytodaagikppaidaa.Cw
open Go Go.Proofs.Ytodaagikppaidaa.Eng Go.Proofs.Ytodaagikppaidaa.Cl
theorem NX.all {I : Nat → Prop} {lo : Nat} {w : World} {cs : List Value} {xs : List Xa} (h : NX I lo w cs xs) : NX (fun g => g < w.heap.size) lo w cs xs := fun i x hx => by
  obtain ⟨vv, h1, h2, h3, _⟩ := h i x hx
  exact ⟨vv, h1, h2, h3, fun g hg => (own_lt h3 hg).2⟩
theorem XNew.read {lo : Nat} {w : World} {u : Value} {xs : List Xa} (h : XNew lo w u xs) : XS (fun g => g < w.heap.size) w u xs := by
  obtain ⟨cs, hr, hn⟩ := h
  exact hn.all.read hr (fun _ h => h) (fun g hg => (own_lt hr hg).2)
theorem XNew.up {I I' : Nat → Prop} {lo : Nat} {w w' : World} {u : Value} {xs : List Xa} (h : XNew lo w u xs) (hI : ∀ g, lo ≤ g → g < w.heap.size → I g) (hu : Up I w I' w') : XNew lo w' u xs := by
  obtain ⟨cs, hr, hn⟩ := h
  refine ⟨cs, own_keep hr (fun g hg => (hu g (hI g (own_lt hr hg).1 (own_lt hr hg).2)).2), fun i x hx => ?_⟩
  obtain ⟨vv, h1, h2, h3, _⟩ := hn i x hx
  exact ⟨vv, h1, h2, own_keep h3 (fun g hg => (hu g (hI g (own_lt h3 hg).1 (own_lt h3 hg).2)).2), fun _ _ => trivial⟩
theorem XNew.kp {lo : Nat} {w w' : World} {u : Value} {xs : List Xa} (h : XNew lo w u xs) (hk : Kp [] w w') : XNew lo w' u xs :=
  h.up (I := fun g => g < w.heap.size) (fun _ _ h => h) (Up.keep hk (fun _ h => h))
theorem XS.nil (I : Nat → Prop) (w : World) : XS I w (.slice none 0 0) [] := ⟨none, 0, rfl, Nat.le_refl _, fun i x h => by cases h⟩
theorem own_kp {w w' : World} {lo e size n : Nat} {v : Value} {xs : List Value} (h : w.ownsRow lo e size v n xs) (hk : Kp [] w w') : w'.ownsRow lo e size v n xs := own_keep h (fun g hg => hk.2.2.2.2 g (own_lt h hg).2 (by simp))
theorem own_all {w : World} {lo e size n : Nat} {v : Value} {xs : List Value} (h : w.ownsRow lo e size v n xs) : Sl (fun g => g < w.heap.size) w size v xs := own_read h (fun g hg => (own_lt h hg).2)
theorem w_fixed {w : World} : Ret P F_cloisterlaw16_fixed [] w (fun v w' => v = .bool true ∧ Kp [] w w') := by
  refine Ret.enter func_cloisterlaw16_fixed rfl nt_cloisterlaw16_fixed ?_
  have st := St.start (fun _ => False) w (fun _ h => h.elim) []
  refine CW.seq ?_
  refine CW.region ?_
  refine SL.op (ev_assign rfl) ?_
  refine SL.nil ?_
  refine CW.seq ?_
  refine CW.region ?_
  refine SL.bsl st els_sluint8 info_uint8 rfl ?_; intro w1 g1 st1 up1 kp1 hg1
  refine SL.call call_xattr_Set rfl (w_Set (I := fun g => g < w1.heap.size) (fun _ h => h) (xs := []) (XS.nil _ _) (by simp) (fun x h => by cases h) [107] [1, 2] ⟨_, 2, 2, rfl, Nat.le_refl _, rfl, fun _ => ⟨_, rfl, (st1.ok _ (.head _)).lt, (st1.ok _ (.head _)).cells 0⟩⟩ (by decide)) ?_; rintro v2 w2 ⟨hset, kp2⟩
  have st2 := st1.call kp2; have up2 := Up.kp kp2 st1.lt
  simp only [SetR, show xright [] = true from rfl, show xone [107] [1, 2] = true by decide, if_true] at hset
  rw [if_neg (by simp)] at hset
  obtain ⟨u, ys, rfl, ⟨p, hp, hys⟩, hnew⟩ := hset
  have hys2 : ys = [⟨[107], [1, 2]⟩] := by rw [hys]; simp
  subst hys2
  refine SL.op (ev_move rfl) ?_
  refine SL.op (ev_extract rfl rfl) ?_
  refine SL.op (ev_extract rfl rfl) ?_
  refine SL.op (ev_assign rfl) ?_
  refine SL.op (ev_assign rfl) ?_
  refine SL.nil ?_
  refine CW.seq ?_
  refine CW.region ?_
  refine SL.op (ev_move rfl) ?_
  refine SL.call call_xattr_Get rfl (w_Get (fun _ h => h) hnew.read (by simp) (fun x h => by simp at h; subst h; decide) [107]) ?_; rintro v3 w3 ⟨hget, kp3⟩
  have st3 := st2.call kp3; have up3 := Up.kp kp3 st2.lt
  simp only [GetR, show xright [⟨[107], [1, 2]⟩] = true by decide, if_true] at hget
  rw [show List.find? (fun x : Xa => decide (x.name = [107])) [⟨[107], [1, 2]⟩] = some ⟨[107], [1, 2]⟩ by rfl] at hget
  obtain ⟨u2, rfl, hrow⟩ := hget
  obtain ⟨A2, c2, rfl, hnc2, hrd⟩ := Sl.len (own_all hrow)
  refine SL.op (ev_move rfl) ?_
  refine SL.op (ev_extract rfl rfl) ?_
  refine SL.op (ev_extract rfl rfl) ?_
  refine SL.op (ev_assign rfl) ?_
  refine SL.op (ev_assign rfl) ?_
  refine SL.nil ?_
  refine CW.seq ?_
  refine CW.region ?_
  refine SL.op (ev_move rfl) ?_
  refine SL.op (ev_eq rfl rfl) ?_
  refine SL.op (ev_move rfl) ?_
  refine SL.on rfl ?_ ?_
  · rfl
  refine SL.op (ev_move rfl) ?_
  refine SL.on rfl ?_ ?_
  · rfl
  refine SL.op (ev_eq rfl rfl) ?_
  refine SL.op (ev_pickT rfl rfl (by rfl)) ?_
  refine SL.op (ev_move rfl) ?_
  refine SL.on rfl ?_ ?_
  · rfl
  refine SL.op (ev_move rfl) ?_
  refine SL.on rfl ?_ ?_
  · rfl
  refine SL.op (ev_str ⟨_, und_sluint8, und_uint8⟩ und_string rfl rfl (Rd.str hrd)) ?_
  refine SL.on rfl ?_ ?_
  · rfl
  refine SL.op (ev_seq rfl rfl) ?_
  refine SL.op (ev_pickT rfl rfl (by rfl)) ?_
  refine SL.op (ev_move rfl) ?_
  refine SL.op (ev_pick rfl rfl rfl) ?_
  refine SL.op (ev_move rfl) ?_
  refine SL.op (ev_pick rfl rfl rfl) ?_
  refine SL.op (ev_move rfl) ?_
  refine SL.op (ev_pick rfl rfl rfl) ?_
  refine SL.op (ev_assign rfl) ?_
  refine SL.nil ?_
  refine CW.ret ?_
  refine RetOk.one rfl ?_
  exact ⟨rfl, st3.kp⟩
end Go.Proofs.Ytodaagikppaidaa.Cw
