/- slices.Clone of bytes gives a new row of the same bytes. -/
import Derived.Test.YtodaagikppaidaaCwLib1
import Derived.Test.YtodaagikppaidaaCwXa
/-! Lists of attributes in memory; clones. -/
namespace Go.Proofs.Ytodaagikppaidaa.Cw
open Go Go.Proofs.Ytodaagikppaidaa.Eng Go.Proofs.Ytodaagikppaidaa.Cl
/-- A list that is read. -/
def XS (I : Nat → Prop) (w : World) (v : Value) (xs : List Xa) : Prop :=
  ∃ A c, v = .slice A xs.length c ∧ xs.length ≤ c ∧ ∀ i x, xs[i]? = some x → ∃ a vv, A = some a ∧ I a.block ∧ CellsAt w (a.add (i * 2)) [T x.name, vv] ∧ Sl I w 1 vv (bytesV x.val)
theorem cells_up {w w' : World} {a : Addr} {vs : List Value} (hb : w'.heap[a.block]? = w.heap[a.block]?) (h : CellsAt w a vs) : CellsAt w' a vs := fun j u hu => cell_up (by rw [block_of_add]; exact hb) (h j u hu)
theorem XS.up {I I' : Nat → Prop} {w w' : World} {v : Value} {xs : List Xa} (h : XS I w v xs) (hu : Up I w I' w') : XS I' w' v xs := by
  obtain ⟨A, c, h1, h2, h3⟩ := h
  refine ⟨A, c, h1, h2, fun i x hx => ?_⟩
  obtain ⟨a, vv, ha, hi, hc, hs⟩ := h3 i x hx
  obtain ⟨u1, u2⟩ := hu _ hi
  exact ⟨a, vv, ha, u1, cells_up (by rw [block_of_add]; exact u2) hc, hs.up hu⟩
theorem XS.at' {I : Nat → Prop} {w : World} {A : Option Addr} {n c : Nat} {xs : List Xa} (h : XS I w (.slice A n c) xs) {i : Nat} {x : Xa} (hx : xs[i]? = some x) : ∃ a vv, A = some a ∧ I a.block ∧ CellsAt w (a.add (i * 2)) [T x.name, vv] ∧ Sl I w 1 vv (bytesV x.val) := by
  obtain ⟨A', c', e, _, h3⟩ := h
  injection e with e1 _ _
  subst e1
  exact h3 i x hx
/-- New rows of bytes at the elements. -/
def NX (I : Nat → Prop) (lo : Nat) (w : World) (cs : List Value) (xs : List Xa) : Prop :=
  ∀ i x, xs[i]? = some x → ∃ vv, cs[2 * i]? = some (T x.name) ∧ cs[2 * i + 1]? = some vv ∧ w.ownsRow lo T_uint8 1 vv x.val.length (bytesV x.val) ∧ ∀ g, vv.ownBlock = some g → I g
theorem NX.up {I I' : Nat → Prop} {lo : Nat} {w w' : World} {cs : List Value} {xs : List Xa} (h : NX I lo w cs xs) (hu : Up I w I' w') : NX I' lo w' cs xs := fun i x hx => by
  obtain ⟨vv, h1, h2, h3, h4⟩ := h i x hx
  exact ⟨vv, h1, h2, own_keep h3 (fun g hg => (hu g (h4 g hg)).2), fun g hg => (hu g (h4 g hg)).1⟩
theorem own_type {w : World} {lo lo' e e' size size' n n' : Nat} {v v' : Value} {xs xs' : List Value} (h : w.ownsRow lo e size v n xs) (h' : w.ownsRow lo' e' size' v' n' xs') (he : e ≠ e') {g : Nat} (hg : v.ownBlock = some g) : v'.ownBlock ≠ some g := by
  intro hg'
  rcases h.2 with ⟨rfl, _⟩ | ⟨g1, _, cur, rfl, _, hh, _⟩
  · cases hg
  · rcases h'.2 with ⟨rfl, _⟩ | ⟨g2, _, cur', rfl, _, hh', _⟩
    · cases hg'
    · injection hg with hg; injection hg' with hg'; simp only at hg hg'; subst hg; subst hg'
      rw [hh] at hh'; injection hh' with hh'; injection hh' with _ h2; exact he h2
/-- To other blocks that stay. -/
theorem NX.into {I I' : Nat → Prop} {lo lo' lo2 n : Nat} {w : World} {cs cs' : List Value} {u : Value} {xs : List Xa} (h : NX I lo w cs xs) (hr : w.ownsRow lo2 T_api_Xattr 2 u n cs') (hI : ∀ g, lo ≤ g → g < w.heap.size → u.ownBlock ≠ some g → I' g) (hlo : lo' ≤ lo) : NX I' lo' w cs xs := fun i x hx => by
  obtain ⟨vv, h1, h2, h3, h4⟩ := h i x hx
  exact ⟨vv, h1, h2, own_base h3 (fun g hg => Nat.le_trans hlo (own_lt h3 hg).1), fun g hg => hI g (own_lt h3 hg).1 (own_lt h3 hg).2 (own_type h3 hr (by decide) hg)⟩
theorem add0 (a : Addr) : a.add 0 = a := by unfold Addr.add; rfl
theorem cells2 {w : World} {a : Addr} {u v : Value} (h1 : w.cell? a = some u) (h2 : w.cell? (a.add 1) = some v) : CellsAt w a [u, v] := fun j z hz => by
  match j, hz with
  | 0, hz => injection hz with hz; subst hz; rw [add0]; exact h1
  | 1, hz => injection hz with hz; subst hz; exact h2
/-- It is read. -/
theorem NX.read {I I' : Nat → Prop} {lo lo2 : Nat} {w : World} {cs : List Value} {u : Value} {xs : List Xa} (h : NX I lo w cs xs) (hr : w.ownsRow lo2 T_api_Xattr 2 u xs.length cs) (hI : ∀ g, I g → I' g) (hu : ∀ g, u.ownBlock = some g → I' g) : XS I' w u xs := by
  obtain ⟨A, n, c, e, hn, hl, hrd⟩ := own_read hr hu
  obtain ⟨A', c', e', hc', _⟩ := own_form hr
  subst e
  injection e' with e1 e2 e3
  subst e1; subst e3
  refine ⟨A, c, by rw [e2], by omega, fun i x hx => ?_⟩
  obtain ⟨vv, h1, h2, h3, h4⟩ := h i x hx
  have hne : cs ≠ [] := by intro e; subst e; cases h1
  obtain ⟨a, ha, hia, hc⟩ := hrd hne
  refine ⟨a, vv, ha, hia, ?_, own_read h3 (fun g hg => hI g (h4 g hg))⟩
  rw [Nat.mul_comm i 2]
  exact cells2 (hc _ _ h1) (by rw [add_add]; exact hc _ _ h2)
theorem w_Clone {I : Nat → Prop} {w : World} (hI : ∀ g, I g → g < w.heap.size) {v : Value} {s : List UInt8} (hv : Sl I w 1 v (bytesV s)) (hs : s.length ≤ 140737488355328) : Ret P F_slices_Clone_byte [v] w (fun v w' => Kp [] w w' ∧ w'.ownsRow w.heap.size T_uint8 1 v s.length (bytesV s)) := by
  refine Ret.enter func_slices_Clone_byte rfl nt_slices_Clone_byte ?_
  have st := St.start I w hI []
  obtain ⟨A, n, c, rfl, hnc, hl, hr⟩ := hv
  have hl2 := bytesV_length s
  refine CW.seq ?_
  refine CW.region ?_
  refine SL.op (ev_assign rfl) ?_
  refine SL.nil ?_
  refine CW.seq ?_
  refine CW.seq ?_
  refine CW.region ?_
  refine SL.op (ev_move rfl) ?_
  refine SL.op (ev_eqnil els_sluint8 rfl rfl) ?_
  refine SL.nil ?_
  refine CW.cond rfl (fun hn => ?_) (fun hn => ?_)
  · skip
    refine CW.seq ?_
    refine CW.region ?_
    refine SL.op (ev_assign rfl) ?_
    refine SL.nil ?_
    refine CW.ret ?_
    refine RetOk.one rfl ?_
    have hA : A = none := by simpa using hn
    subst hA
    have : s = [] := by
      refine Classical.byContradiction fun h => ?_
      obtain ⟨a, ha, _⟩ := hr (by intro e; exact h (by simpa [bytesV] using e))
      cases ha
    subst this
    exact ⟨Kp.refl _ _, World.ownsRow_nil _ _ _ _⟩
  · skip
    refine CW.skip ?_
    refine CW.seq ?_
    refine CW.region ?_
    refine SL.bslice0 st els_sluint8 ?_; intro w1 g1 st1 up1 kp1 hg1 bk1 own1
    refine SL.op (ev_move rfl) ?_
    refine SL.append st1 els_sluint8 info_uint8 rfl (own1 1) rfl hl (fun h => by obtain ⟨a, ha, _, hc⟩ := hr h; exact ⟨a, ha, hc.kp (by assumption)⟩) (bytesV_one s) (by omega) ?_; intro v2 w2 st2 up2 kp2 ob2 own2
    refine SL.op (ev_assign rfl) ?_
    refine SL.nil ?_
    refine CW.ret ?_
    refine RetOk.one rfl ?_
    have hn2 : n = s.length := by omega
    subst hn2
    have hrow := own2.row
    simp only [Nat.zero_add, List.nil_append] at hrow
    exact ⟨st2.kp, own_base hrow (fun g hg => (own2.out g hg).2.2.resolve_left (by simp))⟩
end Go.Proofs.Ytodaagikppaidaa.Cw
