/- Rows stay rows when their bytes are turned. -/
import Derived.Test.YtodaagikppaidaaCwXlaw2
/-! Rows whose bytes are turned. -/
namespace Go.Proofs.Ytodaagikppaidaa.Cw
open Go Go.Proofs.Ytodaagikppaidaa.Eng Go.Proofs.Ytodaagikppaidaa.Cl
def BR (lo : Nat) (w : World) (v : Value) (n : Nat) : Prop := ∃ bs : List UInt8, bs.length = n ∧ w.ownsRow lo T_uint8 1 v n (bytesV bs)
theorem BR.turn {lo : Nat} {w w1 : World} {v : Value} {n g j : Nat} {cur : List Value} {b : UInt8} (h : BR lo w v n) (hg : BkOk w ⟨g, T_uint8, cur⟩) (hk : Kp [g] w w1) (hg1 : BkOk w1 ⟨g, T_uint8, cur.set j (U8 b)⟩) : BR lo w1 v n := by
  obtain ⟨bs, hl, hr⟩ := h
  by_cases hv : v.ownBlock = some g
  · rcases hr.2 with ⟨rfl, _⟩ | ⟨g', cap, cur', rfl, hb, hh, hn, hm, hs, hx⟩
    · cases hv
    · injection hv with hv; simp only at hv; subst hv
      unfold BkOk at hg hg1; simp only at hg hg1
      rw [hg] at hh; injection hh with hh; injection hh with hh; subst hh
      refine ⟨bs.set j b, by simpa using hl, by rw [bytesV_length, List.length_set, hl, Nat.mul_one], .inr ⟨g', cap, _, rfl, hb, hg1, hn, hm, by simpa using hs, ?_⟩⟩
      show (cur.set j (U8 b)).take (n * 1) = bytesV (bs.set j b)
      have hx' : cur.take (n * 1) = bytesV bs := hx
      rw [List.take_set, hx']
      simp [bytesV]
  · exact ⟨bs, hl, own_keep hr (fun g' hg' => hk.2.2.2.2 g' (own_lt hr hg').2 (fun hm => hv (by rw [List.mem_singleton.1 hm] at hg'; exact hg')))⟩
def NW (lo : Nat) (w : World) (cs : List Value) (ns : List Nat) : Prop := ∀ i n, ns[i]? = some n → ∃ vv, cs[2 * i + 1]? = some vv ∧ BR lo w vv n
def XW (lo : Nat) (w : World) (v : Value) (ns : List Nat) : Prop := ∃ cs, w.ownsRow lo T_api_Xattr 2 v ns.length cs ∧ NW lo w cs ns
theorem XW.turn {lo : Nat} {w w1 : World} {v : Value} {ns : List Nat} {g j : Nat} {cur : List Value} {b : UInt8} (h : XW lo w v ns) (hg : BkOk w ⟨g, T_uint8, cur⟩) (hk : Kp [g] w w1) (hg1 : BkOk w1 ⟨g, T_uint8, cur.set j (U8 b)⟩) : XW lo w1 v ns := by
  obtain ⟨cs, hr, hn⟩ := h
  refine ⟨cs, own_keep hr (fun g' hg' => hk.2.2.2.2 g' (own_lt hr hg').2 (fun hm => ?_)), fun i n hi => ?_⟩
  · rw [List.mem_singleton.1 hm] at hg'
    rcases hr.2 with ⟨rfl, _⟩ | ⟨g2, cap, cur', rfl, _, hh, _⟩
    · cases hg'
    · injection hg' with hg'; simp only at hg'; subst hg'
      unfold BkOk at hg; simp only at hg
      rw [hg] at hh; injection hh with hh; injection hh with _ h2; exact absurd h2 (by decide)
  · obtain ⟨vv, h1, h2⟩ := hn i n hi
    exact ⟨vv, h1, h2.turn hg hk hg1⟩
theorem XNew.weak {lo lo' : Nat} {w : World} {v : Value} {ys : List Xa} (h : XNew lo w v ys) (hl : lo' ≤ lo) : XW lo' w v (ys.map (fun x => x.val.length)) := by
  obtain ⟨cs, hr, hn⟩ := h
  refine ⟨cs, by rw [List.length_map]; exact own_base hr (fun g hg => Nat.le_trans hl (own_lt hr hg).1), fun i n hi => ?_⟩
  rw [List.getElem?_map] at hi
  cases hx : ys[i]? with
  | none => rw [hx] at hi; cases hi
  | some x =>
    rw [hx] at hi; injection hi with hi; subst hi
    obtain ⟨vv, _, h2, h3, _⟩ := hn i x hx
    exact ⟨vv, h2, x.val, rfl, own_base h3 (fun g hg => Nat.le_trans hl (own_lt h3 hg).1)⟩
theorem XW.kp {lo : Nat} {w w1 : World} {v : Value} {ns : List Nat} (h : XW lo w v ns) (hk : Kp [] w w1) : XW lo w1 v ns := by
  obtain ⟨cs, hr, hn⟩ := h
  refine ⟨cs, own_kp hr hk, fun i n hi => ?_⟩
  obtain ⟨vv, h1, bs, h2, h3⟩ := hn i n hi
  exact ⟨vv, h1, bs, h2, own_kp h3 hk⟩
theorem own_cap {w : World} {lo e size n : Nat} {v : Value} {xs : List Value} (h : w.ownsRow lo e size v n xs) : n ≤ 9223372036854775807 := by
  obtain ⟨A, c, _, h2, h3, _⟩ := own_form h
  unfold maxLen at h3; omega
theorem XNew.lo {lo lo' : Nat} {w : World} {v : Value} {ys : List Xa} (h : XNew lo w v ys) (hl : lo' ≤ lo) : XNew lo' w v ys := by
  obtain ⟨cs, hr, hn⟩ := h
  exact ⟨cs, own_base hr (fun g hg => Nat.le_trans hl (own_lt hr hg).1), hn.lo hl⟩
theorem XNew.form {lo : Nat} {w : World} {v : Value} {ys : List Xa} (h : XNew lo w v ys) : ∃ A c, v = .slice A ys.length c ∧ ys.length ≤ c ∧ (0 < ys.length → ∃ g, A = some ⟨g, 0, none⟩) := by
  obtain ⟨cs, hr, _⟩ := h
  obtain ⟨A, c, h1, h2, _, h3⟩ := own_form hr
  exact ⟨A, c, h1, h2, h3⟩
/-- What the loops keep. -/
structure Inv (w0 wB : World) (u ub ux : Value) (n : Nat) (nb nx : List Nat) (w : World) : Prop where
  le : w0.heap.size ≤ wB.heap.size
  a : BR wB.heap.size w u n
  b : XW wB.heap.size w ub nb
  x : XW wB.heap.size w ux nx
  kept : ∀ g, g < wB.heap.size → w.heap[g]? = wB.heap[g]?
  kp : Kp [] w0 w
theorem Inv.turn {w0 wB w w1 : World} {u ub ux : Value} {n : Nat} {nb nx : List Nat} {g j : Nat} {cur : List Value} {b : UInt8} (h : Inv w0 wB u ub ux n nb nx w) (hB : wB.heap.size ≤ g) (hg : BkOk w ⟨g, T_uint8, cur⟩) (hk : Kp [g] w w1) (hg1 : BkOk w1 ⟨g, T_uint8, cur.set j (U8 b)⟩) : Inv w0 wB u ub ux n nb nx w1 where
  le := h.le
  a := h.a.turn hg hk hg1
  b := h.b.turn hg hk hg1
  x := h.x.turn hg hk hg1
  kept := fun g' hg' => by
    by_cases hl : g' < w.heap.size
    · exact (hk.2.2.2.2 g' hl (fun hm => by rw [List.mem_singleton.1 hm] at hg'; omega)).trans (h.kept g' hg')
    · exfalso
      have h1 := h.kept g' hg'
      rw [Array.getElem?_eq_none (by omega), Array.getElem?_eq_getElem hg'] at h1
      cases h1
  kp := h.kp.then_ hk (fun g' hm => .inr (by rw [List.mem_singleton.1 hm]; exact Nat.le_trans h.le hB))
theorem Inv.up {w0 wB w : World} {u ub ux : Value} {n : Nat} {nb nx : List Nat} (h : Inv w0 wB u ub ux n nb nx w) : Up (AllB wB) wB (AllB w) w := fun g hg => by
  have h1 := h.kept g hg
  refine ⟨?_, h1⟩
  rw [Array.getElem?_eq_getElem hg] at h1
  exact (Array.getElem?_eq_some_iff.1 h1).1
theorem St.blk {w0 w : World} {g t : Nat} {cs : List Value} (hk : Kp [] w0 w) (hg : BkOk w ⟨g, t, cs⟩) (hl : w0.heap.size ≤ g) : St [] w0 (fun _ => False) w [⟨g, t, cs⟩] :=
  ⟨hk, fun b hb => by rw [List.mem_singleton.1 hb]; exact hg, List.pairwise_singleton _ _, fun b hb => by rw [List.mem_singleton.1 hb]; exact ⟨id, .inr hl⟩, fun _ h => h.elim⟩
/-- A byte of a row. -/
theorem BR.at {lo : Nat} {w : World} {v : Value} {n : Nat} (h : BR lo w v n) {j : Nat} (hj : j < n) : ∃ g cap cur, ∃ b : UInt8, v = .slice (some ⟨g, 0, none⟩) n cap ∧ lo ≤ g ∧ BkOk w ⟨g, T_uint8, cur⟩ ∧ cur[j]? = some (U8 b) := by
  obtain ⟨bs, hl, hr⟩ := h
  rcases hr.2 with ⟨rfl, h0⟩ | ⟨g, cap, cur, rfl, hb, hh, hn, hm, hs, hx⟩
  · omega
  · refine ⟨g, cap, cur.toList, bs[j], rfl, hb, by unfold BkOk; simpa using hh, ?_⟩
    have h1 : (bytesV bs)[j]? = some (U8 bs[j]) := by rw [bytesV, List.getElem?_map, List.getElem?_eq_getElem (by omega)]; rfl
    rw [← hx, List.getElem?_take, if_pos (by omega)] at h1
    exact h1
theorem wrap_inc (b : UInt8) : Value.int .u8 (IntKind.u8.wrap ((b.toNat : Int) + 1)) = U8 (UInt8.ofNat (b.toNat + 1)) := by
  unfold U8
  congr 1
end Go.Proofs.Ytodaagikppaidaa.Cw
