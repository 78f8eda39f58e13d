/- Rules for stepping through code: part 5. -/
import Derived.Test.YtodaagikppaidaaCwE4
import Derived.Laws.AppendOwn
/-! More operations: lengths, slices, makes, texts. -/
namespace Go.Proofs.Ytodaagikppaidaa.Eng
open Go

section
variable {P : Program} {n : Nat} {ops : Array Oper} {N R : Env → World → Prop} {X : Kt} {L : Env} {w : World} {S : List Nat} {w0 : World} {I : Nat → Prop} {M : List Bk} {l : List Oper}
  {d : Nat} {dd : Option Tmp} {t t1 t2 : TypeId} {p : String} {af : Array Edge} {g : Option (Nat × Bool)} {x y z : Operand} {v : Value} {i j : Int} {k : IntKind}

theorem run_builtin {a : Act} (ha : Fits n L a) {b : Builtin} {xs : List Operand} {vs : List Value} {ats : Array TypeId} (hx : evs L xs = some vs) :
    ∃ cs, ∀ w, (execOp a.eval ⟨dd, .call ⟨.builtin b, xs.toArray, ats⟩, t, p, af, g⟩).run P w = (builtin b ats t cs vs.toArray).run P w := by
  have h1 : (List.map a.eval xs).toArray = vs.toArray := by rw [evs_eval ha xs vs hx]
  refine ⟨xs.toArray.map fun | .const _ => true | _ => false, fun w => ?_⟩
  simp only [execOp, resolve, Sem.run_bind, Sem.run_pure, Result.andThen_ok, invoke, ← h1]
  simp only [List.map_toArray]
  rfl
theorem ev_builtin {b : Builtin} {xs : List Operand} {vs : List Value} {ats : Array TypeId} (hx : evs L xs = some vs) (h : ∀ cs w', Kp [] w w' → (builtin b ats t cs vs.toArray).run P w' = .ok (.value v) w') :
    EvO P n L w ⟨dd, .call ⟨.builtin b, xs.toArray, ats⟩, t, p, af, g⟩ v := fun _ ha w' hk => by obtain ⟨cs, hcs⟩ := run_builtin (P := P) (b := b) (ats := ats) (dd := dd) (t := t) (p := p) (af := af) (g := g) ha hx; rw [hcs]; exact h _ w' hk
theorem ev_lenS {e m : Nat} {A : Option Addr} {len cap : Nat} (he : ElS P t1 e m) (hx : ev L x = some (.slice A len cap)) : EvO P n L w ⟨dd, .call ⟨.builtin .len, #[x], #[t1]⟩, t, p, af, g⟩ (.int .i64 len) :=
  ev_builtin (xs := [x]) (vs := [.slice A len cap]) (by simp [evs, hx]) (fun cs w' _ => by simp [builtin, Builtin.len_, run_underlying he.1, goInt])
theorem ev_lenT {s : ByteArray} (he : P.underlying t1 = some .string) (hx : ev L x = some (.string s)) : EvO P n L w ⟨dd, .call ⟨.builtin .len, #[x], #[t1]⟩, t, p, af, g⟩ (.int .i64 s.size) :=
  ev_builtin (xs := [x]) (vs := [.string s]) (by simp [evs, hx]) (fun cs w' _ => by simp [builtin, Builtin.len_, run_underlying he, goInt])
theorem ev_min {ats : Array TypeId} (hx : ev L x = some (.int k i)) (hy : ev L y = some (.int k j)) : EvO P n L w ⟨dd, .call ⟨.builtin .min, #[x, y], ats⟩, t, p, af, g⟩ (.int k (min i j)) :=
  ev_builtin (xs := [x, y]) (vs := [.int k i, .int k j]) (by simp [evs, hx, hy]) (fun cs w' _ => by
    have : (if j < i then j else i) = min i j := by simp only [Int.min_def]; split <;> split <;> omega
    simp [builtin, Builtin.min_, Builtin.min2, this])
theorem ev_max {ats : Array TypeId} (hx : ev L x = some (.int k i)) (hy : ev L y = some (.int k j)) : EvO P n L w ⟨dd, .call ⟨.builtin .max, #[x, y], ats⟩, t, p, af, g⟩ (.int k (max i j)) :=
  ev_builtin (xs := [x, y]) (vs := [.int k i, .int k j]) (by simp [evs, hx, hy]) (fun cs w' _ => by
    have : (if j > i then j else i) = max i j := by simp only [Int.max_def]; split <;> split <;> omega
    simp [builtin, Builtin.max_, Builtin.max2, this])
theorem ev_fn {f : Fn} : EvO P n L w ⟨dd, .makeFunc f #[] #[], t, p, af, g⟩ (.func f #[] #[]) := fun _ _ _ _ => by simp [execOp, Instr.makeFunc]
theorem ev_fn1 {f : Fn} (hx : ev L x = some v) : EvO P n L w ⟨dd, .makeFunc f #[] #[x], t, p, af, g⟩ (.func f #[] #[v]) := fun _ ha _ _ => by simp [execOp, Instr.makeFunc, ev_eval ha hx]
theorem ev_fn2 {f : Fn} {u : Value} (hx : ev L x = some v) (hy : ev L y = some u) : EvO P n L w ⟨dd, .makeFunc f #[] #[x, y], t, p, af, g⟩ (.func f #[] #[v, u]) := fun _ ha _ _ => by simp [execOp, Instr.makeFunc, ev_eval ha hx, ev_eval ha hy]

/-! texts -/
theorem ev_sbin {o : BinOp} {a b : ByteArray} (hx : ev L x = some (.string a)) (hy : ev L y = some (.string b)) (hc : ∀ w, (Op.stringOp o a b).run P w = .ok v w) : EvO P n L w ⟨dd, .binOp o t1 x y t2, t, p, af, g⟩ v :=
  ev_bin hx hy (by cases o <;> rfl) (fun w => by cases o <;> exact hc w)
theorem beq_dec {a b : List UInt8} : (a == b) = decide (a = b) := by rw [Bool.eq_iff_iff]; simp
theorem ev_seq {a b : List UInt8} (hx : ev L x = some (.string ⟨a.toArray⟩)) (hy : ev L y = some (.string ⟨b.toArray⟩)) : EvO P n L w ⟨dd, .binOp .eql t1 x y t2, t, p, af, g⟩ (.bool (decide (a = b))) :=
  ev_sbin hx hy (fun w => by simp [Op.stringOp, beq_dec])
theorem ev_sne {a b : List UInt8} (hx : ev L x = some (.string ⟨a.toArray⟩)) (hy : ev L y = some (.string ⟨b.toArray⟩)) : EvO P n L w ⟨dd, .binOp .neq t1 x y t2, t, p, af, g⟩ (.bool (decide (a ≠ b))) :=
  ev_sbin hx hy (fun w => by simp [Op.stringOp, beq_dec])
theorem ev_slt {a b : List UInt8} (hx : ev L x = some (.string ⟨a.toArray⟩)) (hy : ev L y = some (.string ⟨b.toArray⟩)) : EvO P n L w ⟨dd, .binOp .lss t1 x y t2, t, p, af, g⟩ (.bool (Op.bytesLess a b)) :=
  ev_sbin hx hy (fun w => by simp [Op.stringOp])
theorem ev_sgt {a b : List UInt8} (hx : ev L x = some (.string ⟨a.toArray⟩)) (hy : ev L y = some (.string ⟨b.toArray⟩)) : EvO P n L w ⟨dd, .binOp .gtr t1 x y t2, t, p, af, g⟩ (.bool (!(Op.bytesLess a b || decide (a = b)))) :=
  ev_sbin hx hy (fun w => by simp [Op.stringOp, beq_dec])
theorem ev_sge {a b : List UInt8} (hx : ev L x = some (.string ⟨a.toArray⟩)) (hy : ev L y = some (.string ⟨b.toArray⟩)) : EvO P n L w ⟨dd, .binOp .geq t1 x y t2, t, p, af, g⟩ (.bool (!Op.bytesLess a b)) :=
  ev_sbin hx hy (fun w => by simp [Op.stringOp])
theorem ev_sle {a b : List UInt8} (hx : ev L x = some (.string ⟨a.toArray⟩)) (hy : ev L y = some (.string ⟨b.toArray⟩)) : EvO P n L w ⟨dd, .binOp .leq t1 x y t2, t, p, af, g⟩ (.bool (Op.bytesLess a b || decide (a = b))) :=
  ev_sbin hx hy (fun w => by simp [Op.stringOp, beq_dec])
theorem ev_lenL {s : List UInt8} (he : P.underlying t1 = some .string) (hx : ev L x = some (.string ⟨s.toArray⟩)) : EvO P n L w ⟨dd, .call ⟨.builtin .len, #[x], #[t1]⟩, t, p, af, g⟩ (.int .i64 s.length) := by
  have := ev_lenT (P := P) (n := n) (L := L) (w := w) (dd := dd) (t := t) (p := p) (af := af) (g := g) he hx
  simpa [ByteArray.size] using this
/-- s[i] of a text. -/
theorem ev_at {s : List UInt8} (he : P.underlying t1 = some .string) (hx : ev L x = some (.string ⟨s.toArray⟩)) (hy : ev L y = some (.int k i)) (h0 : 0 ≤ i) {c : UInt8} (hc : s[i.toNat]? = some c) : EvO P n L w ⟨dd, .index t1 x y, t, p, af, g⟩ (.int .u8 c.toNat) := fun _ ha w' _ => by
  have h2 : (ByteArray.mk s.toArray)[i.toNat]? = some c := by
    obtain ⟨hl, he⟩ := List.getElem?_eq_some_iff.1 hc
    rw [getElem?_pos (ByteArray.mk s.toArray) i.toNat (by simpa [ByteArray.size] using hl)]
    simp [ByteArray.getElem_eq_getElem_data, he]
  simp [execOp, ev_eval ha hx, ev_eval ha hy, Instr.index, asIntOf, run_underlying he, h0, h2]

/-! cuts of slices -/
def cutA (A : Option Addr) (l m s : Nat) : Option Addr := if m = l then A else A.map (·.add (l * s))
theorem ev_cut {e m len cap : Nat} {A : Option Addr} {lo hi : Option Operand} {a b : Nat} (he : ElS P t1 e m) (hx : ev L x = some (.slice A len cap))
    (hl : match lo with | none => a = 0 | some y => ∃ k i, ev L y = some (.int k i) ∧ 0 ≤ i ∧ i.toNat = a)
    (hh : match hi with | none => b = len | some z => ∃ k j, ev L z = some (.int k j) ∧ 0 ≤ j ∧ j.toNat = b)
    (h1 : a ≤ b) (h2 : b ≤ cap) : EvO P n L w ⟨dd, .slice t1 x lo hi none, t, p, af, g⟩ (.slice (cutA A a cap m) (b - a) (cap - a)) := fun ac ha w' _ => by
  have hlo : ∀ y, lo = some y → (Instr.sliceBound (ac.eval y) b .sliceB).run P w' = .ok a w' := by
    intro y hy; subst hy
    obtain ⟨k, i, h3, h4, h5⟩ := hl
    rw [ev_eval ha h3, run_sliceBound _ _ _ _ _ h4 (by omega), h5]
  have hhi : ∀ z, hi = some z → (Instr.sliceBound (ac.eval z) cap .sliceAcap).run P w' = .ok b w' := by
    intro z hz; subst hz
    obtain ⟨k, j, h3, h4, h5⟩ := hh
    rw [ev_eval ha h3, run_sliceBound _ _ _ _ _ h4 (by omega), h5]
  have hb : (Instr.sliceBounds true len cap (lo.map ac.eval) (hi.map ac.eval) none).run P w' = .ok (a, b, cap) w' := by
    cases lo with
    | none =>
      cases hi with
      | none => simp only at hl hh; subst hl; subst hh; simp [Instr.sliceBounds]
      | some z => simp only at hl; subst hl; simp [Instr.sliceBounds, hhi z rfl]
    | some y =>
      cases hi with
      | none => simp only at hh; subst hh; simp [Instr.sliceBounds, hlo y rfl]
      | some z => simp [Instr.sliceBounds, hhi z rfl, hlo y rfl]
  simp only [execOp, ev_eval ha hx, Instr.sliceAt, Sem.run_bind, run_underlying he.1, Result.andThen_ok, Instr.slice, Option.map_none, hb, he.2 w', Sem.run_pure, cutA]
/-- A cut of an array in memory. -/
theorem ev_cutA {e m len : Nat} {A : Addr} {lo hi : Option Operand} {a b : Nat} (he : ElA P t1 len e m) (hx : ev L x = some (.pointer (some A)))
    (hl : match lo with | none => a = 0 | some y => ∃ k i, ev L y = some (.int k i) ∧ 0 ≤ i ∧ i.toNat = a)
    (hh : match hi with | none => b = len | some z => ∃ k j, ev L z = some (.int k j) ∧ 0 ≤ j ∧ j.toNat = b)
    (h1 : a ≤ b) (h2 : b ≤ len) : EvO P n L w ⟨dd, .slice t1 x lo hi none, t, p, af, g⟩ (.slice (cutA (some A) a len m) (b - a) (len - a)) := fun ac ha w' _ => by
  have hlo : ∀ y, lo = some y → (Instr.sliceBound (ac.eval y) b .sliceB).run P w' = .ok a w' := by
    intro y hy; subst hy
    obtain ⟨k, i, h3, h4, h5⟩ := hl
    rw [ev_eval ha h3, run_sliceBound _ _ _ _ _ h4 (by omega), h5]
  have hhi : ∀ z, hi = some z → (Instr.sliceBound (ac.eval z) len .sliceAlen).run P w' = .ok b w' := by
    intro z hz; subst hz
    obtain ⟨k, j, h3, h4, h5⟩ := hh
    rw [ev_eval ha h3, run_sliceBound _ _ _ _ _ h4 (by omega), h5]
  have hb : (Instr.sliceBounds false len len (lo.map ac.eval) (hi.map ac.eval) none).run P w' = .ok (a, b, len) w' := by
    cases lo with
    | none =>
      cases hi with
      | none => simp only at hl hh; subst hl; subst hh; simp [Instr.sliceBounds]
      | some z => simp only at hl; subst hl; simp [Instr.sliceBounds, hhi z rfl]
    | some y =>
      cases hi with
      | none => simp only at hh; subst hh; simp [Instr.sliceBounds, hlo y rfl]
      | some z => simp [Instr.sliceBounds, hhi z rfl, hlo y rfl]
  simp only [execOp, ev_eval ha hx, Instr.sliceAt, Sem.run_bind, run_underlying he.1, Result.andThen_ok, Instr.sureAddr, Option.map_none, hb, he.2 w', Sem.run_pure, cutA]
  split <;> simp_all
/-- A cut of a text. -/
theorem ev_cutT {s : List UInt8} {lo hi : Option Operand} {a b : Nat} (he : P.underlying t1 = some .string) (hx : ev L x = some (.string ⟨s.toArray⟩))
    (hl : match lo with | none => a = 0 | some y => ∃ k i, ev L y = some (.int k i) ∧ 0 ≤ i ∧ i.toNat = a)
    (hh : match hi with | none => b = s.length | some z => ∃ k j, ev L z = some (.int k j) ∧ 0 ≤ j ∧ j.toNat = b)
    (h1 : a ≤ b) (h2 : b ≤ s.length) : EvO P n L w ⟨dd, .slice t1 x lo hi none, t, p, af, g⟩ (.string ⟨((s.take b).drop a).toArray⟩) := fun ac ha w' _ => by
  have hs : (ByteArray.mk s.toArray).size = s.length := by simp [ByteArray.size]
  have hlo : ∀ y, lo = some y → (Instr.sliceBound (ac.eval y) b .sliceB).run P w' = .ok a w' := by
    intro y hy; subst hy
    obtain ⟨k, i, h3, h4, h5⟩ := hl
    rw [ev_eval ha h3, run_sliceBound _ _ _ _ _ h4 (by omega), h5]
  have hhi : ∀ z, hi = some z → (Instr.sliceBound (ac.eval z) s.length .sliceAlen).run P w' = .ok b w' := by
    intro z hz; subst hz
    obtain ⟨k, j, h3, h4, h5⟩ := hh
    rw [ev_eval ha h3, run_sliceBound _ _ _ _ _ h4 (by omega), h5]
  have hb : (Instr.sliceBounds false s.length s.length (lo.map ac.eval) (hi.map ac.eval) none).run P w' = .ok (a, b, s.length) w' := by
    cases lo with
    | none =>
      cases hi with
      | none => simp only at hl hh; subst hl; subst hh; simp [Instr.sliceBounds]
      | some z => simp only at hl; subst hl; simp [Instr.sliceBounds, hhi z rfl]
    | some y =>
      cases hi with
      | none => simp only at hh; subst hh; simp [Instr.sliceBounds, hlo y rfl]
      | some z => simp [Instr.sliceBounds, hhi z rfl, hlo y rfl]
  have he2 : (ByteArray.mk s.toArray).extract a b = ⟨((s.take b).drop a).toArray⟩ := by
    apply ByteArray.ext
    simp [ByteArray.data_extract, List.drop_take]
  simp [execOp, ev_eval ha hx, Instr.sliceAt, run_underlying he, Instr.slice, hs, hb, he2]
end

/-! ### stores of several cells; new blocks -/
theorem run_storeCells {P : Program} {g : Nat} {t : TypeId} : ∀ (vs : List Value) (w : World) (o i : Nat) (cs : List Value), w.heap[g]? = some (.cells cs.toArray t (0, 0)) → o + i + vs.length ≤ cs.length → (∀ v, v ∈ vs → isOne v = true) →
    ∃ w', (storeCells ⟨g, o, none⟩ vs i).run P w = .ok () w' ∧ Kp [g] w w' ∧ w'.heap[g]? = some (.cells (cs.take (o + i) ++ vs ++ cs.drop (o + i + vs.length)).toArray t (0, 0))
  | [], w, o, i, cs, hg, _, _ => ⟨w, by simp [storeCells], Kp.refl _ _, by simpa using hg⟩
  | v :: vs, w, o, i, cs, hg, hl, h1 => by
    simp only [List.length_cons] at hl
    have hone : isOne v = true := h1 v (by simp)
    have hb : BkOk w ⟨g, t, cs⟩ := hg
    have hc : w.cell? ⟨g, o + i, none⟩ = some (cs[o + i]'(by omega)) := by
      have := hb.cell (o + i); simp only at this; rw [this]; exact List.getElem?_eq_getElem (by omega)
    have hs : (Go.store ⟨g, o + i, none⟩ v).run P w = .ok () (w.setCell ⟨g, o + i, none⟩ v) :=
      one_of_cells (by cases v <;> first | rfl | simp [isOne] at hone) (fun m e => by subst e; simp [isOne] at hone) (fun m e => by subst e; simp [isOne] at hone) hc (frozen_blk hg) rfl
    have hg1 := setCell_blk (i := o + i) v hg
    obtain ⟨w', hr, hk, hh⟩ := run_storeCells vs (w.setCell ⟨g, o + i, none⟩ v) o (i + 1) _ hg1 (by simp; omega) (fun u hu => h1 u (by simp [hu]))
    refine ⟨w', ?_, (kp_setCell w ⟨g, o + i, none⟩ v).trans hk, ?_⟩
    · simp only [storeCells, Sem.run_bind, add_off, hs, Result.andThen_ok]; exact hr
    · rw [hh]
      congr 3
      have e1 : (cs.set (o + i) v).take (o + (i + 1)) = cs.take (o + i) ++ [v] := by
        rw [show o + (i + 1) = o + i + 1 by omega, List.take_succ_eq_append_getElem (by simp; omega), List.take_set_of_le (by omega)]
        simp
      have e2 : (cs.set (o + i) v).drop (o + (i + 1) + vs.length) = cs.drop (o + i + (v :: vs).length) := by
        rw [List.drop_set_of_lt (by omega)]; simp only [List.length_cons]; congr 1; omega
      rw [e1, e2]; simp
section
variable {P : Program} {n : Nat} {ops : Array Oper} {N R : Env → World → Prop} {X : Kt} {L : Env} {w : World} {S : List Nat} {w0 : World} {I : Nat → Prop} {M : List Bk} {l : List Oper}
  {d : Nat} {t t1 t2 : TypeId} {p : String} {af : Array Edge} {x y : Operand} {v : Value} {i j : Int} {k : IntKind}
/-- A store of several cells into a known block. -/
theorem SL.storeN (st : St S w0 I w M) (kk : Nat) {b g0 o m : Nat} {cs vs cs' : List Value} (ho : Agg P t1 m) (hx : ev L x = some (.pointer (some ⟨g0, o, none⟩))) (hy : ev L y = some (.agg vs.toArray)) (hM : M[kk]? = some ⟨g0, b, cs⟩)
    (k : ∀ w1, St S w0 I w1 (M.set kk ⟨g0, b, cs'⟩) → Up I w I w1 → Kp [g0] w w1 → SL P n ops l N L w1)
    (hl : vs.length = m := by rfl) (hb : Nat.ble (o + vs.length) cs.length = true := by rfl) (hcs : cs.take o ++ vs ++ cs.drop (o + vs.length) = cs' := by rfl) (h1 : vs.all isOne = true := by rfl) : SL P n ops (⟨none, .store t1 x y, t, p, af, none⟩ :: l) N L w := by
  have hbk := st.ok _ (mem_of_get hM)
  obtain ⟨w', hr, hk, hh⟩ := run_storeCells (P := P) vs w o 0 cs hbk (by simpa using Nat.le_of_ble_eq_true hb) (by simpa using h1)
  simp only [Nat.add_zero] at hh
  rw [hcs] at hh
  refine SL.skip (w1 := w') (fun a ha => ?_) (k _ (st.turn hM rfl hk hh) (Up.set st hM hk) hk)
  simp [execOp, ev_eval ha hx, ev_eval ha hy, Instr.storeAt, Instr.sureAddr, storeVar, (ho w).2, Value.cells, hl, hr]
end
end Go.Proofs.Ytodaagikppaidaa.Eng
