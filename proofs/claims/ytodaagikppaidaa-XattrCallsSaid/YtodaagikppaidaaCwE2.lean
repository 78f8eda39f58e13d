/- Rules for stepping through code: part 2. -/
import Derived.Test.YtodaagikppaidaaCwE1
import Derived.Laws.Entries
import Derived.Laws.Slices
import Derived.Laws.BitsLemmas
import Derived.Laws.Strings
import Derived.Laws.Alloc2
/-! What single operations yield. -/
namespace Go.Proofs.Ytodaagikppaidaa.Eng
open Go

/-- Facts on the program's tables. -/
def Fld (P : Program) (s i k : Nat) : Prop := ∀ (a : Addr) (w : World), (Instr.fieldAt s (.pointer (some a)) i).run P w = .ok (.pointer (some (a.add k))) w
def One (P : Program) (t : Nat) : Prop := ∀ w : World, (isAgg t).run P w = .ok false w ∧ (sizeOf t).run P w = .ok 1 w
def Agg (P : Program) (t n : Nat) : Prop := ∀ w : World, (isAgg t).run P w = .ok true w ∧ (sizeOf t).run P w = .ok n w
def ElS (P : Program) (t e n : Nat) : Prop := P.underlying t = some (.slice e) ∧ ∀ w : World, (sizeOf e).run P w = .ok n w
def ElA (P : Program) (t len e n : Nat) : Prop := P.underlying t = some (.array len e) ∧ ∀ w : World, (sizeOf e).run P w = .ok n w

/-- The cells from a on are these. -/
def CellsAt (w : World) (a : Addr) (vs : List Value) : Prop := ∀ j v, vs[j]? = some v → w.cell? (a.add j) = some v
theorem CellsAt.kp {w w' : World} {a : Addr} {vs : List Value} (h : CellsAt w a vs) (hk : Kp [] w w') : CellsAt w' a vs := fun j v hv => hk.cell (h j v hv)
theorem add_add (a : Addr) (i j : Nat) : (a.add i).add j = a.add (i + j) := by
  unfold Addr.add
  by_cases hi : i = 0 <;> by_cases hj : j = 0 <;> simp [hi, hj, Nat.add_assoc]
theorem CellsAt.drop {w : World} {a : Addr} {vs : List Value} (h : CellsAt w a vs) (i : Nat) : CellsAt w (a.add i) (vs.drop i) := fun j v hv => by
  rw [add_add]; exact h _ v (by rw [← hv, List.getElem?_drop])
theorem CellsAt.take {w : World} {a : Addr} {vs : List Value} (h : CellsAt w a vs) (i : Nat) : CellsAt w a (vs.take i) := fun j v hv => by
  rw [List.getElem?_take] at hv
  split at hv
  · exact h j v hv
  · cases hv

theorem run_loadCellsFrom {P : Program} {w : World} {a : Addr} : ∀ (vs : List Value) (i : Nat) (acc : Array Value), (∀ j v, vs[j]? = some v → w.cell? (a.add (i + j)) = some v) →
    (loadCellsFrom a i vs.length acc).run P w = .ok (acc ++ vs.toArray) w
  | [], i, acc, _ => by simp [loadCellsFrom]
  | v :: vs, i, acc, h => by
    have h0 : w.cell? (a.add i) = some v := by have := h 0 v rfl; simpa using this
    simp only [List.length_cons, loadCellsFrom, Sem.run_bind, run_load, h0, Result.andThen_ok]
    rw [run_loadCellsFrom vs (i + 1) (acc.push v) (fun j u hu => by have := h (j + 1) u (by simpa using hu); rwa [show i + 1 + j = i + (j + 1) by omega])]
    simp
theorem run_loadCells {P : Program} {w : World} {a : Addr} {vs : List Value} (h : CellsAt w a vs) : (loadCells a vs.length).run P w = .ok vs.toArray w := by
  have := run_loadCellsFrom (P := P) vs 0 #[] (a := a) (w := w) (fun j v hv => by rw [Nat.zero_add]; exact h j v hv)
  simpa [loadCells] using this

section
variable {P : Program} {n : Nat} {L : Env} {w : World} {d : Option Tmp} {t : TypeId} {p : String} {af : Array Edge} {g : Option (Nat × Bool)} {x y z : Operand} {v : Value}

theorem ev_move (hx : ev L x = some v) : EvO P n L w ⟨d, .move x, t, p, af, g⟩ v := fun _ ha _ _ => by simp only [execOp, ev_eval ha hx]; rfl
theorem ev_assign (hx : ev L x = some v) : EvO P n L w ⟨d, .assign x, t, p, af, g⟩ v := fun _ ha _ _ => by simp only [execOp, ev_eval ha hx]; rfl
theorem ev_pick {b : Bool} {u : Value} (hx : ev L x = some (.bool b)) (hy : ev L y = some u) (hz : ev L z = some v) : EvO P n L w ⟨d, .pick x y z, t, p, af, g⟩ (if b then u else v) := fun _ ha _ _ => by
  simp only [execOp, ev_eval ha hx, ev_eval ha hy, ev_eval ha hz, asBool]; rfl
theorem ev_nil {a : Addr} (hx : ev L x = some (.pointer (some a))) : EvO P n L w ⟨d, .nilCheck x, t, p, af, g⟩ (.pointer (some a)) := fun _ ha _ _ => by
  simp only [execOp, ev_eval ha hx]; rfl
theorem ev_fld {s i k : Nat} {a : Addr} (hf : Fld P s i k) (hx : ev L x = some (.pointer (some a))) : EvO P n L w ⟨d, .fieldAddr s x i, t, p, af, g⟩ (.pointer (some (a.add k))) := fun _ ha w' _ => by
  simp only [execOp, ev_eval ha hx, Sem.run_bind, hf a w', Result.andThen_ok, Sem.run_pure]
theorem ev_extract {vs : Array Value} {i : Nat} (hx : ev L x = some (.tuple vs)) (hv : vs[i]? = some v) : EvO P n L w ⟨d, .extract x i, t, p, af, g⟩ v := fun _ ha w' _ => by
  simp [execOp, ev_eval ha hx, Instr.extract, hv]

/-! numbers -/
variable {k : IntKind} {i j : Int}
theorem ev_addw {u : TypeId} (hx : ev L x = some (.int k i)) (hy : ev L y = some (.int k j)) : EvO P n L w ⟨d, .binOp .add t x y u, t, p, af, g⟩ (.int k (k.wrap (i + j))) := fun _ ha w' _ => by
  simp [execOp, ev_eval ha hx, ev_eval ha hy, eqGuard, binOp, Op.intArith]
end
section
variable {P : Program} {n : Nat} {L : Env} {w : World} {d : Option Tmp} {t t1 t2 : TypeId} {p : String} {af : Array Edge} {g : Option (Nat × Bool)} {x y z : Operand} {v : Value} {k : IntKind} {i j : Int}
theorem i64_in {m : Int} (h0 : -9223372036854775808 ≤ m) (h1 : m ≤ 9223372036854775807) : IntKind.i64.wrap m = m := by
  rw [IntKind.wrap_i64]; omega
theorem ev_binw {o : BinOp} {m : Int} (hx : ev L x = some (.int k i)) (hy : ev L y = some (.int k j)) (ho : ∀ w, (Op.intArith o k i j).run P w = .ok (.int k m) w) (hb : ∀ a b : Value, eqGuard o t1 x y a b = pure () := by intros; rfl)
    (hc : binOp o t1 (.int k i) (.int k j) = Op.intArith o k i j := by simp [binOp]) : EvO P n L w ⟨d, .binOp o t1 x y t2, t, p, af, g⟩ (.int k m) := fun _ ha w' _ => by
  simp only [execOp, ev_eval ha hx, ev_eval ha hy, Sem.run_bind, hb, hc, ho, Sem.run_pure, Result.andThen_ok]
theorem ev_add (hx : ev L x = some (.int .i64 i)) (hy : ev L y = some (.int .i64 j)) (h0 : -9223372036854775808 ≤ i + j) (h1 : i + j ≤ 9223372036854775807) : EvO P n L w ⟨d, .binOp .add t1 x y t2, t, p, af, g⟩ (.int .i64 (i + j)) :=
  ev_binw hx hy (fun w => by simp only [Op.intArith, Sem.run_pure, i64_in h0 h1])
theorem ev_sub (hx : ev L x = some (.int .i64 i)) (hy : ev L y = some (.int .i64 j)) (h0 : -9223372036854775808 ≤ i - j) (h1 : i - j ≤ 9223372036854775807) : EvO P n L w ⟨d, .binOp .sub t1 x y t2, t, p, af, g⟩ (.int .i64 (i - j)) :=
  ev_binw hx hy (fun w => by simp only [Op.intArith, Sem.run_pure, i64_in h0 h1])
theorem ev_mul (hx : ev L x = some (.int .i64 i)) (hy : ev L y = some (.int .i64 j)) (h0 : -9223372036854775808 ≤ i * j) (h1 : i * j ≤ 9223372036854775807) : EvO P n L w ⟨d, .binOp .mul t1 x y t2, t, p, af, g⟩ (.int .i64 (i * j)) :=
  ev_binw hx hy (fun w => by simp only [Op.intArith, Sem.run_pure, i64_in h0 h1])
/-- Any kind, wrapped. -/
theorem ev_addk (hx : ev L x = some (.int k i)) (hy : ev L y = some (.int k j)) : EvO P n L w ⟨d, .binOp .add t1 x y t2, t, p, af, g⟩ (.int k (k.wrap (i + j))) := ev_binw hx hy (fun w => rfl)
theorem ev_subk (hx : ev L x = some (.int k i)) (hy : ev L y = some (.int k j)) : EvO P n L w ⟨d, .binOp .sub t1 x y t2, t, p, af, g⟩ (.int k (k.wrap (i - j))) := ev_binw hx hy (fun w => rfl)
theorem ev_mulk (hx : ev L x = some (.int k i)) (hy : ev L y = some (.int k j)) : EvO P n L w ⟨d, .binOp .mul t1 x y t2, t, p, af, g⟩ (.int k (k.wrap (i * j))) := ev_binw hx hy (fun w => rfl)
theorem ev_bin {o : BinOp} {u : Value} (hx : ev L x = some u) {u' : Value} (hy : ev L y = some u') (hb : eqGuard o t1 x y u u' = pure ()) (hc : ∀ w, (binOp o t1 u u').run P w = .ok v w) : EvO P n L w ⟨d, .binOp o t1 x y t2, t, p, af, g⟩ v := fun _ ha w' _ => by
  simp only [execOp, ev_eval ha hx, ev_eval ha hy, Sem.run_bind, hb, hc, Sem.run_pure, Result.andThen_ok]
theorem ev_quo (hx : ev L x = some (.int .i64 i)) (hy : ev L y = some (.int .i64 j)) (hi : 0 ≤ i) (hj : 0 < j) (h1 : i ≤ 9223372036854775807) : EvO P n L w ⟨d, .binOp .quo t1 x y t2, t, p, af, g⟩ (.int .i64 (i / j)) :=
  ev_bin hx hy rfl (fun w => by
    have h2 : 0 ≤ i / j := Int.ediv_nonneg hi (by omega)
    have h3 : i / j ≤ i := Int.ediv_le_self _ hi
    have h4 : i.tdiv j = i / j := Int.tdiv_eq_ediv_of_nonneg hi
    simp [binOp, Op.intDiv, show j ≠ 0 by omega, h4, i64_in (show -9223372036854775808 ≤ i / j by omega) (by omega)])
theorem ev_rem (hx : ev L x = some (.int .i64 i)) (hy : ev L y = some (.int .i64 j)) (hi : 0 ≤ i) (hj : 0 < j) : EvO P n L w ⟨d, .binOp .rem t1 x y t2, t, p, af, g⟩ (.int .i64 (i % j)) :=
  ev_bin hx hy rfl (fun w => by
    have h4 : i.tmod j = i % j := Int.tmod_eq_emod_of_nonneg hi
    simp [binOp, Op.intDiv, show j ≠ 0 by omega, h4])
theorem ev_eq (hx : ev L x = some (.int k i)) (hy : ev L y = some (.int k j)) : EvO P n L w ⟨d, .binOp .eql t1 x y t2, t, p, af, g⟩ (.bool (decide (i = j))) := ev_bin hx hy rfl (fun w => by simp [binOp, Op.intCmp]; rfl)
theorem ev_ne (hx : ev L x = some (.int k i)) (hy : ev L y = some (.int k j)) : EvO P n L w ⟨d, .binOp .neq t1 x y t2, t, p, af, g⟩ (.bool (decide (i ≠ j))) := ev_bin hx hy rfl (fun w => by simp [binOp, Op.intCmp, bne]; rfl)
theorem ev_lt (hx : ev L x = some (.int k i)) (hy : ev L y = some (.int k j)) : EvO P n L w ⟨d, .binOp .lss t1 x y t2, t, p, af, g⟩ (.bool (decide (i < j))) := ev_bin hx hy rfl (fun w => by simp [binOp, Op.intCmp])
theorem ev_le (hx : ev L x = some (.int k i)) (hy : ev L y = some (.int k j)) : EvO P n L w ⟨d, .binOp .leq t1 x y t2, t, p, af, g⟩ (.bool (decide (i ≤ j))) := ev_bin hx hy rfl (fun w => by simp [binOp, Op.intCmp])
theorem ev_gt (hx : ev L x = some (.int k i)) (hy : ev L y = some (.int k j)) : EvO P n L w ⟨d, .binOp .gtr t1 x y t2, t, p, af, g⟩ (.bool (decide (j < i))) := ev_bin hx hy rfl (fun w => by simp [binOp, Op.intCmp])
theorem ev_ge (hx : ev L x = some (.int k i)) (hy : ev L y = some (.int k j)) : EvO P n L w ⟨d, .binOp .geq t1 x y t2, t, p, af, g⟩ (.bool (decide (j ≤ i))) := ev_bin hx hy rfl (fun w => by simp [binOp, Op.intCmp])
theorem ev_not {b : Bool} (hx : ev L x = some (.bool b)) : EvO P n L w ⟨d, .unOp .not t1 x, t, p, af, g⟩ (.bool (!b)) := fun _ ha w' _ => by simp [execOp, ev_eval ha hx, Op.unary]
theorem ev_neg (hx : ev L x = some (.int .i64 i)) (h0 : -9223372036854775808 ≤ -i) (h1 : -i ≤ 9223372036854775807) : EvO P n L w ⟨d, .unOp .neg t1 x, t, p, af, g⟩ (.int .i64 (-i)) := fun _ ha w' _ => by
  simp [execOp, ev_eval ha hx, Op.unary, Op.intArith, i64_in h0 h1]
theorem ev_conv (hx : ev L x = some (.int k i)) {k' : IntKind} (hs : (P.underlying t1).isSome = true) (hd : P.underlying t2 = some (.int k')) : EvO P n L w ⟨d, .convert t1 t2 x, t, p, af, g⟩ (.int k' (k'.wrap i)) := fun _ ha w' _ => by
  obtain ⟨u, hu⟩ := Option.isSome_iff_exists.1 hs
  simp only [execOp, ev_eval ha hx, convert, Sem.run_bind, run_underlying hu, run_underlying hd, Result.andThen_ok]
  cases u <;> simp [Conv.intToInt]

/-! memory -/
theorem ev_load {a : Addr} (ho : One P t1) (hx : ev L x = some (.pointer (some a))) (hc : w.cell? a = some v) : EvO P n L w ⟨d, .load t1 x, t, p, af, g⟩ v := fun _ ha w' hk => by
  simp [execOp, ev_eval ha hx, Instr.loadAt, Instr.sureAddr, loadVar, (ho w').1, hk.cell hc]
theorem ev_loadN {a : Addr} {vs : List Value} {m : Nat} (ho : Agg P t1 m) (hx : ev L x = some (.pointer (some a))) (hc : CellsAt w a vs) (hl : vs.length = m := by rfl) : EvO P n L w ⟨d, .load t1 x, t, p, af, g⟩ (.agg vs.toArray) := fun _ ha w' hk => by
  subst hl
  simp [execOp, ev_eval ha hx, Instr.loadAt, Instr.sureAddr, loadVar, (ho w').1, (ho w').2, run_loadCells (hc.kp hk)]
theorem ev_idx {a : Addr} {e m len cap : Nat} (he : ElS P t1 e m) (hx : ev L x = some (.slice (some a) len cap)) (hy : ev L y = some (.int k i)) (h0 : 0 ≤ i) (h1 : i < len) : EvO P n L w ⟨d, .indexAddr t1 x y, t, p, af, g⟩ (.pointer (some (a.add (i.toNat * m)))) := fun _ ha w' _ => by
  simp [execOp, ev_eval ha hx, ev_eval ha hy, Instr.indexAt, asIntOf, run_underlying he.1, he.2 w', h0, h1]
theorem ev_idxA {a : Addr} {e m len : Nat} (he : ElA P t1 len e m) (hx : ev L x = some (.pointer (some a))) (hy : ev L y = some (.int k i)) (h0 : 0 ≤ i) (h1 : i < len) : EvO P n L w ⟨d, .indexAddr t1 x y, t, p, af, g⟩ (.pointer (some (a.add (i.toNat * m)))) := fun _ ha w' _ => by
  simp [execOp, ev_eval ha hx, ev_eval ha hy, Instr.indexAt, Instr.sureAddr, asIntOf, run_underlying he.1, he.2 w', h0, h1]
end
end Go.Proofs.Ytodaagikppaidaa.Eng
