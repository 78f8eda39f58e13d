/- Rules for stepping through code: part 8. -/
import Derived.Test.YtodaagikppaidaaCwE7
import Derived.Laws.Externs
import Derived.Lib.LazyBuf
/-! Functions without a body; guards that make no difference. -/
namespace Go.Proofs.Ytodaagikppaidaa.Eng
open Go
section
variable {P : Program} {n : Nat} {ops : Array Oper} {N R : Env → World → Prop} {X : Kt} {L : Env} {w : World} {S : List Nat} {w0 : World} {I : Nat → Prop} {M : List Bk} {l : List Oper}
  {d : Nat} {dd : Option Tmp} {t t1 t2 : TypeId} {p : String} {af : Array Edge} {g : Option (Nat × Bool)} {x y : Operand} {v : Value}
def Ext1 (P : Program) (f : FuncId) (vs : List Value) (v : Value) : Prop := ∀ w : World, (callFunc f vs.toArray).run P w = .ok (.value v) w
theorem ev_x {f : FuncId} {xs : List Operand} {vs : List Value} {ats : Array TypeId} (hx : evs L xs = some vs) (h : Ext1 P f vs v) : EvO P n L w ⟨dd, .call ⟨.value (.func f), xs.toArray, ats⟩, t, p, af, g⟩ v := fun a ha w' _ => by
  have h1 : (List.map a.eval xs).toArray = vs.toArray := by rw [evs_eval ha xs vs hx]
  simp only [execOp, resolve, Act.eval, Deferred.ofValue, Sem.run_bind, Sem.run_pure, Result.andThen_ok, invoke, List.map_toArray, h1]
  simp
  exact h w'
end
section
variable {P : Program} {n : Nat} {ops : Array Oper} {N R : Env → World → Prop} {NQ : Env → Prop} {X : Kt} {L : Env} {w : World} {l : List Oper} {x y : Operand} {v : Value}
theorem CW.ifT {c : Operand} {x y : Code} {b : Bool} (hc : ev L c = some (.bool b)) (hb : b = true) (k : CW P n x N X R L w) : CW P n (.cond c x y) N X R L w := CW.cond hc (fun _ => k) (fun h => by rw [hb] at h; cases h)
theorem CW.ifF {c : Operand} {x y : Code} {b : Bool} (hc : ev L c = some (.bool b)) (hb : b = false) (k : CW P n y N X R L w) : CW P n (.cond c x y) N X R L w := CW.cond hc (fun h => by rw [hb] at h; cases h) (fun _ => k)
theorem Sub.refl (L : Env) : Sub L L := fun _ _ h => h
theorem Sub.put {L' : Env} {k : Nat} {v : Value} (hk : look L' k = some v) (h : Sub L' L) : Sub L' ((k, v) :: L) := Sub.cons hk h
theorem Sub.skip {L' : Env} {k : Nat} {v : Value} (hk : look L k = none) (h : Sub L' L) : Sub ((k, v) :: L') L := fun t u hu => by
  unfold look
  cases hb : Nat.beq k t
  · exact h t u hu
  · have := Nat.eq_of_beq_eq_true hb
    subst this
    rw [hk] at hu; cases hu
theorem SL.cutPut (k d : Nat) (v : Value) (h1 : SL P n ops (l.take k) (fun L' w' => w' = w ∧ Sub L' ((d, v) :: L)) L w) (h2 : SL P n ops (l.drop k) N ((d, v) :: L) w) : SL P n ops l N L w := SL.cutAt k _ h1 h2
end
section
variable {P : Program} {n : Nat} {L : Env} {w : World} {dd : Option Tmp} {t t1 t2 : TypeId} {p : String} {af : Array Edge} {g : Option (Nat × Bool)} {x y : Operand}
theorem ev_eqnil {A : Option Addr} {len cap : Nat} {e m : Nat} (he : ElS P t1 e m) (hx : ev L x = some (.slice A len cap)) (hy : ev L y = some (.slice none 0 0)) : EvO P n L w ⟨dd, .binOp .eql t1 x y t2, t, p, af, g⟩ (.bool A.isNone) :=
  ev_bin hx hy rfl (fun w => run_eql_slice_nil w t1 e A len cap he.1)
theorem own_empty {w : World} {b g e size : Nat} (hb : b ≤ g) (h : w.heap[g]? = some (.cells #[] e (0, 0))) : w.ownsRow b e size (.slice (some ⟨g, 0, none⟩) 0 0) 0 [] :=
  ⟨by simp, .inr ⟨g, 0, #[], rfl, hb, h, Nat.le_refl _, by unfold maxLen; omega, by simp, by simp⟩⟩
end
section
variable {P : Program} {n : Nat} {ops : Array Oper} {N R : Env → World → Prop} {X : Kt} {L : Env} {w : World} {S : List Nat} {w0 : World} {I : Nat → Prop} {M : List Bk} {l : List Oper} {d : Nat} {t t1 : TypeId} {p : String} {af : Array Edge}
theorem SL.bslice0 (st : St S w0 I w M) {e m : Nat} (he : ElS P t1 e m)
    (k : ∀ w1 g1, St S w0 I w1 M → Up I w I w1 → Kp [] w w1 → w.heap.size ≤ g1 → BkOk w1 ⟨g1, e, []⟩ → (∀ size, Own S w0 I M w1 e size (.slice (some ⟨g1, 0, none⟩) 0 0) 0 []) → SL P n ops l N ((d, .slice (some ⟨g1, 0, none⟩) 0 0) :: L) w1) (hn : Nat.blt d n = true := by rfl) : SL P n ops (⟨some d, .buildSlice t1 0 #[], t, p, af, none⟩ :: l) N L w := by
  have hka := kp_alloc w (.cells #[] e)
  have hal := st.alloc e []
  have hbk : BkOk (w.alloc (.cells #[] e)) ⟨w.heap.size, e, []⟩ := hal.ok _ (by simp)
  refine SL.eff (w1 := w.alloc (.cells #[] e)) (v := .slice (some ⟨w.heap.size, 0, none⟩) 0 0) (fun a ha => ?_) (k _ w.heap.size (hal.drop (List.sublist_cons_self _ _)) (Up.keep hka st.lt) hka (Nat.le_refl _) hbk (fun size => ⟨own_empty (Nat.zero_le _) hbk, fun g hg => ?_⟩)) rfl hn
  · simp [execOp, Instr.buildSlice, run_underlying he.1, he.2 w, Instr.fill, newRow, newObj, Sem.run, Array.range_zero']
  · injection hg with hg; subst hg
    exact ⟨(hal.out ⟨w.heap.size, e, []⟩ (by simp)).1, fun b hb e2 => (List.pairwise_cons.1 hal.nd).1 b hb e2.symm, .inr st.kp.2.2.2.1⟩
end
theorem firstIdx_mem (s : List UInt8) (c : UInt8) : (0 ≤ firstIdx ⟨s.toArray⟩ c) ↔ c ∈ s := by
  unfold firstIdx
  have hsz : (ByteArray.mk s.toArray).size = s.length := by simp [ByteArray.size]
  rw [hsz]
  have hat : ∀ i (h : i < s.length), (ByteArray.mk s.toArray)[i]! = s[i] := fun i h => by
    rw [getElem!_pos (ByteArray.mk s.toArray) i (by rw [hsz]; exact h)]
    simp [ByteArray.getElem_eq_getElem_data]
  split
  · rename_i i hi
    have h1 := List.find?_some hi
    have h2 := List.mem_of_find?_eq_some hi
    simp only [List.mem_range] at h2
    rw [hat i h2] at h1
    constructor
    · intro _; rw [beq_iff_eq] at h1; rw [← h1]; exact List.getElem_mem h2
    · intro _; omega
  · rename_i hn
    constructor
    · intro h; omega
    · intro h
      obtain ⟨i, hl, he⟩ := List.mem_iff_getElem.1 h
      have := List.find?_eq_none.1 hn i (by simpa using hl)
      rw [hat i hl, he] at this
      simp at this
theorem ext_idxb {P : Program} {f : FuncId} {fn : Func} (hf : P.funcs[f]? = some fn) (hname : (fn.name == "runtime.NumGoroutine") = false) (hb : fn.body.isNone = true) (hn : Extern.findNext fn = none) (he : Extern.find fn = some Extern.BytealgIndexByte.indexByte) (s : List UInt8) (c : UInt8) :
    Ext1 P f [.string ⟨s.toArray⟩, .int .u8 c.toNat] (.int .i64 (firstIdx ⟨s.toArray⟩ c)) := fun w => by
  rw [run_callFunc_extern hf hname hb hn he, run_indexByte_string]
  simp
theorem firstIdx_one (c : UInt8) : firstIdx ⟨[c].toArray⟩ c = 0 := by
  have h1 : (List.range (ByteArray.mk [c].toArray).size).find? (fun i => (ByteArray.mk [c].toArray)[i]! == c) = some 0 := by
    show (List.range 1).find? _ = _
    have : ((ByteArray.mk [c].toArray)[0]! == c) = true := by simp; rfl
    simp only [List.range_succ, List.range_zero, List.nil_append, List.find?_cons, this]
  unfold firstIdx; rw [h1]; rfl
def cmpS (a b : List UInt8) : Int := if Op.bytesLess a b then -1 else if a = b then 0 else 1
theorem find_succ (p : Nat → Bool) (n : Nat) : (List.range (n + 1)).find? p = if p 0 then some 0 else ((List.range n).find? (fun i => p (i + 1))).map (· + 1) := by
  rw [List.range_succ_eq_map, List.find?_cons]
  cases p 0
  · simp only [Bool.false_eq_true, if_false]
    rw [List.find?_map]; rfl
  · rfl
theorem at_mk (s : List UInt8) (i : Nat) : (ByteArray.mk s.toArray)[i]! = s.getD i 0 := by
  have hsz : (ByteArray.mk s.toArray).size = s.length := by simp [ByteArray.size]
  by_cases h : i < s.length
  · rw [getElem!_pos (ByteArray.mk s.toArray) i (by rw [hsz]; exact h)]
    simp [ByteArray.getElem_eq_getElem_data, List.getD_eq_getElem?_getD, h]
  · rw [getElem!_neg (ByteArray.mk s.toArray) i (by rw [hsz]; exact h)]
    simp [List.getD_eq_getElem?_getD, List.getElem?_eq_none (Nat.le_of_not_lt h)]; rfl
def cmpL (a b : List UInt8) : Int :=
  match (List.range (min a.length b.length)).find? fun i => a.getD i 0 != b.getD i 0 with
  | some i => if a.getD i 0 < b.getD i 0 then -1 else 1
  | none => if a.length < b.length then -1 else if a.length > b.length then 1 else 0
theorem cmp_eq (a b : List UInt8) : Extern.BytealgCompare.cmp ⟨a.toArray⟩ ⟨b.toArray⟩ = cmpL a b := by
  unfold Extern.BytealgCompare.cmp cmpL
  simp only [at_mk]
  have hsz : ∀ s : List UInt8, (ByteArray.mk s.toArray).size = s.length := by simp [ByteArray.size]
  simp only [hsz]
  rfl
theorem cmpL_cons (x y : UInt8) (a b : List UInt8) : cmpL (x :: a) (y :: b) = if x = y then cmpL a b else if x < y then -1 else 1 := by
  unfold cmpL
  rw [show min (x :: a).length (y :: b).length = min a.length b.length + 1 by simp [Nat.succ_min_succ], find_succ]
  by_cases h : x = y
  · subst h
    simp only [List.getD_cons_zero, bne_self_eq_false, Bool.false_eq_true, if_false, List.getD_cons_succ, if_true]
    cases (List.range (min a.length b.length)).find? fun i => a.getD i 0 != b.getD i 0 with
    | none => simp
    | some i => simp
  · simp [h]
theorem cmpS_cons (x y : UInt8) (a b : List UInt8) : cmpS (x :: a) (y :: b) = if x = y then cmpS a b else if x < y then -1 else 1 := by
  unfold cmpS
  simp only [Op.bytesLess, List.cons.injEq]
  by_cases h : x = y
  · subst h
    have : ¬ x < x := UInt8.lt_irrefl x
    simp [this]
  · by_cases h2 : x < y <;> simp [h, h2]
theorem cmpL_eq : ∀ a b : List UInt8, cmpL a b = cmpS a b
  | [], [] => by simp [cmpL, cmpS, Op.bytesLess]
  | [], y :: b => by simp [cmpL, cmpS, Op.bytesLess]
  | x :: a, [] => by simp [cmpL, cmpS, Op.bytesLess]
  | x :: a, y :: b => by rw [cmpL_cons, cmpS_cons, cmpL_eq a b]
theorem ext_cmp {P : Program} {f : FuncId} {fn : Func} (hf : P.funcs[f]? = some fn) (hname : (fn.name == "runtime.NumGoroutine") = false) (hb : fn.body.isNone = true) (hn : Extern.findNext fn = none) (he : Extern.find fn = some Extern.BytealgCompare.compare) (a b : List UInt8) :
    Ext1 P f [.string ⟨a.toArray⟩, .string ⟨b.toArray⟩] (.int .i64 (cmpS a b)) := fun w => by
  rw [run_callFunc_extern hf hname hb hn he]
  change (Sem.run P (do
    let x ← Extern.Bytes.bytesOf (.string ⟨a.toArray⟩)
    let y ← Extern.Bytes.bytesOf (.string ⟨b.toArray⟩)
    pure (goInt (Extern.BytealgCompare.cmp x y))) w).andThen _ = _
  simp only [Extern.Bytes.bytesOf, Sem.run_bind, Sem.run_pure, Result.andThen_ok, cmp_eq, cmpL_eq, goInt]
end Go.Proofs.Ytodaagikppaidaa.Eng
