/- Rules for stepping through code: part 4. -/
import Derived.Test.YtodaagikppaidaaCwE3
/-! Calls, a function's frame, regions of open order. -/
namespace Go.Proofs.Ytodaagikppaidaa.Eng
open Go

/-- It returns a value of which R holds. -/
def Ret (P : Program) (f : FuncId) (args : List Value) (w : World) (R : Value → World → Prop) : Prop :=
  Calls P f args.toArray w fun e w' => ∃ v, e = .returned v ∧ R v w'
theorem Ret.mono {P : Program} {f : FuncId} {args : List Value} {w : World} {R R' : Value → World → Prop} (h : Ret P f args w R) (hr : ∀ v w', R v w' → R' v w') : Ret P f args w R' :=
  Calls.mono h fun _ _ ⟨v, he, h⟩ => ⟨v, he, hr _ _ h⟩

def evs (L : Env) : List Operand → Option (List Value)
  | [] => some []
  | x :: r => match ev L x, evs L r with
    | some v, some vs => some (v :: vs)
    | _, _ => none
theorem evs_eval {n : Nat} {L : Env} {a : Act} (ha : Fits n L a) : ∀ (xs : List Operand) (vs : List Value), evs L xs = some vs → xs.map a.eval = vs
  | [], vs, h => by unfold evs at h; injection h with h
  | x :: r, vs, h => by
    unfold evs at h
    cases hx : ev L x with
    | none => rw [hx] at h; cases h
    | some v =>
      cases hr : evs L r with
      | none => rw [hx, hr] at h; cases h
      | some us =>
        rw [hx, hr] at h
        injection h with h
        subst h
        rw [List.map_cons, ev_eval ha hx, evs_eval ha r us hr]

theorem Fld.mk {P : Program} {s i k m : Nat} {fs : Array Field} {f : Field} (hu : P.underlying s = some (.struct fs)) (hf : fs[i]? = some f) (ho : f.offset = k) (hs : ∀ w : World, (sizeOf f.type).run P w = .ok m w) (hm : m ≠ 0) : Fld P s i k := fun a w => by
  subst ho
  simp [Instr.fieldAt, run_underlying hu, hf, Instr.sureAddr, fieldPlace, hs, hm]
/-- A call is entered. -/
def CallOk (P : Program) (f : FuncId) : Prop := ∀ (args : Array Value) (w : World), (callFunc f args).run P w = .ok (.enter f args) w

section
variable {P : Program} {n : Nat} {ops : Array Oper} {N R : Env → World → Prop} {X : Kt} {L : Env} {w : World} {l : List Oper} {d : Nat} {t t1 : TypeId} {p : String} {af : Array Edge} {x y : Operand} {v : Value}

theorem run_call {a : Act} (ha : Fits n L a) {f : FuncId} {xs : List Operand} {vs : List Value} {ats : Array TypeId} {dd : Option Tmp} {g : Option (Nat × Bool)} (hf : CallOk P f) (hx : evs L xs = some vs) (w : World) :
    (execOp a.eval ⟨dd, .call ⟨.value (.func f), xs.toArray, ats⟩, t, p, af, g⟩).run P w = .ok (.enter f vs.toArray) w := by
  have h1 : (List.map a.eval xs).toArray = vs.toArray := by rw [evs_eval ha xs vs hx]
  simp only [execOp, resolve, Act.eval, Deferred.ofValue, Sem.run_bind, Sem.run_pure, Result.andThen_ok, invoke, List.map_toArray, h1]
  simp
  exact hf _ w
/-- A call of a function by its contract. -/
theorem SL.call {f : FuncId} {xs : List Operand} {vs : List Value} {ats : Array TypeId} {R1 : Value → World → Prop} (hf : CallOk P f) (hx : evs L xs = some vs) (hc : Ret P f vs w R1)
    (k : ∀ v w1, R1 v w1 → SL P n ops l N ((d, v) :: L) w1) (hn : Nat.blt d n = true := by rfl) : SL P n ops (⟨some d, .call ⟨.value (.func f), xs.toArray, ats⟩, t, p, af, none⟩ :: l) N L w := by
  intro a ha Q hN
  refine wpList_plain rfl fun K hK => ?_
  unfold Oper.wp
  rw [run_call ha hf hx, Oper.upon_enter]
  refine Calls.mono hc fun e w' ⟨v, he, hr⟩ => ?_
  subst he
  exact hK _ _ (k v w' hr _ (ha.put (lt_of_blt hn) v) Q hN)
/-- A call of a function value. -/
theorem SL.callv {f : FuncId} {x : Operand} {xs : List Operand} {vs all : List Value} {first captured : Array Value} {ats : Array TypeId} {R1 : Value → World → Prop} (hf : CallOk P f) (hv : ev L x = some (.func (.func f) first captured)) (hx : evs L xs = some vs)
    (hall : first.toList ++ vs ++ captured.toList = all) (hc : Ret P f all w R1)
    (k : ∀ v w1, R1 v w1 → SL P n ops l N ((d, v) :: L) w1) (hn : Nat.blt d n = true := by rfl) : SL P n ops (⟨some d, .call ⟨.value x, xs.toArray, ats⟩, t, p, af, none⟩ :: l) N L w := by
  intro a ha Q hN
  refine wpList_plain rfl fun K hK => ?_
  unfold Oper.wp
  have h1 : (List.map a.eval xs).toArray = vs.toArray := by rw [evs_eval ha xs vs hx]
  have hr : (execOp a.eval ⟨some d, .call ⟨.value x, xs.toArray, ats⟩, t, p, af, none⟩).run P w = .ok (.enter f all.toArray) w := by
    simp only [execOp, resolve, ev_eval ha hv, Deferred.ofValue, Sem.run_bind, Sem.run_pure, Result.andThen_ok, invoke, List.map_toArray, h1]
    rw [← hall]; simp
    rw [hf]; simp
  rw [hr, Oper.upon_enter]
  refine Calls.mono hc fun e w' ⟨v, he, hr⟩ => ?_
  subst he
  exact hK _ _ (k v w' hr _ (ha.put (lt_of_blt hn) v) Q hN)

/-! ### a function's frame -/
def RetOk (P : Program) (fn : Func) (n : Nat) (Rv : Value → World → Prop) (L : Env) (w : World) : Prop := ∀ a, Fits n L a → ∃ v, (results fn a.tmps).run P w = .ok v w ∧ Rv v w
theorem RetOk.one {fn : Func} {Rv : Value → World → Prop} {tt : Nat} (hv : look L tt = some v) (h : Rv v w) (hr : fn.results = #[.tmp tt] := by rfl) : RetOk P fn n Rv L w := fun a ha => by
  refine ⟨v, ?_, h⟩
  rw [results_tmp hr]; have := ha.2.2 tt v hv; simp [Array.getD_eq_getD_getElem?, this]
theorem RetOk.two {fn : Func} {Rv : Value → World → Prop} {t1 t2 : Nat} {u v : Value} (hu : look L t1 = some u) (hv : look L t2 = some v) (h : Rv (.tuple #[u, v]) w) (hr : fn.results = #[.tmp t1, .tmp t2] := by rfl) : RetOk P fn n Rv L w := fun a ha => by
  refine ⟨_, ?_, h⟩
  rw [results_tmp2 hr]; have h1 := ha.2.2 t1 u hu; have h2 := ha.2.2 t2 v hv; simp [Array.getD_eq_getD_getElem?, h1, h2]
theorem RetOk.none {fn : Func} {Rv : Value → World → Prop} (h : Rv (.tuple #[]) w) (hr : fn.results = #[] := by rfl) : RetOk P fn n Rv L w := fun _ _ => ⟨_, results_none hr _ _ _, h⟩
theorem RetOk.gen {fn : Func} {Rv : Value → World → Prop} (h : Rv v w) (hr : ∀ a, Fits n L a → (results fn a.tmps).run P w = .ok v w) : RetOk P fn n Rv L w := fun a ha => ⟨v, hr a ha, h⟩

def frame0 : Nat → List Value → Env
  | _, [] => []
  | i, v :: r => (i, v) :: frame0 (i + 1) r
theorem frame0_look : ∀ (vs : List Value) (i t : Nat) (v : Value), look (frame0 i vs) t = some v → i ≤ t ∧ vs[t - i]? = some v
  | [], _, _, _, h => by cases h
  | u :: r, i, t, v, h => by
    unfold frame0 look at h
    cases hb : Nat.beq i t
    · rw [hb] at h
      obtain ⟨h1, h2⟩ := frame0_look r (i + 1) t v h
      refine ⟨by omega, ?_⟩
      rw [show t - i = (t - (i + 1)) + 1 by omega]; exact h2
    · rw [hb] at h
      have := Nat.eq_of_beq_eq_true hb
      subst this
      injection h with h
      subst h
      simp
theorem Ret.enter {fn : Func} {f : FuncId} {c : Code} {args : List Value} {Rv : Value → World → Prop} (hf : P.funcs[f]? = some fn) (hb : fn.body = some c) (hn : fn.ntmps = n)
    (h : CW P n c (RetOk P fn n Rv) [] (RetOk P fn n Rv) (frame0 0 args) w) (hlen : Nat.ble args.length n = true := by rfl) : Ret P f args w Rv := by
  refine calls_of_wp hf hb (h _ ?_ _ ?_ ?_ ?_)
  · have hl : args.length ≤ n := Nat.le_of_ble_eq_true hlen
    refine ⟨rfl, by simp [hn]; omega, fun tt u hu => ?_⟩
    obtain ⟨_, h2⟩ := frame0_look args 0 tt u hu
    have hlt := (List.getElem?_eq_some_iff.1 h2).1
    rw [Array.getElem?_append_left (by simpa using hlt)]
    simpa using h2
  · rintro L' w' a' hr hf
    obtain ⟨v, h1, h2⟩ := hr a' hf
    exact ⟨hf.1, v, h1, v, rfl, h2⟩
  · intro i E hE; cases hE
  · rintro L' w' a' hr hf
    obtain ⟨v, h1, h2⟩ := hr a' hf
    exact ⟨hf.1, v, h1, v, rfl, h2⟩

/-! ### regions whose order is open -/
/-- Operations that read, in the text's order: their slots. C: the worlds that keep all of w. -/
def QL (P : Program) (n : Nat) (ops : Array Oper) (l : List Oper) (N : Env → Prop) (L : Env) (w : World) : Prop :=
  ∀ a, Fits n L a → ∀ Q : Act → Prop, (∀ L' a', N L' → Fits n L' a' → Q a') → wpQuiet P ops (Kp [] w) Q l a
variable {NQ : Env → Prop}
theorem QL.nil (h : NQ L) : QL P n ops [] NQ L w := fun _ ha _ hN => hN _ _ h ha
theorem QL.op {o : Oper} (h : EvO P n L w o v) (k : QL P n ops l NQ ((d, v) :: L) w) (hd : o.dst = some d := by rfl) (hn : Nat.blt d n = true := by rfl) (hg : o.guard = none := by rfl) : QL P n ops (o :: l) NQ L w := by
  intro a ha Q hN
  unfold wpQuiet
  rw [if_pos (by simp [Region.wanted, hg])]
  refine ⟨v, fun w' hw => ?_, ?_⟩
  · unfold Oper.quietAt
    rw [h a ha w' hw]
    exact ⟨rfl, rfl⟩
  · rw [hd]; exact k _ (ha.put (lt_of_blt hn) v) Q hN
theorem QL.on {o : Oper} {gi tt : Nat} {og : Oper} {b c : Bool} (hv : look L tt = some (.bool c)) (hc : c = b)
    (k : QL P n ops ({ o with guard := none } :: l) NQ L w) (hg : o.guard = some (gi, b) := by rfl) (ho : ops[gi]? = some og := by rfl) (hd : og.dst = some tt := by rfl) : QL P n ops (o :: l) NQ L w := by
  subst hc
  intro a ha Q hN
  have hw : Region.wanted o (yielded ops a.tmps) = true := by simp [Region.wanted, hg, yielded_of ha ho hd hv]
  have h2 := k a ha Q hN
  unfold wpQuiet at h2 ⊢
  rw [if_pos hw]
  rw [if_pos (by simp [Region.wanted])] at h2
  exact h2
theorem QL.off {o : Oper} {gi tt : Nat} {og : Oper} {b' c : Bool} (hv : look L tt = some (.bool c)) (hc : c = !b') (k : QL P n ops l NQ ((d, undef) :: L) w) (hg : o.guard = some (gi, b') := by rfl) (ho : ops[gi]? = some og := by rfl) (hd : og.dst = some tt := by rfl)
    (hdd : o.dst = some d := by rfl) (hn : Nat.blt d n = true := by rfl) : QL P n ops (o :: l) NQ L w := by
  subst hc
  intro a ha Q hN
  have hw : ¬ Region.wanted o (yielded ops a.tmps) = true := by simp [Region.wanted, hg, yielded_of ha ho hd hv]
  unfold wpQuiet
  rw [if_neg hw, hdd]
  exact k _ (ha.put (lt_of_blt hn) undef) Q hN
theorem QL.call {f : FuncId} {xs : List Operand} {vs : List Value} {ats : Array TypeId} (hf : CallOk P f) (hx : evs L xs = some vs) (hc : ∀ w', Kp [] w w' → Ret P f vs w' (fun u w'' => u = v ∧ Kp [] w' w''))
    (k : QL P n ops l NQ ((d, v) :: L) w) (hn : Nat.blt d n = true := by rfl) : QL P n ops (⟨some d, .call ⟨.value (.func f), xs.toArray, ats⟩, t, p, af, none⟩ :: l) NQ L w := by
  intro a ha Q hN
  unfold wpQuiet
  rw [if_pos (by simp [Region.wanted])]
  refine ⟨v, fun w' hw => ?_, k _ (ha.put (lt_of_blt hn) v) Q hN⟩
  unfold Oper.quietAt
  rw [run_call ha hf hx]
  refine ⟨rfl, Calls.mono (hc w' hw) ?_⟩
  rintro e w'' ⟨u, he, rfl, hk⟩
  exact ⟨he, hw.trans hk⟩
/-- A region of open order that reads and calls what reads. -/
theorem CW.quiet {id : Nat} (hm : P.follows .mixedOrders = true) (hB : Region.lexB .any l.toArray = true) (h : QL P n l.toArray l (fun L' => ∀ w', Kp [] w w' → N L' w') L w) : CW P n (.region id l.toArray true) N X R L w := by
  intro a ha Q hN _ _
  have hB' := hB
  simp only [Region.lexB, Bool.and_eq_true] at hB'
  refine wp_region_any hm ?_
  have hq := h a ha (fun a' => ∀ w', Kp [] w w' → Q .normal a' w') (fun L' a' hL hf w' hk => hN L' w' a' (hL w' hk) hf)
  refine wpAny_of_quiet (C := Kp [] w) (Q := fun a' => ∀ w', Kp [] w w' → Q .normal a' w') (fun a' w' hC hQ => hQ w' hC) _ _ _ _ ?_ ?_
  · exact (Kp.refl [] w).drew
  · have := wpAnyQ_lex (md := .any) hB'.1 l 0 (Array.replicate l.toArray.size false) a (by simp) (by simpa using hB'.2) hq
    simpa using this
/-- One that reads up to number m, behind which all is in order. -/
def PL (P : Program) (n : Nat) (ops : Array Oper) (l : List Oper) (N : Env → Prop) (L : Env) (w : World) : Prop :=
  ∀ a, Fits n L a → ∀ Q : Act → Prop, (∀ L' a', N L' → Fits n L' a' → Q a') → wpStill P ops w.drew Q l a
theorem PL.nil (h : NQ L) : PL P n ops [] NQ L w := fun _ ha _ hN => hN _ _ h ha
theorem PL.op {o : Oper} (h : EvO P n L w o v) (k : PL P n ops l NQ ((d, v) :: L) w) (hd : o.dst = some d := by rfl) (hn : Nat.blt d n = true := by rfl) (hg : o.guard = none := by rfl) : PL P n ops (o :: l) NQ L w := by
  intro a ha Q hN
  unfold wpStill
  rw [if_pos (by simp [Region.wanted, hg])]
  unfold Oper.still
  rw [h a ha w.drew (Kp.refl [] w).drew, Oper.stillUpon_value, hd]
  exact k _ (ha.put (lt_of_blt hn) v) Q hN
theorem CW.tail {id : Nat} (m : Nat) (hm : P.follows .mixedOrders = true) (hB : Region.lexTailB .any l.toArray m = true) (h : PL P n l.toArray (l.take m) (fun L' => SL P n l.toArray (l.drop m) N L' w.drew) L w) : CW P n (.region id l.toArray true) N X R L w := by
  intro a ha Q hN _ _
  exact wp_region_still_tail m hm hB (h a ha _ (fun L' a' hL hf => hL a' hf Q hN))
end
end Go.Proofs.Ytodaagikppaidaa.Eng
