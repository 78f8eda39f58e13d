/- Rules for stepping through code: part 10. -/
import Derived.Test.YtodaagikppaidaaCwE9
import Derived.Laws.Small
/-! Regions of open order: what reads may come anywhere; what makes or writes memory comes in one order. -/
namespace Go.Proofs.Ytodaagikppaidaa.Eng
open Go
section
variable {P : Program} {ops : Array Oper} {md : Region.Mode} {C : World → Prop} {Q : Exit → Act → World → Prop}
def YC (P : Program) (ops : Array Oper) (C : World → Prop) (o : Oper) (v : Value) (a : Act) : Prop :=
  (Region.wanted o (yielded ops a.tmps) = true ∧ ∀ w, C w → (execOp a.eval o).run P w = .ok (.value v) w) ∨ (Region.wanted o (yielded ops a.tmps) = false ∧ v = undef)
theorem YC.wpOp {i : Nat} {o : Oper} {v : Value} {a : Act} (hi : ops[i]? = some o) (hy : YC P ops C o v a) {K : Act → World → Prop} {w : World} (hC : C w) (h : K (a.put o.dst v) w) : wpOp P ops Q i K a w := by
  unfold Go.wpOp
  simp only [hi]
  rcases hy with ⟨hw, hv⟩ | ⟨hw, rfl⟩
  · simp only [hw, if_true, Oper.wp, hv w hC, Oper.upon]; exact .inl h
  · simp only [hw, Bool.false_eq_true, if_false]; exact h
theorem YC.of_same {o : Oper} {v : Value} {a a' : Act} (hy : YC P ops C o v a) (he : execOp a'.eval o = execOp a.eval o) (hw : Region.wanted o (yielded ops a'.tmps) = Region.wanted o (yielded ops a.tmps)) : YC P ops C o v a' := by
  unfold YC at *
  rw [he, hw]
  exact hy
theorem wpOp_putC {j : Nat} {oi oj : Oper} {v : Value} (hj : ops[j]? = some oj) (hap : oi.apart ops oj = true) (hsi : ∀ cs b, oi.op ≠ .select cs b) (hsj : ∀ cs b, oj.op ≠ .select cs b)
    (hQ : ∀ c a w, Q (.panic c) (a.put oi.dst v) w → Q (.panic c) a w) {K : Act → World → Prop} {a : Act} {w : World} (hy : YC P ops C oi v a) (h : wpOp P ops Q j K (a.put oi.dst v) w) :
    wpOp P ops Q j (fun a' w' => YC P ops C oi v a' ∧ K (a'.put oi.dst v) w') a w := by
  obtain ⟨h1, h2, h3⟩ := Oper.apart_spec hap
  have keep : ∀ (a : Act), YC P ops C oi v a → ∀ u, YC P ops C oi v (a.put oj.dst u) := fun a hy u =>
    hy.of_same (execOp_put oi hsi a oj.dst u h3) (wanted_put oi a oj.dst u h3)
  have keepD : ∀ d, YC P ops C oi v { a with defers := d :: a.defers } := fun d => hy.of_same rfl rfl
  unfold wpOp at *
  simp only [hj] at *
  rw [wanted_put oj a oi.dst v h1] at h
  split
  · rename_i hw
    simp only [hw, if_true] at h
    rcases h with h | ⟨hasks, hlets⟩
    case inr => exact .inr ⟨by unfold Oper.asks at *; rw [execOp_put oj hsj a oi.dst v h1] at hasks; exact hasks, hlets⟩
    refine .inl ?_
    unfold Oper.wp at *
    rw [execOp_put oj hsj a oi.dst v h1] at h
    generalize (execOp a.eval oj).run P w = r at *
    cases r with
    | ok n w' =>
      cases n <;> simp only [Oper.upon] at h ⊢
      case value u => exact ⟨keep a hy u, by rw [← Act.put_comm a v u h2]; exact h⟩
      case skip => exact ⟨keep a hy _, by rw [← Act.put_comm a v undef h2]; exact h⟩
      case defer d =>
        refine ⟨keep _ (keepD d) _, ?_⟩
        rw [← Act.put_comm _ v undef h2, ← Act.put_defers]
        exact h
      case enter f args =>
        refine Calls.mono h fun e w'' he => ?_
        cases e with
        | returned u => exact ⟨keep a hy u, by rw [← Act.put_comm a v u h2]; exact he⟩
        | panicked c => exact hQ _ _ _ he
        | outgrown => exact he
      case row row args => exact Rows.mono h fun u w'' he => ⟨keep a hy u, by rw [← Act.put_comm a v u h2]; exact he⟩
    | halt x w' =>
      cases x <;> simp only [Oper.upon] at h ⊢
      case panic u => exact hQ _ _ _ h
  · rename_i hw
    simp only [hw] at h
    exact ⟨keep a hy _, by rw [← Act.put_comm a v undef h2]; exact h⟩
/-- j waits for i, at first hand or not. -/
def depB (md : Region.Mode) (ops : Array Oper) : Nat → Nat → Nat → Bool
  | 0, _, _ => false
  | f + 1, j, i => match ops[j]? with
    | some o => o.after.any fun e => Region.binds md e && (e.on == i || depB md ops f e.on i)
    | none => false
def Closed (md : Region.Mode) (ops : Array Oper) (listed : Array Bool) : Prop := ∀ k o, ops[k]? = some o → listed.getD k false = true → ∀ e ∈ o.after, Region.binds md e = true → listed.getD e.on false = true
theorem depB_listed {listed : Array Bool} (hc : Closed md ops listed) {i : Nat} : ∀ (f j : Nat) (o : Oper), ops[j]? = some o → (∀ e ∈ o.after, Region.binds md e = true → listed.getD e.on false = true) → depB md ops f j i = true → listed.getD i false = true
  | 0, _, _, _, _, h => by simp [depB] at h
  | f + 1, j, o, ho, hall, h => by
    unfold depB at h
    simp only [ho] at h
    obtain ⟨e, he, hb⟩ := Array.any_eq_true'.1 h
    simp only [Bool.and_eq_true, Bool.or_eq_true, beq_iff_eq] at hb
    have hl := hall e he hb.1
    rcases hb.2 with h1 | h1
    · rw [← h1]; exact hl
    · cases hoe : ops[e.on]? with
      | none =>
        cases f with
        | zero => simp [depB] at h1
        | succ f => unfold depB at h1; simp [hoe] at h1
      | some oe => exact depB_listed hc f e.on oe hoe (hc e.on oe hoe hl) h1
theorem Closed.set {listed : Array Bool} {j : Nat} (h : Closed md ops listed) (hj : j ∈ Region.ready md ops listed) : Closed md ops (listed.setIfInBounds j true) := by
  obtain ⟨_, oj, hoj, hall⟩ := mem_ready.1 hj
  intro k o hk hl e he hb
  by_cases hjk : j = k
  · subst hjk
    rw [hoj] at hk; injection hk with hk; subst hk
    exact getD_set_true (hall e he hb)
  · rw [getD_set_ne false hjk] at hl
    exact getD_set_true (h k o hk hl e he hb)
def wpAnyC (P : Program) (md : Region.Mode) (ops : Array Oper) (C : World → Prop) (tl : List Nat) (Q : Exit → Act → World → Prop) : Nat → Array Bool → Act → World → Prop
  | 0, listed, a, w => Region.ready md ops listed = [] ∧ Q .normal a w
  | fuel + 1, listed, a, w =>
    (Region.ready md ops listed = [] → Q .normal a w) ∧
    ∀ i ∈ Region.ready md ops listed, wpOp P ops Q i (fun a' w' => (i ∈ tl ∨ C w') ∧ wpAnyC P md ops C tl Q fuel (listed.setIfInBounds i true) a' w') a w
theorem wpAny_of_C {tl : List Nat} : ∀ (fuel : Nat) (listed : Array Bool) (a : Act) (w : World), wpAnyC P md ops C tl Q fuel listed a w → wpAny P md ops Q fuel listed a w
  | 0, _, _, _, h => h
  | fuel + 1, _, _, _, h => ⟨h.1, fun i hi => wpOp_mono (fun a' w' h' => wpAny_of_C fuel _ a' w' h'.2) (h.2 i hi)⟩
theorem wpAnyC_first {tl : List Nat} {F i : Nat} {oi : Oper} {v : Value} (hi : ops[i]? = some oi) (hsel : ∀ (j : Nat) (o : Oper) cs b, ops[j]? = some o → o.op ≠ .select cs b)
    (hQ : ∀ c a w, Q (.panic c) (a.put oi.dst v) w → Q (.panic c) a w) (htl : ∀ j ∈ tl, depB md ops F j i = true) :
    ∀ (fuel : Nat) (listed : Array Bool) (a : Act) (w : World), Closed md ops listed →
      (∀ j oj, ops[j]? = some oj → j ≠ i → listed.getD j true = false → (∀ e ∈ oj.after, Region.binds md e = true → e.on ≠ i) → oi.apart ops oj = true) →
      i ∈ Region.ready md ops listed → C w → YC P ops C oi v a →
      wpAnyC P md ops C tl Q fuel (listed.setIfInBounds i true) (a.put oi.dst v) w → wpAnyC P md ops C tl Q (fuel + 1) listed a w := by
  intro fuel
  induction fuel with
  | zero =>
    intro listed a w _ _ hr hC hy H
    refine ⟨fun h => (by rw [h] at hr; cases hr), fun j hj => ?_⟩
    by_cases hji : j = i
    · subst hji; exact hy.wpOp hi hC ⟨.inr hC, H⟩
    · have := ready_mono hj hji
      rw [H.1] at this
      cases this
  | succ fuel ih =>
    intro listed a w hcl hfree hr hC hy H
    refine ⟨fun h => (by rw [h] at hr; cases hr), fun j hj => ?_⟩
    by_cases hji : j = i
    · subst hji; exact hy.wpOp hi hC ⟨.inr hC, H⟩
    · have h1 := H.2 j (ready_mono hj hji)
      obtain ⟨hjun, oj, hoj, hall⟩ := mem_ready.1 hj
      have hun : ¬ listed.getD i false = true := fun h1 => by
        have h0 := (mem_ready.1 hr).1
        rcases Nat.lt_or_ge i listed.size with h' | h'
        · simp [h'] at h0 h1; rw [h0] at h1; cases h1
        · simp [Array.getElem?_eq_none h'] at h1
      have hnot : ∀ e ∈ oj.after, Region.binds md e = true → e.on ≠ i := fun e he hb heq => by
        have h1 := hall e he hb
        rw [heq] at h1
        exact hun h1
      have h2 := wpOp_putC hoj (hfree j oj hoj hji hjun hnot) (fun cs b => hsel i oi cs b hi) (fun cs b => hsel j oj cs b hoj) hQ hy h1
      have hfree' : ∀ k ok, ops[k]? = some ok → k ≠ i → (listed.setIfInBounds j true).getD k true = false →
          (∀ e ∈ ok.after, Region.binds md e = true → e.on ≠ i) → oi.apart ops ok = true := fun k ok hk hki hun hno => by
        refine hfree k ok hk hki ?_ hno
        by_cases hjk : j = k
        · subst hjk; exact hjun
        · rw [getD_set_ne true hjk] at hun; exact hun
      refine wpOp_mono (fun a' w' h3 => ⟨h3.2.1, ?_⟩) h2
      have hC' : C w' := h3.2.1.resolve_left (fun ht => hun (depB_listed hcl F j oj hoj hall (htl j ht)))
      refine ih (listed.setIfInBounds j true) a' w' (hcl.set hj) hfree' (ready_mono hr (Ne.symm hji)) hC' h3.1 ?_
      rw [Array.setIfInBounds_comm _ _ hji]
      exact h3.2.2
/-! ### in three parts -/
def selL (l : List Oper) : List Nat → List Oper
  | [] => []
  | i :: r => match l[i]? with
    | some o => o :: selL l r
    | none => []
/-- The operations rs read: one after the other, in every world of C. -/
def wpRd (P : Program) (ops : Array Oper) (C : World → Prop) (Q : Act → Prop) : List Oper → Act → Prop
  | [], a => Q a
  | o :: rest, a => if Region.wanted o (yielded ops a.tmps) then ∃ v, (∀ w, C w → (execOp a.eval o).run P w = .ok (.value v) w) ∧ wpRd P ops C Q rest (a.put o.dst v) else wpRd P ops C Q rest (a.put o.dst undef)
def seqB (md : Region.Mode) (ops : Array Oper) : List Nat → Array Bool → Bool
  | [], listed => (Region.ready md ops listed).isEmpty
  | k :: r, listed => decide (Region.ready md ops listed = [k]) && seqB md ops r (listed.setIfInBounds k true)
def readB (md : Region.Mode) (ops : Array Oper) (cs ts : List Nat) : List Nat → Array Bool → Bool
  | [], listed => seqB md ops (cs ++ ts) listed
  | k :: r, listed => (Region.ready md ops listed).contains k && Region.free md ops listed k && ts.all (fun j => depB md ops ops.size j k) && readB md ops cs ts r (listed.setIfInBounds k true)
def mixB (md : Region.Mode) (ops : Array Oper) (rs cs ts : List Nat) : Bool :=
  Region.noSelect ops && decide (rs.length + (cs.length + ts.length) = ops.size) && cs.all (fun j => !ts.contains j) && readB md ops cs ts rs (Array.replicate ops.size false)
def wpCh (P : Program) (ops : Array Oper) (C : World → Prop) (Q : Exit → Act → World → Prop) (K : Act → World → Prop) : List Oper → Act → World → Prop
  | [], a, w => K a w
  | o :: r, a, w => wpList P ops (Exit.then (fun a' w' => C w' ∧ wpCh P ops C Q K r a' w') Q) [o] a w
theorem wpOp_of_list {o : Oper} {i : Nat} {K : Act → World → Prop} {a : Act} {w : World} (hi : ops[i]? = some o) (h : wpList P ops (Exit.then K Q) [o] a w) : wpOp P ops Q i K a w := by
  have hl : LetsOut (Exit.then K Q) → LetsOut Q := fun ⟨a, w, h⟩ => ⟨a, w, h⟩
  unfold wpOp
  simp only [hi]
  unfold wpList at h
  by_cases hw : Region.wanted o (yielded ops a.tmps) = true
  · rw [if_pos hw] at h ⊢
    refine h.imp (fun h => ?_) (fun h => ⟨h.1, hl h.2⟩)
    unfold Oper.wp at h ⊢
    generalize (execOp a.eval o).run P w = r at *
    cases r with
    | ok nx w' =>
      cases nx <;> simp only [Oper.upon] at h ⊢ <;> first
        | exact h
        | exact Calls.mono h (fun e w'' he => by cases e <;> first | exact he | exact hl he)
        | exact Rows.mono h (fun _ _ he => he)
    | halt x w' => cases x <;> simp only [Oper.upon] at h ⊢ <;> exact h
  · rw [if_neg hw] at h ⊢
    exact h
theorem selL_mem {l : List Oper} {i : Nat} {r : List Nat} {o : Oper} {s : List Oper} (h : selL l (i :: r) = o :: s) : l[i]? = some o ∧ selL l r = s := by
  unfold selL at h
  cases hl : l[i]? with
  | none => rw [hl] at h; cases h
  | some o' => rw [hl] at h; injection h with h1 h2; exact ⟨by rw [h1], h2⟩
theorem seqB_lt {l : List Oper} {k : Nat} {r : List Nat} {listed : Array Bool} (h : seqB md l.toArray (k :: r) listed = true) : ∃ o, l[k]? = some o ∧ selL l (k :: r) = o :: selL l r := by
  simp only [seqB, Bool.and_eq_true, decide_eq_true_eq] at h
  have : k ∈ Region.ready md l.toArray listed := by rw [h.1]; simp
  obtain ⟨_, o, ho, _⟩ := mem_ready.1 this
  have ho' : l[k]? = some o := by simpa using ho
  exact ⟨o, ho', by simp [selL, ho']⟩
theorem wpAnyC_tail {l : List Oper} {tl : List Nat} : ∀ (ts : List Nat) (listed : Array Bool) (a : Act) (w : World), (∀ j ∈ ts, j ∈ tl) → seqB md l.toArray ts listed = true → wpList P l.toArray Q (selL l ts) a w → wpAnyC P md l.toArray C tl Q ts.length listed a w
  | [], _, _, _, _, hB, h => ⟨by simpa [seqB] using hB, by simpa [selL, wpList] using h⟩
  | k :: r, listed, a, w, ht, hB, h => by
    obtain ⟨o, ho, hs⟩ := seqB_lt hB
    rw [hs] at h
    simp only [seqB, Bool.and_eq_true, decide_eq_true_eq] at hB
    refine ⟨fun h1 => (by rw [hB.1] at h1; cases h1), fun i hi => ?_⟩
    rw [hB.1] at hi
    have hik : i = k := by simpa using hi
    subst hik
    have hw : wpOp P l.toArray Q i (wpList P l.toArray Q (selL l r)) a w := by unfold wpOp; simp only [show l.toArray[i]? = some o by simpa using ho]; exact h
    exact wpOp_mono (fun a' w' h' => ⟨.inl (ht i (by simp)), wpAnyC_tail r _ a' w' (fun j hj => ht j (by simp [hj])) hB.2 h'⟩) hw
theorem wpAnyC_chain {l : List Oper} (ts : List Nat) : ∀ (cs : List Nat) (listed : Array Bool) (a : Act) (w : World), seqB md l.toArray (cs ++ ts) listed = true → wpCh P l.toArray C Q (fun a w => wpList P l.toArray Q (selL l ts) a w) (selL l cs) a w → wpAnyC P md l.toArray C ts Q (cs.length + ts.length) listed a w
  | [], listed, a, w, hB, h => by
    rw [List.length_nil, Nat.zero_add]
    exact wpAnyC_tail ts listed a w (fun _ h => h) hB h
  | k :: r, listed, a, w, hB, h => by
    rw [List.cons_append] at hB
    have hk : k ∈ Region.ready md l.toArray listed := by simp only [seqB, Bool.and_eq_true, decide_eq_true_eq] at hB; rw [hB.1]; simp
    obtain ⟨_, o, ho, _⟩ := mem_ready.1 hk
    have ho' : l[k]? = some o := by simpa using ho
    have hs : selL l (k :: r) = o :: selL l r := by simp [selL, ho']
    rw [hs] at h
    simp only [seqB, Bool.and_eq_true, decide_eq_true_eq] at hB
    rw [List.length_cons, show r.length + 1 + ts.length = (r.length + ts.length) + 1 by omega]
    refine ⟨fun h1 => (by rw [hB.1] at h1; cases h1), fun i hi => ?_⟩
    rw [hB.1] at hi
    have hik : i = k := by simpa using hi
    subst hik
    exact wpOp_mono (fun a' w' h' => ⟨.inr h'.1, wpAnyC_chain ts r _ a' w' hB.2 h'.2⟩) (wpOp_of_list ho h)
theorem wpAnyC_reads {l : List Oper} (hs : Region.noSelect l.toArray = true) (hQ : ∀ (d : Option Tmp) (v : Value) c a w, Q (.panic c) (a.put d v) w → Q (.panic c) a w) (cs ts : List Nat) (w : World) (hC : C w) : ∀ (rs : List Nat) (listed : Array Bool) (a : Act), Closed md l.toArray listed → readB md l.toArray cs ts rs listed = true →
    wpRd P l.toArray C (fun a => wpCh P l.toArray C Q (fun a w => wpList P l.toArray Q (selL l ts) a w) (selL l cs) a w) (selL l rs) a → wpAnyC P md l.toArray C ts Q (rs.length + (cs.length + ts.length)) listed a w
  | [], listed, a, _, hB, h => by
    rw [List.length_nil, Nat.zero_add]
    exact wpAnyC_chain ts cs listed a w hB h
  | k :: r, listed, a, hcl, hB, h => by
    simp only [readB, Bool.and_eq_true] at hB
    obtain ⟨⟨⟨hr, hf⟩, ht⟩, hB'⟩ := hB
    have hk : k ∈ Region.ready md l.toArray listed := by simpa using hr
    obtain ⟨_, o, ho, _⟩ := mem_ready.1 hk
    have ho' : l[k]? = some o := by simpa using ho
    have hsl : selL l (k :: r) = o :: selL l r := by simp [selL, ho']
    rw [hsl] at h
    rw [List.length_cons, show r.length + 1 + (cs.length + ts.length) = (r.length + (cs.length + ts.length)) + 1 by omega]
    have key : ∃ v, YC P l.toArray C o v a ∧ wpRd P l.toArray C (fun a => wpCh P l.toArray C Q (fun a w => wpList P l.toArray Q (selL l ts) a w) (selL l cs) a w) (selL l r) (a.put o.dst v) := by
      unfold wpRd at h
      by_cases hw : Region.wanted o (yielded l.toArray a.tmps) = true
      · rw [if_pos hw] at h
        obtain ⟨v, h1, h2⟩ := h
        exact ⟨v, .inl ⟨hw, h1⟩, h2⟩
      · rw [if_neg hw] at h
        exact ⟨undef, .inr ⟨by simpa using hw, rfl⟩, h⟩
    obtain ⟨v, hy, hK⟩ := key
    exact wpAnyC_first (F := l.toArray.size) ho (Region.noSelect_spec hs) (fun c a w => hQ _ _ c a w) (fun j hj => List.all_eq_true.1 ht j hj) _ listed a w hcl (Region.free_spec ho hf) hk hC hy
      (wpAnyC_reads hs hQ cs ts w hC r _ _ (hcl.set hk) hB' hK)
end
section
variable {P : Program} {n : Nat} {ops : Array Oper} {N R : Env → World → Prop} {NQ : Env → Prop} {X : Kt} {L : Env} {w : World} {C : World → Prop} {l : List Oper} {o : Oper} {v : Value} {d : Nat}
/-- What reads: in every world that keeps all of w. -/
def RL (P : Program) (n : Nat) (ops : Array Oper) (l : List Oper) (N : Env → Prop) (L : Env) (w : World) : Prop :=
  ∀ a, Fits n L a → ∀ Q : Act → Prop, (∀ L' a', N L' → Fits n L' a' → Q a') → wpRd P ops (Kp [] w) Q l a
theorem RL.nil (h : NQ L) : RL P n ops [] NQ L w := fun _ ha _ hN => hN _ _ h ha
theorem RL.op (h : EvO P n L w o v) (k : RL P n ops l NQ ((d, v) :: L) w) (hd : o.dst = some d := by rfl) (hn : Nat.blt d n = true := by rfl) (hg : o.guard = none := by rfl) : RL P n ops (o :: l) NQ L w := by
  intro a ha Q hN
  unfold wpRd
  rw [if_pos (by simp [Region.wanted, hg])]
  refine ⟨v, fun w' hw => h a ha w' hw, ?_⟩
  rw [hd]; exact k _ (ha.put (lt_of_blt hn) v) Q hN
theorem RL.on {gi tt : Nat} {og : Oper} {b c : Bool} (hv : look L tt = some (.bool c)) (hc : c = b)
    (k : RL P n ops ({ o with guard := none } :: l) NQ L w) (hg : o.guard = some (gi, b) := by rfl) (ho : ops[gi]? = some og := by rfl) (hd : og.dst = some tt := by rfl) : RL P n ops (o :: l) NQ L w := by
  subst hc
  intro a ha Q hN
  have hw : Region.wanted o (yielded ops a.tmps) = true := by simp [Region.wanted, hg, yielded_of ha ho hd hv]
  have h2 := k a ha Q hN
  unfold wpRd at h2 ⊢
  rw [if_pos hw]
  rw [if_pos (by simp [Region.wanted])] at h2
  exact h2
theorem RL.off {gi tt : Nat} {og : Oper} {b' c : Bool} (hv : look L tt = some (.bool c)) (hc : c = !b') (k : RL P n ops l NQ ((d, undef) :: L) w) (hg : o.guard = some (gi, b') := by rfl) (ho : ops[gi]? = some og := by rfl) (hd : og.dst = some tt := by rfl)
    (hdd : o.dst = some d := by rfl) (hn : Nat.blt d n = true := by rfl) : RL P n ops (o :: l) NQ L w := by
  subst hc
  intro a ha Q hN
  have hw : ¬ Region.wanted o (yielded ops a.tmps) = true := by simp [Region.wanted, hg, yielded_of ha ho hd hv]
  unfold wpRd
  rw [if_neg hw, hdd]
  exact k _ (ha.put (lt_of_blt hn) undef) Q hN
theorem RL.offU {gi tt : Nat} {og : Oper} {b : Bool} (hv : look L tt = some undef) (k : RL P n ops l NQ ((d, undef) :: L) w) (hg : o.guard = some (gi, b) := by rfl) (ho : ops[gi]? = some og := by rfl) (hd : og.dst = some tt := by rfl)
    (hdd : o.dst = some d := by rfl) (hn : Nat.blt d n = true := by rfl) : RL P n ops (o :: l) NQ L w := by
  intro a ha Q hN
  have hw : ¬ Region.wanted o (yielded ops a.tmps) = true := by simp [Region.wanted, hg, yielded_undef ha ho hd hv]
  unfold wpRd
  rw [if_neg hw, hdd]
  exact k _ (ha.put (lt_of_blt hn) undef) Q hN
/-- One at a time, all of w0 being kept behind each. -/
def CL (P : Program) (n : Nat) (ops : Array Oper) (w0 : World) (N : Env → World → Prop) : List Oper → Env → World → Prop
  | [], L, w => N L w
  | o :: l, L, w => SL P n ops [o] (fun L' w' => Kp [] w0 w' ∧ CL P n ops w0 N l L' w') L w
theorem CL.nil {w0 : World} (h : N L w) : CL P n ops w0 N [] L w := h
theorem CL.cons {w0 : World} (h : SL P n ops [o] (fun L' w' => Kp [] w0 w' ∧ CL P n ops w0 N l L' w') L w) : CL P n ops w0 N (o :: l) L w := h
theorem CL.wp {w0 : World} {Q : Exit → Act → World → Prop} {K : Act → World → Prop} : ∀ (l : List Oper) (L : Env) (w : World) (a : Act), CL P n ops w0 N l L w → (∀ L' w' a', N L' w' → Fits n L' a' → K a' w') → Fits n L a → wpCh P ops (Kp [] w0) Q K l a w
  | [], L, w, a, h, hN, ha => hN L w a h ha
  | o :: l, L, w, a, h, hN, ha => h a ha _ (fun L' w' a' ⟨h1, h2⟩ hf => ⟨h1, CL.wp l L' w' a' h2 hN hf⟩)
theorem CW.mix {id : Nat} (rs cs ts : List Nat) (hm : P.follows .mixedOrders = true) (hB : mixB .any l.toArray rs cs ts = true)
    (h : RL P n l.toArray (selL l rs) (fun L' => CL P n l.toArray w (fun L'' w'' => SL P n l.toArray (selL l ts) N L'' w'') (selL l cs) L' w.drew) L w) : CW P n (.region id l.toArray true) N X R L w := by
  intro a ha Q hN _ _
  simp only [mixB, Bool.and_eq_true, decide_eq_true_eq] at hB
  obtain ⟨⟨⟨hs, hlen⟩, _⟩, hB⟩ := hB
  have Q2 : ∃ Q2 : Exit → Act → World → Prop, Q2 = Exit.then (fun a w => Q .normal a w) (fun _ _ _ => False) := ⟨_, rfl⟩
  obtain ⟨Q2, hQ2⟩ := Q2
  have hpan : ∀ c a w, ¬ Q2 (.panic c) a w := fun c a w h => by rw [hQ2] at h; exact h
  have hcl : Closed .any l.toArray (Array.replicate l.toArray.size false) := fun k o _ hl => by rw [getD_replicate_false] at hl; cases hl
  have hreads := wpAnyC_reads (P := P) (C := Kp [] w) (Q := Q2) hs (fun d v c a w h => (hpan _ _ _ h).elim) cs ts w.drew (Kp.refl _ _).drew rs _ a hcl hB (h a ha _ (fun L' a' hL hf => CL.wp _ _ _ _ hL (fun L'' w'' a'' hs' hf' => hs' a'' hf' Q2 (fun L3 w3 a3 h3 hf3 => by rw [hQ2]; exact hN L3 w3 a3 h3 hf3)) hf))
  rw [hlen] at hreads
  have hreg : (Code.region id l.toArray true).wp P Q2 a w := wp_region_any hm (wpAny_of_C _ _ _ _ hreads)
  refine Code.wp_mono (fun e a w he => ?_) hreg
  rw [hQ2] at he
  cases e <;> first | exact he | exact he.elim
end
theorem all_one {l : List Value} (h : l.all isOne = true) : ∀ u ∈ l, isOne u = true := fun u hu => List.all_eq_true.1 h u hu
/-! ### structs and rows written out -/
def BldOk (P : Program) (t : Nat) (z : Value) (pl : List (Nat × Nat)) : Prop := ∀ parts, P.built t parts = Instr.fill (pl.toArray[·]?) z.cells parts
theorem BldOk.mk {P : Program} {t : Nat} {z : Value} {pl : List (Nat × Nat)} {fs : Array Field} (hz : (P.info? t).bind (fun i => i.zero) = some z) (hu : P.underlying t = some (.struct fs)) (hp : fs.toList.mapM (fun f => (P.info? f.type).map fun i => (f.offset, i.size)) = some pl) : BldOk P t z pl := fun parts => by
  unfold Program.built
  cases hi : P.info? t with
  | none => rw [hi] at hz; cases hz
  | some i =>
    rw [hi] at hz
    simp only [Option.bind_some] at hz
    simp only [hu, hz, hp]
section
variable {P : Program} {n : Nat} {ops : Array Oper} {N R : Env → World → Prop} {X : Kt} {L : Env} {w : World} {S : List Nat} {w0 : World} {I : Nat → Prop} {M : List Bk} {l : List Oper}
  {d : Nat} {dd : Option Tmp} {t t1 t2 : TypeId} {p : String} {af : Array Edge} {g : Option (Nat × Bool)} {x y : Operand} {v : Value}
theorem bdn {z : Operand} {k : IntKind} {b : Nat} (h : ev L z = some (.int k (b : Int))) : ∃ k j, ev L z = some (.int k j) ∧ 0 ≤ j ∧ j.toNat = b := ⟨k, b, h, by omega, rfl⟩
theorem ev_neb {a b : Bool} (hu : P.underlying t1 = some .bool) (hx : ev L x = some (.bool a)) (hy : ev L y = some (.bool b)) : EvO P n L w ⟨dd, .binOp .neq t1 x y t2, t, p, af, g⟩ (.bool (!(a == b))) :=
  ev_bin hx hy rfl (fun w => by simp [binOp, run_equal_bool w t1 a b hu])
theorem ev_eqb {a b : Bool} (hu : P.underlying t1 = some .bool) (hx : ev L x = some (.bool a)) (hy : ev L y = some (.bool b)) : EvO P n L w ⟨dd, .binOp .eql t1 x y t2, t, p, af, g⟩ (.bool (a == b)) :=
  ev_bin hx hy rfl (fun w => run_eql_bool w t1 a b hu)
theorem cutA_zero (A : Option Addr) (m s : Nat) : cutA A 0 m s = A := by
  unfold cutA
  split
  · rfl
  · rw [Nat.zero_mul]; cases A <;> rfl
theorem cutA_lt {g o l m s : Nat} (h : l < m) : cutA (some ⟨g, o, none⟩) l m s = some ⟨g, o + l * s, none⟩ := by
  unfold cutA; rw [if_neg (by omega)]; simp [add_off]
/-- s[:b] -/
theorem ev_cutH {e m len cap : Nat} {A : Option Addr} {hi : Option Operand} {b : Nat} (he : ElS P t1 e m) (hx : ev L x = some (.slice A len cap))
    (hh : match hi with | none => b = len | some z => ∃ k j, ev L z = some (.int k j) ∧ 0 ≤ j ∧ j.toNat = b) (h2 : b ≤ cap) : EvO P n L w ⟨dd, .slice t1 x none hi none, t, p, af, g⟩ (.slice A b cap) := by
  have := ev_cut (P := P) (n := n) (L := L) (w := w) (dd := dd) (t := t) (p := p) (af := af) (g := g) (lo := none) (a := 0) he hx rfl hh (Nat.zero_le _) h2
  rwa [cutA_zero] at this
theorem ev_bld {xs : List (Nat × Operand)} {vs : List (Nat × Value)} {z : Value} {pl : List (Nat × Nat)} {cs : List Value} (hb : BldOk P t1 z pl) (hx : parts L xs = some vs) (hf : Instr.fill (pl.toArray[·]?) z.cells vs = some cs.toArray := by (simp [Instr.fill, Value.cells]; rfl)) : EvO P n L w ⟨dd, .build t1 xs.toArray, t, p, af, g⟩ (.agg cs.toArray) :=
  ev_build hx (fun w => run_build w t1 _ _ (by rw [hb, ← hf]))
theorem SL.bsl (st : St S w0 I w M) {e m bytes len : Nat} {z : Value} {xs : List (Nat × Operand)} {vs : List (Nat × Value)} {cs : List Value} (he : ElS P t1 e m) (hi : InfoOk P e z m bytes) (hx : parts L xs = some vs)
    (k : ∀ w1 g1, St S w0 I w1 (⟨g1, e, cs⟩ :: M) → Up I w I w1 → Kp [] w w1 → w.heap.size ≤ g1 → SL P n ops l N ((d, .slice (some ⟨g1, 0, none⟩) len len) :: L) w1)
    (hf : Instr.fill (fun i => some (i * m, m)) (zeros z.cells.toList len).toArray vs = some cs.toArray := by (simp [Instr.fill, zeros, Value.cells]; rfl)) (hn : Nat.blt d n = true := by rfl) (h0 : Nat.blt 0 (len * m) = true := by rfl) (h24 : Nat.ble (len * m) 16777216 = true := by rfl) : SL P n ops (⟨some d, .buildSlice t1 len xs.toArray, t, p, af, none⟩ :: l) N L w := by
  refine SL.bslice st he hx (fun w => ?_) k hn
  obtain ⟨inf, hi1, hz, hs, hby, hzs⟩ := hi
  have h24' : ¬ 16777216 < len * m := by have := Nat.le_of_ble_eq_true h24; omega
  have h0' : ¬ len * m = 0 := by have := lt_of_blt h0; omega
  have hrow : (Array.range (len * m)).map (fun i => z.cells[i % z.cells.size]!) = (zeros z.cells.toList len).toArray := by
    rw [← zeroCells_list, Array.toArray_toList, Builtin.zeroCells, hzs]
  simp only [Instr.buildSlice, Sem.run_bind, run_underlying he.1, he.2 w, Result.andThen_ok, h24', if_false, h0', Sem.run_pure]
  have hzv : (zeroValue e).run P w = .ok z w := by simp [zeroValue, typeInfo, hi1, hz]
  simp only [hzv, Result.andThen_ok, Sem.run_pure, hrow, Sem.run_bind]
  rw [hf]
  simp [newRow, newObj, Sem.run]
/-- append that finds room in a known block. -/
theorem SL.appendM (st : St S w0 I w M) (kk : Nat) {e size bytes g0 nn cap m c : Nat} {z : Value} {cs news : List Value} {A : Option Addr} (he : ElS P t1 e size) (hi : InfoOk P e z size bytes) (hx : ev L x = some (.slice (some ⟨g0, 0, none⟩) nn cap)) (hy : ev L y = some (.slice A m c)) (hM : M[kk]? = some ⟨g0, e, cs⟩)
    (hroom : nn + m ≤ cap) (hcl : cs.length = cap * size) (hl : news.length = m * size) (hr : news ≠ [] → ∃ a, A = some a ∧ CellsAt w a news) (h1 : ∀ u ∈ news, isOne u = true)
    (k : ∀ w1, St S w0 I w1 (M.set kk ⟨g0, e, cs.take (nn * size) ++ news ++ cs.drop (nn * size + news.length)⟩) → Up I w I w1 → Kp [g0] w w1 → SL P n ops l N ((d, .slice (some ⟨g0, 0, none⟩) (nn + m) cap) :: L) w1) (hn : Nat.blt d n = true := by rfl) :
    SL P n ops (⟨some d, .call ⟨.builtin .append, #[x, y], #[t1, t1]⟩, t, p, af, none⟩ :: l) N L w := by
  obtain ⟨inf, hi1, hz, hs, hby, hzs⟩ := hi
  subst hs
  have hbk := st.ok _ (mem_of_get hM)
  have hfit : nn * inf.size + news.length ≤ cs.length := by rw [hl, hcl, ← Nat.add_mul]; exact Nat.mul_le_mul_right _ hroom
  have hex : ∃ w1, (Builtin.append_ #[t1, t1] t #[.slice (some ⟨g0, 0, none⟩) nn cap, .slice A m c]).run P w = .ok (.slice (some ⟨g0, 0, none⟩) (nn + m) cap) w1 ∧ Kp [g0] w w1 ∧ BkOk w1 ⟨g0, e, cs.take (nn * inf.size) ++ news ++ cs.drop (nn * inf.size + news.length)⟩ := by
    by_cases hnil : news = []
    · subst hnil
      have h0 : m * inf.size = 0 := by simpa using hl.symm
      refine ⟨w, ?_, Kp.refl _ _, by simpa using hbk⟩
      have hfc : (Builtin.firstCells inf.size m (.slice A m c)).run P w = .ok #[] w := by
        cases A <;> simp [Builtin.firstCells, h0, loadCells, loadCellsFrom]
      simp [Builtin.append_, run_underlying he.1, sizeOf, typeInfo, hi1, Builtin.lenOf, hroom, hfc, storeCells]
    · obtain ⟨a, rfl, hc⟩ := hr hnil
      have hrun := run_append_room (P := P) w t1 t e inf he.1 hi1 g0 nn cap cs.toArray hbk a m c news hl hc (fun u hu => one_cell' (h1 u hu)) hroom (by simpa using hfit)
      simp only [List.toList_toArray] at hrun
      exact ⟨_, hrun, ⟨rfl, rfl, rfl, by simp, fun g hg hn => setRow_other w g0 g _ (fun e => hn (by simp [e]))⟩, setRow_heap w g0 _ _ e _ hbk⟩
  obtain ⟨w1, hrun, hk, hb⟩ := hex
  refine SL.eff (w1 := w1) (fun a ha => ?_) (k _ (st.turn hM rfl hk hb) (Up.set st hM hk) hk) rfl hn
  obtain ⟨ccs, hcs⟩ := run_builtin (P := P) (b := .append) (ats := #[t1, t1]) (dd := some d) (t := t) (p := p) (af := af) (g := none) (xs := [x, y]) (vs := [.slice (some ⟨g0, 0, none⟩) nn cap, .slice A m c]) ha (by simp [evs, hx, hy])
  rw [hcs]
  simp [builtin, hrun]
end
end Go.Proofs.Ytodaagikppaidaa.Eng
