/- Rules for stepping through code: part 3. -/
import Derived.Test.YtodaagikppaidaaCwE2
import Derived.StillTail
import Derived.Laws.NewBlocks
import Derived.Laws.MakeOwn
/-! Memory in a walk: blocks that are known whole (M), blocks that stay (I), what may be turned (S). -/
namespace Go.Proofs.Ytodaagikppaidaa.Eng
open Go

structure Bk where
  g : Nat
  t : Nat
  cs : List Value

def BkOk (w : World) (b : Bk) : Prop := w.heap[b.g]? = some (.cells b.cs.toArray b.t (0, 0))

structure St (S : List Nat) (w0 : World) (I : Nat → Prop) (w : World) (M : List Bk) : Prop where
  kp : Kp S w0 w
  ok : ∀ b, b ∈ M → BkOk w b
  nd : M.Pairwise (fun a b => a.g ≠ b.g)
  out : ∀ b, b ∈ M → ¬ I b.g ∧ (b.g ∈ S ∨ w0.heap.size ≤ b.g)
  lt : ∀ g, I g → g < w.heap.size

/-- What stays, stays; more may stay. -/
def Up (I : Nat → Prop) (w : World) (I' : Nat → Prop) (w' : World) : Prop := ∀ g, I g → I' g ∧ w'.heap[g]? = w.heap[g]?
theorem Up.refl (I : Nat → Prop) (w : World) : Up I w I w := fun _ h => ⟨h, rfl⟩
theorem Up.trans {I I' I'' : Nat → Prop} {w w' w'' : World} (h : Up I w I' w') (k : Up I' w' I'' w'') : Up I w I'' w'' := fun g hg =>
  ⟨(k g (h g hg).1).1, (k g (h g hg).1).2.trans (h g hg).2⟩
/-- The blocks between two worlds stay, too. -/
def Ext (I : Nat → Prop) (w w' : World) : Nat → Prop := fun g => I g ∨ (w.heap.size ≤ g ∧ g < w'.heap.size)

theorem lt_of_some {w : World} {g : Nat} {o : Obj} (h : w.heap[g]? = some o) : g < w.heap.size := by
  rcases Nat.lt_or_ge g w.heap.size with h' | h'
  · exact h'
  · rw [Array.getElem?_eq_none h'] at h; cases h
theorem BkOk.lt {w : World} {b : Bk} (h : BkOk w b) : b.g < w.heap.size := lt_of_some h
theorem BkOk.cell {w : World} {b : Bk} (h : BkOk w b) (i : Nat) : w.cell? ⟨b.g, i, none⟩ = b.cs[i]? := by
  rw [cell_of_row w b.g i b.cs.toArray b.t (0, 0) h, List.getElem?_toArray]
theorem add_off (g o j : Nat) : Addr.add ⟨g, o, none⟩ j = ⟨g, o + j, none⟩ := by
  unfold Addr.add; split
  · rename_i h; rw [h]; rfl
  · rfl
theorem BkOk.cells {w : World} {b : Bk} (h : BkOk w b) (o : Nat) : CellsAt w ⟨b.g, o, none⟩ (b.cs.drop o) := fun j v hv => by
  rw [add_off, h.cell]; rw [List.getElem?_drop] at hv; exact hv

section
variable {S : List Nat} {w0 w w' : World} {I I' : Nat → Prop} {M : List Bk}
theorem St.drew (h : St S w0 I w M) : St S w0 I w.drew M := ⟨h.kp, h.ok, h.nd, h.out, h.lt⟩
theorem St.start (I : Nat → Prop) (w : World) (hI : ∀ g, I g → g < w.heap.size) (S : List Nat) : St S w I w [] := ⟨Kp.refl _ _, (fun _ h => by cases h), List.Pairwise.nil, (fun _ h => by cases h), hI⟩
theorem Up.kp (h : Kp [] w w') (hl : ∀ g, I g → g < w.heap.size) : Up I w (Ext I w w') w' := fun g hg => ⟨.inl hg, h.2.2.2.2 g (hl g hg) (by simp)⟩
theorem St.call (h : St S w0 I w M) (k : Kp [] w w') : St S w0 (Ext I w w') w' M where
  kp := h.kp.then_ k (fun _ hm => by cases hm)
  ok := fun b hb => (k.2.2.2.2 b.g (h.ok b hb).lt (by simp)).trans (h.ok b hb)
  nd := h.nd
  out := fun b hb => ⟨fun hh => hh.elim (h.out b hb).1 (fun hh => by have := (h.ok b hb).lt; omega), (h.out b hb).2⟩
  lt := fun g hg => hg.elim (fun h1 => Nat.lt_of_lt_of_le (h.lt g h1) k.2.2.2.1) (·.2)
/-- A world that keeps all, nothing new being told. -/
theorem St.keep (h : St S w0 I w M) (k : Kp [] w w') : St S w0 I w' M where
  kp := h.kp.then_ k (fun _ hm => by cases hm)
  ok := fun b hb => (k.2.2.2.2 b.g (h.ok b hb).lt (by simp)).trans (h.ok b hb)
  nd := h.nd
  out := h.out
  lt := fun g hg => Nat.lt_of_lt_of_le (h.lt g hg) k.2.2.2.1
theorem Up.keep (h : Kp [] w w') (hl : ∀ g, I g → g < w.heap.size) : Up I w I w' := fun g hg => ⟨hg, h.2.2.2.2 g (hl g hg) (by simp)⟩
theorem kp_alloc (w : World) (o : Obj) : Kp [] w (w.alloc o) := (Kp.refl [] w).alloc o
theorem St.alloc (h : St S w0 I w M) (t : Nat) (cs : List Value) : St S w0 I (w.alloc (.cells cs.toArray t)) (⟨w.heap.size, t, cs⟩ :: M) := by
  have k := h.keep (kp_alloc w (.cells cs.toArray t))
  refine ⟨k.kp, ?_, ?_, ?_, k.lt⟩
  · intro b hb
    rcases List.mem_cons.1 hb with rfl | hb
    · exact heap_alloc_new w _
    · exact k.ok b hb
  · exact List.pairwise_cons.2 ⟨fun b hb => by have := (h.ok b hb).lt; simp only; omega, h.nd⟩
  · intro b hb
    rcases List.mem_cons.1 hb with rfl | hb
    · exact ⟨fun hh => by have := h.lt _ hh; simp only at this; omega, .inr h.kp.2.2.2.1⟩
    · exact h.out b hb
theorem mem_of_get {b : Bk} {k : Nat} (h : M[k]? = some b) : b ∈ M := List.mem_of_getElem? h
theorem pairwise_get {M : List Bk} (hp : M.Pairwise (fun a b => a.g ≠ b.g)) {i j : Nat} {a b : Bk} (hi : M[i]? = some a) (hj : M[j]? = some b) (hne : i ≠ j) : a.g ≠ b.g := by
  obtain ⟨hi', rfl⟩ := List.getElem?_eq_some_iff.1 hi
  obtain ⟨hj', rfl⟩ := List.getElem?_eq_some_iff.1 hj
  rcases Nat.lt_or_gt_of_ne hne with hlt | hgt
  · exact List.pairwise_iff_getElem.1 hp i j hi' hj' hlt
  · exact Ne.symm (List.pairwise_iff_getElem.1 hp j i hj' hi' hgt)
theorem setCell_blk {g i : Nat} {cs : List Value} {t : Nat} (v : Value) (hg : w.heap[g]? = some (.cells cs.toArray t (0, 0))) :
    (w.setCell ⟨g, i, none⟩ v).heap[g]? = some (.cells (cs.set i v).toArray t (0, 0)) := by
  simp [World.setCell, Array.getElem?_modify, hg]
theorem kp_setCell (w : World) (a : Addr) (v : Value) : Kp [a.block] w (w.setCell a v) :=
  ⟨rfl, rfl, rfl, by simp, fun g _ hn => heap_setCell_other w a g v (by simpa using hn)⟩
/-- Block b of M is now b'; all else stays. -/
theorem St.turn {b b' : Bk} {k : Nat} (h : St S w0 I w M) (hb : M[k]? = some b) (hg : b'.g = b.g) (hk : Kp [b.g] w w') (ho : BkOk w' b') : St S w0 I w' (M.set k b') := by
  have hm := mem_of_get hb
  have hkl : k < M.length := (List.getElem?_eq_some_iff.1 hb).1
  have hmem : ∀ c, c ∈ M.set k b' → c = b' ∨ (c ∈ M ∧ c.g ≠ b.g) := by
    intro c hc
    obtain ⟨j, hj⟩ := List.mem_iff_getElem?.1 hc
    rw [List.getElem?_set] at hj
    by_cases hjk : k = j
    · rw [if_pos hjk] at hj; split at hj
      · injection hj with hj; exact .inl hj.symm
      · rename_i hn; exact absurd hkl hn
    · rw [if_neg hjk] at hj
      exact .inr ⟨mem_of_get hj, pairwise_get h.nd hj hb (Ne.symm hjk)⟩
  refine ⟨h.kp.then_ hk (fun g hg => by rw [List.mem_singleton.1 hg]; exact (h.out b hm).2), ?_, ?_, ?_, fun g hg => Nat.lt_of_lt_of_le (h.lt g hg) hk.2.2.2.1⟩
  · intro c hc
    rcases hmem c hc with rfl | ⟨hc, hne⟩
    · exact ho
    · exact (hk.2.2.2.2 c.g (h.ok c hc).lt (by simpa using hne)).trans (h.ok c hc)
  · rw [List.pairwise_iff_getElem]
    intro i j hi hj hij
    have key : ∀ q (hq : q < (M.set k b').length), (M.set k b')[q].g = (M[q]'(by simpa using hq)).g := by
      intro q hq
      rw [List.getElem_set]
      split
      · rename_i hkq
        have hb2 := (List.getElem?_eq_some_iff.1 hb).2
        simp only [← hkq]
        rw [hg, hb2]
      · rfl
    rw [key i hi, key j hj]
    exact List.pairwise_iff_getElem.1 h.nd i j _ _ hij
  · intro c hc
    rcases hmem c hc with rfl | ⟨hc, _⟩
    · rw [hg]; exact h.out b hm
    · exact h.out c hc
theorem St.set {b : Bk} {k i : Nat} (h : St S w0 I w M) (hb : M[k]? = some b) (v : Value) : St S w0 I (w.setCell ⟨b.g, i, none⟩ v) (M.set k ⟨b.g, b.t, b.cs.set i v⟩) :=
  h.turn hb rfl (kp_setCell w _ v) (setCell_blk v (h.ok b (mem_of_get hb)))
theorem Up.set {b : Bk} {k : Nat} (h : St S w0 I w M) (hb : M[k]? = some b) (hk : Kp [b.g] w w') : Up I w I w' := fun g hg =>
  ⟨hg, hk.2.2.2.2 g (h.lt g hg) (by simp only [List.mem_singleton]; rintro rfl; exact (h.out b (mem_of_get hb)).1 hg)⟩
theorem St.drop (h : St S w0 I w M) {M' : List Bk} (hs : M'.Sublist M) : St S w0 I w M' :=
  ⟨h.kp, fun b hb => h.ok b (hs.subset hb), h.nd.sublist hs, fun b hb => h.out b (hs.subset hb), h.lt⟩
end

/-! ### rules -/
section
variable {P : Program} {n : Nat} {ops : Array Oper} {N R : Env → World → Prop} {X : Kt} {L : Env} {w : World} {S : List Nat} {w0 : World} {I : Nat → Prop} {M : List Bk} {l : List Oper}
  {d : Nat} {t t1 : TypeId} {p : String} {af : Array Edge} {x y : Operand} {v : Value}

theorem SL.sub {L' : Env} (h : SL P n ops l N L' w) (hs : Sub L L') : SL P n ops l N L w := fun a ha => h a (ha.sub hs)
theorem SL.cut {l1 l2 : List Oper} (h1 : SL P n ops l1 (fun L' w' => SL P n ops l2 N L' w') L w) : SL P n ops (l1 ++ l2) N L w := by
  intro a ha Q hN
  have key : ∀ (l1 : List Oper) (a : Act) (w : World), wpList P ops (Exit.then (fun a w => wpList P ops Q l2 a w) Q) l1 a w → wpList P ops Q (l1 ++ l2) a w := by
    intro l1
    induction l1 with
    | nil => intro a w h; exact h
    | cons o l1 ih =>
      intro a w h
      simp only [List.cons_append]
      unfold wpList at h ⊢
      have hl : LetsOut (Exit.then (fun a w => wpList P ops Q l2 a w) Q) → LetsOut Q := fun ⟨a, w, h⟩ => ⟨a, w, h⟩
      by_cases hw : Region.wanted o (yielded ops a.tmps) = true
      · rw [if_pos hw] at h ⊢
        refine h.imp (fun h => ?_) (fun h => ⟨h.1, hl h.2⟩)
        unfold Oper.wp at h ⊢
        generalize (execOp a.eval o).run P w = r at *
        cases r with
        | ok nx w' =>
          cases nx <;> simp only [Oper.upon] at h ⊢ <;> first
            | exact ih _ _ h
            | exact Calls.mono h (fun e w'' he => by cases e <;> first | exact ih _ _ he | exact he | exact hl he)
            | exact Rows.mono h (fun _ _ he => ih _ _ he)
        | halt x w' => cases x <;> simp only [Oper.upon] at h ⊢ <;> exact h
      · rw [if_neg hw] at h ⊢
        exact ih _ _ h
  refine key l1 a w (h1 a ha _ ?_)
  intro L' w' a' h2 hf
  exact h2 a' hf Q hN
/-- The first k operations come to the slots L1. -/
theorem SL.cutAt (k : Nat) (L1 : Env) (h1 : SL P n ops (l.take k) (fun L' w' => w' = w ∧ Sub L' L1) L w) (h2 : SL P n ops (l.drop k) N L1 w) : SL P n ops l N L w := by
  have := SL.cut (l1 := l.take k) (l2 := l.drop k) (N := N) (P := P) (n := n) (ops := ops) (L := L) (w := w) (fun a ha Q hN => h1 a ha Q (fun L' w' a' h hf => hN L' w' a' (by obtain ⟨rfl, hs⟩ := h; exact h2.sub hs) hf))
  rwa [List.take_append_drop] at this

theorem yielded_of {a : Act} (ha : Fits n L a) {gi tt : Nat} {og : Oper} {b : Bool} (ho : ops[gi]? = some og) (hd : og.dst = some tt) (hv : look L tt = some (.bool b)) : yielded ops a.tmps gi = some b := by
  have := ha.2.2 tt _ hv
  simp [yielded, ho, hd, this]
/-- A guarded operation that is carried out. -/
theorem SL.on {o : Oper} {gi tt : Nat} {og : Oper} {b c : Bool} (hv : look L tt = some (.bool c)) (hc : c = b)
    (k : SL P n ops ({ o with guard := none } :: l) N L w) (hg : o.guard = some (gi, b) := by rfl) (ho : ops[gi]? = some og := by rfl) (hd : og.dst = some tt := by rfl) : SL P n ops (o :: l) N L w := by
  subst hc
  intro a ha Q hN
  have hw : Region.wanted o (yielded ops a.tmps) = true := by simp [Region.wanted, hg, yielded_of ha ho hd hv]
  have h2 := k a ha Q hN
  unfold wpList at h2 ⊢
  rw [if_pos hw]
  rw [if_pos (by simp [Region.wanted])] at h2
  exact h2
/-- One that isn't. -/
theorem SL.off {o : Oper} {gi tt : Nat} {og : Oper} {b' c : Bool} (hv : look L tt = some (.bool c)) (hc : c = !b') (k : SL P n ops l N ((d, undef) :: L) w) (hg : o.guard = some (gi, b') := by rfl) (ho : ops[gi]? = some og := by rfl) (hd : og.dst = some tt := by rfl)
    (hdd : o.dst = some d := by rfl) (hn : Nat.blt d n = true := by rfl) : SL P n ops (o :: l) N L w := by
  subst hc
  intro a ha Q hN
  have hw : ¬ Region.wanted o (yielded ops a.tmps) = true := by simp [Region.wanted, hg, yielded_of ha ho hd hv]
  unfold wpList
  rw [if_neg hw, hdd]
  exact k _ (ha.put (lt_of_blt hn) undef) Q hN

/-- An operation that makes or writes memory: what it comes to. -/
theorem SL.eff {o : Oper} {w1 : World} (h : ∀ a, Fits n L a → (execOp a.eval o).run P w = .ok (.value v) w1)
    (k : SL P n ops l N ((d, v) :: L) w1) (hd : o.dst = some d := by rfl) (hn : Nat.blt d n = true := by rfl) (hg : o.guard = none := by rfl) : SL P n ops (o :: l) N L w := by
  intro a ha Q hN
  refine wpList_plain hg fun K hK => ?_
  unfold Oper.wp
  rw [h a ha, Oper.upon_value, hd]
  exact hK _ _ (k _ (ha.put (lt_of_blt hn) v) Q hN)
theorem SL.skip {o : Oper} {w1 : World} (h : ∀ a, Fits n L a → (execOp a.eval o).run P w = .ok .skip w1)
    (k : SL P n ops l N L w1) (hd : o.dst = none := by rfl) (hg : o.guard = none := by rfl) : SL P n ops (o :: l) N L w := by
  intro a ha Q hN
  refine wpList_plain hg fun K hK => ?_
  unfold Oper.wp
  rw [h a ha, Oper.upon_skip, hd]
  exact hK _ _ (k _ ha Q hN)

theorem SL.alloc (st : St S w0 I w M) {z : Value} {cs : List Value} (hz : ∀ w : World, (zeroValue t1).run P w = .ok z w)
    (k : ∀ w1 g1, St S w0 I w1 (⟨g1, t1, cs⟩ :: M) → Up I w I w1 → Kp [] w w1 → w.heap.size ≤ g1 → SL P n ops l N ((d, .pointer (some ⟨g1, 0, none⟩)) :: L) w1) (hcs : z.cells.toList = cs := by rfl) (hn : Nat.blt d n = true := by rfl) : SL P n ops (⟨some d, .alloc t1, t, p, af, none⟩ :: l) N L w := by
  subst hcs
  have hka := kp_alloc w (.cells z.cells t1)
  have := st.alloc t1 z.cells.toList
  rw [Array.toArray_toList] at this
  exact SL.eff (w1 := w.alloc (.cells z.cells t1)) (fun a _ => by
    simp [execOp, Instr.alloc, hz, newVar, newRow, newObj, Sem.run]) (k _ _ this (Up.keep hka st.lt) hka (Nat.le_refl _)) rfl hn
theorem SL.box (st : St S w0 I w M) {cs : List Value} (hx : ev L x = some v)
    (k : ∀ w1 g1, St S w0 I w1 (⟨g1, t1, cs⟩ :: M) → Up I w I w1 → Kp [] w w1 → w.heap.size ≤ g1 → SL P n ops l N ((d, .pointer (some ⟨g1, 0, none⟩)) :: L) w1) (hcs : v.cells.toList = cs := by rfl) (hn : Nat.blt d n = true := by rfl) : SL P n ops (⟨some d, .box t1 x, t, p, af, none⟩ :: l) N L w := by
  subst hcs
  have hka := kp_alloc w (.cells v.cells t1)
  have := st.alloc t1 v.cells.toList
  rw [Array.toArray_toList] at this
  exact SL.eff (w1 := w.alloc (.cells v.cells t1)) (fun a ha => by
    simp [execOp, Instr.box, ev_eval ha hx, newVar, newRow, newObj, Sem.run]) (k _ _ this (Up.keep hka st.lt) hka (Nat.le_refl _)) rfl hn
/-- A cell of a block that is known. -/
theorem ev_loadM {dd : Option Tmp} {g : Option (Nat × Bool)} (st : St S w0 I w M) (kk : Nat) {b g0 i : Nat} {cs : List Value} (ho : One P t1) (hx : ev L x = some (.pointer (some ⟨g0, i, none⟩))) (hM : M[kk]? = some ⟨g0, b, cs⟩) (hc : cs[i]? = some v) :
    EvO P n L w ⟨dd, .load t1 x, t, p, af, g⟩ v := ev_load ho hx (by rw [(st.ok _ (mem_of_get hM)).cell]; exact hc)
theorem ev_loadMN {dd : Option Tmp} {g : Option (Nat × Bool)} (st : St S w0 I w M) (kk : Nat) {b g0 i m : Nat} {cs vs : List Value} (ho : Agg P t1 m) (hx : ev L x = some (.pointer (some ⟨g0, i, none⟩))) (hM : M[kk]? = some ⟨g0, b, cs⟩) (hc : (cs.drop i).take m = vs := by rfl) (hl : vs.length = m := by rfl) :
    EvO P n L w ⟨dd, .load t1 x, t, p, af, g⟩ (.agg vs.toArray) := by
  subst hl
  refine ev_loadN ho hx ?_
  have := ((st.ok _ (mem_of_get hM)).cells i).take vs.length
  rwa [hc] at this
def isOne : Value → Bool
  | .agg _ => false
  | .tuple _ => false
  | _ => true
theorem one_of_cells {w1 : World} (hv : v.cells = #[v]) (hc1 : ∀ m, v ≠ .agg m) (hc2 : ∀ m, v ≠ .tuple m) {a : Addr} {u : Value} (hcell : w.cell? a = some u) (hfr : w.frozen? a = false) (hw : w1 = w.setCell a v) : (store a v).run P w = .ok () w1 := by
  subst hw
  cases v with
  | agg m => exact absurd rfl (hc1 m)
  | tuple m => exact absurd rfl (hc2 m)
  | _ => simp [store, Sem.run, hcell, hfr]
theorem frozen_blk {g i : Nat} {cs : List Value} {tt : Nat} (hg : w.heap[g]? = some (.cells cs.toArray tt (0, 0))) : w.frozen? ⟨g, i, none⟩ = false := by simp [World.frozen?, hg]
/-- A store of one cell into a known block. -/
theorem SL.store (st : St S w0 I w M) (kk : Nat) {b g0 i : Nat} {cs : List Value} {u : Value} (ho : One P t1) (hx : ev L x = some (.pointer (some ⟨g0, i, none⟩))) (hy : ev L y = some v) (hM : M[kk]? = some ⟨g0, b, cs⟩) (hc : cs[i]? = some u)
    (k : ∀ w1, St S w0 I w1 (M.set kk ⟨g0, b, cs.set i v⟩) → Up I w I w1 → Kp [g0] w w1 → SL P n ops l N L w1) (hv : isOne v = true := by rfl) : SL P n ops (⟨none, .store t1 x y, t, p, af, none⟩ :: l) N L w := by
  have hb := st.ok _ (mem_of_get hM)
  have hone : v.cells = #[v] := by cases v <;> first | rfl | simp [isOne] at hv
  have hk := kp_setCell w ⟨g0, i, none⟩ v
  refine SL.skip (w1 := w.setCell ⟨g0, i, none⟩ v) (fun a ha => ?_) (k _ (st.set hM v) (Up.set st hM hk) hk)
  have hs : (Go.store ⟨g0, i, none⟩ v).run P w = .ok () (w.setCell ⟨g0, i, none⟩ v) :=
    one_of_cells hone (fun m e => by subst e; simp [isOne] at hv) (fun m e => by subst e; simp [isOne] at hv) (by rw [hb.cell]; exact hc) (frozen_blk hb) rfl
  simp only [execOp, ev_eval ha hx, ev_eval ha hy, Instr.storeAt, Instr.sureAddr, Sem.run_bind, Sem.run_pure, Result.andThen_ok, storeVar, (ho w).2, hone]
  simp [storeCells, hs, Addr.add]
end
end Go.Proofs.Ytodaagikppaidaa.Eng
