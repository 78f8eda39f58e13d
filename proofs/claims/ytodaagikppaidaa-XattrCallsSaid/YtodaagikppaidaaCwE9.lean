/- Rules for stepping through code: part 9. -/
import Derived.Test.YtodaagikppaidaaCwE8
import Derived.Lib.Overlaps
import Derived.Lib.AppendZeros
/-! Rows that come from calls; rows as known blocks and back; append of a make, clear, cuts of three bounds. -/
namespace Go.Proofs.Ytodaagikppaidaa.Eng
open Go
def ExtF (I : Nat → Prop) (w w' : World) (F : Nat → Prop) : Nat → Prop := fun g => I g ∨ (w.heap.size ≤ g ∧ g < w'.heap.size ∧ ¬ F g)
section
variable {S T : List Nat} {w0 w w' : World} {I I' : Nat → Prop} {M M' : List Bk} {e size n : Nat} {v : Value} {xs : List Value} {F : Nat → Prop}
/-- The blocks T may be turned, and no one else knows them. -/
def Free (S : List Nat) (w0 : World) (I : Nat → Prop) (M : List Bk) (T : List Nat) : Prop := ∀ g, g ∈ T → ¬ I g ∧ (∀ b, b ∈ M → b.g ≠ g) ∧ (g ∈ S ∨ w0.heap.size ≤ g)
theorem Free.nil : Free S w0 I M [] := fun _ h => by cases h
theorem Own.free (h : Own S w0 I M w e size v n xs) : Free S w0 I M v.ownBlock.toList := fun g hg => h.out g (by simpa using hg)
/-- A call that turned T; of its new blocks those of F are left open. -/
theorem St.callT (h : St S w0 I w M) (k : Kp T w w') (hT : Free S w0 I M T) (F : Nat → Prop) : St S w0 (ExtF I w w' F) w' M where
  kp := h.kp.then_ k (fun g hg => (hT g hg).2.2)
  ok := fun b hb => (k.2.2.2.2 b.g (h.ok b hb).lt (fun hm => (hT _ hm).2.1 b hb rfl)).trans (h.ok b hb)
  nd := h.nd
  out := fun b hb => ⟨fun hh => hh.elim (h.out b hb).1 (fun hh => by have := (h.ok b hb).lt; omega), (h.out b hb).2⟩
  lt := fun g hg => hg.elim (fun h1 => Nat.lt_of_lt_of_le (h.lt g h1) k.2.2.2.1) (·.2.1)
theorem Up.callT (h : St S w0 I w M) (k : Kp T w w') (hT : Free S w0 I M T) (F : Nat → Prop) : Up I w (ExtF I w w' F) w' := fun g hg =>
  ⟨.inl hg, k.2.2.2.2 g (h.lt g hg) (fun hm => (hT _ hm).1 hg)⟩
/-- The row that it answers. -/
theorem Own.ofCall (h : St S w0 I w M) (hT : Free S w0 I M T) {b : Nat} (hr : w'.ownsRow b e size v n xs) (hv : ∀ g, v.ownBlock = some g → w.heap.size ≤ g ∨ g ∈ T) (hF : ∀ g, v.ownBlock = some g → F g) : Own S w0 (ExtF I w w' F) M w' e size v n xs := by
  refine ⟨own_base hr (fun _ _ => Nat.zero_le _), fun g hg => ?_⟩
  rcases hv g hg with h1 | h1
  · exact ⟨fun hi => hi.elim (fun hi => by have := h.lt g hi; omega) (fun hi => hi.2.2 (hF g hg)), fun b hb e => by have := (h.ok b hb).lt; omega, .inr (Nat.le_trans h.kp.2.2.2.1 h1)⟩
  · exact ⟨fun hi => hi.elim (hT g h1).1 (fun hi => hi.2.2 (hF g hg)), (hT g h1).2⟩
/-- A new variable is made and set. -/
theorem Own.var {w1 w2 : World} {g1 t : Nat} {cs : List Value} (h : Own S w0 I M w e size v n xs) (hk1 : Kp [] w w1) (hg : w.heap.size ≤ g1) (hk2 : Kp [g1] w1 w2) : Own S w0 I (⟨g1, t, cs⟩ :: M) w2 e size v n xs := by
  have h1 := h.still hk1
  refine ⟨own_keep h1.row (fun g hg' => hk2.2.2.2.2 g (own_lt h1.row hg').2 (fun hm => ?_)), fun g hg' => ⟨(h.out g hg').1, fun b hb => ?_, (h.out g hg').2.2⟩⟩
  · have := (own_lt h.row hg').2; simp only [List.mem_singleton] at hm; omega
  · have := (own_lt h.row hg').2
    rcases List.mem_cons.1 hb with rfl | hb
    · simp only; omega
    · exact (h.out g hg').2.1 b hb
theorem Own.toM (st : St S w0 I w M) (h : Own S w0 I M w e size v n xs) (hn : 0 < n) :
    ∃ g cap cur, v = .slice (some ⟨g, 0, none⟩) n cap ∧ n ≤ cap ∧ cap ≤ maxLen ∧ cur.length = cap * size ∧ cur.take (n * size) = xs ∧ (g ∈ S ∨ w0.heap.size ≤ g) ∧ St S w0 I w (⟨g, e, cur⟩ :: M) := by
  rcases h.row.2 with ⟨_, h0⟩ | ⟨g, cap, cur, rfl, _, hh, hnc, hcm, hs, hx⟩
  · omega
  · obtain ⟨o1, o2, o3⟩ := h.out g rfl
    refine ⟨g, cap, cur.toList, rfl, hnc, hcm, by simpa using hs, hx, o3, st.kp, fun b hb => ?_, List.pairwise_cons.2 ⟨fun b hb => (o2 b hb).symm, st.nd⟩, fun b hb => ?_, st.lt⟩
    · rcases List.mem_cons.1 hb with rfl | hb
      · unfold BkOk; simpa using hh
      · exact st.ok b hb
    · rcases List.mem_cons.1 hb with rfl | hb
      · exact ⟨o1, o3⟩
      · exact st.out b hb
theorem Own.ofM {g cap : Nat} {cur : List Value} (st : St S w0 I w (⟨g, e, cur⟩ :: M)) (hn : n ≤ cap) (hc : cap ≤ maxLen) (hl : cur.length = cap * size) (hx : cur.take (n * size) = xs) : Own S w0 I M w e size (.slice (some ⟨g, 0, none⟩) n cap) n xs := by
  subst hx
  have hle : n * size ≤ cap * size := Nat.mul_le_mul_right _ hn
  have h1 := st.out ⟨g, e, cur⟩ (by simp)
  refine ⟨⟨by simp; omega, .inr ⟨g, cap, cur.toArray, rfl, Nat.zero_le _, st.ok ⟨g, e, cur⟩ (by simp), hn, hc, by simpa using hl, by simp⟩⟩, fun g' hg => ?_⟩
  injection hg with hg; subst hg
  exact ⟨h1.1, fun b hb e => (List.pairwise_cons.1 st.nd).1 b hb e.symm, h1.2⟩
/-- A row's head. -/
theorem own_head {b m cap : Nat} {A : Option Addr} (h : w.ownsRow b e size (.slice A n cap) n xs) (hm : m ≤ n) : w.ownsRow b e size (.slice A m cap) m (xs.take (m * size)) := by
  have hle : m * size ≤ n * size := Nat.mul_le_mul_right _ hm
  rcases h.2 with ⟨hv, h0⟩ | ⟨g, cap', cur, hv, hb, hh, hnc, hcm, hs, hx⟩
  · injection hv with h1 h2 h3
    subst h1; subst h3; subst h0
    have : m = 0 := by omega
    subst this
    refine ⟨by simp, .inl ⟨rfl, rfl⟩⟩
  · injection hv with h1 h2 h3
    subst h1; subst h3
    refine ⟨by rw [List.length_take, h.1, Nat.min_eq_left hle], .inr ⟨g, cap, cur, rfl, hb, hh, by omega, hcm, hs, ?_⟩⟩
    rw [← hx, List.take_take, Nat.min_eq_left hle]
theorem own_form {b : Nat} (h : w.ownsRow b e size v n xs) : ∃ A cap, v = .slice A n cap ∧ n ≤ cap ∧ cap ≤ maxLen ∧ (0 < n → ∃ g, A = some ⟨g, 0, none⟩) := by
  rcases h.2 with ⟨rfl, h0⟩ | ⟨g, cap, cur, rfl, _, _, hnc, hcm, _⟩
  · subst h0; exact ⟨none, 0, rfl, Nat.le_refl _, Nat.zero_le _, fun h => absurd h (by omega)⟩
  · exact ⟨_, cap, rfl, hnc, hcm, fun _ => ⟨g, rfl⟩⟩
theorem zeroCells_list (z : Array Value) (n : Nat) : (Builtin.zeroCells z n).toList = zeros z.toList n := by
  rw [← made_zeros]
  apply List.ext_getElem?
  intro j
  by_cases h : j < n * z.size
  · have hz : 0 < z.size := by
      rcases Nat.eq_zero_or_pos z.size with h0 | h0
      · rw [h0] at h; omega
      · exact h0
    have hm : j % z.size < z.size := Nat.mod_lt _ hz
    simp [madeCells, Builtin.zeroCells, h, hm]
  · simp [madeCells, Builtin.zeroCells, h]
end
section
variable {P : Program} {n : Nat} {ops : Array Oper} {N R : Env → World → Prop} {X : Kt} {L : Env} {w : World} {S : List Nat} {w0 : World} {I : Nat → Prop} {M : List Bk} {l : List Oper}
  {d : Nat} {dd : Option Tmp} {t t1 t2 : TypeId} {p : String} {af : Array Edge} {g : Option (Nat × Bool)} {x y : Operand} {v : Value} {i j : Int} {k : IntKind}
theorem ev_cap {e m : Nat} {A : Option Addr} {len cap : Nat} (he : ElS P t1 e m) (hx : ev L x = some (.slice A len cap)) : EvO P n L w ⟨dd, .call ⟨.builtin .cap, #[x], #[t1]⟩, t, p, af, g⟩ (.int .i64 cap) :=
  ev_builtin (xs := [x]) (vs := [.slice A len cap]) (by simp [evs, hx]) (fun cs w' _ => by simp [builtin, Builtin.cap_, run_underlying he.1, goInt])
theorem ev_cut3 {e m len cap : Nat} {A : Option Addr} {lo : Option Operand} {hi mx : Operand} {a b c : Nat} (he : ElS P t1 e m) (hx : ev L x = some (.slice A len cap))
    (hl : match lo with | none => a = 0 | some y => ∃ k i, ev L y = some (.int k i) ∧ 0 ≤ i ∧ i.toNat = a)
    (hh : ∃ k j, ev L hi = some (.int k j) ∧ 0 ≤ j ∧ j.toNat = b) (hm : ∃ k j, ev L mx = some (.int k j) ∧ 0 ≤ j ∧ j.toNat = c)
    (h1 : a ≤ b) (h2 : b ≤ c) (h3 : c ≤ cap) : EvO P n L w ⟨dd, .slice t1 x lo (some hi) (some mx), t, p, af, g⟩ (.slice (cutA A a c m) (b - a) (c - a)) := fun ac ha w' _ => by
  obtain ⟨k1, j1, h4, h5, h6⟩ := hh
  obtain ⟨k2, j2, h7, h8, h9⟩ := hm
  have hmx : (Instr.sliceBound (ac.eval mx) cap .slice3Acap).run P w' = .ok c w' := by rw [ev_eval ha h7, run_sliceBound _ _ _ _ _ h8 (by omega), h9]
  have hhi : (Instr.sliceBound (ac.eval hi) c .slice3B).run P w' = .ok b w' := by rw [ev_eval ha h4, run_sliceBound _ _ _ _ _ h5 (by omega), h6]
  have hb : (Instr.sliceBounds true len cap (lo.map ac.eval) (some (ac.eval hi)) (some (ac.eval mx))).run P w' = .ok (a, b, c) w' := by
    cases lo with
    | none => simp only at hl; subst hl; simp [Instr.sliceBounds, hmx, hhi]
    | some y =>
      obtain ⟨k, i, h3, h4, h5⟩ := hl
      have : (Instr.sliceBound (ac.eval y) b .slice3C).run P w' = .ok a w' := by rw [ev_eval ha h3, run_sliceBound _ _ _ _ _ h4 (by omega), h5]
      simp [Instr.sliceBounds, hmx, hhi, this]
  simp only [execOp, ev_eval ha hx, Instr.sliceAt, Sem.run_bind, run_underlying he.1, Result.andThen_ok, Instr.slice, Option.map_some, hb, he.2 w', Sem.run_pure, cutA]
theorem yielded_undef {a : Act} (ha : Fits n L a) {gi tt : Nat} {og : Oper} (ho : ops[gi]? = some og) (hd : og.dst = some tt) (hv : look L tt = some undef) : yielded ops a.tmps gi = none := by
  have := ha.2.2 tt _ hv
  simp [yielded, ho, hd, this, undef]
theorem SL.offU {o : Oper} {gi tt : Nat} {og : Oper} {b : Bool} (hv : look L tt = some undef) (k : SL P n ops l N ((d, undef) :: L) w) (hg : o.guard = some (gi, b) := by rfl) (ho : ops[gi]? = some og := by rfl) (hd : og.dst = some tt := by rfl)
    (hdd : o.dst = some d := by rfl) (hn : Nat.blt d n = true := by rfl) : SL P n ops (o :: l) N L w := by
  intro a ha Q hN
  have hw : ¬ Region.wanted o (yielded ops a.tmps) = true := by simp [Region.wanted, hg, yielded_undef ha ho hd hv]
  unfold wpList
  rw [if_neg hw, hdd]
  exact k _ (ha.put (lt_of_blt hn) undef) Q hN
theorem QL.offU {NQ : Env → Prop} {o : Oper} {gi tt : Nat} {og : Oper} {b : Bool} (hv : look L tt = some undef) (k : QL P n ops l NQ ((d, undef) :: L) w) (hg : o.guard = some (gi, b) := by rfl) (ho : ops[gi]? = some og := by rfl) (hd : og.dst = some tt := by rfl)
    (hdd : o.dst = some d := by rfl) (hn : Nat.blt d n = true := by rfl) : QL P n ops (o :: l) NQ L w := by
  intro a ha Q hN
  have hw : ¬ Region.wanted o (yielded ops a.tmps) = true := by simp [Region.wanted, hg, yielded_undef ha ho hd hv]
  unfold wpQuiet
  rw [if_neg hw, hdd]
  exact k _ (ha.put (lt_of_blt hn) undef) Q hN
theorem QL.cut {NQ : Env → Prop} {l1 l2 : List Oper} (h1 : QL P n ops l1 (fun L' => QL P n ops l2 NQ L' w) L w) : QL P n ops (l1 ++ l2) NQ L w := by
  intro a ha Q hN
  have key : ∀ (l1 : List Oper) (a : Act), wpQuiet P ops (Kp [] w) (fun a => wpQuiet P ops (Kp [] w) Q l2 a) l1 a → wpQuiet P ops (Kp [] w) Q (l1 ++ l2) a := by
    intro l1
    induction l1 with
    | nil => intro a h; exact h
    | cons o l1 ih =>
      intro a h
      simp only [List.cons_append]
      unfold wpQuiet at h ⊢
      split
      · rename_i hw; rw [if_pos hw] at h; exact Oper.quiet_mono (fun a h => ih a h) h
      · rename_i hw; rw [if_neg hw] at h; exact ih _ h
  refine key l1 a (h1 a ha _ ?_)
  intro L' a' h2 hf
  exact h2 a' hf Q hN
theorem QL.cutPut {NQ : Env → Prop} (k d : Nat) (v : Value) (h1 : QL P n ops (l.take k) (fun L' => Sub L' ((d, v) :: L)) L w) (h2 : QL P n ops (l.drop k) NQ ((d, v) :: L) w) : QL P n ops l NQ L w := by
  have := QL.cut (l1 := l.take k) (l2 := l.drop k) (NQ := NQ) (P := P) (n := n) (ops := ops) (L := L) (w := w) (fun a ha Q hN => h1 a ha Q (fun L' a' h hf => hN L' a' (fun a2 ha2 => h2 a2 (ha2.sub h)) hf))
  rwa [List.take_append_drop] at this
def ExtW (P : Program) (f : FuncId) (vs : List Value) (w : World) (v : Value) : Prop := ∀ w', Kp [] w w' → (callFunc f vs.toArray).run P w' = .ok (.value v) w'
theorem ev_xw {f : FuncId} {xs : List Operand} {vs : List Value} {ats : Array TypeId} (hx : evs L xs = some vs) (h : ExtW P f vs w v) : EvO P n L w ⟨dd, .call ⟨.value (.func f), xs.toArray, ats⟩, t, p, af, g⟩ v := fun a ha w' hk => by
  have h1 : (List.map a.eval xs).toArray = vs.toArray := by rw [evs_eval ha xs vs hx]
  simp only [execOp, resolve, Act.eval, Deferred.ofValue, Sem.run_bind, Sem.run_pure, Result.andThen_ok, invoke, List.map_toArray, h1]
  simp
  exact h w' hk
theorem ev_pickT {z : Operand} {b : Bool} (hx : ev L x = some (.bool b)) (hy : ev L y = some v) (hb : b = true) : EvO P n L w ⟨dd, .pick x y z, t, p, af, g⟩ v := fun _ ha _ _ => by
  subst hb; simp only [execOp, ev_eval ha hx, ev_eval ha hy, asBool]; rfl
theorem ev_pickF {z : Operand} {b : Bool} (hx : ev L x = some (.bool b)) (hz : ev L z = some v) (hb : b = false) : EvO P n L w ⟨dd, .pick x y z, t, p, af, g⟩ v := fun _ ha _ _ => by
  subst hb; simp only [execOp, ev_eval ha hx, ev_eval ha hz, asBool]; rfl
theorem bsome {b c : Bool} (h : b = c) : some (Value.bool b) = some (Value.bool c) := by rw [h]
theorem ev_shr {k' : IntKind} (hx : ev L x = some (.int k i)) (hy : ev L y = some (.int k' j)) (h0 : 0 ≤ j ∧ j.toNat ≤ k.bits) : EvO P n L w ⟨dd, .binOp .shr t1 x y t2, t, p, af, g⟩ (.int k (i / 2 ^ j.toNat)) :=
  ev_bin hx hy rfl (fun w => by
    have h : ¬ j < 0 := by omega
    have : i.fdiv (2 ^ j.toNat) = i / 2 ^ j.toNat := Int.fdiv_eq_ediv_of_nonneg _ (Int.le_of_lt (Int.pow_pos (by decide)))
    simp [binOp, Op.shift, h, this, Nat.min_eq_left h0.2])
/-- append(own, make([]T, m)...) that finds no room. -/
theorem SL.appendZ (st : St S w0 I w M) {e size bytes kn : Nat} {z : Value} (he : ElS P t1 e size) (ht2 : P.underlying t2 = some (.int .i64)) (hi : InfoOk P e z size bytes) {A : Option Addr} {nn cap m : Nat} {xs : List Value} (hv : ev L x = some (.slice A nn cap)) (hown : w.ownsRow 0 e size (.slice A nn cap) nn xs)
    (hy : ev L y = some (.int .i64 (m : Int))) (hm0 : 0 < m) (hroom : cap < nn + m) (hbd : (nn + m) * bytes ≤ 140737488355328) (hsz : 0 < size) (hbb : 0 < bytes)
    (k : ∀ w' g1 cap', St S w0 I w' (⟨g1, e, xs ++ zeros z.cells.toList (cap' - nn)⟩ :: M) → Up I w I w' → Kp [] w w' → nn + m ≤ cap' → cap' ≤ maxLen → w.heap.size ≤ g1 → SL P n ops l N ((d, .slice (some ⟨g1, 0, none⟩) (nn + m) cap') :: L) w') (hn : Nat.blt d n = true := by rfl) (_hkn : kn = 0 := by rfl) :
    SL P n ops (⟨some d, .call ⟨.builtin .append, #[x, y], #[t1, t2]⟩, t, p, af, none⟩ :: l) N L w := by
  obtain ⟨inf, hi1, hz, hs, hby, hzs⟩ := hi
  subst hs hby
  have h63 : nn + m ≤ maxLen := by
    have : (nn + m) * 1 ≤ (nn + m) * inf.bytes := Nat.mul_le_mul_left _ hbb
    unfold maxLen; omega
  have hge := grownCap_ge w (nn + m) cap e
  have hle := grownCap_le_maxLen w (nn + m) cap e h63
  have hzl := zeroCells_list z.cells
  have hzeros : ∀ a b, zeros z.cells.toList a ++ zeros z.cells.toList b = zeros z.cells.toList (a + b) := by
    intro a b
    induction a with
    | zero => simp [zeros]
    | succ a ih => rw [Nat.succ_add]; simp [zeros, ih]
  have hcells : (xs.toArray ++ Builtin.zeroCells z.cells m ++ Builtin.zeroCells z.cells (grownCap w (nn + m) cap e - (nn + m))) = (xs ++ zeros z.cells.toList (grownCap w (nn + m) cap e - nn)).toArray := by
    apply Array.ext'
    simp only [Array.toList_append, hzl, List.append_assoc, hzeros]
    congr 2; omega
  have hfirst : (Builtin.firstCells inf.size nn (.slice A nn cap)).run P w.drew = .ok xs.toArray w.drew := by
    rcases hown.2 with ⟨hv0, h0⟩ | ⟨g, cap', cur, hv0, _, hh, _⟩
    · injection hv0 with h1 h2 h3; subst h1; subst h0
      have : xs = [] := List.eq_nil_of_length_eq_zero (by simpa using hown.1)
      subst this; simp [Builtin.firstCells]
    · injection hv0 with h1 h2 h3; subst h1
      have hc : CellsAt w.drew ⟨g, 0, none⟩ xs := fun j u hu => hown.cells (g := g) rfl j u hu
      have := run_loadCells (P := P) hc
      rw [hown.1] at this
      simpa [Builtin.firstCells] using this
  have hka : Kp [] w (w.drew.alloc (.cells (xs ++ zeros z.cells.toList (grownCap w (nn + m) cap e - nn)).toArray e)) := (Kp.refl [] w).drew.then_ (kp_alloc w.drew _) (fun _ h => by cases h)
  refine SL.eff (w1 := w.drew.alloc (.cells (xs ++ zeros z.cells.toList (grownCap w (nn + m) cap e - nn)).toArray e)) (v := .slice (some ⟨w.heap.size, 0, none⟩) (nn + m) (grownCap w (nn + m) cap e)) (fun a ha => ?_)
    (k _ w.heap.size _ (st.drew.alloc e _) (Up.keep hka st.lt) hka hge hle (Nat.le_refl _)) rfl hn
  obtain ⟨cs, hcs⟩ := run_builtin (P := P) (b := .append) (ats := #[t1, t2]) (dd := some d) (t := t) (p := p) (af := af) (g := none) (xs := [x, y]) (vs := [.slice A nn cap, .int .i64 (m : Int)]) ha (by simp [evs, hv, hy])
  rw [hcs]
  have hw : IntKind.i64.wrap (m : Int) = m := by rw [IntKind.wrap_i64]; unfold maxLen at h63; omega
  have hneg : ¬ ((m : Int) < 0) := by omega
  have h48i : ¬ (281474976710656 < (m : Int) * (inf.bytes : Int)) := by
    have h1 : m * inf.bytes ≤ (nn + m) * inf.bytes := Nat.mul_le_mul_right _ (by omega)
    rw [← Int.natCast_mul]; omega
  have hns : ¬ (m * inf.size = 0) := Nat.mul_ne_zero (by omega) (by omega)
  have h63' : ¬ (9223372036854775807 < ((nn : Int) + (m : Int))) := by unfold maxLen at h63; omega
  have h48' : ¬ (281474976710656 < Builtin.nextslicecap (nn + m) cap * inf.bytes) := by have := growslice_fits (need := nn + m) (old := cap) (bytes := inf.bytes) (by omega) hbd; omega
  have hnr : ¬ (nn + m ≤ cap) := by omega
  have hm0' : ¬ m = 0 := by omega
  simp [builtin, Builtin.append_, run_underlying he.1, run_underlying ht2, sizeOf, typeInfo, zeroValue, hi1, hz, asInt, asIntOf, hw, hneg, hns, h63', h48', h48i, hnr, hm0', Question.forced, newRow, newObj, choose, Sem.run]
  have hcut : (Question.appendCap (nn + m) cap e).cut (w.tape w.drawn (Question.appendCap (nn + m) cap e)) = grownCap w (nn + m) cap e := rfl
  rw [hfirst]
  simp only [Result.andThen_ok, hcut]
  rw [← hcells]
  simp [Array.append_assoc]
/-- clear(s) in a known block. -/
theorem SL.clear (st : St S w0 I w M) (kk : Nat) {b g0 o e m bytes len cap : Nat} {z : Value} {cs : List Value} (he : ElS P t1 e m) (hi : InfoOk P e z m bytes) (hx : ev L x = some (.slice (some ⟨g0, o, none⟩) len cap)) (hM : M[kk]? = some ⟨g0, b, cs⟩) (h1 : ∀ u ∈ z.cells.toList, isOne u = true) (hb : o + len * m ≤ cs.length)
    (k : ∀ w1, St S w0 I w1 (M.set kk ⟨g0, b, cs.take o ++ zeros z.cells.toList len ++ cs.drop (o + len * m)⟩) → Up I w I w1 → Kp [g0] w w1 → SL P n ops l N L w1) :
    SL P n ops (⟨none, .call ⟨.builtin .clear, #[x], #[t1]⟩, t, p, af, none⟩ :: l) N L w := by
  obtain ⟨inf, hi1, hz, hs, hby, hzs⟩ := hi
  have hbk := st.ok _ (mem_of_get hM)
  have hzl : (zeros z.cells.toList len).length = len * m := by rw [zeros_length, Array.length_toList, hzs]
  have hall : ∀ (q : Nat), ∀ u ∈ zeros z.cells.toList q, isOne u = true := by
    intro q
    induction q with
    | zero => intro u hu; cases hu
    | succ q ih => intro u hu; unfold zeros at hu; exact (List.mem_append.1 hu).elim (h1 u) (ih u)
  obtain ⟨w', hrs, hk, hh⟩ := run_storeCells (P := P) (zeros z.cells.toList len) w o 0 cs hbk (by rw [hzl]; simpa using hb) (hall len)
  simp only [Nat.add_zero, hzl] at hh
  intro a ha Q hN
  refine wpList_plain rfl fun K hK => ?_
  unfold Oper.wp
  obtain ⟨ccs, hcs⟩ := run_builtin (P := P) (b := .clear) (ats := #[t1]) (dd := none) (t := t) (p := p) (af := af) (g := none) (xs := [x]) (vs := [.slice (some ⟨g0, o, none⟩) len cap]) ha (by simp [evs, hx])
  rw [hcs]
  have hr : (builtin .clear #[t1] t ccs [Value.slice (some ⟨g0, o, none⟩) len cap].toArray).run P w = .ok (.value (.tuple #[])) w' := by
    cases len with
    | zero =>
      simp only [zeros, storeCells, Sem.run_pure, Result.ok.injEq, true_and] at hrs
      subst hrs
      simp [builtin, Builtin.clear_, run_underlying he.1]
    | succ q =>
      simp [builtin, Builtin.clear_, run_underlying he.1, zeroValue, typeInfo, hi1, hz, zeroCells_list, hrs]
  rw [hr, Oper.upon_value]
  exact hK _ _ (k w' (st.turn hM rfl hk hh) (Up.set st hM hk) hk _ (ha.putU none (fun _ h => by cases h) _) Q hN)
end
end Go.Proofs.Ytodaagikppaidaa.Eng
