/- Rules for stepping through code: part 6. -/
import Derived.Test.YtodaagikppaidaaCwE5
import Derived.Maps.AppendAt
import Derived.OwnWalk
import Derived.Laws.MakeOwn
/-! Slices that are read; slices of the call's own. -/
namespace Go.Proofs.Ytodaagikppaidaa.Eng
open Go

/-- A slice's cells, in blocks that stay. -/
def Rd (I : Nat → Prop) (w : World) (A : Option Addr) (vs : List Value) : Prop := vs ≠ [] → ∃ a, A = some a ∧ I a.block ∧ CellsAt w a vs
/-- A slice that reads as these cells, 'size' for each element. -/
def Sl (I : Nat → Prop) (w : World) (size : Nat) (v : Value) (vs : List Value) : Prop := ∃ A n c, v = .slice A n c ∧ n ≤ c ∧ vs.length = n * size ∧ Rd I w A vs

theorem block_of_add (a : Addr) (n : Nat) : (a.add n).block = a.block := by unfold Addr.add; split <;> rfl
theorem cell_up {w w' : World} {a : Addr} {v : Value} (h : w'.heap[a.block]? = w.heap[a.block]?) (hc : w.cell? a = some v) : w'.cell? a = some v := by
  rw [World.cell?_of_block h]; exact hc
theorem Rd.up {I I' : Nat → Prop} {w w' : World} {A : Option Addr} {vs : List Value} (h : Rd I w A vs) (hu : Up I w I' w') : Rd I' w' A vs := fun hn => by
  obtain ⟨a, he, hi, hc⟩ := h hn
  obtain ⟨h1, h2⟩ := hu a.block hi
  exact ⟨a, he, h1, fun j v hv => cell_up (by rw [block_of_add]; exact h2) (hc j v hv)⟩
theorem Sl.up {I I' : Nat → Prop} {w w' : World} {size : Nat} {v : Value} {vs : List Value} (h : Sl I w size v vs) (hu : Up I w I' w') : Sl I' w' size v vs := by
  obtain ⟨A, n, c, h1, h2, h3, h4⟩ := h
  exact ⟨A, n, c, h1, h2, h3, h4.up hu⟩
theorem Rd.nil (I : Nat → Prop) (w : World) (A : Option Addr) : Rd I w A [] := fun h => absurd rfl h
theorem Sl.nil (I : Nat → Prop) (w : World) (size : Nat) : Sl I w size (.slice none 0 0) [] := ⟨none, 0, 0, rfl, Nat.le_refl _, by simp, Rd.nil _ _ _⟩
theorem Rd.cells {I : Nat → Prop} {w : World} {A : Option Addr} {vs : List Value} (h : Rd I w A vs) (hn : 0 < vs.length) : ∃ a, A = some a ∧ I a.block ∧ CellsAt w a vs := h (by intro e; subst e; simp at hn)
/-- The cells of element i. -/
theorem CellsAt.el {w : World} {a : Addr} {vs : List Value} (h : CellsAt w a vs) (i m : Nat) : CellsAt w (a.add (i * m)) ((vs.drop (i * m)).take m) := (h.drop _).take m
theorem CellsAt.el1 {w : World} {a : Addr} {vs : List Value} (h : CellsAt w a vs) {i : Nat} {v : Value} (hv : vs[i]? = some v) : w.cell? (a.add (i * 1)) = some v := by rw [Nat.mul_one]; exact h i v hv
/-- A piece. -/
theorem Rd.cut {I : Nat → Prop} {w : World} {A : Option Addr} {vs : List Value} (h : Rd I w A vs) {l m s : Nat} (hl : l < m ∨ vs.drop (l * s) = []) (b : Nat) : Rd I w (cutA A l m s) ((vs.drop (l * s)).take b) := fun hn => by
  have hd : vs.drop (l * s) ≠ [] := fun e => hn (by rw [e]; simp)
  have hlt : l < m := hl.resolve_right hd
  obtain ⟨a, rfl, hi, hc⟩ := h (fun e => hd (by rw [e]; simp))
  refine ⟨a.add (l * s), ?_, by rw [block_of_add]; exact hi, (hc.drop _).take b⟩
  unfold cutA; rw [if_neg (by omega)]; rfl

/-- A row of the call's own: apart from what stays and from what is known. -/
structure Own (S : List Nat) (w0 : World) (I : Nat → Prop) (M : List Bk) (w : World) (e size : Nat) (v : Value) (n : Nat) (xs : List Value) : Prop where
  row : w.ownsRow 0 e size v n xs
  out : ∀ g, v.ownBlock = some g → ¬ I g ∧ (∀ b, b ∈ M → b.g ≠ g) ∧ (g ∈ S ∨ w0.heap.size ≤ g)
def InfoOk (P : Program) (e : Nat) (z : Value) (size bytes : Nat) : Prop := ∃ i, P.info? e = some i ∧ i.zero = some z ∧ i.size = size ∧ i.bytes = bytes ∧ z.cells.size = size
theorem InfoOk.mk {P : Program} {e : Nat} {z : Value} {size bytes : Nat} (h : (P.info? e).map (fun i => (i.zero, i.size, i.bytes)) = some (some z, size, bytes)) (hz : z.cells.size = size) : InfoOk P e z size bytes := by
  obtain ⟨i, h1, h2, h3, h4⟩ := info_parts h
  exact ⟨i, h1, h2, h3, h4, hz⟩
theorem own_lt {w : World} {base e size : Nat} {v : Value} {n : Nat} {xs : List Value} (h : w.ownsRow base e size v n xs) {g : Nat} (hg : v.ownBlock = some g) : base ≤ g ∧ g < w.heap.size := by
  rcases h.2 with ⟨rfl, _⟩ | ⟨g', cap, cur, rfl, hb, hh, _⟩
  · cases hg
  · injection hg with hg; subst hg; exact ⟨hb, lt_of_some hh⟩
theorem own_keep {w w' : World} {base e size : Nat} {v : Value} {n : Nat} {xs : List Value} (h : w.ownsRow base e size v n xs) (hk : ∀ g, v.ownBlock = some g → w'.heap[g]? = w.heap[g]?) : w'.ownsRow base e size v n xs := by
  refine ⟨h.1, h.2.imp id ?_⟩
  rintro ⟨g', cap, cur, rfl, hb, hh, r⟩
  exact ⟨g', cap, cur, rfl, hb, (hk g' rfl).trans hh, r⟩
section
variable {S : List Nat} {w0 w w' : World} {I I' : Nat → Prop} {M M' : List Bk} {e size n : Nat} {v : Value} {xs : List Value}
theorem Own.nil : Own S w0 I M w e size (.slice none 0 0) 0 [] := ⟨World.ownsRow_nil _ _ _ _, fun _ h => by cases h⟩
/-- Over a step that keeps what was (new blocks: in M', or told to stay). -/
theorem Own.keepT (h : Own S w0 I M w e size v n xs) {T : List Nat} (hk : Kp T w w') (hT : ∀ g, v.ownBlock = some g → g ∉ T) (hM : ∀ b, b ∈ M' → (∃ c, c ∈ M ∧ c.g = b.g) ∨ w.heap.size ≤ b.g) (hI : ∀ g, I' g → I g ∨ w.heap.size ≤ g) : Own S w0 I' M' w' e size v n xs :=
  ⟨own_keep h.row (fun g hg => hk.2.2.2.2 g (own_lt h.row hg).2 (hT g hg)), fun g hg => by
    have hlt := (own_lt h.row hg).2
    refine ⟨fun hi => (hI g hi).elim (h.out g hg).1 (by omega), fun b hb => (hM b hb).elim (fun ⟨c, hc, e⟩ => by rw [← e]; exact (h.out g hg).2.1 c hc) (by omega), (h.out g hg).2.2⟩⟩
theorem Own.keep (h : Own S w0 I M w e size v n xs) (hk : Kp [] w w') (hM : ∀ b, b ∈ M' → b ∈ M ∨ w.heap.size ≤ b.g) (hI : ∀ g, I' g → I g ∨ w.heap.size ≤ g) : Own S w0 I' M' w' e size v n xs :=
  h.keepT hk (fun _ _ h => by cases h) (fun b hb => (hM b hb).imp (fun h => ⟨b, h, rfl⟩) id) hI
/-- Over a call. -/
theorem Own.call (h : Own S w0 I M w e size v n xs) (hk : Kp [] w w') : Own S w0 (Ext I w w') M w' e size v n xs := h.keep hk (fun _ hb => .inl hb) (fun _ hg => hg.imp id (·.1))
/-- Over what keeps all. -/
theorem Own.still (h : Own S w0 I M w e size v n xs) (hk : Kp [] w w') : Own S w0 I M w' e size v n xs := h.keep hk (fun _ hb => .inl hb) (fun _ hg => .inl hg)
/-- A new block is known. -/
theorem Own.more (h : Own S w0 I M w e size v n xs) (hk : Kp [] w w') {b : Bk} (hb : w.heap.size ≤ b.g) : Own S w0 I (b :: M) w' e size v n xs := h.keep hk (fun c hc => (List.mem_cons.1 hc).elim (fun e => .inr (by rw [e]; exact hb)) .inl) (fun _ hg => .inl hg)
/-- Over a store into a known block. -/
theorem Own.set (h : Own S w0 I M w e size v n xs) {g0 t : Nat} {cs : List Value} {k : Nat} (hk : Kp [g0] w w') (hM : M[k]? = some ⟨g0, t, cs⟩) (cs' : List Value) : Own S w0 I (M.set k ⟨g0, t, cs'⟩) w' e size v n xs := by
  have hm := mem_of_get hM
  refine h.keepT hk (fun g hg => ?_) (fun b hb => .inl ?_) (fun _ hg => .inl hg)
  · have := (h.out g hg).2.1 _ hm; simp only [List.mem_singleton]; intro e; exact this e.symm
  · rcases List.mem_or_eq_of_mem_set hb with hb | rfl
    · exact ⟨b, hb, rfl⟩
    · exact ⟨_, hm, rfl⟩
theorem Own.drop (h : Own S w0 I M w e size v n xs) (hs : M'.Sublist M) : Own S w0 I M' w e size v n xs := ⟨h.row, fun g hg => ⟨(h.out g hg).1, fun b hb => (h.out g hg).2.1 b (hs.subset hb), (h.out g hg).2.2⟩⟩
/-- At the end: it is read. -/
theorem own_read {b : Nat} (h : w.ownsRow b e size v n xs) (hI : ∀ g, v.ownBlock = some g → I' g) : Sl I' w size v xs := by
  rcases h.2 with ⟨rfl, rfl⟩ | ⟨g, cap, cur, rfl, hb, hh, hn, _, hs, hx⟩
  · have : xs = [] := List.eq_nil_of_length_eq_zero (by simpa using h.1)
    subst this; exact Sl.nil _ _ _
  · refine ⟨_, _, _, rfl, hn, h.1, fun _ => ⟨_, rfl, hI g rfl, fun j u hu => ?_⟩⟩
    rw [add_off, Nat.zero_add, cell_of_row w g j cur e (0, 0) hh]
    rw [← hx, List.getElem?_take] at hu
    split at hu
    · rw [← hu, Array.getElem?_toList]
    · cases hu
theorem Own.fin (h : Own S w0 I M w e size v n xs) (hI : ∀ g, v.ownBlock = some g → I' g) : Sl I' w size v xs := own_read h.row hI
theorem own_base {b b' : Nat} (h : w.ownsRow b e size v n xs) (hb : ∀ g, v.ownBlock = some g → b' ≤ g) : w.ownsRow b' e size v n xs := by
  refine ⟨h.1, h.2.imp id ?_⟩
  rintro ⟨g, cap, cur, rfl, _, r⟩
  exact ⟨g, cap, cur, rfl, hb g rfl, r⟩
end
theorem one_cell' {v : Value} (h : isOne v = true) : v.oneCell' = true := by cases v <;> first | rfl | simp [isOne] at h
section
variable {P : Program} {n : Nat} {ops : Array Oper} {N R : Env → World → Prop} {X : Kt} {L : Env} {w : World} {S : List Nat} {w0 : World} {I : Nat → Prop} {M : List Bk} {l : List Oper}
  {d : Nat} {t t1 t2 : TypeId} {p : String} {af : Array Edge} {x y : Operand} {v : Value} {i j : Int} {k : IntKind}
theorem run_append {e size bytes : Nat} {z : Value} (he : ElS P t1 e size) (hi : InfoOk P e z size bytes) (hsz : 0 < size) {nn : Nat} {xs : List Value} (hown : w.ownsRow 0 e size v nn xs) 
    {A : Option Addr} {m c : Nat} {news : List Value} (hl : news.length = m * size) (hr : news ≠ [] → ∃ a, A = some a ∧ CellsAt w a news) (h1 : ∀ u ∈ news, isOne u = true) (hbd : (nn + m) * bytes ≤ 140737488355328) (hbb : 0 < bytes) :
    ∃ v' w', (Builtin.append_ #[t1, t1] t #[v, .slice A m c]).run P w = .ok v' w' ∧ w'.ownsRow 0 e size v' (nn + m) (xs ++ news) ∧ w.grownBy w' v.ownBlock ∧ (v'.ownBlock = v.ownBlock ∨ v'.ownBlock = some w.heap.size) := by
  obtain ⟨inf, hi1, hz, hs, hby, hzs⟩ := hi
  have h63 : nn + m ≤ maxLen := by
    have : (nn + m) * 1 ≤ (nn + m) * bytes := Nat.mul_le_mul_left _ hbb
    unfold maxLen; omega
  rcases Nat.eq_zero_or_pos m with h0 | h0
  · subst h0
    have hn : news = [] := List.eq_nil_of_length_eq_zero (by simpa using hl)
    subst hn
    cases A with
    | none =>
      refine ⟨v, w, ?_, by simpa using hown, World.grownBy.refl w _, .inl rfl⟩
      rcases hown.2 with ⟨rfl, rfl⟩ | ⟨g, cap, cur, rfl, _, _, hnc, _⟩
      · simp [Builtin.append_, run_underlying he.1, sizeOf, typeInfo, hi1, Builtin.lenOf, Builtin.firstCells]
      · simp [Builtin.append_, run_underlying he.1, sizeOf, typeInfo, hi1, Builtin.lenOf, Builtin.firstCells, hnc, storeCells]
    | some a =>
      obtain ⟨v', w', a1, a2, a3, _, a5⟩ := run_append_own_at (P := P) w 0 t1 t e inf z size bytes he.1 hi1 hz hs hby hzs hsz v nn xs hown a 0 c [] (by simp) (by simp) (by simp) h63 hbd (Nat.zero_le _)
      exact ⟨v', w', a1, a2, a3, a5⟩
  · obtain ⟨a, rfl, hc⟩ := hr (by intro e; subst e; have := Nat.mul_pos h0 hsz; simp only [List.length_nil] at hl; omega)
    obtain ⟨v', w', a1, a2, a3, _, a5⟩ := run_append_own_at (P := P) w 0 t1 t e inf z size bytes he.1 hi1 hz hs hby hzs hsz v nn xs hown a m c news hl hc (fun u hu => one_cell' (h1 u hu)) h63 hbd (Nat.zero_le _)
    exact ⟨v', w', a1, a2, a3, a5⟩
theorem kp_grown {w w' : World} {row : Option Nat} (h : w.grownBy w' row) : Kp row.toList w w' := ⟨h.os, h.tape, h.output, h.size, fun g hg hn => h.block g hg (fun e => hn (by rw [← e]; simp))⟩
/-- append(own, src...). -/
theorem SL.append (st : St S w0 I w M) {e size bytes : Nat} {z : Value} (he : ElS P t1 e size) (hi : InfoOk P e z size bytes) (hv : ev L x = some v) {nn : Nat} {xs : List Value} (hown : Own S w0 I M w e size v nn xs)
    {A : Option Addr} {m c : Nat} {news : List Value} (hy : ev L y = some (.slice A m c)) (hl : news.length = m * size) (hr : news ≠ [] → ∃ a, A = some a ∧ CellsAt w a news) (h1 : ∀ u ∈ news, isOne u = true) (hbd : (nn + m) * bytes ≤ 140737488355328)
    (k : ∀ v' w', St S w0 I w' M → Up I w I w' → Kp v.ownBlock.toList w w' → (v'.ownBlock = v.ownBlock ∨ v'.ownBlock = some w.heap.size) → Own S w0 I M w' e size v' (nn + m) (xs ++ news) → SL P n ops l N ((d, v') :: L) w') (hsz : Nat.blt 0 size = true := by rfl) (hbb : Nat.blt 0 bytes = true := by rfl) (hn : Nat.blt d n = true := by rfl) :
    SL P n ops (⟨some d, .call ⟨.builtin .append, #[x, y], #[t1, t1]⟩, t, p, af, none⟩ :: l) N L w := by
  obtain ⟨v', w', a1, a2, a3, a4⟩ := run_append (P := P) (t := t) (c := c) he hi (lt_of_blt hsz) hown.row hl hr h1 hbd (lt_of_blt hbb)
  have hkp := kp_grown a3
  have hout : ∀ g, g ∈ v.ownBlock.toList → ¬ I g ∧ (∀ b, b ∈ M → b.g ≠ g) ∧ (g ∈ S ∨ w0.heap.size ≤ g) := fun g hg => by
    have hg' : v.ownBlock = some g := by simpa using hg
    exact hown.out g hg'
  have st' : St S w0 I w' M := by
    refine ⟨st.kp.then_ hkp (fun g hg => (hout g hg).2.2), fun b hb => ?_, st.nd, st.out, fun g hg => Nat.lt_of_lt_of_le (st.lt g hg) hkp.2.2.2.1⟩
    exact (hkp.2.2.2.2 b.g (st.ok b hb).lt (fun hm => (hout _ hm).2.1 b hb rfl)).trans (st.ok b hb)
  have hup : Up I w I w' := fun g hg => ⟨hg, hkp.2.2.2.2 g (st.lt g hg) (fun hm => (hout _ hm).1 hg)⟩
  have hown' : Own S w0 I M w' e size v' (nn + m) (xs ++ news) := by
    refine ⟨a2, fun g hg => ?_⟩
    rcases a4 with h4 | h4
    · rw [h4] at hg; exact hown.out g hg
    · rw [h4] at hg; injection hg with hg; subst hg
      exact ⟨fun hi => by have := st.lt _ hi; omega, fun b hb e => by have := (st.ok b hb).lt; omega, .inr st.kp.2.2.2.1⟩
  refine SL.eff (w1 := w') (fun a ha => ?_) (k v' w' st' hup hkp a4 hown') rfl hn
  obtain ⟨cs, hcs⟩ := run_builtin (P := P) (b := .append) (ats := #[t1, t1]) (dd := some d) (t := t) (p := p) (af := af) (g := none) (xs := [x, y]) (vs := [v, .slice A m c]) ha (by simp [evs, hv, hy])
  rw [hcs]
  simp [builtin, a1]
end
end Go.Proofs.Ytodaagikppaidaa.Eng
