/- Set of the reference answers as told. -/
import Derived.Test.YtodaagikppaidaaCwXref2
/-! Set of the reference. -/
namespace Go.Proofs.Ytodaagikppaidaa.Cw
open Go Go.Proofs.Ytodaagikppaidaa.Eng Go.Proofs.Ytodaagikppaidaa.Cl
theorem sle_eq (a b : List UInt8) : (Op.bytesLess a b || decide (a = b)) = !slt b a := by
  rcases slt_tri a b with h | h | h
  · have h2 : slt b a = false := by
      cases h2 : slt b a
      · rfl
      · have := slt_trans h h2; rw [slt_irrefl] at this; cases this
    rw [h2]; simp only [slt] at h; simp [h]
  · subst h; rw [slt_irrefl]; simp
  · have h2 : slt a b = false := by
      cases h2 : slt a b
      · rfl
      · have := slt_trans h h2; rw [slt_irrefl] at this; cases this
    have h3 : a ≠ b := by rintro rfl; rw [slt_irrefl] at h; cases h
    rw [h]; simp only [slt] at h2; simp [h2, h3]
theorem XAt.ex {xs : List Xa} (hs : XSorted xs) (name : List UInt8) : ∃ p, XAt xs name p := by
  obtain ⟨k, hk, hmin⟩ := least_ex (p := fun k => ∀ x, xs[k]? = some x → slt x.name name = false) ⟨xs.length, fun x h => by rw [List.getElem?_eq_none (Nat.le_refl _)] at h; cases h⟩
  refine ⟨k, hmin _ (fun x h => by rw [List.getElem?_eq_none (Nat.le_refl _)] at h; cases h), fun j x hx hj => ?_, fun j x hx hj => ?_⟩
  · cases h : slt x.name name
    · have := hmin j (fun y hy => by rw [hx] at hy; injection hy with hy; subst hy; exact h)
      omega
    · rfl
  · rcases Nat.lt_or_eq_of_le hj with hj | rfl
    · have hl := (List.getElem?_eq_some_iff.1 hx).1
      have hz := List.getElem?_eq_getElem (l := xs) (i := k) (by omega)
      cases h : slt x.name name
      · rfl
      · have := hk _ hz; rw [slt_trans (hs _ _ _ _ hz hx hj) h] at this; cases this
    · exact hk x hx
def outS (xs : List Xa) (p : Nat) (has : Bool) (new : Xa) (i : Nat) : List Xa := if p < i then xs.take p ++ [new] ++ (xs.take i).drop (if has then p + 1 else p) else xs.take i
theorem XAt.ne {xs : List Xa} {name : List UInt8} {p i : Nat} {x : Xa} (hs : XSorted xs) (hp : XAt xs name p) (hx : xs[i]? = some x) (h : i ≠ p) : x.name ≠ name := by
  intro e
  rcases Nat.lt_or_gt_of_ne h with h | h
  · have := hp.2.1 i x hx h; rw [e, slt_irrefl] at this; cases this
  · have hl := (List.getElem?_eq_some_iff.1 hx).1
    have hz := List.getElem?_eq_getElem (l := xs) (i := p) (by omega)
    have h2 := hs _ _ _ _ hz hx h
    rw [e, hp.2.2 p _ hz (Nat.le_refl _)] at h2; cases h2
theorem outS_succ {xs : List Xa} {name : List UInt8} {p i : Nat} {x new : Xa} (hs : XSorted xs) (hp : XAt xs name p) (hx : xs[i]? = some x) :
    outS xs p (xhas xs name p) new (i + 1) = (outS xs p (xhas xs name p) new i ++ (if (!decide (p < i) && !slt x.name name) = true then [new] else [])) ++ (if x.name ≠ name then [x] else []) := by
  have hl := (List.getElem?_eq_some_iff.1 hx).1
  unfold outS
  rcases Nat.lt_trichotomy i p with h | h | h
  · have h1 := hp.2.1 i x hx h
    have h2 := XAt.ne hs hp hx (by omega)
    rw [if_neg (show ¬ p < i + 1 by omega), if_neg (show ¬ p < i by omega), h1, if_pos h2, take_snoc hx]; simp
  · subst h
    have h1 := hp.2.2 i x hx (Nat.le_refl _)
    rw [if_pos (show i < i + 1 by omega), if_neg (show ¬ i < i by omega), h1, take_snoc hx]
    have hli : (xs.take i).length = i := by rw [List.length_take]; omega
    cases hh : xhas xs name i
    · have h2 : x.name ≠ name := by simpa [xhas, hx] using hh
      simp [h2, hli]
    · have h2 : x.name = name := by simpa [xhas, hx] using hh
      rw [if_pos rfl, List.drop_of_length_le (by simp [hli])]; simp [h2]
  · have h2 := XAt.ne hs hp hx (by omega)
    rw [if_pos (show p < i + 1 by omega), if_pos h, if_pos h2, take_snoc hx]
    have hd : decide (p < i) = true := decide_eq_true h
    have hli : (xs.take i).length = i := by rw [List.length_take]; omega
    have : (xs.take i ++ [x]).drop (if xhas xs name p = true then p + 1 else p) = (xs.take i).drop (if xhas xs name p = true then p + 1 else p) ++ [x] := List.drop_append_of_le_length (by rw [hli]; split <;> omega)
    rw [this, hd]; simp
theorem outS_end {xs : List Xa} {name val : List UInt8} {p : Nat} (hp : XAt xs name p) : outS xs p (xhas xs name p) ⟨name, val⟩ xs.length ++ (if (!decide (p < xs.length)) = true then [(⟨name, val⟩ : Xa)] else []) = xs.take p ++ (⟨name, val⟩ : Xa) :: xs.drop (if xhas xs name p then p + 1 else p) := by
  unfold outS
  by_cases h : p < xs.length
  · rw [if_pos h, List.take_length]; simp [h]
  · have hl : p = xs.length := by have := hp.1; omega
    subst hl
    have hh : xhas xs name xs.length = false := by simp [xhas]
    simp [hh]
theorem outS_len {xs os : List Xa} {p i : Nat} {b : Bool} {new : Xa} (h : os = outS xs p b new i) (hi : i ≤ xs.length) : os.length ≤ i + 1 := by
  rw [h]; unfold outS
  split
  · simp only [List.length_append, List.length_take, List.length_drop, List.length_cons, List.length_nil]
    split <;> omega
  · simp only [List.length_take]; omega
theorem ins_pos {xs : List Xa} {name : List UInt8} {p i : Nat} {x : Xa} (hp : XAt xs name p) (hx : xs[i]? = some x) (h : (!decide (p < i) && !slt x.name name) = true) : p = i := by
  simp only [Bool.and_eq_true, Bool.not_eq_true', decide_eq_false_iff_not] at h
  rcases Nat.lt_trichotomy p i with h1 | h1 | h1
  · exact absurd h1 h.1
  · exact h1
  · have := hp.2.1 i x hx h1; rw [h.2] at this; cases this
theorem ins_neg {xs : List Xa} {name : List UInt8} {p i : Nat} {x : Xa} (hp : XAt xs name p) (hx : xs[i]? = some x) (h : (!decide (p < i) && !slt x.name name) = false) : decide (p < i) = decide (p < i + 1) := by
  simp only [Bool.and_eq_false_iff, Bool.not_eq_false', decide_eq_true_eq] at h
  rcases h with h | h
  · rw [decide_eq_true h, decide_eq_true (by omega)]
  · rcases Nat.lt_or_ge i p with h1 | h1
    · rw [decide_eq_false (by omega), decide_eq_false (by omega)]
    · rw [hp.2.2 i x hx h1] at h; cases h
theorem cellsI {I I' : Nat → Prop} {w w' : World} {a : Addr} {k : Nat} {vs : List Value} (hu : Up I w I' w') (hi : I a.block) (h : CellsAt w (a.add k) vs) : CellsAt w' (a.add k) vs := cells_up (by rw [block_of_add]; exact (hu _ hi).2) h
def RX (I : Nat → Prop) (w : World) (cs : List Value) (xs : List Xa) : Prop :=
  ∀ i x, xs[i]? = some x → ∃ A c, cs[2 * i]? = some (T x.name) ∧ cs[2 * i + 1]? = some (.slice A x.val.length c) ∧ Sl I w 1 (.slice A x.val.length c) (bytesV x.val)
theorem RX.up {I I' : Nat → Prop} {w w' : World} {cs : List Value} {xs : List Xa} (h : RX I w cs xs) (hu : Up I w I' w') : RX I' w' cs xs := fun i x hx => by
  obtain ⟨A, c, h1, h2, h3⟩ := h i x hx
  exact ⟨A, c, h1, h2, h3.up hu⟩
theorem RX.snoc {I : Nat → Prop} {w : World} {cs : List Value} {xs : List Xa} (h : RX I w cs xs) (hl : cs.length = xs.length * 2) {x : Xa} {A : Option Addr} {c : Nat} (h3 : Sl I w 1 (.slice A x.val.length c) (bytesV x.val)) : RX I w (cs ++ [T x.name, .slice A x.val.length c]) (xs ++ [x]) := fun i y hy => by
  rw [List.getElem?_append] at hy
  split at hy
  · obtain ⟨A', c', a1, a2, a3⟩ := h i y hy
    exact ⟨A', c', by rw [List.getElem?_append_left (by omega)]; exact a1, by rw [List.getElem?_append_left (by omega)]; exact a2, a3⟩
  · rename_i hi
    have h0 : i - xs.length = 0 := by
      rcases Nat.eq_zero_or_pos (i - xs.length) with h | h
      · exact h
      · rw [List.getElem?_eq_none (by simp only [List.length_cons, List.length_nil]; omega)] at hy; cases hy
    have hi : i = xs.length := by omega
    subst hi
    rw [h0] at hy; injection hy with hy; subst hy
    exact ⟨A, c, by rw [List.getElem?_append_right (by omega), show 2 * xs.length - cs.length = 0 by omega]; rfl, by rw [List.getElem?_append_right (by omega), show 2 * xs.length + 1 - cs.length = 1 by omega]; rfl, h3⟩
theorem RX.read {I I' : Nat → Prop} {lo2 : Nat} {w : World} {cs : List Value} {u : Value} {xs : List Xa} (h : RX I w cs xs) (hr : w.ownsRow lo2 T_api_Xattr 2 u xs.length cs) (hI : ∀ g, I g → I' g) (hu : ∀ g, u.ownBlock = some g → I' g) : XS I' w u xs := by
  obtain ⟨A, n, c, e, hn, hl, hrd⟩ := own_read hr hu
  obtain ⟨A', c', e', hc', _⟩ := own_form hr
  subst e
  injection e' with e1 e2 e3
  subst e1; subst e3
  refine ⟨A, c, by rw [e2], by omega, fun i x hx => ?_⟩
  obtain ⟨Av, cv, h1, h2, h3⟩ := h i x hx
  have hne : cs ≠ [] := by intro e; subst e; cases h1
  obtain ⟨a, ha, hia, hc⟩ := hrd hne
  refine ⟨a, _, ha, hia, ?_, h3.up (fun g hg => ⟨hI g hg, rfl⟩)⟩
  rw [Nat.mul_comm i 2]
  exact cells2 (hc _ _ h1) (by rw [add_add]; exact hc _ _ h2)
theorem Up.sub {I J J' : Nat → Prop} {w w' : World} (h : Up J w J' w') (hs : ∀ g, I g → J g) : Up I w I w' := fun g hg => ⟨hg, (h g (hs g hg)).2⟩
def RSetR (I : Nat → Prop) (w : World) (xs : List Xa) (name val : List UInt8) (v : Value) : Prop :=
  if xright xs = true then
    if xone name val = true then
      if xs.find? (fun x => decide (x.name = name)) = none ∧ xs.length = 4 then v = .tuple #[.slice none 0 0, .int .i64 5]
      else ∃ u ys, v = .tuple #[u, .int .i64 0] ∧ SetOut xs name val ys ∧ XS I w u ys
    else v = .tuple #[.slice none 0 0, .int .i64 2]
  else v = .tuple #[.slice none 0 0, .int .i64 3]
def RDropR (I : Nat → Prop) (w : World) (xs : List Xa) (name : List UInt8) (v : Value) : Prop :=
  if xright xs = true then
    if xs.find? (fun x => decide (x.name = name)) = none then v = .tuple #[.slice none 0 0, .int .i64 4]
    else ∃ u ys, v = .tuple #[u, .int .i64 0] ∧ DropOut xs name ys ∧ XS I w u ys
  else v = .tuple #[.slice none 0 0, .int .i64 3]
theorem idx_lt {xs : List Xa} {name : List UInt8} : ((match xs.findIdx? (fun x => decide (x.name = name)) with | some k => (k : Int) | none => -1) < 0) ↔ xs.find? (fun x => decide (x.name = name)) = none := by
  have : xs.findIdx? (fun x => decide (x.name = name)) = none ↔ xs.find? (fun x => decide (x.name = name)) = none := by
    rw [List.findIdx?_eq_none_iff, List.find?_eq_none]; simp
  rw [← this]
  cases xs.findIdx? (fun x => decide (x.name = name)) with
  | none => simp
  | some k => simp
theorem w_rSet {I : Nat → Prop} {w : World} (hI : ∀ g, I g → g < w.heap.size) {v vv : Value} {xs : List Xa} (hv : XS I w v xs) (hb : xs.length * 40 ≤ 140737488351232) (name val : List UInt8) (hvv : Sl I w 1 vv (bytesV val)) : Ret P F_cloisterref16_Set [v, T name, vv] w (fun v w' => RSetR (fun g => I g ∨ w.heap.size ≤ g) w' xs name val v ∧ Kp [] w w') := by
  refine Ret.enter func_cloisterref16_Set rfl nt_cloisterref16_Set ?_
  obtain ⟨A, c, ev, hnc, he⟩ := id hv
  subst ev
  obtain ⟨Av, cv, rfl, hncv, hrv⟩ := Sl.len hvv
  have st := St.start I w hI []
  obtain ⟨w0, hw0⟩ : ∃ w0, w0 = w := ⟨_, rfl⟩
  subst hw0
  refine CW.seq ?_
  refine CW.region ?_
  refine SL.op (ev_assign rfl) ?_
  refine SL.op (ev_assign rfl) ?_
  refine SL.nil ?_
  refine CW.seq ?_
  refine CW.seq ?_
  refine CW.region ?_
  refine SL.op (ev_move rfl) ?_
  refine SL.call call_cloisterref16_Right rfl (w_Right hI hv (by omega)) ?_; rintro v1 w1 ⟨rfl, kp1⟩
  have st1 := st.call kp1; have up1 := Up.kp kp1 st.lt
  have hvA := hv.up up1
  have hvvA := hvv.up up1
  refine SL.op (ev_not rfl) ?_
  refine SL.nil ?_
  refine CW.cond rfl (fun hr => ?_) (fun hr => ?_)
  · skip
    refine CW.seq ?_
    refine CW.region ?_
    refine SL.op (ev_assign rfl) ?_
    refine SL.op (ev_assign rfl) ?_
    refine SL.nil ?_
    refine CW.ret ?_
    refine RetOk.two rfl rfl ?_
    have hr2 : xright xs = false := by simpa using hr
    exact ⟨by simp [RSetR, hr2], st1.kp⟩
  · skip
    refine CW.skip ?_
    refine CW.seq ?_
    refine CW.seq ?_
    refine CW.region ?_
    have hr2 : xright xs = true := by simpa using hr
    have hso := XSorted.of_right hr2
    have hr4 := ((xright_iff xs).1 hr2).1
    obtain ⟨p, hp⟩ := XAt.ex hso name
    refine SL.op (ev_move rfl) ?_
    refine SL.op (ev_move rfl) ?_
    refine SL.call call_cloisterref16_One rfl (w_rOne st1.lt hvvA) ?_; rintro v2 w2 ⟨rfl, rfl⟩
    refine SL.op (ev_not rfl) ?_
    refine SL.nil ?_
    refine CW.cond rfl (fun ho => ?_) (fun ho => ?_)
    · skip
      refine CW.seq ?_
      refine CW.region ?_
      refine SL.op (ev_assign rfl) ?_
      refine SL.op (ev_assign rfl) ?_
      refine SL.nil ?_
      refine CW.ret ?_
      refine RetOk.two rfl rfl ?_
      have ho2 : xone name val = false := by simpa using ho
      exact ⟨by simp [RSetR, hr2, ho2], st1.kp⟩
    · skip
      refine CW.skip ?_
      refine CW.seq ?_
      refine CW.seq ?_
      refine CW.region ?_
      have ho2 : xone name val = true := by simpa using ho
      refine SL.op (ev_move rfl) ?_
      refine SL.op (ev_move rfl) ?_
      refine SL.call call_cloisterref16_Index rfl (w_Index hvA (by omega) name) ?_; rintro v3 w3 ⟨rfl, rfl⟩
      refine SL.op (ev_lt rfl rfl) ?_
      refine SL.op (ev_move rfl) ?_
      refine SL.cutPut 4 26 (.bool (decide ((match xs.findIdx? (fun x => decide (x.name = name)) with | some k => (k : Int) | none => -1) < 0) && decide (xs.length = 4))) ?_ ?_
      · by_cases hj1 : ((match xs.findIdx? (fun x => decide (x.name = name)) with | some k => (k : Int) | none => -1) < 0)
        · skip
          refine SL.on rfl ?_ ?_
          · first | exact decide_eq_true hj1 | exact hj1 | simpa using hj1
          refine SL.op (ev_move rfl) ?_
          refine SL.on rfl ?_ ?_
          · first | exact decide_eq_true hj1 | exact hj1 | simpa using hj1
          refine SL.op (ev_lenS els_slapi_Xattr rfl) ?_
          refine SL.on rfl ?_ ?_
          · first | exact decide_eq_true hj1 | exact hj1 | simpa using hj1
          refine SL.op (ev_eq rfl rfl) ?_
          refine SL.op (ev_pickT rfl rfl (by first | exact decide_eq_true hj1 | exact hj1 | simpa using hj1)) ?_
          exact SL.nil ⟨rfl, Sub.put (by exact bsome (by grind)) (by repeat (first | exact Sub.refl _ | refine Sub.skip rfl ?_))⟩
        · skip
          refine SL.off rfl ?_ ?_
          · first | exact decide_eq_false hj1 | simpa using hj1
          refine SL.off rfl ?_ ?_
          · first | exact decide_eq_false hj1 | simpa using hj1
          refine SL.off rfl ?_ ?_
          · first | exact decide_eq_false hj1 | simpa using hj1
          refine SL.op (ev_pickF rfl rfl (by first | exact decide_eq_false hj1 | simpa using hj1)) ?_
          exact SL.nil ⟨rfl, Sub.put (by exact bsome (by grind)) (by repeat (first | exact Sub.refl _ | refine Sub.skip rfl ?_))⟩
      refine SL.nil ?_
      refine CW.cond rfl (fun hf => ?_) (fun hf => ?_)
      · skip
        refine CW.seq ?_
        refine CW.region ?_
        refine SL.op (ev_assign rfl) ?_
        refine SL.op (ev_assign rfl) ?_
        refine SL.nil ?_
        refine CW.ret ?_
        refine RetOk.two rfl rfl ?_
        have hf2 : xs.find? (fun x => decide (x.name = name)) = none ∧ xs.length = 4 := by
          simp only [Bool.and_eq_true, decide_eq_true_eq] at hf
          exact ⟨idx_lt.1 hf.1, hf.2⟩
        exact ⟨by simp only [RSetR, hr2, ho2, if_true, if_pos hf2], st1.kp⟩
      · skip
        refine CW.skip ?_
        refine CW.seq ?_
        refine CW.region ?_
        have hf2 : ¬ (xs.find? (fun x => decide (x.name = name)) = none ∧ xs.length = 4) := by
          rintro ⟨h1, h2⟩
          simp only [Bool.and_eq_false_iff, decide_eq_false_iff_not] at hf
          exact hf.elim (fun h => h (idx_lt.2 h1)) (fun h => h h2)
        have kps := st1.kp
        refine SL.op (ev_assign rfl) ?_
        refine SL.nil ?_
        refine CW.seq ?_
        refine CW.region ?_
        refine SL.op (ev_assign rfl) ?_
        refine SL.nil ?_
        refine CW.seq ?_
        refine CW.seq ?_
        refine CW.region ?_
        refine SL.op (ev_assign rfl) ?_
        refine SL.nil ?_
        refine CW.block ?_
        refine CW.loop (α := Nat × Value × Bool) (fun q => [(0, .slice A xs.length c), (1, T name), (2, .slice Av val.length cv), (8, q.2.1), (9, .bool q.2.2), (10, .int .i64 q.1)]) (fun q w => q.1 ≤ xs.length ∧ q.2.2 = decide (p < q.1) ∧ (∃ cs, w.ownsRow w0.heap.size T_api_Xattr 2 q.2.1 (outS xs p (xhas xs name p) ⟨name, val⟩ q.1).length cs ∧ RX I w cs (outS xs p (xhas xs name p) ⟨name, val⟩ q.1)) ∧ Kp [] w0 w) (fun q => xs.length - q.1) (0, .slice none 0 0, false) (by repeat (first | exact Sub.nil _ | refine Sub.cons rfl ?_)) (⟨by simp, by simp, ⟨[], by simp only [outS, if_neg (Nat.not_lt_zero p)]; exact World.ownsRow_nil _ _ _ _, fun i x h => by simp [outS] at h⟩, kps⟩) ?_
        rintro ⟨i, u, b⟩ w ⟨hi, hbd, ⟨cs, hrow, hrx0⟩, kp0⟩; simp only at hi hbd hrow hrx0 ⊢
        obtain ⟨os, hos⟩ : ∃ os, os = outS xs p (xhas xs name p) ⟨name, val⟩ i := ⟨_, rfl⟩
        rw [← hos] at hrow hrx0
        have hol : os.length ≤ i + 1 := outS_len hos hi
        have hcl : cs.length = os.length * 2 := hrow.1
        have st0 := st.callT kp0 Free.nil (fun g => u.ownBlock = some g); have up0 := Up.callT st kp0 Free.nil (fun g => u.ownBlock = some g)
        have upr : Up I w0 I w := Up.keep kp0 hI
        have upi : ∀ g, I g → ExtF I w0 w (fun g => u.ownBlock = some g) g := fun g hg => .inl hg
        have own0 : Own _ _ _ _ _ _ _ _ _ _ := Own.ofCall (F := fun g => u.ownBlock = some g) st Free.nil hrow (fun g hg => .inl (own_lt hrow hg).1) (fun g hg => hg)
        refine CW.seq ?_
        refine CW.seq ?_
        refine CW.region ?_
        refine SL.op (ev_move rfl) ?_
        refine SL.op (ev_move rfl) ?_
        refine SL.op (ev_lenS els_slapi_Xattr rfl) ?_
        refine SL.op (ev_lt rfl rfl) ?_
        refine SL.nil ?_
        refine CW.ifp rfl (fun h => ?_) (fun h => ?_)
        · skip
          refine CW.skip ?_
          refine CW.seq ?_
          obtain ⟨x, hx⟩ : ∃ x, xs[i]? = some x := ⟨_, List.getElem?_eq_getElem (by omega)⟩
          obtain ⟨a, vx, ha, hia, hc, hsx⟩ := (hv.up upr).at' hx
          subst ha
          obtain ⟨Ax, cx, rfl, hncx, hrx⟩ := Sl.len hsx
          refine CW.block ?_
          refine CW.seq ?_
          refine CW.seq ?_
          refine CW.region ?_
          refine SL.op (ev_move rfl) ?_
          refine SL.op (ev_not rfl) ?_
          refine SL.op (ev_move rfl) ?_
          refine SL.cutPut 8 43 (.bool (!b && !slt x.name name)) ?_ ?_
          · by_cases hj2 : (!b) = true
            · skip
              refine SL.on rfl ?_ ?_
              · first | exact decide_eq_true hj2 | exact hj2 | simpa using hj2
              refine SL.op (ev_move rfl) ?_
              refine SL.on rfl ?_ ?_
              · first | exact decide_eq_true hj2 | exact hj2 | simpa using hj2
              refine SL.op (ev_move rfl) ?_
              refine SL.on rfl ?_ ?_
              · first | exact decide_eq_true hj2 | exact hj2 | simpa using hj2
              refine SL.op (ev_move rfl) ?_
              refine SL.on rfl ?_ ?_
              · first | exact decide_eq_true hj2 | exact hj2 | simpa using hj2
              refine SL.op (ev_idx els_slapi_Xattr rfl rfl (by omega) (by omega)) ?_
              refine SL.on rfl ?_ ?_
              · first | exact decide_eq_true hj2 | exact hj2 | simpa using hj2
              refine SL.op (ev_fld fld_api_Xattr_Name rfl) ?_
              refine SL.on rfl ?_ ?_
              · first | exact decide_eq_true hj2 | exact hj2 | simpa using hj2
              refine SL.op (ev_load one_string rfl (hc 0 _ rfl)) ?_
              refine SL.on rfl ?_ ?_
              · first | exact decide_eq_true hj2 | exact hj2 | simpa using hj2
              refine SL.op (ev_sle rfl rfl) ?_
              rw [sle_eq]
              refine SL.op (ev_pickT rfl rfl (by first | exact decide_eq_true hj2 | exact hj2 | simpa using hj2)) ?_
              exact SL.nil ⟨rfl, Sub.put (by exact bsome (by grind)) (by repeat (first | exact Sub.refl _ | refine Sub.skip rfl ?_))⟩
            · skip
              refine SL.off rfl ?_ ?_
              · first | exact decide_eq_false hj2 | simpa using hj2
              refine SL.off rfl ?_ ?_
              · first | exact decide_eq_false hj2 | simpa using hj2
              refine SL.off rfl ?_ ?_
              · first | exact decide_eq_false hj2 | simpa using hj2
              refine SL.off rfl ?_ ?_
              · first | exact decide_eq_false hj2 | simpa using hj2
              refine SL.off rfl ?_ ?_
              · first | exact decide_eq_false hj2 | simpa using hj2
              refine SL.off rfl ?_ ?_
              · first | exact decide_eq_false hj2 | simpa using hj2
              refine SL.off rfl ?_ ?_
              · first | exact decide_eq_false hj2 | simpa using hj2
              refine SL.op (ev_pickF rfl rfl (by first | exact decide_eq_false hj2 | simpa using hj2)) ?_
              exact SL.nil ⟨rfl, Sub.put (by exact bsome (by grind)) (by repeat (first | exact Sub.refl _ | refine Sub.skip rfl ?_))⟩
          refine SL.nil ?_
          refine CW.cond rfl (fun hins => ?_) (fun hins => ?_)
          · skip
            refine CW.seq ?_
            refine CW.region ?_
            refine SL.op (ev_move rfl) ?_
            refine SL.op (ev_move rfl) ?_
            refine SL.op (ev_move rfl) ?_
            refine SL.op (ev_bld bld_api_Xattr rfl) ?_
            refine SL.bsl st0 els_slapi_Xattr info_api_Xattr rfl ?_; intro w4 g4 st4 up4 kp4 hg4
            refine SL.append st4 els_slapi_Xattr info_api_Xattr rfl (own0.more kp4 hg4) (news := [T name, .slice Av val.length cv]) rfl rfl (fun h => ⟨_, rfl, (st4.ok _ (.head _)).cells 0⟩) (all_one rfl) (by omega) ?_; intro v5 w5 st5 up5 kp5 ob5 own5
            have hc5 := cellsI (up4.trans up5) (upi _ hia) hc
            refine SL.op (ev_assign rfl) ?_
            refine SL.nil ?_
            refine CW.region ?_
            refine SL.op (ev_assign rfl) ?_
            refine SL.nil ?_
            refine CW.seq ?_
            refine CW.region ?_
            refine SL.op (ev_move rfl) ?_
            refine SL.op (ev_move rfl) ?_
            refine SL.op (ev_idx els_slapi_Xattr rfl rfl (by omega) (by omega)) ?_
            refine SL.op (ev_fld fld_api_Xattr_Name rfl) ?_
            refine SL.op (ev_load one_string rfl (hc5 0 _ rfl)) ?_
            refine SL.op (ev_move rfl) ?_
            refine SL.op (ev_sne rfl rfl) ?_
            refine SL.nil ?_
            refine CW.ifp rfl (fun hxn => ?_) (fun hxn => ?_)
            · skip
              refine CW.region ?_
              refine SL.op (ev_move rfl) ?_
              refine SL.op (ev_move rfl) ?_
              refine SL.op (ev_move rfl) ?_
              refine SL.op (ev_idx els_slapi_Xattr rfl rfl (by omega) (by omega)) ?_
              refine SL.op (ev_loadN agg_api_Xattr rfl hc5) ?_
              refine SL.bsl st5 els_slapi_Xattr info_api_Xattr rfl ?_; intro w6 g6 st6 up6 kp6 hg6
              refine SL.append st6 els_slapi_Xattr info_api_Xattr rfl (own5.more kp6 hg6) (news := [T x.name, .slice Ax x.val.length cx]) rfl rfl (fun h => ⟨_, rfl, (st6.ok _ (.head _)).cells 0⟩) (all_one rfl) (by omega) ?_; intro v7 w7 st7 up7 kp7 ob7 own7
              refine SL.op (ev_assign rfl) ?_
              refine SL.nil ?_
              refine CW.region ?_
              refine SL.op (ev_move rfl) ?_
              refine SL.op (ev_add rfl rfl (by omega) (by omega)) ?_
              refine SL.op (ev_assign rfl) ?_
              refine SL.nil ?_
              have upF : Up I w I w7 := Up.sub (((up4.trans up5).trans up6).trans up7) upi
              have hpi := ins_pos hp hx (by rw [← hbd]; exact hins)
              refine ⟨(i + 1, v7, true), by repeat (first | exact Sub.nil _ | refine Sub.cons rfl ?_), ⟨by simp only; omega, by simp only; rw [decide_eq_true (by omega)], ?_, st7.kp⟩, by simp only; omega⟩
              simp only
              rw [outS_succ hso hp hx, ← hos, ← hbd, hins, if_pos rfl, if_pos hxn]
              exact ⟨_, by rw [List.length_append, List.length_append]; exact own_base own7.row (fun g hg => (own7.out g hg).2.2.resolve_left (by simp)), ((hrx0.up upF).snoc hcl (x := ⟨name, val⟩) ((hvv.up upr).up upF)).snoc (by simp [hcl]; omega) (hsx.up upF)⟩
            · skip
              refine CW.skip ?_
              refine CW.region ?_
              refine SL.op (ev_move rfl) ?_
              refine SL.op (ev_add rfl rfl (by omega) (by omega)) ?_
              refine SL.op (ev_assign rfl) ?_
              refine SL.nil ?_
              have upF : Up I w I w5 := Up.sub (up4.trans up5) upi
              have hpi := ins_pos hp hx (by rw [← hbd]; exact hins)
              refine ⟨(i + 1, v5, true), by repeat (first | exact Sub.nil _ | refine Sub.cons rfl ?_), ⟨by simp only; omega, by simp only; rw [decide_eq_true (by omega)], ?_, st5.kp⟩, by simp only; omega⟩
              simp only
              rw [outS_succ hso hp hx, ← hos, ← hbd, hins, if_pos rfl, if_neg hxn, List.append_nil]
              exact ⟨_, by rw [List.length_append]; exact own_base own5.row (fun g hg => (own5.out g hg).2.2.resolve_left (by simp)), (hrx0.up upF).snoc hcl (x := ⟨name, val⟩) ((hvv.up upr).up upF)⟩
          · skip
            refine CW.skip ?_
            refine CW.seq ?_
            refine CW.region ?_
            refine SL.op (ev_move rfl) ?_
            refine SL.op (ev_move rfl) ?_
            refine SL.op (ev_idx els_slapi_Xattr rfl rfl (by omega) (by omega)) ?_
            refine SL.op (ev_fld fld_api_Xattr_Name rfl) ?_
            refine SL.op (ev_load one_string rfl (hc 0 _ rfl)) ?_
            refine SL.op (ev_move rfl) ?_
            refine SL.op (ev_sne rfl rfl) ?_
            refine SL.nil ?_
            refine CW.ifp rfl (fun hxn => ?_) (fun hxn => ?_)
            · skip
              refine CW.region ?_
              refine SL.op (ev_move rfl) ?_
              refine SL.op (ev_move rfl) ?_
              refine SL.op (ev_move rfl) ?_
              refine SL.op (ev_idx els_slapi_Xattr rfl rfl (by omega) (by omega)) ?_
              refine SL.op (ev_loadN agg_api_Xattr rfl hc) ?_
              refine SL.bsl st0 els_slapi_Xattr info_api_Xattr rfl ?_; intro w8 g8 st8 up8 kp8 hg8
              refine SL.append st8 els_slapi_Xattr info_api_Xattr rfl (own0.more kp8 hg8) (news := [T x.name, .slice Ax x.val.length cx]) rfl rfl (fun h => ⟨_, rfl, (st8.ok _ (.head _)).cells 0⟩) (all_one rfl) (by omega) ?_; intro v9 w9 st9 up9 kp9 ob9 own9
              refine SL.op (ev_assign rfl) ?_
              refine SL.nil ?_
              refine CW.region ?_
              refine SL.op (ev_move rfl) ?_
              refine SL.op (ev_add rfl rfl (by omega) (by omega)) ?_
              refine SL.op (ev_assign rfl) ?_
              refine SL.nil ?_
              have upF : Up I w I w9 := Up.sub (up8.trans up9) upi
              refine ⟨(i + 1, v9, b), by repeat (first | exact Sub.nil _ | refine Sub.cons rfl ?_), ⟨by simp only; omega, by simp only; rw [hbd]; exact ins_neg hp hx (by rw [← hbd]; exact hins), ?_, st9.kp⟩, by simp only; omega⟩
              simp only
              rw [outS_succ hso hp hx, ← hos, ← hbd, hins, if_neg (by simp), if_pos hxn, List.append_nil]
              exact ⟨_, by rw [List.length_append]; exact own_base own9.row (fun g hg => (own9.out g hg).2.2.resolve_left (by simp)), (hrx0.up upF).snoc hcl (hsx.up upF)⟩
            · skip
              refine CW.skip ?_
              refine CW.region ?_
              refine SL.op (ev_move rfl) ?_
              refine SL.op (ev_add rfl rfl (by omega) (by omega)) ?_
              refine SL.op (ev_assign rfl) ?_
              refine SL.nil ?_
              refine ⟨(i + 1, u, b), by repeat (first | exact Sub.nil _ | refine Sub.cons rfl ?_), ⟨by simp only; omega, by simp only; rw [hbd]; exact ins_neg hp hx (by rw [← hbd]; exact hins), ?_, st0.kp⟩, by simp only; omega⟩
              simp only
              rw [outS_succ hso hp hx, ← hos, ← hbd, hins, if_neg (by simp), if_neg hxn, List.append_nil, List.append_nil]
              exact ⟨cs, own_base hrow (fun g hg => (own_lt hrow hg).1), hrx0⟩
        · skip
          refine CW.exit ?_
          refine CW.seq ?_
          refine CW.seq ?_
          refine CW.region ?_
          refine SL.op (ev_move rfl) ?_
          refine SL.op (ev_not rfl) ?_
          refine SL.nil ?_
          refine CW.cond rfl (fun hd => ?_) (fun hd => ?_)
          · skip
            refine CW.region ?_
            refine SL.op (ev_move rfl) ?_
            refine SL.op (ev_move rfl) ?_
            refine SL.op (ev_move rfl) ?_
            refine SL.op (ev_bld bld_api_Xattr rfl) ?_
            refine SL.bsl st0 els_slapi_Xattr info_api_Xattr rfl ?_; intro w10 g10 st10 up10 kp10 hg10
            refine SL.append st10 els_slapi_Xattr info_api_Xattr rfl (own0.more kp10 hg10) (news := [T name, .slice Av val.length cv]) rfl rfl (fun h => ⟨_, rfl, (st10.ok _ (.head _)).cells 0⟩) (all_one rfl) (by omega) ?_; intro v11 w11 st11 up11 kp11 ob11 own11
            refine SL.op (ev_assign rfl) ?_
            refine SL.nil ?_
            refine CW.seq ?_
            refine CW.region ?_
            refine SL.op (ev_move rfl) ?_
            refine SL.op (ev_assign rfl) ?_
            refine SL.op (ev_assign rfl) ?_
            refine SL.nil ?_
            refine CW.ret ?_
            refine RetOk.two rfl rfl ?_
            have hin : i = xs.length := by omega
            subst hin
            have upF : Up I w I w11 := Up.sub (up10.trans up11) upi
            have hend := outS_end (val := val) hp
            rw [← hos, ← hbd, hd, if_pos rfl] at hend
            refine ⟨?_, st11.kp⟩
            simp only [RSetR, hr2, ho2, if_true, if_neg hf2]
            refine ⟨_, _, rfl, ⟨p, hp, rfl⟩, ?_⟩
            rw [← hend]
            exact ((hrx0.up upF).snoc hcl (x := ⟨name, val⟩) ((hvv.up upr).up upF)).read (lo2 := 0) (by rw [List.length_append]; exact own11.row) (fun g hg => .inl hg) (fun g hg => .inr ((own11.out g hg).2.2.resolve_left (by simp)))
          · skip
            refine CW.skip ?_
            refine CW.seq ?_
            refine CW.region ?_
            refine SL.op (ev_move rfl) ?_
            refine SL.op (ev_assign rfl) ?_
            refine SL.op (ev_assign rfl) ?_
            refine SL.nil ?_
            refine CW.ret ?_
            refine RetOk.two rfl rfl ?_
            have hin : i = xs.length := by omega
            subst hin
            have hend := outS_end (val := val) hp
            rw [← hos, ← hbd, hd, if_neg (by simp), List.append_nil] at hend
            refine ⟨?_, kp0⟩
            simp only [RSetR, hr2, ho2, if_true, if_neg hf2]
            refine ⟨_, _, rfl, ⟨p, hp, rfl⟩, ?_⟩
            rw [← hend]
            exact hrx0.read hrow (fun g hg => .inl hg) (fun g hg => .inr (own_lt hrow hg).1)
end Go.Proofs.Ytodaagikppaidaa.Cw
