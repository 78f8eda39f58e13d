/- xattr.at finds the place of a name in a sorted list. -/
import Derived.Test.YtodaagikppaidaaCwXat2
/-! at. -/
namespace Go.Proofs.Ytodaagikppaidaa.Cw
open Go Go.Proofs.Ytodaagikppaidaa.Eng Go.Proofs.Ytodaagikppaidaa.Cl
theorem cmp_lt (a b : List UInt8) : (cmpS a b < 0) ↔ slt a b = true := by
  unfold cmpS slt; split <;> rename_i h
  · simp [h]
  · split <;> simp [h]
theorem cmp_eq0 (a b : List UInt8) : (cmpS a b = 0) ↔ a = b := by
  unfold cmpS; split <;> rename_i h
  · constructor
    · intro h2; omega
    · rintro rfl; have := slt_irrefl a; simp only [slt] at this; rw [this] at h; cases h
  · split <;> rename_i h2 <;> simp [h2]
theorem half (i j : Nat) (h : i + j ≤ 9223372036854775807) : IntKind.i64.wrap (IntKind.u64.wrap ((i : Int) + (j : Int)) / 2 ^ (1 : Int).toNat) = (((i + j) / 2 : Nat) : Int) := by
  have h1 : IntKind.u64.wrap ((i : Int) + (j : Int)) = ((i + j : Nat) : Int) := by rw [show ∀ n : Int, IntKind.u64.wrap n = n % 18446744073709551616 from fun n => by simp [IntKind.wrap, IntKind.bits, IntKind.signed]]; omega
  rw [h1, IntKind.wrap_i64]
  have : (2 : Int) ^ (1 : Int).toNat = 2 := by decide
  rw [this]; omega
theorem w_at1 {I : Nat → Prop} {w : World} (hI : ∀ g, I g → g < w.heap.size) {name s : List UInt8} {A : Option Addr} {n c : Nat} : Ret P F_xattr_at_1 [.agg #[T name, .slice A n c], T s] w (fun v w' => v = .int .i64 (cmpS name s) ∧ Kp [] w w') := by
  refine Ret.enter func_xattr_at_1 rfl nt_xattr_at_1 ?_
  have st := St.start I w hI []
  refine CW.seq ?_
  refine CW.region ?_
  refine SL.box st rfl ?_; intro w1 g1 st1 up1 kp1 hg1
  refine SL.op (ev_assign rfl) ?_
  refine SL.nil ?_
  refine CW.seq ?_
  refine CW.region ?_
  refine SL.op (ev_fld fld_api_Xattr_Name rfl) ?_
  refine SL.op (ev_loadM st1 0 one_string rfl rfl rfl) ?_
  refine SL.op (ev_move rfl) ?_
  refine SL.call call_strings_Compare rfl (w_Compare name s _) ?_; rintro v2 w2 ⟨rfl, rfl⟩
  refine SL.op (ev_assign rfl) ?_
  refine SL.nil ?_
  refine CW.ret ?_
  refine RetOk.one rfl ?_
  exact ⟨rfl, st1.kp⟩
theorem w_Search {I : Nat → Prop} {w : World} (hI : ∀ g, I g → g < w.heap.size) {v : Value} {xs : List Xa} (hv : XS I w v xs) (hs : XSorted xs) (hb : xs.length ≤ 4611686018427387903) (name : List UInt8) : Ret P F_slices_BinarySearchFunc_Xattr [v, T name, .func (.func F_xattr_at_1) #[] #[]] w (fun v w' => (∃ p : Nat, XAt xs name p ∧ v = .tuple #[.int .i64 p, .bool (xhas xs name p)]) ∧ Kp [] w w') := by
  refine Ret.enter func_slices_BinarySearchFunc_Xattr rfl nt_slices_BinarySearchFunc_Xattr ?_
  have st := St.start I w hI []
  have hv0 := hv
  obtain ⟨A, c, rfl, hnc, he⟩ := hv0
  obtain ⟨w0, hw0⟩ : ∃ w0, w0 = w := ⟨_, rfl⟩
  subst hw0
  refine CW.seq ?_
  refine CW.region ?_
  refine SL.op (ev_assign rfl) ?_
  refine SL.op (ev_assign rfl) ?_
  refine SL.nil ?_
  refine CW.seq ?_
  refine CW.region ?_
  refine SL.op (ev_move rfl) ?_
  refine SL.op (ev_lenS els_slapi_Xattr rfl) ?_
  refine SL.op (ev_assign rfl) ?_
  refine SL.nil ?_
  refine CW.seq ?_
  refine CW.region ?_
  refine SL.op (ev_move rfl) ?_
  refine SL.op (ev_assign rfl) ?_
  refine SL.op (ev_assign rfl) ?_
  refine SL.nil ?_
  refine CW.seq ?_
  refine CW.block ?_
  refine CW.loop (α := Nat × Nat) (fun q => [(0, .slice A xs.length c), (1, T name), (2, .func (.func F_xattr_at_1) #[] #[]), (8, .int .i64 xs.length), (9, .int .i64 q.1), (10, .int .i64 q.2)]) (fun q w => q.1 ≤ q.2 ∧ q.2 ≤ xs.length ∧ (∀ k x, xs[k]? = some x → k < q.1 → slt x.name name = true) ∧ (∀ k x, xs[k]? = some x → q.2 ≤ k → slt x.name name = false) ∧ Kp [] w0 w) (fun q => q.2 - q.1) (0, xs.length) (by repeat (first | exact Sub.nil _ | refine Sub.cons rfl ?_)) (⟨by simp, by simp, fun _ _ _ h => by simp at h, fun k x hx h => by have := (List.getElem?_eq_some_iff.1 hx).1; simp only at h; omega, Kp.refl _ _⟩) ?_
  rintro ⟨i, j⟩ w ⟨hij, hj, hlo, hhi, kp0⟩; simp only at hij hj hlo hhi ⊢; have st0 := st.keep kp0; have up0 := Up.keep kp0 st.lt
  refine CW.seq ?_
  refine CW.seq ?_
  refine CW.region ?_
  refine SL.op (ev_move rfl) ?_
  refine SL.op (ev_move rfl) ?_
  refine SL.op (ev_lt rfl rfl) ?_
  refine SL.nil ?_
  refine CW.ifp rfl (fun h => ?_) (fun h => ?_)
  · skip
    refine CW.skip ?_
    refine CW.block ?_
    refine CW.seq ?_
    refine CW.region ?_
    refine SL.op (ev_move rfl) ?_
    refine SL.op (ev_move rfl) ?_
    refine SL.op (ev_add rfl rfl (by omega) (by omega)) ?_
    refine SL.op (ev_conv rfl (by rw [und_int]; rfl) und_uint) ?_
    refine SL.op (ev_shr rfl rfl (by decide)) ?_
    refine SL.op (ev_conv rfl (by rw [und_uint]; rfl) und_int) ?_
    rw [half i j (by omega)]
    obtain ⟨x, hx⟩ : ∃ x, xs[(i + j) / 2]? = some x := ⟨_, List.getElem?_eq_getElem (by omega)⟩
    obtain ⟨a, vv, ha, hia, hc, hsl⟩ := (hv.up up0).at' hx
    subst ha
    obtain ⟨Av, cv, rfl, hncv, hrv⟩ := Sl.len hsl
    refine SL.op (ev_assign rfl) ?_
    refine SL.nil ?_
    refine CW.seq ?_
    refine CW.region ?_
    refine SL.op (ev_move rfl) ?_
    refine SL.op (ev_move rfl) ?_
    refine SL.op (ev_move rfl) ?_
    refine SL.op (ev_idx els_slapi_Xattr rfl rfl (by omega) (by omega)) ?_
    refine SL.op (ev_loadN agg_api_Xattr rfl hc) ?_
    refine SL.op (ev_move rfl) ?_
    refine SL.callv call_xattr_at_1 rfl rfl rfl (w_at1 st0.lt) ?_; rintro v1 w1 ⟨rfl, kp1⟩
    have st1 := st0.keep kp1; have up1 := Up.keep kp1 st0.lt
    refine SL.op (ev_lt rfl rfl) ?_
    refine SL.nil ?_
    refine CW.ifp rfl (fun hc1 => ?_) (fun hc1 => ?_)
    · skip
      refine CW.region ?_
      refine SL.op (ev_move rfl) ?_
      refine SL.op (ev_add rfl rfl (by omega) (by omega)) ?_
      refine SL.op (ev_assign rfl) ?_
      refine SL.nil ?_
      refine ⟨((i + j) / 2 + 1, j), by repeat (first | exact Sub.nil _ | refine Sub.cons rfl ?_), ⟨?_, hj, fun k y hy hk => ?_, hhi, st1.kp⟩, by simp only; omega⟩
      · simp only; omega
      · have h2 := (cmp_lt x.name name).1 hc1
        rcases Nat.lt_succ_iff_lt_or_eq.1 hk with hk | rfl
        · exact slt_trans (hs _ _ _ _ hy hx hk) h2
        · rw [hx] at hy; injection hy with hy; subst hy; exact h2
    · skip
      refine CW.region ?_
      refine SL.op (ev_move rfl) ?_
      refine SL.op (ev_assign rfl) ?_
      refine SL.nil ?_
      refine ⟨(i, (i + j) / 2), by repeat (first | exact Sub.nil _ | refine Sub.cons rfl ?_), ⟨?_, ?_, hlo, fun k y hy hk => ?_, st1.kp⟩, by simp only; omega⟩
      · simp only; omega
      · simp only; omega
      · have h2 : slt x.name name = false := by rw [← Bool.not_eq_true]; exact fun h => hc1 ((cmp_lt x.name name).2 h)
        rcases Nat.lt_or_eq_of_le hk with hk | rfl
        · cases h3 : slt y.name name
          · rfl
          · rw [← h2]; exact (slt_trans (hs _ _ _ _ hx hy hk) h3).symm ▸ rfl
        · rw [hx] at hy; injection hy with hy; subst hy; exact h2
  · skip
    refine CW.exit ?_
    refine CW.seq ?_
    refine CW.region ?_
    refine SL.op (ev_move rfl) ?_
    refine SL.op (ev_move rfl) ?_
    refine SL.op (ev_move rfl) ?_
    refine SL.op (ev_lt rfl rfl) ?_
    refine SL.op (ev_move rfl) ?_
    by_cases hl : (i : Int) < (xs.length : Int)
    · skip
      obtain ⟨x, hx⟩ : ∃ x, xs[i]? = some x := ⟨_, List.getElem?_eq_getElem (by omega)⟩
      obtain ⟨a, vv, ha, hia, hc, hsl⟩ := (hv.up up0).at' hx
      subst ha
      obtain ⟨Av, cv, rfl, hncv, hrv⟩ := Sl.len hsl
      refine SL.on rfl ?_ ?_
      · first | exact decide_eq_true hl | exact hl | simpa using hl
      refine SL.op (ev_move rfl) ?_
      refine SL.on rfl ?_ ?_
      · first | exact decide_eq_true hl | exact hl | simpa using hl
      refine SL.op (ev_move rfl) ?_
      refine SL.on rfl ?_ ?_
      · first | exact decide_eq_true hl | exact hl | simpa using hl
      refine SL.op (ev_move rfl) ?_
      refine SL.on rfl ?_ ?_
      · first | exact decide_eq_true hl | exact hl | simpa using hl
      refine SL.op (ev_idx els_slapi_Xattr rfl rfl (by omega) (by omega)) ?_
      refine SL.on rfl ?_ ?_
      · first | exact decide_eq_true hl | exact hl | simpa using hl
      refine SL.op (ev_loadN agg_api_Xattr rfl hc) ?_
      refine SL.on rfl ?_ ?_
      · first | exact decide_eq_true hl | exact hl | simpa using hl
      refine SL.op (ev_move rfl) ?_
      refine SL.on rfl ?_ ?_
      · first | exact decide_eq_true hl | exact hl | simpa using hl
      refine SL.callv call_xattr_at_1 rfl rfl rfl (w_at1 st0.lt) ?_; rintro v2 w2 ⟨rfl, kp2⟩
      have st2 := st0.keep kp2; have up2 := Up.keep kp2 st0.lt
      refine SL.on rfl ?_ ?_
      · first | exact decide_eq_true hl | exact hl | simpa using hl
      refine SL.op (ev_eq rfl rfl) ?_
      refine SL.op (ev_pickT rfl rfl (by first | exact decide_eq_true hl | exact hl | simpa using hl)) ?_
      refine SL.op (ev_assign rfl) ?_
      refine SL.op (ev_assign rfl) ?_
      refine SL.nil ?_
      refine CW.ret ?_
      refine RetOk.two rfl rfl ?_
      have e : xhas xs name i = decide (cmpS x.name name = 0) := by
        simp only [xhas, hx]; exact decide_eq_decide.2 (cmp_eq0 _ _).symm
      exact ⟨⟨i, ⟨by omega, hlo, fun k y hy hk => hhi k y hy (by omega)⟩, by rw [e]⟩, st2.kp⟩
    · skip
      refine SL.off rfl ?_ ?_
      · first | exact decide_eq_false hl | simpa using hl
      refine SL.off rfl ?_ ?_
      · first | exact decide_eq_false hl | simpa using hl
      refine SL.off rfl ?_ ?_
      · first | exact decide_eq_false hl | simpa using hl
      refine SL.off rfl ?_ ?_
      · first | exact decide_eq_false hl | simpa using hl
      refine SL.off rfl ?_ ?_
      · first | exact decide_eq_false hl | simpa using hl
      refine SL.off rfl ?_ ?_
      · first | exact decide_eq_false hl | simpa using hl
      refine SL.off rfl ?_ ?_
      · first | exact decide_eq_false hl | simpa using hl
      refine SL.off rfl ?_ ?_
      · first | exact decide_eq_false hl | simpa using hl
      refine SL.op (ev_pickF rfl rfl (by first | exact decide_eq_false hl | simpa using hl)) ?_
      refine SL.op (ev_assign rfl) ?_
      refine SL.op (ev_assign rfl) ?_
      refine SL.nil ?_
      refine CW.ret ?_
      refine RetOk.two rfl rfl ?_
      have e : xhas xs name i = false := by
        simp only [xhas, List.getElem?_eq_none (show xs.length ≤ i by omega)]
      exact ⟨⟨i, ⟨by omega, hlo, fun k y hy hk => hhi k y hy (by omega)⟩, by rw [e]⟩, st0.kp⟩
theorem w_at {I : Nat → Prop} {w : World} (hI : ∀ g, I g → g < w.heap.size) {v : Value} {xs : List Xa} (hv : XS I w v xs) (hs : XSorted xs) (hb : xs.length ≤ 4611686018427387903) (name : List UInt8) : Ret P F_xattr_at [v, T name] w (fun v w' => (∃ p : Nat, XAt xs name p ∧ v = .tuple #[.int .i64 p, .bool (xhas xs name p)]) ∧ Kp [] w w') := by
  refine Ret.enter func_xattr_at rfl nt_xattr_at ?_
  have st := St.start I w hI []
  refine CW.seq ?_
  refine CW.region ?_
  refine SL.op (ev_assign rfl) ?_
  refine SL.op (ev_assign rfl) ?_
  refine SL.nil ?_
  refine CW.seq ?_
  refine CW.region ?_
  refine SL.op (ev_move rfl) ?_
  refine SL.op (ev_move rfl) ?_
  refine SL.call call_slices_BinarySearchFunc_Xattr rfl (w_Search hI hv hs hb name) ?_; rintro v1 w1 ⟨⟨p, hp, rfl⟩, kp1⟩
  have st1 := st.keep kp1; have up1 := Up.keep kp1 st.lt
  refine SL.op (ev_extract rfl rfl) ?_
  refine SL.op (ev_extract rfl rfl) ?_
  refine SL.op (ev_assign rfl) ?_
  refine SL.op (ev_assign rfl) ?_
  refine SL.nil ?_
  refine CW.ret ?_
  refine RetOk.two rfl rfl ?_
  exact ⟨⟨p, hp, rfl⟩, st1.kp⟩
end Go.Proofs.Ytodaagikppaidaa.Cw
