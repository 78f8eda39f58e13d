/- Same of the reference tells equal lists. -/
import Derived.Test.YtodaagikppaidaaCwXref1
/-! Same, Set, Drop of the reference. -/
namespace Go.Proofs.Ytodaagikppaidaa.Cw
open Go Go.Proofs.Ytodaagikppaidaa.Eng Go.Proofs.Ytodaagikppaidaa.Cl
theorem Rd.str {I : Nat → Prop} {w : World} {A : Option Addr} {s : List UInt8} (h : Rd I w A (bytesV s)) : s ≠ [] → ∃ a, A = some a ∧ CellsAt w a (bytesV s) := fun hn => by
  obtain ⟨a, h1, _, h3⟩ := h (by intro e; exact hn (by simpa [bytesV] using e))
  exact ⟨a, h1, h3⟩
theorem w_Same {I : Nat → Prop} {w : World} (hI : ∀ g, I g → g < w.heap.size) {v u : Value} {xs ys : List Xa} (hv : XS I w v xs) (hu : XS I w u ys) (hb : xs.length ≤ 9223372036854775806) : Ret P F_cloisterref16_Same [v, u] w (fun v w' => (∃ b, v = .bool b ∧ (b = true ↔ xs = ys)) ∧ Kp [] w w') := by
  refine Ret.enter func_cloisterref16_Same rfl nt_cloisterref16_Same ?_
  have st := St.start I w hI []
  have hv0 := hv
  obtain ⟨A, c, rfl, hnc, he⟩ := hv0
  have hu0 := hu
  obtain ⟨B, d, rfl, hnd, he2⟩ := hu0
  obtain ⟨w0, hw0⟩ : ∃ w0, w0 = w := ⟨_, rfl⟩
  subst hw0
  refine CW.seq ?_
  refine CW.region ?_
  refine SL.op (ev_assign rfl) ?_
  refine SL.nil ?_
  refine CW.seq ?_
  refine CW.seq ?_
  refine CW.region ?_
  refine SL.op (ev_move rfl) ?_
  refine SL.op (ev_lenS els_slapi_Xattr rfl) ?_
  refine SL.op (ev_move rfl) ?_
  refine SL.op (ev_lenS els_slapi_Xattr rfl) ?_
  refine SL.op (ev_ne rfl rfl) ?_
  refine SL.nil ?_
  refine CW.ifp rfl (fun hl => ?_) (fun hl => ?_)
  · skip
    refine CW.seq ?_
    refine CW.region ?_
    refine SL.op (ev_assign rfl) ?_
    refine SL.nil ?_
    refine CW.ret ?_
    refine RetOk.one rfl ?_
    exact ⟨⟨false, rfl, by constructor; (intro h; cases h); (intro h; subst h; exact absurd rfl hl)⟩, Kp.refl _ _⟩
  · skip
    refine CW.skip ?_
    refine CW.seq ?_
    refine CW.seq ?_
    refine CW.region ?_
    refine SL.op (ev_assign rfl) ?_
    refine SL.nil ?_
    refine CW.block ?_
    refine CW.loop (α := Nat) (fun i => [(0, .slice A xs.length c), (1, .slice B ys.length d), (5, .int .i64 i)]) (fun i w => i ≤ xs.length ∧ xs.take i = ys.take i ∧ Kp [] w0 w) (fun i => xs.length - i) 0 (by repeat (first | exact Sub.nil _ | refine Sub.cons rfl ?_)) (⟨by omega, rfl, Kp.refl _ _⟩) ?_
    rintro i w ⟨hi, hg, kp0⟩; have st0 := st.keep kp0; have up0 := Up.keep kp0 st.lt
    refine CW.seq ?_
    refine CW.seq ?_
    refine CW.region ?_
    refine SL.op (ev_move rfl) ?_
    refine SL.op (ev_move rfl) ?_
    refine SL.op (ev_lenS els_slapi_Xattr rfl) ?_
    refine SL.op (ev_lt rfl rfl) ?_
    refine SL.nil ?_
    refine CW.ifp rfl (fun h => ?_) (fun h => ?_)
    · skip
      refine CW.skip ?_
      refine CW.seq ?_
      have hlt : i < xs.length := by omega
      obtain ⟨x, hx⟩ : ∃ x, xs[i]? = some x := ⟨_, List.getElem?_eq_getElem hlt⟩
      obtain ⟨a, vv, ha, hia, hc, hsl⟩ := (hv.up up0).at' hx
      subst ha
      obtain ⟨Av, cv, rfl, hncv, hrv⟩ := Sl.len hsl
      obtain ⟨y, hy⟩ : ∃ y, ys[i]? = some y := ⟨_, List.getElem?_eq_getElem (by omega)⟩
      obtain ⟨b, vu, hb', hib, hd, hsu⟩ := (hu.up up0).at' hy
      subst hb'
      obtain ⟨Au, cu, rfl, hncu, hru⟩ := Sl.len hsu
      refine CW.block ?_
      refine CW.seq ?_
      refine CW.quiet mixed (by kernel_rfl) ?_
      refine QL.op (ev_move rfl) ?_
      refine QL.op (ev_move rfl) ?_
      refine QL.op (ev_idx els_slapi_Xattr rfl rfl (by omega) (by omega)) ?_
      refine QL.op (ev_fld fld_api_Xattr_Name rfl) ?_
      refine QL.op (ev_load one_string rfl (hc 0 _ rfl)) ?_
      refine QL.op (ev_move rfl) ?_
      refine QL.op (ev_move rfl) ?_
      refine QL.op (ev_idx els_slapi_Xattr rfl rfl (by omega) (by omega)) ?_
      refine QL.op (ev_fld fld_api_Xattr_Name rfl) ?_
      refine QL.op (ev_load one_string rfl (hd 0 _ rfl)) ?_
      refine QL.op (ev_sne rfl rfl) ?_
      refine QL.op (ev_move rfl) ?_
      refine QL.cutPut 14 42 (.bool (!decide (x.name = y.name ∧ x.val = y.val))) ?_ ?_
      · by_cases hj1 : x.name ≠ y.name
        · skip
          refine QL.off rfl ?_ ?_
          · first | exact decide_eq_true hj1 | exact hj1 | simpa using hj1
          refine QL.off rfl ?_ ?_
          · first | exact decide_eq_true hj1 | exact hj1 | simpa using hj1
          refine QL.off rfl ?_ ?_
          · first | exact decide_eq_true hj1 | exact hj1 | simpa using hj1
          refine QL.off rfl ?_ ?_
          · first | exact decide_eq_true hj1 | exact hj1 | simpa using hj1
          refine QL.off rfl ?_ ?_
          · first | exact decide_eq_true hj1 | exact hj1 | simpa using hj1
          refine QL.off rfl ?_ ?_
          · first | exact decide_eq_true hj1 | exact hj1 | simpa using hj1
          refine QL.off rfl ?_ ?_
          · first | exact decide_eq_true hj1 | exact hj1 | simpa using hj1
          refine QL.off rfl ?_ ?_
          · first | exact decide_eq_true hj1 | exact hj1 | simpa using hj1
          refine QL.off rfl ?_ ?_
          · first | exact decide_eq_true hj1 | exact hj1 | simpa using hj1
          refine QL.off rfl ?_ ?_
          · first | exact decide_eq_true hj1 | exact hj1 | simpa using hj1
          refine QL.off rfl ?_ ?_
          · first | exact decide_eq_true hj1 | exact hj1 | simpa using hj1
          refine QL.off rfl ?_ ?_
          · first | exact decide_eq_true hj1 | exact hj1 | simpa using hj1
          refine QL.off rfl ?_ ?_
          · first | exact decide_eq_true hj1 | exact hj1 | simpa using hj1
          refine QL.op (ev_pickT rfl rfl (by first | exact decide_eq_true hj1 | exact hj1 | simpa using hj1)) ?_
          exact QL.nil (Sub.put (by exact bsome (by grind)) (by repeat (first | exact Sub.refl _ | refine Sub.skip rfl ?_)))
        · skip
          refine QL.on rfl ?_ ?_
          · first | exact decide_eq_false hj1 | simpa using hj1
          refine QL.op (ev_move rfl) ?_
          refine QL.on rfl ?_ ?_
          · first | exact decide_eq_false hj1 | simpa using hj1
          refine QL.op (ev_move rfl) ?_
          refine QL.on rfl ?_ ?_
          · first | exact decide_eq_false hj1 | simpa using hj1
          refine QL.op (ev_idx els_slapi_Xattr rfl rfl (by omega) (by omega)) ?_
          refine QL.on rfl ?_ ?_
          · first | exact decide_eq_false hj1 | simpa using hj1
          refine QL.op (ev_fld fld_api_Xattr_Value rfl) ?_
          refine QL.on rfl ?_ ?_
          · first | exact decide_eq_false hj1 | simpa using hj1
          refine QL.op (ev_load one_sluint8 rfl (hc 1 _ rfl)) ?_
          refine QL.on rfl ?_ ?_
          · first | exact decide_eq_false hj1 | simpa using hj1
          refine QL.op (ev_str ⟨_, und_sluint8, und_uint8⟩ und_string rfl rfl (Rd.str hrv)) ?_
          refine QL.on rfl ?_ ?_
          · first | exact decide_eq_false hj1 | simpa using hj1
          refine QL.op (ev_move rfl) ?_
          refine QL.on rfl ?_ ?_
          · first | exact decide_eq_false hj1 | simpa using hj1
          refine QL.op (ev_move rfl) ?_
          refine QL.on rfl ?_ ?_
          · first | exact decide_eq_false hj1 | simpa using hj1
          refine QL.op (ev_idx els_slapi_Xattr rfl rfl (by omega) (by omega)) ?_
          refine QL.on rfl ?_ ?_
          · first | exact decide_eq_false hj1 | simpa using hj1
          refine QL.op (ev_fld fld_api_Xattr_Value rfl) ?_
          refine QL.on rfl ?_ ?_
          · first | exact decide_eq_false hj1 | simpa using hj1
          refine QL.op (ev_load one_sluint8 rfl (hd 1 _ rfl)) ?_
          refine QL.on rfl ?_ ?_
          · first | exact decide_eq_false hj1 | simpa using hj1
          refine QL.op (ev_str ⟨_, und_sluint8, und_uint8⟩ und_string rfl rfl (Rd.str hru)) ?_
          refine QL.on rfl ?_ ?_
          · first | exact decide_eq_false hj1 | simpa using hj1
          refine QL.op (ev_sne rfl rfl) ?_
          refine QL.op (ev_pickF rfl rfl (by first | exact decide_eq_false hj1 | simpa using hj1)) ?_
          exact QL.nil (Sub.put (by exact bsome (by grind)) (by repeat (first | exact Sub.refl _ | refine Sub.skip rfl ?_)))
      refine QL.nil ?_; intro w1 kp1; have st1 := st0.keep kp1; have up1 := Up.keep kp1 st0.lt
      refine CW.cond rfl (fun hn => ?_) (fun hn => ?_)
      · skip
        refine CW.seq ?_
        refine CW.region ?_
        refine SL.op (ev_assign rfl) ?_
        refine SL.nil ?_
        refine CW.ret ?_
        refine RetOk.one rfl ?_
        refine ⟨⟨false, rfl, by simp, fun h => ?_⟩, st1.kp⟩
        subst h
        rw [hx] at hy; injection hy with hy; subst hy
        simp at hn
      · skip
        refine CW.skip ?_
        refine CW.region ?_
        refine SL.op (ev_move rfl) ?_
        refine SL.op (ev_add rfl rfl (by omega) (by omega)) ?_
        refine SL.op (ev_assign rfl) ?_
        refine SL.nil ?_
        refine ⟨i + 1, by repeat (first | exact Sub.nil _ | refine Sub.cons rfl ?_), ⟨hlt, ?_, st1.kp⟩, by omega⟩
        have hxy : x = y := by
          have : x.name = y.name ∧ x.val = y.val := by simpa using hn
          cases x; cases y; simp only at this; rw [this.1, this.2]
        rw [take_snoc hx, take_snoc hy, hg, hxy]
    · skip
      refine CW.exit ?_
      refine CW.seq ?_
      refine CW.region ?_
      refine SL.op (ev_assign rfl) ?_
      refine SL.nil ?_
      refine CW.ret ?_
      refine RetOk.one rfl ?_
      have hl2 : xs.length = ys.length := by simp only [ne_eq, Decidable.not_not] at hl; omega
      have h1 : xs = ys := by
        rwa [List.take_of_length_le (by omega), List.take_of_length_le (by omega)] at hg
      exact ⟨⟨true, rfl, by simp [h1]⟩, kp0⟩
end Go.Proofs.Ytodaagikppaidaa.Cw
