/- xattr.one and xattr.Check answer as told. -/
import Derived.Test.YtodaagikppaidaaCwXat1
/-! one, Check, at. -/
namespace Go.Proofs.Ytodaagikppaidaa.Cw
open Go Go.Proofs.Ytodaagikppaidaa.Eng Go.Proofs.Ytodaagikppaidaa.Cl
theorem Sl.len {I : Nat → Prop} {w : World} {v : Value} {s : List UInt8} (h : Sl I w 1 v (bytesV s)) : ∃ A c, v = .slice A s.length c ∧ s.length ≤ c ∧ Rd I w A (bytesV s) := by
  obtain ⟨A, n, c, rfl, hnc, hl, hr⟩ := h
  have := bytesV_length s
  have : n = s.length := by omega
  subst this
  exact ⟨A, c, rfl, hnc, hr⟩
theorem w_one {I : Nat → Prop} {w : World} (hI : ∀ g, I g → g < w.heap.size) {v : Value} {name val : List UInt8} (hv : Sl I w 1 v (bytesV val)) : Ret P F_xattr_one [T name, v] w (fun v w' => v = .bool (xone name val) ∧ w' = w) := by
  refine Ret.enter func_xattr_one rfl nt_xattr_one ?_
  have st := St.start I w hI []
  obtain ⟨A, c, rfl, hnc, hr⟩ := Sl.len hv
  refine CW.seq ?_
  refine CW.region ?_
  refine SL.op (ev_assign rfl) ?_
  refine SL.nil ?_
  refine CW.seq ?_
  refine CW.region ?_
  refine SL.op (ev_move rfl) ?_
  refine SL.op (ev_lenL und_string rfl) ?_
  refine SL.op (ev_ge rfl rfl) ?_
  refine SL.op (ev_move rfl) ?_
  refine SL.cutPut 4 12 (.bool (decide (1 ≤ name.length) && decide (name.length ≤ 12))) ?_ ?_
  · by_cases hj1 : (1 : Int) ≤ (name.length : Int)
    · skip
      refine SL.on rfl ?_ ?_
      · first | exact decide_eq_true hj1 | exact hj1 | simpa using hj1
      refine SL.op (ev_move rfl) ?_
      refine SL.on rfl ?_ ?_
      · first | exact decide_eq_true hj1 | exact hj1 | simpa using hj1
      refine SL.op (ev_lenL und_string rfl) ?_
      refine SL.on rfl ?_ ?_
      · first | exact decide_eq_true hj1 | exact hj1 | simpa using hj1
      refine SL.op (ev_le rfl rfl) ?_
      refine SL.op (ev_pickT rfl rfl (by first | exact decide_eq_true hj1 | exact hj1 | simpa using hj1)) ?_
      exact SL.nil ⟨rfl, Sub.put (by exact bsome (by grind)) (by repeat (first | exact Sub.refl _ | refine Sub.skip rfl ?_))⟩
    · skip
      refine SL.off rfl ?_ ?_
      · first | exact decide_eq_false hj1 | simpa using hj1
      refine SL.off rfl ?_ ?_
      · first | exact decide_eq_false hj1 | simpa using hj1
      refine SL.off rfl ?_ ?_
      · first | exact decide_eq_false hj1 | simpa using hj1
      refine SL.op (ev_pickF rfl rfl (by first | exact decide_eq_false hj1 | simpa using hj1)) ?_
      exact SL.nil ⟨rfl, Sub.put (by exact bsome (by grind)) (by repeat (first | exact Sub.refl _ | refine Sub.skip rfl ?_))⟩
  refine SL.op (ev_move rfl) ?_
  refine SL.cutPut 4 17 (.bool (decide (1 ≤ name.length) && decide (name.length ≤ 12) && !decide ((0 : UInt8) ∈ name))) ?_ ?_
  · by_cases hj2 : (decide (1 ≤ name.length) && decide (name.length ≤ 12)) = true
    · skip
      refine SL.on rfl ?_ ?_
      · first | exact decide_eq_true hj2 | exact hj2 | simpa using hj2
      refine SL.op (ev_move rfl) ?_
      refine SL.on rfl ?_ ?_
      · first | exact decide_eq_true hj2 | exact hj2 | simpa using hj2
      refine SL.call call_strings_Contains rfl (w_Contains1 name 0 _) ?_; rintro v1 w1 ⟨rfl, rfl⟩
      refine SL.on rfl ?_ ?_
      · first | exact decide_eq_true hj2 | exact hj2 | simpa using hj2
      refine SL.op (ev_not rfl) ?_
      refine SL.op (ev_pickT rfl rfl (by first | exact decide_eq_true hj2 | exact hj2 | simpa using hj2)) ?_
      exact SL.nil ⟨rfl, Sub.put (by exact bsome (by grind)) (by repeat (first | exact Sub.refl _ | refine Sub.skip rfl ?_))⟩
    · skip
      refine SL.off rfl ?_ ?_
      · first | exact decide_eq_false hj2 | simpa using hj2
      refine SL.off rfl ?_ ?_
      · first | exact decide_eq_false hj2 | simpa using hj2
      refine SL.off rfl ?_ ?_
      · first | exact decide_eq_false hj2 | simpa using hj2
      refine SL.op (ev_pickF rfl rfl (by first | exact decide_eq_false hj2 | simpa using hj2)) ?_
      exact SL.nil ⟨rfl, Sub.put (by exact bsome (by grind)) (by repeat (first | exact Sub.refl _ | refine Sub.skip rfl ?_))⟩
  refine SL.op (ev_move rfl) ?_
  refine SL.cutPut 4 22 (.bool (xone name val)) ?_ ?_
  · by_cases hj3 : (decide (1 ≤ name.length) && decide (name.length ≤ 12) && !decide ((0 : UInt8) ∈ name)) = true
    · skip
      refine SL.on rfl ?_ ?_
      · first | exact decide_eq_true hj3 | exact hj3 | simpa using hj3
      refine SL.op (ev_move rfl) ?_
      refine SL.on rfl ?_ ?_
      · first | exact decide_eq_true hj3 | exact hj3 | simpa using hj3
      refine SL.op (ev_lenS els_sluint8 rfl) ?_
      refine SL.on rfl ?_ ?_
      · first | exact decide_eq_true hj3 | exact hj3 | simpa using hj3
      refine SL.op (ev_le rfl rfl) ?_
      refine SL.op (ev_pickT rfl rfl (by first | exact decide_eq_true hj3 | exact hj3 | simpa using hj3)) ?_
      exact SL.nil ⟨rfl, Sub.put (by exact bsome (by grind [xone])) (by repeat (first | exact Sub.refl _ | refine Sub.skip rfl ?_))⟩
    · skip
      refine SL.off rfl ?_ ?_
      · first | exact decide_eq_false hj3 | simpa using hj3
      refine SL.off rfl ?_ ?_
      · first | exact decide_eq_false hj3 | simpa using hj3
      refine SL.off rfl ?_ ?_
      · first | exact decide_eq_false hj3 | simpa using hj3
      refine SL.op (ev_pickF rfl rfl (by first | exact decide_eq_false hj3 | simpa using hj3)) ?_
      exact SL.nil ⟨rfl, Sub.put (by exact bsome (by grind [xone])) (by repeat (first | exact Sub.refl _ | refine Sub.skip rfl ?_))⟩
  refine SL.op (ev_assign rfl) ?_
  refine SL.nil ?_
  refine CW.ret ?_
  refine RetOk.one rfl ?_
  exact ⟨rfl, rfl⟩
theorem q_one {S : List Nat} {w0 w : World} {I : Nat → Prop} {M : List Bk} (st : St S w0 I w M) {v : Value} {name val : List UInt8} (hv : Sl I w 1 v (bytesV val)) : ∀ w', Kp [] w w' → Ret P F_xattr_one [T name, v] w' (fun u w'' => u = .bool (xone name val) ∧ Kp [] w' w'') := fun w' kp =>
  (w_one (st.keep kp).lt (hv.up (Up.keep kp st.lt))).mono (fun u w'' h => ⟨h.1, h.2 ▸ Kp.refl _ _⟩)
theorem getD_of {l : List Xa} {i : Nat} {x : Xa} (h : l[i]? = some x) : l.getD i default = x := by simp [List.getD_eq_getElem?_getD, h]
theorem w_Check {I : Nat → Prop} {w : World} (hI : ∀ g, I g → g < w.heap.size) {v : Value} {xs : List Xa} (hv : XS I w v xs) (hb : xs.length ≤ 9223372036854775807) : Ret P F_xattr_Check [v] w (fun v w' => v = .int .i64 (if xright xs then 0 else 3) ∧ Kp [] w w') := by
  refine Ret.enter func_xattr_Check rfl nt_xattr_Check ?_
  have st := St.start I w hI []
  have hv0 := hv
  obtain ⟨A, c, rfl, hnc, he⟩ := hv0
  obtain ⟨w0, hw0⟩ : ∃ w0, w0 = w := ⟨_, rfl⟩
  subst hw0
  refine CW.seq ?_
  refine CW.region ?_
  refine SL.op (ev_assign rfl) ?_
  refine SL.nil ?_
  refine CW.seq ?_
  refine CW.seq ?_
  refine CW.region ?_
  refine SL.op (ev_move rfl) ?_
  refine SL.op (ev_lenS els_slapi_Xattr rfl) ?_
  refine SL.op (ev_gt rfl rfl) ?_
  refine SL.nil ?_
  refine CW.ifp rfl (fun h4 => ?_) (fun h4 => ?_)
  · skip
    refine CW.seq ?_
    refine CW.region ?_
    refine SL.op (ev_assign rfl) ?_
    refine SL.nil ?_
    refine CW.ret ?_
    refine RetOk.one rfl ?_
    have : xright xs = false := by simp [xright]; intro h; omega
    simp [this, Kp.refl]
  · skip
    refine CW.skip ?_
    refine CW.seq ?_
    refine CW.seq ?_
    refine CW.region ?_
    refine SL.op (ev_move rfl) ?_
    refine SL.op (ev_lenS els_slapi_Xattr rfl) ?_
    refine SL.op (ev_move rfl) ?_
    refine SL.nil ?_
    refine CW.block ?_
    refine CW.loop (α := Nat) (fun i => [(0, .slice A xs.length c), (8, .slice A xs.length c), (9, .int .i64 xs.length), (10, .int .i64 i)]) (fun i w => i ≤ xs.length ∧ (∀ j, j < i → xgood xs j = true) ∧ Kp [] w0 w) (fun i => xs.length - i) 0 (by repeat (first | exact Sub.nil _ | refine Sub.cons rfl ?_)) (⟨by omega, fun _ h => by omega, Kp.refl _ _⟩) ?_
    rintro i w ⟨hi, hg, kp0⟩; have st0 := st.keep kp0; have up0 := Up.keep kp0 st.lt
    refine CW.seq ?_
    refine CW.region ?_
    refine SL.op (ev_lt rfl rfl) ?_
    refine SL.nil ?_
    refine CW.seq ?_
    refine CW.ifp rfl (fun h => ?_) (fun h => ?_)
    · skip
      refine CW.skip ?_
      refine CW.seq ?_
      have hlt : i < xs.length := by omega
      obtain ⟨x, hx⟩ : ∃ x, xs[i]? = some x := ⟨_, List.getElem?_eq_getElem hlt⟩
      obtain ⟨a, vv, ha, hia, hc, hsl⟩ := (hv.up up0).at' hx
      subst ha
      obtain ⟨Av, cv, rfl, hncv, hrv⟩ := Sl.len hsl
      refine CW.block ?_
      refine CW.seq ?_
      refine CW.region ?_
      refine SL.op (ev_move rfl) ?_
      refine SL.op (ev_idx els_slapi_Xattr rfl rfl (by omega) (by omega)) ?_
      refine SL.op (ev_loadN agg_api_Xattr rfl hc) ?_
      refine SL.alloc st0 zero_api_Xattr ?_; intro w1 g1 st1 up1 kp1 hg1
      refine SL.op (ev_assign rfl) ?_
      refine SL.storeN st1 0 agg_api_Xattr rfl rfl rfl ?_; intro w2 st2 up2 kp2
      refine SL.nil ?_
      refine CW.seq ?_
      refine CW.quiet mixed (by kernel_rfl) ?_
      refine QL.op (ev_fld fld_api_Xattr_Name rfl) ?_
      refine QL.op (ev_loadM st2 0 one_string rfl rfl rfl) ?_
      refine QL.op (ev_fld fld_api_Xattr_Value rfl) ?_
      refine QL.op (ev_loadM st2 0 one_sluint8 rfl rfl rfl) ?_
      have hsl2 := (hsl.up up1).up up2
      refine QL.call call_xattr_one rfl (q_one st2 hsl2) ?_
      refine QL.op (ev_not rfl) ?_
      refine QL.op (ev_move rfl) ?_
      refine QL.cutPut 14 35 (.bool (!xgood xs i)) ?_ ?_
      · by_cases hj1 : (!xone x.name x.val) = true
        · skip
          refine QL.off rfl ?_ ?_
          · first | exact decide_eq_true hj1 | exact hj1 | simpa using hj1
          refine QL.off rfl ?_ ?_
          · first | exact decide_eq_true hj1 | exact hj1 | simpa using hj1
          refine QL.off rfl ?_ ?_
          · first | exact decide_eq_true hj1 | exact hj1 | simpa using hj1
          refine QL.offU rfl ?_
          refine QL.offU rfl ?_
          refine QL.offU rfl ?_
          refine QL.offU rfl ?_
          refine QL.offU rfl ?_
          refine QL.offU rfl ?_
          refine QL.offU rfl ?_
          refine QL.offU rfl ?_
          refine QL.offU rfl ?_
          refine QL.off rfl ?_ ?_
          · first | exact decide_eq_true hj1 | exact hj1 | simpa using hj1
          refine QL.op (ev_pickT rfl rfl (by first | exact decide_eq_true hj1 | exact hj1 | simpa using hj1)) ?_
          exact QL.nil (Sub.put (by exact bsome (by simp only [xgood, getD_of hx]; first | (simp at hj1; simp [hj1]; done) | skip)) (by repeat (first | exact Sub.refl _ | refine Sub.skip rfl ?_)))
        · skip
          refine QL.on rfl ?_ ?_
          · first | exact decide_eq_false hj1 | simpa using hj1
          refine QL.op (ev_move rfl) ?_
          refine QL.on rfl ?_ ?_
          · first | exact decide_eq_false hj1 | simpa using hj1
          refine QL.op (ev_gt rfl rfl) ?_
          refine QL.on rfl ?_ ?_
          · first | exact decide_eq_false hj1 | simpa using hj1
          refine QL.op (ev_move rfl) ?_
          refine QL.cutPut 10 34 (.bool (!(decide (i = 0) || slt (xs.getD (i - 1) default).name x.name))) ?_ ?_
          · by_cases hj2 : (0 : Int) < (i : Int)
            · skip
              refine QL.on rfl ?_ ?_
              · first | exact decide_eq_true hj2 | exact hj2 | simpa using hj2
              refine QL.op (ev_move rfl) ?_
              refine QL.on rfl ?_ ?_
              · first | exact decide_eq_true hj2 | exact hj2 | simpa using hj2
              refine QL.op (ev_move rfl) ?_
              refine QL.on rfl ?_ ?_
              · first | exact decide_eq_true hj2 | exact hj2 | simpa using hj2
              refine QL.op (ev_sub rfl rfl (by omega) (by omega)) ?_
              refine QL.on rfl ?_ ?_
              · first | exact decide_eq_true hj2 | exact hj2 | simpa using hj2
              refine QL.op (ev_idx els_slapi_Xattr rfl rfl (by omega) (by omega)) ?_
              refine QL.on rfl ?_ ?_
              · first | exact decide_eq_true hj2 | exact hj2 | simpa using hj2
              refine QL.op (ev_fld fld_api_Xattr_Name rfl) ?_
              refine QL.on rfl ?_ ?_
              · first | exact decide_eq_true hj2 | exact hj2 | simpa using hj2
              obtain ⟨y, hy⟩ : ∃ y, xs[i - 1]? = some y := ⟨_, List.getElem?_eq_getElem (by omega)⟩
              obtain ⟨a', vv', ha', hia', hc', hsl'⟩ := (((hv.up up0).up up1).up up2).at' hy
              injection ha' with ha'
              subst ha' 
              refine QL.op (ev_load one_string rfl (by rw [show ((i : Int) - 1).toNat = i - 1 by omega]; exact hc' 0 _ rfl)) ?_
              refine QL.on rfl ?_ ?_
              · first | exact decide_eq_true hj2 | exact hj2 | simpa using hj2
              refine QL.op (ev_fld fld_api_Xattr_Name rfl) ?_
              refine QL.on rfl ?_ ?_
              · first | exact decide_eq_true hj2 | exact hj2 | simpa using hj2
              refine QL.op (ev_loadM st2 0 one_string rfl rfl rfl) ?_
              refine QL.on rfl ?_ ?_
              · first | exact decide_eq_true hj2 | exact hj2 | simpa using hj2
              refine QL.op (ev_sge rfl rfl) ?_
              refine QL.on rfl ?_ ?_
              · first | exact decide_eq_false hj1 | simpa using hj1
              refine QL.op (ev_pickT rfl rfl (by first | exact decide_eq_true hj2 | exact hj2 | simpa using hj2)) ?_
              exact QL.nil (Sub.put (by exact bsome (by grind)) (by repeat (first | exact Sub.refl _ | refine Sub.skip rfl ?_)))
            · skip
              refine QL.off rfl ?_ ?_
              · first | exact decide_eq_false hj2 | simpa using hj2
              refine QL.off rfl ?_ ?_
              · first | exact decide_eq_false hj2 | simpa using hj2
              refine QL.off rfl ?_ ?_
              · first | exact decide_eq_false hj2 | simpa using hj2
              refine QL.off rfl ?_ ?_
              · first | exact decide_eq_false hj2 | simpa using hj2
              refine QL.off rfl ?_ ?_
              · first | exact decide_eq_false hj2 | simpa using hj2
              refine QL.off rfl ?_ ?_
              · first | exact decide_eq_false hj2 | simpa using hj2
              refine QL.off rfl ?_ ?_
              · first | exact decide_eq_false hj2 | simpa using hj2
              refine QL.off rfl ?_ ?_
              · first | exact decide_eq_false hj2 | simpa using hj2
              refine QL.off rfl ?_ ?_
              · first | exact decide_eq_false hj2 | simpa using hj2
              refine QL.on rfl ?_ ?_
              · first | exact decide_eq_false hj1 | simpa using hj1
              refine QL.op (ev_pickF rfl rfl (by first | exact decide_eq_false hj2 | simpa using hj2)) ?_
              exact QL.nil (Sub.put (by exact bsome (by grind)) (by repeat (first | exact Sub.refl _ | refine Sub.skip rfl ?_)))
          refine QL.op (ev_pickF rfl rfl (by first | exact decide_eq_false hj1 | simpa using hj1)) ?_
          exact QL.nil (Sub.put (by exact bsome (by simp only [xgood, getD_of hx]; first | (simp at hj1; simp [hj1]; done) | skip)) (by repeat (first | exact Sub.refl _ | refine Sub.skip rfl ?_)))
      refine QL.nil ?_; intro w4 kp4; have st4 := st2.keep kp4; have up4 := Up.keep kp4 st2.lt
      refine CW.cond rfl (fun hb => ?_) (fun hb => ?_)
      · skip
        refine CW.seq ?_
        refine CW.region ?_
        refine SL.op (ev_assign rfl) ?_
        refine SL.nil ?_
        refine CW.ret ?_
        refine RetOk.one rfl ?_
        have : xright xs = false := by
          rw [← Bool.not_eq_true, xright_iff]
          intro h
          have := h.2 i hlt
          rw [this] at hb; cases hb
        rw [this]
        exact ⟨rfl, st4.kp⟩
      · skip
        refine CW.skip ?_
        refine CW.region ?_
        refine SL.op (ev_add rfl rfl (by omega) (by omega)) ?_
        refine SL.op (ev_move rfl) ?_
        refine SL.nil ?_
        refine ⟨i + 1, by repeat (first | exact Sub.nil _ | refine Sub.cons rfl ?_), ⟨hlt, fun j hj => ?_, st4.kp⟩, by omega⟩
        rcases Nat.lt_succ_iff_lt_or_eq.1 hj with hj | rfl
        · exact hg j hj
        · simpa using hb
    · skip
      refine CW.exit ?_
      refine CW.seq ?_
      refine CW.region ?_
      refine SL.op (ev_assign rfl) ?_
      refine SL.nil ?_
      refine CW.ret ?_
      refine RetOk.one rfl ?_
      have : xright xs = true := (xright_iff xs).2 ⟨by omega, fun j hj => hg j (by omega)⟩
      rw [this]
      exact ⟨rfl, kp0⟩
end Go.Proofs.Ytodaagikppaidaa.Cw
