/- One, Right and Index of the reference answer as told. -/
import Derived.Test.YtodaagikppaidaaCwXat8
/-! One, Right, Index, Same. -/
namespace Go.Proofs.Ytodaagikppaidaa.Cw
open Go Go.Proofs.Ytodaagikppaidaa.Eng Go.Proofs.Ytodaagikppaidaa.Cl
theorem w_rOne {I : Nat → Prop} {w : World} (hI : ∀ g, I g → g < w.heap.size) {v : Value} {name val : List UInt8} (hv : Sl I w 1 v (bytesV val)) : Ret P F_cloisterref16_One [T name, v] w (fun v w' => v = .bool (xone name val) ∧ w' = w) := by
  refine Ret.enter func_cloisterref16_One rfl nt_cloisterref16_One ?_
  have st := St.start I w hI []
  obtain ⟨A, c, rfl, hnc, hr⟩ := Sl.len hv
  obtain ⟨w0, hw0⟩ : ∃ w0, w0 = w := ⟨_, rfl⟩
  subst hw0
  refine CW.seq ?_
  refine CW.region ?_
  refine SL.op (ev_assign rfl) ?_
  refine SL.nil ?_
  refine CW.seq ?_
  refine CW.seq ?_
  refine CW.region ?_
  refine SL.op (ev_move rfl) ?_
  refine SL.op (ev_lenL und_string rfl) ?_
  refine SL.op (ev_lt rfl rfl) ?_
  refine SL.op (ev_move rfl) ?_
  refine SL.cutPut 4 13 (.bool (decide (name.length < 1) || decide (12 < name.length))) ?_ ?_
  · by_cases hj1 : (name.length : Int) < 1
    · skip
      refine SL.off rfl ?_ ?_
      · first | exact decide_eq_true hj1 | exact hj1 | simpa using hj1
      refine SL.off rfl ?_ ?_
      · first | exact decide_eq_true hj1 | exact hj1 | simpa using hj1
      refine SL.off rfl ?_ ?_
      · first | exact decide_eq_true hj1 | exact hj1 | simpa using hj1
      refine SL.op (ev_pickT rfl rfl (by first | exact decide_eq_true hj1 | exact hj1 | simpa using hj1)) ?_
      exact SL.nil ⟨rfl, Sub.put (by exact bsome (by grind)) (by repeat (first | exact Sub.refl _ | refine Sub.skip rfl ?_))⟩
    · skip
      refine SL.on rfl ?_ ?_
      · first | exact decide_eq_false hj1 | simpa using hj1
      refine SL.op (ev_move rfl) ?_
      refine SL.on rfl ?_ ?_
      · first | exact decide_eq_false hj1 | simpa using hj1
      refine SL.op (ev_lenL und_string rfl) ?_
      refine SL.on rfl ?_ ?_
      · first | exact decide_eq_false hj1 | simpa using hj1
      refine SL.op (ev_gt rfl rfl) ?_
      refine SL.op (ev_pickF rfl rfl (by first | exact decide_eq_false hj1 | simpa using hj1)) ?_
      exact SL.nil ⟨rfl, Sub.put (by exact bsome (by grind)) (by repeat (first | exact Sub.refl _ | refine Sub.skip rfl ?_))⟩
  refine SL.op (ev_move rfl) ?_
  refine SL.cutPut 4 18 (.bool (decide (name.length < 1) || decide (12 < name.length) || decide (40 < val.length))) ?_ ?_
  · by_cases hj2 : (decide (name.length < 1) || decide (12 < name.length)) = true
    · skip
      refine SL.off rfl ?_ ?_
      · first | exact decide_eq_true hj2 | exact hj2 | simpa using hj2
      refine SL.off rfl ?_ ?_
      · first | exact decide_eq_true hj2 | exact hj2 | simpa using hj2
      refine SL.off rfl ?_ ?_
      · first | exact decide_eq_true hj2 | exact hj2 | simpa using hj2
      refine SL.op (ev_pickT rfl rfl (by first | exact decide_eq_true hj2 | exact hj2 | simpa using hj2)) ?_
      exact SL.nil ⟨rfl, Sub.put (by exact bsome (by grind)) (by repeat (first | exact Sub.refl _ | refine Sub.skip rfl ?_))⟩
    · skip
      refine SL.on rfl ?_ ?_
      · first | exact decide_eq_false hj2 | simpa using hj2
      refine SL.op (ev_move rfl) ?_
      refine SL.on rfl ?_ ?_
      · first | exact decide_eq_false hj2 | simpa using hj2
      refine SL.op (ev_lenS els_sluint8 rfl) ?_
      refine SL.on rfl ?_ ?_
      · first | exact decide_eq_false hj2 | simpa using hj2
      refine SL.op (ev_gt rfl rfl) ?_
      refine SL.op (ev_pickF rfl rfl (by first | exact decide_eq_false hj2 | simpa using hj2)) ?_
      exact SL.nil ⟨rfl, Sub.put (by exact bsome (by grind)) (by repeat (first | exact Sub.refl _ | refine Sub.skip rfl ?_))⟩
  refine SL.nil ?_
  refine CW.cond rfl (fun h1 => ?_) (fun h1 => ?_)
  · skip
    refine CW.seq ?_
    refine CW.region ?_
    refine SL.op (ev_assign rfl) ?_
    refine SL.nil ?_
    refine CW.ret ?_
    refine RetOk.one rfl ?_
    exact ⟨by rw [show xone name val = false by grind [xone]], rfl⟩
  · skip
    refine CW.skip ?_
    refine CW.seq ?_
    refine CW.seq ?_
    refine CW.region ?_
    refine SL.op (ev_assign rfl) ?_
    refine SL.nil ?_
    refine CW.block ?_
    refine CW.loop (α := Nat) (fun i => [(0, T name), (5, .int .i64 i)]) (fun i w => i ≤ name.length ∧ (∀ j c, name[j]? = some c → j < i → c ≠ 0) ∧ w = w0) (fun i => name.length - i) 0 (by repeat (first | exact Sub.nil _ | refine Sub.cons rfl ?_)) (⟨by omega, fun _ _ _ h => by omega, rfl⟩) ?_
    rintro i w ⟨hi, hg, rfl⟩
    have hn12 : name.length ≤ 12 := by simp at h1; omega
    refine CW.seq ?_
    refine CW.seq ?_
    refine CW.region ?_
    refine SL.op (ev_move rfl) ?_
    refine SL.op (ev_move rfl) ?_
    refine SL.op (ev_lenL und_string rfl) ?_
    refine SL.op (ev_lt rfl rfl) ?_
    refine SL.nil ?_
    refine CW.ifp rfl (fun h => ?_) (fun h => ?_)
    · skip
      refine CW.skip ?_
      refine CW.seq ?_
      obtain ⟨c0, hc0⟩ : ∃ c, name[i]? = some c := ⟨_, List.getElem?_eq_getElem (by omega)⟩
      refine CW.block ?_
      refine CW.seq ?_
      refine CW.region ?_
      refine SL.op (ev_move rfl) ?_
      refine SL.op (ev_move rfl) ?_
      refine SL.op (ev_at und_string rfl rfl (by omega) hc0) ?_
      refine SL.op (ev_eq rfl rfl) ?_
      refine SL.nil ?_
      refine CW.ifp rfl (fun hz => ?_) (fun hz => ?_)
      · skip
        refine CW.seq ?_
        refine CW.region ?_
        refine SL.op (ev_assign rfl) ?_
        refine SL.nil ?_
        refine CW.ret ?_
        refine RetOk.one rfl ?_
        have h0 : (0 : UInt8) ∈ name := by
          have : c0 = 0 := UInt8.toNat_inj.1 (by simpa using hz)
          rw [← this]; exact List.mem_of_getElem? hc0
        exact ⟨by rw [show xone name val = false by grind [xone]], rfl⟩
      · skip
        refine CW.skip ?_
        refine CW.region ?_
        refine SL.op (ev_move rfl) ?_
        refine SL.op (ev_add rfl rfl (by omega) (by omega)) ?_
        refine SL.op (ev_assign rfl) ?_
        refine SL.nil ?_
        refine ⟨i + 1, by repeat (first | exact Sub.nil _ | refine Sub.cons rfl ?_), ⟨by omega, fun j c hj hjl => ?_, rfl⟩, by omega⟩
        rcases Nat.lt_succ_iff_lt_or_eq.1 hjl with hjl | rfl
        · exact hg j c hj hjl
        · rw [hc0] at hj; injection hj with hj; subst hj
          intro e; subst e; exact hz rfl
    · skip
      refine CW.exit ?_
      refine CW.seq ?_
      refine CW.region ?_
      refine SL.op (ev_assign rfl) ?_
      refine SL.nil ?_
      refine CW.ret ?_
      refine RetOk.one rfl ?_
      have h0 : ¬ (0 : UInt8) ∈ name := fun hm => by
        obtain ⟨k, hk⟩ := List.mem_iff_getElem?.1 hm
        have := (List.getElem?_eq_some_iff.1 hk).1
        exact hg k 0 hk (by omega) rfl
      exact ⟨by rw [show xone name val = true by grind [xone]], rfl⟩
theorem qr_one {S : List Nat} {w0 w : World} {I : Nat → Prop} {M : List Bk} (st : St S w0 I w M) {v : Value} {name val : List UInt8} (hv : Sl I w 1 v (bytesV val)) : ∀ w', Kp [] w w' → Ret P F_cloisterref16_One [T name, v] w' (fun u w'' => u = .bool (xone name val) ∧ Kp [] w' w'') := fun w' kp =>
  (w_rOne (st.keep kp).lt (hv.up (Up.keep kp st.lt))).mono (fun u w'' h => ⟨h.1, h.2 ▸ Kp.refl _ _⟩)
theorem w_Right {I : Nat → Prop} {w : World} (hI : ∀ g, I g → g < w.heap.size) {v : Value} {xs : List Xa} (hv : XS I w v xs) (hb : xs.length ≤ 9223372036854775806) : Ret P F_cloisterref16_Right [v] w (fun v w' => v = .bool (xright xs) ∧ Kp [] w w') := by
  refine Ret.enter func_cloisterref16_Right rfl nt_cloisterref16_Right ?_
  have st := St.start I w hI []
  have hv0 := hv
  obtain ⟨A, c, rfl, hnc, he⟩ := hv0
  obtain ⟨w0, hw0⟩ : ∃ w0, w0 = w := ⟨_, rfl⟩
  subst hw0
  refine CW.seq ?_
  refine CW.region ?_
  refine SL.op (ev_assign rfl) ?_
  refine SL.nil ?_
  refine CW.seq ?_
  refine CW.seq ?_
  refine CW.region ?_
  refine SL.op (ev_move rfl) ?_
  refine SL.op (ev_lenS els_slapi_Xattr rfl) ?_
  refine SL.op (ev_gt rfl rfl) ?_
  refine SL.nil ?_
  refine CW.ifp rfl (fun h4 => ?_) (fun h4 => ?_)
  · skip
    refine CW.seq ?_
    refine CW.region ?_
    refine SL.op (ev_assign rfl) ?_
    refine SL.nil ?_
    refine CW.ret ?_
    refine RetOk.one rfl ?_
    have : xright xs = false := by simp [xright]; intro h; omega
    simp [this, Kp.refl]
  · skip
    refine CW.skip ?_
    refine CW.seq ?_
    refine CW.seq ?_
    refine CW.region ?_
    refine SL.op (ev_assign rfl) ?_
    refine SL.nil ?_
    refine CW.block ?_
    refine CW.loop (α := Nat) (fun i => [(0, .slice A xs.length c), (3, .int .i64 i)]) (fun i w => i ≤ xs.length ∧ (∀ j, j < i → xgood xs j = true) ∧ Kp [] w0 w) (fun i => xs.length - i) 0 (by repeat (first | exact Sub.nil _ | refine Sub.cons rfl ?_)) (⟨by omega, fun _ h => by omega, Kp.refl _ _⟩) ?_
    rintro i w ⟨hi, hg, kp0⟩; have st0 := st.keep kp0; have up0 := Up.keep kp0 st.lt
    refine CW.seq ?_
    refine CW.seq ?_
    refine CW.region ?_
    refine SL.op (ev_move rfl) ?_
    refine SL.op (ev_move rfl) ?_
    refine SL.op (ev_lenS els_slapi_Xattr rfl) ?_
    refine SL.op (ev_lt rfl rfl) ?_
    refine SL.nil ?_
    refine CW.ifp rfl (fun h => ?_) (fun h => ?_)
    · skip
      refine CW.skip ?_
      refine CW.seq ?_
      have hlt : i < xs.length := by omega
      obtain ⟨x, hx⟩ : ∃ x, xs[i]? = some x := ⟨_, List.getElem?_eq_getElem hlt⟩
      obtain ⟨a, vv, ha, hia, hc, hsl⟩ := (hv.up up0).at' hx
      subst ha
      refine CW.block ?_
      refine CW.seq ?_
      refine CW.quiet mixed (by kernel_rfl) ?_
      refine QL.op (ev_move rfl) ?_
      refine QL.op (ev_move rfl) ?_
      refine QL.op (ev_idx els_slapi_Xattr rfl rfl (by omega) (by omega)) ?_
      refine QL.op (ev_fld fld_api_Xattr_Name rfl) ?_
      refine QL.op (ev_load one_string rfl (hc 0 _ rfl)) ?_
      refine QL.op (ev_move rfl) ?_
      refine QL.op (ev_move rfl) ?_
      refine QL.op (ev_idx els_slapi_Xattr rfl rfl (by omega) (by omega)) ?_
      refine QL.op (ev_fld fld_api_Xattr_Value rfl) ?_
      refine QL.op (ev_load one_sluint8 rfl (hc 1 _ rfl)) ?_
      refine QL.call call_cloisterref16_One rfl (qr_one st0 hsl) ?_
      refine QL.op (ev_not rfl) ?_
      refine QL.op (ev_move rfl) ?_
      refine QL.cutPut 17 42 (.bool (!xgood xs i)) ?_ ?_
      · by_cases hj1 : (!xone x.name x.val) = true
        · skip
          refine QL.off rfl ?_ ?_
          · first | exact decide_eq_true hj1 | exact hj1 | simpa using hj1
          refine QL.off rfl ?_ ?_
          · first | exact decide_eq_true hj1 | exact hj1 | simpa using hj1
          refine QL.off rfl ?_ ?_
          · first | exact decide_eq_true hj1 | exact hj1 | simpa using hj1
          refine QL.offU rfl ?_
          refine QL.offU rfl ?_
          refine QL.offU rfl ?_
          refine QL.offU rfl ?_
          refine QL.offU rfl ?_
          refine QL.offU rfl ?_
          refine QL.offU rfl ?_
          refine QL.offU rfl ?_
          refine QL.offU rfl ?_
          refine QL.offU rfl ?_
          refine QL.offU rfl ?_
          refine QL.offU rfl ?_
          refine QL.off rfl ?_ ?_
          · first | exact decide_eq_true hj1 | exact hj1 | simpa using hj1
          refine QL.op (ev_pickT rfl rfl (by first | exact decide_eq_true hj1 | exact hj1 | simpa using hj1)) ?_
          exact QL.nil (Sub.put (by exact bsome (by simp only [xgood, getD_of hx]; first | (simp at hj1; simp [hj1]; done) | skip)) (by repeat (first | exact Sub.refl _ | refine Sub.skip rfl ?_)))
        · skip
          refine QL.on rfl ?_ ?_
          · first | exact decide_eq_false hj1 | simpa using hj1
          refine QL.op (ev_move rfl) ?_
          refine QL.on rfl ?_ ?_
          · first | exact decide_eq_false hj1 | simpa using hj1
          refine QL.op (ev_gt rfl rfl) ?_
          refine QL.on rfl ?_ ?_
          · first | exact decide_eq_false hj1 | simpa using hj1
          refine QL.op (ev_move rfl) ?_
          refine QL.cutPut 13 41 (.bool (!(decide (i = 0) || slt (xs.getD (i - 1) default).name x.name))) ?_ ?_
          · by_cases hj2 : (0 : Int) < (i : Int)
            · skip
              refine QL.on rfl ?_ ?_
              · first | exact decide_eq_true hj2 | exact hj2 | simpa using hj2
              refine QL.op (ev_move rfl) ?_
              refine QL.on rfl ?_ ?_
              · first | exact decide_eq_true hj2 | exact hj2 | simpa using hj2
              refine QL.op (ev_move rfl) ?_
              refine QL.on rfl ?_ ?_
              · first | exact decide_eq_true hj2 | exact hj2 | simpa using hj2
              refine QL.op (ev_sub rfl rfl (by omega) (by omega)) ?_
              refine QL.on rfl ?_ ?_
              · first | exact decide_eq_true hj2 | exact hj2 | simpa using hj2
              refine QL.op (ev_idx els_slapi_Xattr rfl rfl (by omega) (by omega)) ?_
              refine QL.on rfl ?_ ?_
              · first | exact decide_eq_true hj2 | exact hj2 | simpa using hj2
              refine QL.op (ev_fld fld_api_Xattr_Name rfl) ?_
              refine QL.on rfl ?_ ?_
              · first | exact decide_eq_true hj2 | exact hj2 | simpa using hj2
              obtain ⟨y, hy⟩ : ∃ y, xs[i - 1]? = some y := ⟨_, List.getElem?_eq_getElem (by omega)⟩
              obtain ⟨a', vv', ha', hia', hc', hsl'⟩ := (hv.up up0).at' hy
              injection ha' with ha'
              subst ha' 
              refine QL.op (ev_load one_string rfl (by rw [show ((i : Int) - 1).toNat = i - 1 by omega]; exact hc' 0 _ rfl)) ?_
              refine QL.on rfl ?_ ?_
              · first | exact decide_eq_true hj2 | exact hj2 | simpa using hj2
              refine QL.op (ev_move rfl) ?_
              refine QL.on rfl ?_ ?_
              · first | exact decide_eq_true hj2 | exact hj2 | simpa using hj2
              refine QL.op (ev_move rfl) ?_
              refine QL.on rfl ?_ ?_
              · first | exact decide_eq_true hj2 | exact hj2 | simpa using hj2
              refine QL.op (ev_idx els_slapi_Xattr rfl rfl (by omega) (by omega)) ?_
              refine QL.on rfl ?_ ?_
              · first | exact decide_eq_true hj2 | exact hj2 | simpa using hj2
              refine QL.op (ev_fld fld_api_Xattr_Name rfl) ?_
              refine QL.on rfl ?_ ?_
              · first | exact decide_eq_true hj2 | exact hj2 | simpa using hj2
              refine QL.op (ev_load one_string rfl (hc 0 _ rfl)) ?_
              refine QL.on rfl ?_ ?_
              · first | exact decide_eq_true hj2 | exact hj2 | simpa using hj2
              refine QL.op (ev_sge rfl rfl) ?_
              refine QL.on rfl ?_ ?_
              · first | exact decide_eq_false hj1 | simpa using hj1
              refine QL.op (ev_pickT rfl rfl (by first | exact decide_eq_true hj2 | exact hj2 | simpa using hj2)) ?_
              exact QL.nil (Sub.put (by exact bsome (by grind)) (by repeat (first | exact Sub.refl _ | refine Sub.skip rfl ?_)))
            · skip
              refine QL.off rfl ?_ ?_
              · first | exact decide_eq_false hj2 | simpa using hj2
              refine QL.off rfl ?_ ?_
              · first | exact decide_eq_false hj2 | simpa using hj2
              refine QL.off rfl ?_ ?_
              · first | exact decide_eq_false hj2 | simpa using hj2
              refine QL.off rfl ?_ ?_
              · first | exact decide_eq_false hj2 | simpa using hj2
              refine QL.off rfl ?_ ?_
              · first | exact decide_eq_false hj2 | simpa using hj2
              refine QL.off rfl ?_ ?_
              · first | exact decide_eq_false hj2 | simpa using hj2
              refine QL.off rfl ?_ ?_
              · first | exact decide_eq_false hj2 | simpa using hj2
              refine QL.off rfl ?_ ?_
              · first | exact decide_eq_false hj2 | simpa using hj2
              refine QL.off rfl ?_ ?_
              · first | exact decide_eq_false hj2 | simpa using hj2
              refine QL.off rfl ?_ ?_
              · first | exact decide_eq_false hj2 | simpa using hj2
              refine QL.off rfl ?_ ?_
              · first | exact decide_eq_false hj2 | simpa using hj2
              refine QL.off rfl ?_ ?_
              · first | exact decide_eq_false hj2 | simpa using hj2
              refine QL.on rfl ?_ ?_
              · first | exact decide_eq_false hj1 | simpa using hj1
              refine QL.op (ev_pickF rfl rfl (by first | exact decide_eq_false hj2 | simpa using hj2)) ?_
              exact QL.nil (Sub.put (by exact bsome (by grind)) (by repeat (first | exact Sub.refl _ | refine Sub.skip rfl ?_)))
          refine QL.op (ev_pickF rfl rfl (by first | exact decide_eq_false hj1 | simpa using hj1)) ?_
          exact QL.nil (Sub.put (by exact bsome (by simp only [xgood, getD_of hx]; first | (simp at hj1; simp [hj1]; done) | skip)) (by repeat (first | exact Sub.refl _ | refine Sub.skip rfl ?_)))
      refine QL.nil ?_; intro w2 kp2; have st2 := st0.keep kp2; have up2 := Up.keep kp2 st0.lt
      refine CW.cond rfl (fun hb => ?_) (fun hb => ?_)
      · skip
        refine CW.seq ?_
        refine CW.region ?_
        refine SL.op (ev_assign rfl) ?_
        refine SL.nil ?_
        refine CW.ret ?_
        refine RetOk.one rfl ?_
        have : xright xs = false := by
          rw [← Bool.not_eq_true, xright_iff]
          intro h
          have := h.2 i hlt
          rw [this] at hb; cases hb
        rw [this]
        exact ⟨rfl, st2.kp⟩
      · skip
        refine CW.skip ?_
        refine CW.region ?_
        refine SL.op (ev_move rfl) ?_
        refine SL.op (ev_add rfl rfl (by omega) (by omega)) ?_
        refine SL.op (ev_assign rfl) ?_
        refine SL.nil ?_
        refine ⟨i + 1, by repeat (first | exact Sub.nil _ | refine Sub.cons rfl ?_), ⟨hlt, fun j hj => ?_, st2.kp⟩, by omega⟩
        rcases Nat.lt_succ_iff_lt_or_eq.1 hj with hj | rfl
        · exact hg j hj
        · simpa using hb
    · skip
      refine CW.exit ?_
      refine CW.seq ?_
      refine CW.region ?_
      refine SL.op (ev_assign rfl) ?_
      refine SL.nil ?_
      refine CW.ret ?_
      refine RetOk.one rfl ?_
      have : xright xs = true := (xright_iff xs).2 ⟨by omega, fun j hj => hg j (by omega)⟩
      rw [this]
      exact ⟨rfl, kp0⟩
theorem w_Index {I : Nat → Prop} {w : World} {v : Value} {xs : List Xa} (hv : XS I w v xs) (hb : xs.length ≤ 9223372036854775806) (name : List UInt8) : Ret P F_cloisterref16_Index [v, T name] w (fun v w' => v = .int .i64 (match xs.findIdx? (fun x => decide (x.name = name)) with | some k => (k : Int) | none => -1) ∧ w' = w) := by
  refine Ret.enter func_cloisterref16_Index rfl nt_cloisterref16_Index ?_
  have hv0 := hv
  obtain ⟨A, c, rfl, hnc, he⟩ := hv0
  obtain ⟨w0, hw0⟩ : ∃ w0, w0 = w := ⟨_, rfl⟩
  subst hw0
  refine CW.seq ?_
  refine CW.region ?_
  refine SL.op (ev_assign rfl) ?_
  refine SL.nil ?_
  refine CW.seq ?_
  refine CW.seq ?_
  refine CW.region ?_
  refine SL.op (ev_assign rfl) ?_
  refine SL.nil ?_
  refine CW.block ?_
  refine CW.loop (α := Nat) (fun i => [(0, .slice A xs.length c), (1, T name), (5, .int .i64 i)]) (fun i w => i ≤ xs.length ∧ (∀ j x, xs[j]? = some x → j < i → x.name ≠ name) ∧ w = w0) (fun i => xs.length - i) 0 (by repeat (first | exact Sub.nil _ | refine Sub.cons rfl ?_)) (⟨by omega, fun _ _ _ h => by omega, rfl⟩) ?_
  rintro i w ⟨hi, hg, rfl⟩
  refine CW.seq ?_
  refine CW.seq ?_
  refine CW.region ?_
  refine SL.op (ev_move rfl) ?_
  refine SL.op (ev_move rfl) ?_
  refine SL.op (ev_lenS els_slapi_Xattr rfl) ?_
  refine SL.op (ev_lt rfl rfl) ?_
  refine SL.nil ?_
  refine CW.ifp rfl (fun h => ?_) (fun h => ?_)
  · skip
    refine CW.skip ?_
    refine CW.seq ?_
    obtain ⟨x, hx⟩ : ∃ x, xs[i]? = some x := ⟨_, List.getElem?_eq_getElem (by omega)⟩
    obtain ⟨a, vv, ha, hia, hc, hsl⟩ := hv.at' hx
    subst ha
    refine CW.block ?_
    refine CW.seq ?_
    refine CW.region ?_
    refine SL.op (ev_move rfl) ?_
    refine SL.op (ev_move rfl) ?_
    refine SL.op (ev_idx els_slapi_Xattr rfl rfl (by omega) (by omega)) ?_
    refine SL.op (ev_fld fld_api_Xattr_Name rfl) ?_
    refine SL.op (ev_load one_string rfl (hc 0 _ rfl)) ?_
    refine SL.op (ev_move rfl) ?_
    refine SL.op (ev_seq rfl rfl) ?_
    refine SL.nil ?_
    refine CW.ifp rfl (fun hn => ?_) (fun hn => ?_)
    · skip
      refine CW.seq ?_
      refine CW.region ?_
      refine SL.op (ev_move rfl) ?_
      refine SL.op (ev_assign rfl) ?_
      refine SL.nil ?_
      refine CW.ret ?_
      refine RetOk.one rfl ?_
      refine ⟨?_, rfl⟩
      have : xs.findIdx? (fun x => decide (x.name = name)) = some i := by
        rw [List.findIdx?_eq_some_iff_getElem]
        obtain ⟨hl, rfl⟩ := List.getElem?_eq_some_iff.1 hx
        exact ⟨hl, by simpa using hn, fun j hj => by have := hg j _ (List.getElem?_eq_getElem (by omega)) hj; simpa using this⟩
      rw [this]
    · skip
      refine CW.skip ?_
      refine CW.region ?_
      refine SL.op (ev_move rfl) ?_
      refine SL.op (ev_add rfl rfl (by omega) (by omega)) ?_
      refine SL.op (ev_assign rfl) ?_
      refine SL.nil ?_
      refine ⟨i + 1, by repeat (first | exact Sub.nil _ | refine Sub.cons rfl ?_), ⟨by omega, fun j y hj hjl => ?_, rfl⟩, by omega⟩
      rcases Nat.lt_succ_iff_lt_or_eq.1 hjl with hjl | rfl
      · exact hg j y hj hjl
      · rw [hx] at hj; injection hj with hj; subst hj; exact hn
  · skip
    refine CW.exit ?_
    refine CW.seq ?_
    refine CW.region ?_
    refine SL.op (ev_assign rfl) ?_
    refine SL.nil ?_
    refine CW.ret ?_
    refine RetOk.one rfl ?_
    refine ⟨?_, rfl⟩
    have : xs.findIdx? (fun x => decide (x.name = name)) = none := by
      rw [List.findIdx?_eq_none_iff]
      intro x hx
      obtain ⟨k, hk⟩ := List.mem_iff_getElem?.1 hx
      have := (List.getElem?_eq_some_iff.1 hk).1
      simpa using hg k x hk (by omega)
    rw [this]
end Go.Proofs.Ytodaagikppaidaa.Cw
