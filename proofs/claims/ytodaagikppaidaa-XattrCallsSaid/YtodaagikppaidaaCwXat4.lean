/- Copies of lists of attributes lie in new memory and read as the list. -/
import Derived.Test.YtodaagikppaidaaCwXat3
/-! Copies of lists. -/
namespace Go.Proofs.Ytodaagikppaidaa.Cw
open Go Go.Proofs.Ytodaagikppaidaa.Eng Go.Proofs.Ytodaagikppaidaa.Cl
/-- A list in new memory. -/
def XNew (lo : Nat) (w : World) (v : Value) (xs : List Xa) : Prop := ∃ cs, w.ownsRow lo T_api_Xattr 2 v xs.length cs ∧ NX (fun _ => True) lo w cs xs
theorem NX.snoc {I : Nat → Prop} {lo : Nat} {w : World} {cs : List Value} {xs : List Xa} (h : NX I lo w cs xs) (hl : cs.length = xs.length * 2) {x : Xa} {vv : Value} (h3 : w.ownsRow lo T_uint8 1 vv x.val.length (bytesV x.val)) (h4 : ∀ g, vv.ownBlock = some g → I g) : NX I lo w (cs ++ [T x.name, vv]) (xs ++ [x]) := fun i y hy => by
  rw [List.getElem?_append] at hy
  split at hy
  · rename_i hi
    obtain ⟨uu, a1, a2, a3, a4⟩ := h i y hy
    exact ⟨uu, by rw [List.getElem?_append_left (by omega)]; exact a1, by rw [List.getElem?_append_left (by omega)]; exact a2, a3, a4⟩
  · rename_i hi
    have h0 : i - xs.length = 0 := by
      rcases Nat.eq_zero_or_pos (i - xs.length) with h | h
      · exact h
      · rw [List.getElem?_eq_none (by simp only [List.length_cons, List.length_nil]; omega)] at hy; cases hy
    have hi : i = xs.length := by omega
    subst hi
    rw [h0] at hy; injection hy with hy; subst hy
    exact ⟨vv, by rw [List.getElem?_append_right (by omega), show 2 * xs.length - cs.length = 0 by omega]; rfl, by rw [List.getElem?_append_right (by omega), show 2 * xs.length + 1 - cs.length = 1 by omega]; rfl, h3, h4⟩
theorem take_snoc {l : List Xa} {i : Nat} {x : Xa} (h : l[i]? = some x) : l.take (i + 1) = l.take i ++ [x] := by
  obtain ⟨hl, rfl⟩ := List.getElem?_eq_some_iff.1 h
  rw [List.take_succ_eq_append_getElem hl]
theorem own_up {I I' : Nat → Prop} {w w' : World} {lo e size n : Nat} {v : Value} {xs : List Value} (h : w.ownsRow lo e size v n xs) (hg : ∀ g, v.ownBlock = some g → I g) (hu : Up I w I' w') : w'.ownsRow lo e size v n xs ∧ ∀ g, v.ownBlock = some g → I' g :=
  ⟨own_keep h (fun g hv => (hu g (hg g hv)).2), fun g hv => (hu g (hg g hv)).1⟩
theorem NX.any {I : Nat → Prop} {lo : Nat} {w : World} {cs : List Value} {xs : List Xa} (h : NX I lo w cs xs) : NX (fun _ => True) lo w cs xs := fun i x hx => by
  obtain ⟨vv, h1, h2, h3, h4⟩ := h i x hx
  exact ⟨vv, h1, h2, h3, fun _ _ => trivial⟩
theorem XNew.nil {lo : Nat} {w : World} : XNew lo w (.slice none 0 0) [] := ⟨[], World.ownsRow_nil _ _ _ _, fun i x h => by cases h⟩
theorem w_copied {I : Nat → Prop} {w : World} (hI : ∀ g, I g → g < w.heap.size) {v : Value} {xs : List Xa} (hv : XS I w v xs) (hb : xs.length * 40 ≤ 140737488355328) (hb2 : ∀ x, x ∈ xs → x.val.length ≤ 140737488355328) : Ret P F_xattr_copied [v] w (fun v w' => XNew w.heap.size w' v xs ∧ Kp [] w w') := by
  refine Ret.enter func_xattr_copied rfl nt_xattr_copied ?_
  have st := St.start I w hI []
  have hv0 := hv
  obtain ⟨A, c, rfl, hnc, he⟩ := hv0
  obtain ⟨w0, hw0⟩ : ∃ w0, w0 = w := ⟨_, rfl⟩
  subst hw0
  refine CW.seq ?_
  refine CW.region ?_
  refine SL.op (ev_assign rfl) ?_
  refine SL.nil ?_
  refine CW.seq ?_
  refine CW.region ?_
  refine SL.op (ev_assign rfl) ?_
  refine SL.nil ?_
  refine CW.seq ?_
  refine CW.seq ?_
  refine CW.region ?_
  refine SL.op (ev_move rfl) ?_
  refine SL.op (ev_lenS els_slapi_Xattr rfl) ?_
  refine SL.op (ev_move rfl) ?_
  refine SL.nil ?_
  refine CW.block ?_
  refine CW.loop (α := Nat × Value) (fun q => [(3, q.2), (6, .slice A xs.length c), (7, .int .i64 xs.length), (8, .int .i64 q.1)]) (fun q w => q.1 ≤ xs.length ∧ XNew w0.heap.size w q.2 (xs.take q.1) ∧ Kp [] w0 w) (fun q => xs.length - q.1) (0, .slice none 0 0) (by repeat (first | exact Sub.nil _ | refine Sub.cons rfl ?_)) (⟨by simp, XNew.nil, Kp.refl _ _⟩) ?_
  rintro ⟨i, u⟩ w ⟨hi, ⟨cs, hrow, hnx⟩, kp0⟩; simp only at hi hrow hnx ⊢
  have hlen : (xs.take i).length = i := by rw [List.length_take]; omega
  rw [hlen] at hrow
  have st0 := st.callT kp0 Free.nil (fun g => u.ownBlock = some g); have up0 := Up.callT st kp0 Free.nil (fun g => u.ownBlock = some g)
  have own0 : Own _ _ _ _ _ _ _ _ _ _ := Own.ofCall (F := fun g => u.ownBlock = some g) st Free.nil hrow (fun g hg => .inl (own_lt hrow hg).1) (fun g hg => hg)
  have nx0 := hnx.into (I' := ExtF I w0 w (fun g => u.ownBlock = some g)) hrow (fun g h1 h2 h3 => .inr ⟨h1, h2, h3⟩) (Nat.le_refl _)
  refine CW.seq ?_
  refine CW.region ?_
  refine SL.op (ev_lt rfl rfl) ?_
  refine SL.nil ?_
  refine CW.seq ?_
  refine CW.ifp rfl (fun h => ?_) (fun h => ?_)
  · skip
    refine CW.skip ?_
    refine CW.seq ?_
    obtain ⟨x, hx⟩ : ∃ x, xs[i]? = some x := ⟨_, List.getElem?_eq_getElem (by omega)⟩
    obtain ⟨a, vv, ha, hia, hc, hsl⟩ := (hv.up up0).at' hx
    subst ha
    obtain ⟨Av, cv, rfl, hncv, hrv⟩ := Sl.len hsl
    refine CW.block ?_
    refine CW.seq ?_
    refine CW.region ?_
    refine SL.op (ev_idx els_slapi_Xattr rfl rfl (by omega) (by omega)) ?_
    refine SL.op (ev_loadN agg_api_Xattr rfl hc) ?_
    refine SL.alloc st0 zero_api_Xattr ?_; intro w1 g1 st1 up1 kp1 hg1
    refine SL.storeN st1 0 agg_api_Xattr rfl rfl rfl ?_; intro w2 st2 up2 kp2
    have own2 := (own0.var (t := T_api_Xattr) (cs := [T x.name, .slice Av x.val.length cv]) kp1 hg1 kp2).still (Kp.refl [] w2).drew
    have hsl2 := ((hsl.up up1).up up2)
    refine SL.nil ?_
    refine CW.mix [0, 1, 2, 3, 4] [5, 6, 7] [8, 9] mixed (by kernel_rfl) ?_
    refine RL.op (ev_move rfl) ?_
    refine RL.op (ev_fld fld_api_Xattr_Name rfl) ?_
    refine RL.op (ev_loadM st2 0 one_string rfl rfl rfl) ?_
    refine RL.op (ev_fld fld_api_Xattr_Value rfl) ?_
    refine RL.op (ev_loadM st2 0 one_sluint8 rfl rfl rfl) ?_
    refine RL.nil ?_; have st3 := st2.drew; have up3 : Up _ _ _ _ := Up.keep (Kp.refl [] _).drew st2.lt
    refine CL.cons ?_
    refine SL.call call_slices_Clone_byte rfl (w_Clone st3.lt (hsl2.up up3) (hb2 x (List.mem_of_getElem? hx))) ?_; rintro v4 w4 ⟨kp4, hrow4⟩
    have st4 := st3.call kp4; have up4 := Up.kp kp4 st3.lt
    obtain ⟨A4, c4, rfl, hnc4, _⟩ := own_form hrow4
    have own4 := own2.call kp4
    have nx4 := (((nx0.up up1).up up2).up up3).up up4
    refine SL.nil ⟨(kp4), ?_⟩
    refine CL.cons ?_
    refine SL.op (ev_bld bld_api_Xattr rfl) ?_
    refine SL.nil ⟨(kp4), ?_⟩
    refine CL.cons ?_
    refine SL.bsl st4 els_slapi_Xattr info_api_Xattr rfl ?_; intro w5 g5 st5 up5 kp5 hg5
    refine SL.nil ⟨((kp4).trans kp5), ?_⟩
    refine CL.nil ?_
    refine SL.append st5 els_slapi_Xattr info_api_Xattr rfl (own4.more kp5 hg5) (news := [T x.name, .slice A4 x.val.length c4]) rfl rfl (fun h => ⟨_, rfl, (st5.ok _ (.head _)).cells 0⟩) (all_one rfl) (by omega) ?_; intro v6 w6 st6 up6 kp6 ob6 own6
    refine SL.op (ev_assign rfl) ?_
    refine SL.nil ?_
    refine CW.region ?_
    refine SL.op (ev_add rfl rfl (by omega) (by omega)) ?_
    refine SL.op (ev_move rfl) ?_
    refine SL.nil ?_
    have hb6 : ∀ g, v6.ownBlock = some g → w0.heap.size ≤ g := fun g hg => (own6.out g hg).2.2.resolve_left (by simp)
    have hlo : w0.heap.size ≤ w2.heap.size := st2.kp.2.2.2.1
    have hin : ∀ g, (Value.slice A4 x.val.length c4).ownBlock = some g → _ := fun g hg => (.inr ⟨(own_lt hrow4 hg).1, (own_lt hrow4 hg).2⟩ : Ext (ExtF I w0 w fun g => u.ownBlock = some g) w2.drew w4 g)
    refine ⟨(i + 1, v6), by repeat (first | exact Sub.nil _ | refine Sub.cons rfl ?_), ⟨by simp only; omega, ⟨cs ++ [T x.name, .slice A4 x.val.length c4], ?_, ?_⟩, st6.kp⟩, by simp only; omega⟩
    · simp only; rw [show (xs.take (i + 1)).length = i + 1 by rw [List.length_take]; omega]; exact own_base own6.row hb6
    · simp only; rw [take_snoc hx]
      have hv6 := own_up (own_up hrow4 hin up5).1 (own_up hrow4 hin up5).2 up6
      exact (((nx4.up up5).up up6).snoc (by rw [hrow.1, hlen]) (own_base hv6.1 (fun g hg => Nat.le_trans hlo (own_lt hrow4 hg).1)) hv6.2).any
  · skip
    refine CW.exit ?_
    refine CW.seq ?_
    refine CW.region ?_
    refine SL.op (ev_move rfl) ?_
    refine SL.op (ev_assign rfl) ?_
    refine SL.nil ?_
    refine CW.ret ?_
    refine RetOk.one rfl ?_
    have : i = xs.length := by omega
    subst this
    rw [List.take_length] at hnx
    exact ⟨⟨cs, hrow, hnx⟩, kp0⟩
/-- A row that is done stays. -/
theorem row_stays {S : List Nat} {w0 w : World} {I : Nat → Prop} {M : List Bk} {e size n : Nat} {v : Value} {ys : List Value} (st : St S w0 I w M) (h : Own S w0 I M w e size v n ys) : St S w0 (fun g => I g ∨ v.ownBlock = some g) w M ∧ Up I w (fun g => I g ∨ v.ownBlock = some g) w :=
  ⟨⟨st.kp, st.ok, st.nd, fun b hb => ⟨fun hi => hi.elim (st.out b hb).1 (fun hv => (h.out _ hv).2.1 b hb rfl), (st.out b hb).2⟩, fun g hg => hg.elim (st.lt g) (fun hv => (own_lt h.row hv).2)⟩, fun g hg => ⟨.inl hg, rfl⟩⟩
theorem row_beside {S : List Nat} {w0 w : World} {I : Nat → Prop} {M : List Bk} {e size n e' size' n' : Nat} {v v' : Value} {ys ys' : List Value} (h : Own S w0 I M w e size v n ys) (h' : Own S w0 I M w e' size' v' n' ys') (he : e ≠ e') : Own S w0 (fun g => I g ∨ v'.ownBlock = some g) M w e size v n ys :=
  ⟨h.row, fun g hg => ⟨fun hi => hi.elim (h.out g hg).1 (own_type h.row h'.row he hg), (h.out g hg).2⟩⟩
theorem w_lcopied {I : Nat → Prop} {w : World} (hI : ∀ g, I g → g < w.heap.size) {v : Value} {xs : List Xa} (hv : XS I w v xs) (hb : xs.length * 40 ≤ 140737488355328) (hb2 : ∀ x, x ∈ xs → x.val.length ≤ 140737488355328) : Ret P F_cloisterlaw16_copied [v] w (fun v w' => XNew w.heap.size w' v xs ∧ Kp [] w w') := by
  refine Ret.enter func_cloisterlaw16_copied rfl nt_cloisterlaw16_copied ?_
  have st := St.start I w hI []
  have hv0 := hv
  obtain ⟨A, c, rfl, hnc, he⟩ := hv0
  obtain ⟨w0, hw0⟩ : ∃ w0, w0 = w := ⟨_, rfl⟩
  subst hw0
  refine CW.seq ?_
  refine CW.region ?_
  refine SL.op (ev_assign rfl) ?_
  refine SL.nil ?_
  refine CW.seq ?_
  refine CW.region ?_
  refine SL.op (ev_assign rfl) ?_
  refine SL.nil ?_
  refine CW.seq ?_
  refine CW.seq ?_
  refine CW.region ?_
  refine SL.op (ev_move rfl) ?_
  refine SL.op (ev_lenS els_slapi_Xattr rfl) ?_
  refine SL.op (ev_move rfl) ?_
  refine SL.nil ?_
  refine CW.block ?_
  refine CW.loop (α := Nat × Value) (fun q => [(3, q.2), (6, .slice A xs.length c), (7, .int .i64 xs.length), (8, .int .i64 q.1)]) (fun q w => q.1 ≤ xs.length ∧ XNew w0.heap.size w q.2 (xs.take q.1) ∧ Kp [] w0 w) (fun q => xs.length - q.1) (0, .slice none 0 0) (by repeat (first | exact Sub.nil _ | refine Sub.cons rfl ?_)) (⟨by simp, XNew.nil, Kp.refl _ _⟩) ?_
  rintro ⟨i, u⟩ w ⟨hi, ⟨cs, hrow, hnx⟩, kp0⟩; simp only at hi hrow hnx ⊢
  have hlen : (xs.take i).length = i := by rw [List.length_take]; omega
  rw [hlen] at hrow
  have st0 := st.callT kp0 Free.nil (fun g => u.ownBlock = some g); have up0 := Up.callT st kp0 Free.nil (fun g => u.ownBlock = some g)
  have own0 : Own _ _ _ _ _ _ _ _ _ _ := Own.ofCall (F := fun g => u.ownBlock = some g) st Free.nil hrow (fun g hg => .inl (own_lt hrow hg).1) (fun g hg => hg)
  have nx0 := hnx.into (I' := ExtF I w0 w (fun g => u.ownBlock = some g)) hrow (fun g h1 h2 h3 => .inr ⟨h1, h2, h3⟩) (Nat.le_refl _)
  refine CW.seq ?_
  refine CW.region ?_
  refine SL.op (ev_lt rfl rfl) ?_
  refine SL.nil ?_
  refine CW.seq ?_
  refine CW.ifp rfl (fun h => ?_) (fun h => ?_)
  · skip
    refine CW.skip ?_
    refine CW.seq ?_
    obtain ⟨x, hx⟩ : ∃ x, xs[i]? = some x := ⟨_, List.getElem?_eq_getElem (by omega)⟩
    obtain ⟨a, vv, ha, hia, hc, hsl⟩ := (hv.up up0).at' hx
    subst ha
    obtain ⟨Av, cv, rfl, hncv, hrv⟩ := Sl.len hsl
    refine CW.block ?_
    refine CW.seq ?_
    refine CW.region ?_
    refine SL.op (ev_idx els_slapi_Xattr rfl rfl (by omega) (by omega)) ?_
    refine SL.op (ev_loadN agg_api_Xattr rfl hc) ?_
    refine SL.alloc st0 zero_api_Xattr ?_; intro w1 g1 st1 up1 kp1 hg1
    refine SL.storeN st1 0 agg_api_Xattr rfl rfl rfl ?_; intro w2 st2 up2 kp2
    have own2 := (own0.var (t := T_api_Xattr) (cs := [T x.name, .slice Av x.val.length cv]) kp1 hg1 kp2).still (Kp.refl [] w2).drew
    have hrv2 := ((hrv.up up1).up up2)
    have hbx := hb2 x (List.mem_of_getElem? hx)
    refine SL.nil ?_
    refine CW.mix [0, 1, 2, 4, 5] [3, 6, 7, 8] [9, 10] mixed (by kernel_rfl) ?_
    refine RL.op (ev_move rfl) ?_
    refine RL.op (ev_fld fld_api_Xattr_Name rfl) ?_
    refine RL.op (ev_loadM st2 0 one_string rfl rfl rfl) ?_
    refine RL.op (ev_fld fld_api_Xattr_Value rfl) ?_
    refine RL.op (ev_loadM st2 0 one_sluint8 rfl rfl rfl) ?_
    refine RL.nil ?_; have st3 := st2.drew; have up3 : Up _ _ _ _ := Up.keep (Kp.refl [] _).drew st2.lt
    refine CL.cons ?_
    refine SL.bslice0 st3 els_sluint8 ?_; intro w4 g4 st4 up4 kp4 hg4 bk4 own4
    refine SL.nil ⟨(kp4), ?_⟩
    refine CL.cons ?_
    refine SL.append st4 els_sluint8 info_uint8 rfl (own4 1) (news := bytesV x.val) rfl (by rw [bytesV_length, Nat.mul_one]) (fun h => by obtain ⟨a, h1, _, h3⟩ := (hrv2.up up3).up up4 h; exact ⟨a, h1, h3⟩) (bytesV_one _) (by omega) ?_; intro v5 w5 st5 up5 kp5 ob5 own5
    have mo5 := (own2.still kp4).keepT (M' := [⟨g1, T_api_Xattr, [T x.name, .slice Av x.val.length cv]⟩]) kp5 (fun g hg hm => by have := (own_lt own2.row hg).2; simp [Value.ownBlock] at hm; subst hm; exact absurd hg4 (Nat.not_le_of_lt this)) (fun b hb => .inl ⟨b, hb, rfl⟩) (fun _ hg => .inl hg)
    have hrow5 := own5.row
    simp only [Nat.zero_add, List.nil_append] at hrow5
    have hbs5 : ∀ g, v5.ownBlock = some g → w0.heap.size ≤ g := fun g hg => (own5.out g hg).2.2.resolve_left (by simp)
    obtain ⟨A5, c5, e5, hnc5, _⟩ := own_form hrow5
    subst e5
    have hse := row_stays st5 own5
    have st5s := hse.1
    have mo5s := row_beside mo5 own5 (by decide)
    have nx5 := ((((nx0.up up1).up up2).up up3).up up4).up up5 |>.up hse.2
    refine SL.nil ⟨(((kp4)).then_ kp5 (fun g hg => .inr (by simp [Value.ownBlock] at hg; subst hg; exact hg4))), ?_⟩
    refine CL.cons ?_
    refine SL.op (ev_bld bld_api_Xattr rfl) ?_
    refine SL.nil ⟨(((kp4)).then_ kp5 (fun g hg => .inr (by simp [Value.ownBlock] at hg; subst hg; exact hg4))), ?_⟩
    refine CL.cons ?_
    refine SL.bsl st5s els_slapi_Xattr info_api_Xattr rfl ?_; intro w6 g6 st6 up6 kp6 hg6
    refine SL.nil ⟨((((kp4)).then_ kp5 (fun g hg => .inr (by simp [Value.ownBlock] at hg; subst hg; exact hg4))).trans kp6), ?_⟩
    refine CL.nil ?_
    refine SL.append st6 els_slapi_Xattr info_api_Xattr rfl (mo5s.more kp6 hg6) (news := [T x.name, .slice A5 x.val.length c5]) rfl rfl (fun h => ⟨_, rfl, (st6.ok _ (.head _)).cells 0⟩) (all_one rfl) (by omega) ?_; intro v7 w7 st7 up7 kp7 ob7 own7
    refine SL.op (ev_assign rfl) ?_
    refine SL.nil ?_
    refine CW.region ?_
    refine SL.op (ev_add rfl rfl (by omega) (by omega)) ?_
    refine SL.op (ev_move rfl) ?_
    refine SL.nil ?_
    have hb7 : ∀ g, v7.ownBlock = some g → w0.heap.size ≤ g := fun g hg => (own7.out g hg).2.2.resolve_left (by simp)
    refine ⟨(i + 1, v7), by repeat (first | exact Sub.nil _ | refine Sub.cons rfl ?_), ⟨by simp only; omega, ⟨cs ++ [T x.name, .slice A5 x.val.length c5], ?_, ?_⟩, st7.kp⟩, by simp only; omega⟩
    · simp only; rw [show (xs.take (i + 1)).length = i + 1 by rw [List.length_take]; omega]; exact own_base own7.row hb7
    · simp only; rw [take_snoc hx]
      have hv6 := own_up hrow5 (I := fun g => ExtF I w0 w (fun g => u.ownBlock = some g) g ∨ (Value.slice A5 x.val.length c5).ownBlock = some g) (fun g hg => .inr hg) up6
      have hv7 := own_up hv6.1 hv6.2 up7
      exact (((nx5.up up6).up up7).snoc (by rw [hrow.1, hlen]) (own_base hv7.1 hbs5) hv7.2).any
  · skip
    refine CW.exit ?_
    refine CW.seq ?_
    refine CW.region ?_
    refine SL.op (ev_move rfl) ?_
    refine SL.op (ev_assign rfl) ?_
    refine SL.nil ?_
    refine CW.ret ?_
    refine RetOk.one rfl ?_
    have : i = xs.length := by omega
    subst this
    rw [List.take_length] at hnx
    exact ⟨⟨cs, hrow, hnx⟩, kp0⟩
end Go.Proofs.Ytodaagikppaidaa.Cw
