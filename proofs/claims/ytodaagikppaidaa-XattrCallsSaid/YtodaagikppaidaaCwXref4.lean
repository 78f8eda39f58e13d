/- Drop of the reference answers as told. -/
import Derived.Test.YtodaagikppaidaaCwXref3
/-! Drop of the reference. -/
namespace Go.Proofs.Ytodaagikppaidaa.Cw
open Go Go.Proofs.Ytodaagikppaidaa.Eng Go.Proofs.Ytodaagikppaidaa.Cl
theorem filter_at {xs : List Xa} {name : List UInt8} {p : Nat} (hs : XSorted xs) (hp : XAt xs name p) (hh : xhas xs name p = true) : xs.filter (fun x => decide (x.name ≠ name)) = xs.take p ++ xs.drop (p + 1) := by
  obtain ⟨x, hx, hxn⟩ := xhas_some hh
  obtain ⟨hl, he⟩ := List.getElem?_eq_some_iff.1 hx
  have h1 : xs = xs.take p ++ (x :: xs.drop (p + 1)) := by
    rw [← he, List.getElem_cons_drop]; exact (List.take_append_drop p xs).symm
  have key : ∀ ys : List Xa, (∀ y ∈ ys, y.name ≠ name) → ys.filter (fun x => decide (x.name ≠ name)) = ys := fun ys h => List.filter_eq_self.2 (fun y hy => by simpa using h y hy)
  have ha : ∀ y ∈ xs.take p, y.name ≠ name := fun y hy => by
    obtain ⟨k, hk⟩ := List.mem_iff_getElem?.1 hy
    rw [List.getElem?_take] at hk
    split at hk
    · exact XAt.ne hs hp hk (by omega)
    · cases hk
  have hb : ∀ y ∈ xs.drop (p + 1), y.name ≠ name := fun y hy => by
    obtain ⟨k, hk⟩ := List.mem_iff_getElem?.1 hy
    rw [List.getElem?_drop] at hk
    exact XAt.ne hs hp hk (by omega)
  conv => lhs; rw [h1]
  rw [List.filter_append, List.filter_cons, key _ ha, key _ hb]
  simp [hxn]
theorem w_rDrop {I : Nat → Prop} {w : World} (hI : ∀ g, I g → g < w.heap.size) {v : Value} {xs : List Xa} (hv : XS I w v xs) (hb : xs.length * 40 ≤ 140737488351232) (name : List UInt8) : Ret P F_cloisterref16_Drop [v, T name] w (fun v w' => RDropR (fun g => I g ∨ w.heap.size ≤ g) w' xs name v ∧ Kp [] w w') := by
  refine Ret.enter func_cloisterref16_Drop rfl nt_cloisterref16_Drop ?_
  obtain ⟨A, c, ev, hnc, he⟩ := id hv
  subst ev
  have st := St.start I w hI []
  obtain ⟨w0, hw0⟩ : ∃ w0, w0 = w := ⟨_, rfl⟩
  subst hw0
  refine CW.seq ?_
  refine CW.region ?_
  refine SL.op (ev_assign rfl) ?_
  refine SL.op (ev_assign rfl) ?_
  refine SL.nil ?_
  refine CW.seq ?_
  refine CW.seq ?_
  refine CW.region ?_
  refine SL.op (ev_move rfl) ?_
  refine SL.call call_cloisterref16_Right rfl (w_Right hI hv (by omega)) ?_; rintro v1 w1 ⟨rfl, kp1⟩
  have st1 := st.call kp1; have up1 := Up.kp kp1 st.lt
  have hvA := hv.up up1
  refine SL.op (ev_not rfl) ?_
  refine SL.nil ?_
  refine CW.cond rfl (fun hr => ?_) (fun hr => ?_)
  · skip
    refine CW.seq ?_
    refine CW.region ?_
    refine SL.op (ev_assign rfl) ?_
    refine SL.op (ev_assign rfl) ?_
    refine SL.nil ?_
    refine CW.ret ?_
    refine RetOk.two rfl rfl ?_
    have hr2 : xright xs = false := by simpa using hr
    exact ⟨by simp [RDropR, hr2], st1.kp⟩
  · skip
    refine CW.skip ?_
    refine CW.seq ?_
    refine CW.seq ?_
    refine CW.region ?_
    have hr2 : xright xs = true := by simpa using hr
    have hso := XSorted.of_right hr2
    have hr4 := ((xright_iff xs).1 hr2).1
    obtain ⟨p, hp⟩ := XAt.ex hso name
    refine SL.op (ev_move rfl) ?_
    refine SL.op (ev_move rfl) ?_
    refine SL.call call_cloisterref16_Index rfl (w_Index hvA (by omega) name) ?_; rintro v2 w2 ⟨rfl, rfl⟩
    refine SL.op (ev_lt rfl rfl) ?_
    refine SL.nil ?_
    refine CW.ifp rfl (fun hf => ?_) (fun hf => ?_)
    · skip
      refine CW.seq ?_
      refine CW.region ?_
      refine SL.op (ev_assign rfl) ?_
      refine SL.op (ev_assign rfl) ?_
      refine SL.nil ?_
      refine CW.ret ?_
      refine RetOk.two rfl rfl ?_
      exact ⟨by simp only [RDropR, hr2, if_true, if_pos (idx_lt.1 hf)], st1.kp⟩
    · skip
      refine CW.skip ?_
      refine CW.seq ?_
      refine CW.region ?_
      have hf2 : ¬ xs.find? (fun x => decide (x.name = name)) = none := fun h => hf (idx_lt.2 h)
      have hh : xhas xs name p = true := by
        cases h : xhas xs name p
        · exact absurd ((find_none hso hp).2 h) hf2
        · rfl
      have kps := st1.kp
      refine SL.op (ev_assign rfl) ?_
      refine SL.nil ?_
      refine CW.seq ?_
      refine CW.seq ?_
      refine CW.region ?_
      refine SL.op (ev_assign rfl) ?_
      refine SL.nil ?_
      refine CW.block ?_
      refine CW.loop (α := Nat × Value) (fun q => [(0, .slice A xs.length c), (1, T name), (6, q.2), (7, .int .i64 q.1)]) (fun q w => q.1 ≤ xs.length ∧ (∃ cs, w.ownsRow w0.heap.size T_api_Xattr 2 q.2 ((xs.take q.1).filter (fun x => decide (x.name ≠ name))).length cs ∧ RX I w cs ((xs.take q.1).filter (fun x => decide (x.name ≠ name)))) ∧ Kp [] w0 w) (fun q => xs.length - q.1) (0, .slice none 0 0) (by repeat (first | exact Sub.nil _ | refine Sub.cons rfl ?_)) (⟨by simp, ⟨[], World.ownsRow_nil _ _ _ _, fun i x h => by simp at h⟩, kps⟩) ?_
      rintro ⟨i, u⟩ w ⟨hi, ⟨cs, hrow, hrx0⟩, kp0⟩; simp only at hi hrow hrx0 ⊢
      obtain ⟨os, hos⟩ : ∃ os, os = (xs.take i).filter (fun x => decide (x.name ≠ name)) := ⟨_, rfl⟩
      rw [← hos] at hrow hrx0
      have hol : os.length ≤ i := by rw [hos]; exact Nat.le_trans (List.length_filter_le _ _) (by rw [List.length_take]; omega)
      have hcl : cs.length = os.length * 2 := hrow.1
      have st0 := st.callT kp0 Free.nil (fun g => u.ownBlock = some g); have up0 := Up.callT st kp0 Free.nil (fun g => u.ownBlock = some g)
      have upr : Up I w0 I w := Up.keep kp0 hI
      have upi : ∀ g, I g → ExtF I w0 w (fun g => u.ownBlock = some g) g := fun g hg => .inl hg
      have own0 : Own _ _ _ _ _ _ _ _ _ _ := Own.ofCall (F := fun g => u.ownBlock = some g) st Free.nil hrow (fun g hg => .inl (own_lt hrow hg).1) (fun g hg => hg)
      refine CW.seq ?_
      refine CW.seq ?_
      refine CW.region ?_
      refine SL.op (ev_move rfl) ?_
      refine SL.op (ev_move rfl) ?_
      refine SL.op (ev_lenS els_slapi_Xattr rfl) ?_
      refine SL.op (ev_lt rfl rfl) ?_
      refine SL.nil ?_
      refine CW.ifp rfl (fun h => ?_) (fun h => ?_)
      · skip
        refine CW.skip ?_
        refine CW.seq ?_
        obtain ⟨x, hx⟩ : ∃ x, xs[i]? = some x := ⟨_, List.getElem?_eq_getElem (by omega)⟩
        obtain ⟨a, vx, ha, hia, hc, hsx⟩ := (hv.up upr).at' hx
        subst ha
        obtain ⟨Ax, cx, rfl, hncx, hrx⟩ := Sl.len hsx
        refine CW.block ?_
        refine CW.seq ?_
        refine CW.region ?_
        refine SL.op (ev_move rfl) ?_
        refine SL.op (ev_move rfl) ?_
        refine SL.op (ev_idx els_slapi_Xattr rfl rfl (by omega) (by omega)) ?_
        refine SL.op (ev_fld fld_api_Xattr_Name rfl) ?_
        refine SL.op (ev_load one_string rfl (hc 0 _ rfl)) ?_
        refine SL.op (ev_move rfl) ?_
        refine SL.op (ev_sne rfl rfl) ?_
        refine SL.nil ?_
        refine CW.ifp rfl (fun hxn => ?_) (fun hxn => ?_)
        · skip
          refine CW.region ?_
          refine SL.op (ev_move rfl) ?_
          refine SL.op (ev_move rfl) ?_
          refine SL.op (ev_move rfl) ?_
          refine SL.op (ev_idx els_slapi_Xattr rfl rfl (by omega) (by omega)) ?_
          refine SL.op (ev_loadN agg_api_Xattr rfl hc) ?_
          refine SL.bsl st0 els_slapi_Xattr info_api_Xattr rfl ?_; intro w3 g3 st3 up3 kp3 hg3
          refine SL.append st3 els_slapi_Xattr info_api_Xattr rfl (own0.more kp3 hg3) (news := [T x.name, .slice Ax x.val.length cx]) rfl rfl (fun h => ⟨_, rfl, (st3.ok _ (.head _)).cells 0⟩) (all_one rfl) (by omega) ?_; intro v4 w4 st4 up4 kp4 ob4 own4
          refine SL.op (ev_assign rfl) ?_
          refine SL.nil ?_
          refine CW.region ?_
          refine SL.op (ev_move rfl) ?_
          refine SL.op (ev_add rfl rfl (by omega) (by omega)) ?_
          refine SL.op (ev_assign rfl) ?_
          refine SL.nil ?_
          have upF : Up I w I w4 := Up.sub (up3.trans up4) upi
          refine ⟨(i + 1, v4), by repeat (first | exact Sub.nil _ | refine Sub.cons rfl ?_), ⟨by simp only; omega, ?_, st4.kp⟩, by simp only; omega⟩
          simp only
          rw [take_snoc hx, List.filter_append, ← hos, show [x].filter (fun x => decide (x.name ≠ name)) = [x] by simp [hxn]]
          exact ⟨_, by rw [List.length_append]; exact own_base own4.row (fun g hg => (own4.out g hg).2.2.resolve_left (by simp)), (hrx0.up upF).snoc hcl (hsx.up upF)⟩
        · skip
          refine CW.skip ?_
          refine CW.region ?_
          refine SL.op (ev_move rfl) ?_
          refine SL.op (ev_add rfl rfl (by omega) (by omega)) ?_
          refine SL.op (ev_assign rfl) ?_
          refine SL.nil ?_
          refine ⟨(i + 1, u), by repeat (first | exact Sub.nil _ | refine Sub.cons rfl ?_), ⟨by simp only; omega, ?_, st0.kp⟩, by simp only; omega⟩
          simp only
          rw [take_snoc hx, List.filter_append, ← hos, show [x].filter (fun x => decide (x.name ≠ name)) = [] by simp [Decidable.not_not.1 hxn], List.append_nil]
          exact ⟨cs, own_base hrow (fun g hg => (own_lt hrow hg).1), hrx0⟩
      · skip
        refine CW.exit ?_
        refine CW.seq ?_
        refine CW.region ?_
        refine SL.op (ev_move rfl) ?_
        refine SL.op (ev_assign rfl) ?_
        refine SL.op (ev_assign rfl) ?_
        refine SL.nil ?_
        refine CW.ret ?_
        refine RetOk.two rfl rfl ?_
        have hin : i = xs.length := by omega
        subst hin
        rw [List.take_length, filter_at hso hp hh] at hos
        refine ⟨?_, kp0⟩
        simp only [RDropR, hr2, if_true, if_neg hf2]
        refine ⟨_, _, rfl, ⟨p, hp, hh, rfl⟩, ?_⟩
        rw [← hos]
        exact hrx0.read hrow (fun g hg => .inl hg) (fun g hg => .inr (own_lt hrow hg).1)
end Go.Proofs.Ytodaagikppaidaa.Cw
