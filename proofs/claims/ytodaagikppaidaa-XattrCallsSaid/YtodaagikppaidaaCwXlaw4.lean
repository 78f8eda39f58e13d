/- The law XattrCalls returns true, whatever the list, the name and the value. -/
import Derived.Test.YtodaagikppaidaaCwXlaw3
/-! The law. -/
namespace Go.Proofs.Ytodaagikppaidaa.Cw
open Go Go.Proofs.Ytodaagikppaidaa.Eng Go.Proofs.Ytodaagikppaidaa.Cl
theorem neq_right {xs : List Xa} : (!(decide ((if xright xs = true then (0 : Int) else 3) = 0) == xright xs)) = false := by
  cases h : xright xs <;> simp
theorem w_law {I : Nat → Prop} {w : World} (hI : ∀ g, I g → g < w.heap.size) {v vv : Value} {xs : List Xa} (hv : XS I w v xs) (name val : List UInt8) (hvv : Sl I w 1 vv (bytesV val)) (hb : xs.length * 40 ≤ 140737488351232) (hb2 : ∀ x, x ∈ xs → x.val.length ≤ 140737488355328) (hbv : val.length ≤ 140737488355328) : Ret P F_cloisterlaw16_XattrCalls [v, T name, vv] w (fun v w' => v = .bool true ∧ Kp [] w w') := by
  refine Ret.enter func_cloisterlaw16_XattrCalls rfl nt_cloisterlaw16_XattrCalls ?_
  obtain ⟨A, c, ev, hnc, he⟩ := id hv
  subst ev
  obtain ⟨Av, cv, rfl, hncv, hrv⟩ := Sl.len hvv
  have st := St.start I w hI []
  obtain ⟨w0, hw0⟩ : ∃ w0, w0 = w := ⟨_, rfl⟩
  subst hw0
  refine CW.seq ?_
  refine CW.region ?_
  refine SL.op (ev_assign rfl) ?_
  refine SL.nil ?_
  refine CW.seq ?_
  refine CW.region ?_
  refine SL.op (ev_move rfl) ?_
  refine SL.call call_cloisterlaw16_copied rfl (w_lcopied hI hv (by omega) hb2) ?_; rintro v1 w1 ⟨hm, kp1⟩
  have st1 := st.call kp1; have up1 := Up.kp kp1 st.lt
  obtain ⟨vm, hvm⟩ : ∃ z, z = v1 := ⟨_, rfl⟩
  subst hvm
  refine SL.bslice0 st1 els_sluint8 ?_; intro w2 g2 st2 up2 kp2 hg2 bk2 own2
  refine SL.op (ev_move rfl) ?_
  refine SL.append st2 els_sluint8 info_uint8 rfl (own2 1) (news := bytesV val) rfl (by rw [bytesV_length, Nat.mul_one]) (fun h => by obtain ⟨a, h1, _, h3⟩ := ((hrv.up up1).up up2) h; exact ⟨a, h1, h3⟩) (bytesV_one _) (by omega) ?_; intro v3 w3 st3 up3 kp3 ob3 own3
  have hvr := own3.row
  simp only [Nat.zero_add, List.nil_append] at hvr
  obtain ⟨A3, c3, e3, hnc3, _⟩ := own_form hvr
  subst e3
  have hm : XNew w0.heap.size w3 vm xs := hm.up (fun g h1 h2 => .inr ⟨h1, h2⟩) (up2.trans up3)
  have hl : XS (AllB w3) w3 (.slice A xs.length c) xs := XS.all (((hv.up up1).up up2).up up3)
  have hvl : Sl (AllB w3) w3 1 (.slice Av val.length cv) (bytesV val) := Sl.all (((hvv.up up1).up up2).up up3)
  have kB := Kp.refl [] w3
  have leB : w0.heap.size ≤ w3.heap.size := st3.kp.2.2.2.1
  have hmB := hm; have hlB := hl; have hvlB := hvl; have hvrB := hvr
  refine SL.op (ev_assign rfl) ?_
  refine SL.op (ev_assign rfl) ?_
  refine SL.nil ?_
  refine CW.seq ?_
  refine CW.region ?_
  refine SL.op (ev_move rfl) ?_
  refine SL.call call_cloisterref16_Right rfl (w_Right (fun _ h => h) hl (by omega)) ?_; rintro v4 w4 ⟨rfl, kp4⟩
  have st4 := st3.keep kp4; have up4 := Up.keep kp4 st3.lt
  have hm := hm.kp kp4
  have hl := XS.kpA hl kp4
  have hvl := Sl.kpA hvl kp4
  have hvr := own_kp hvr kp4
  have kB := kB.trans kp4
  refine SL.op (ev_assign rfl) ?_
  refine SL.nil ?_
  refine CW.seq ?_
  refine CW.region ?_
  refine SL.op (ev_move rfl) ?_
  refine SL.op (ev_move rfl) ?_
  refine SL.call call_xattr_Get rfl (w_Get (fun _ h => h) hm.read (by omega) hb2 name) ?_; rintro v5 w5 ⟨hg, kp5⟩
  have st5 := st4.keep kp5; have up5 := Up.keep kp5 st4.lt
  obtain ⟨u, e, bs, rfl, ha, hgs⟩ := hg.split
  have ha := own_base (b' := w3.heap.size) ha (fun g hg => Nat.le_trans kB.2.2.2.1 (own_lt ha hg).1)
  obtain ⟨Aa, ca, ea, hnca, _⟩ := own_form ha
  subst ea
  have hm := hm.kp kp5
  have hl := XS.kpA hl kp5
  have hvl := Sl.kpA hvl kp5
  have hvr := own_kp hvr kp5
  have kB := kB.trans kp5
  refine SL.op (ev_move rfl) ?_
  refine SL.op (ev_extract rfl rfl) ?_
  refine SL.op (ev_extract rfl rfl) ?_
  refine SL.op (ev_assign rfl) ?_
  refine SL.op (ev_assign rfl) ?_
  refine SL.nil ?_
  refine CW.seq ?_
  refine CW.region ?_
  refine SL.op (ev_move rfl) ?_
  refine SL.op (ev_move rfl) ?_
  refine SL.op (ev_move rfl) ?_
  refine SL.call call_xattr_Set rfl (w_Set (fun _ h => h) hm.read (by omega) hb2 name val (own_all hvr) hbv) ?_; rintro v6 w6 ⟨hset, kp6⟩
  have st6 := st5.keep kp6; have up6 := Up.keep kp6 st5.lt
  obtain ⟨ub, eb, yb, rfl, hbn, hsb⟩ := hset.split
  have hbn := hbn.lo kB.2.2.2.1
  obtain ⟨Ab, cb, e, hncb, hAb⟩ := hbn.form
  subst e
  have hm := hm.kp kp6
  have hl := XS.kpA hl kp6
  have hvl := Sl.kpA hvl kp6
  have hvr := own_kp hvr kp6
  have kB := kB.trans kp6
  have ha := own_kp ha kp6
  refine SL.op (ev_move rfl) ?_
  refine SL.op (ev_extract rfl rfl) ?_
  refine SL.op (ev_extract rfl rfl) ?_
  refine SL.op (ev_assign rfl) ?_
  refine SL.op (ev_assign rfl) ?_
  refine SL.nil ?_
  refine CW.seq ?_
  refine CW.region ?_
  refine SL.op (ev_move rfl) ?_
  refine SL.op (ev_move rfl) ?_
  refine SL.op (ev_move rfl) ?_
  refine SL.call call_cloisterref16_Set rfl (w_rSet (fun _ h => h) hl (by omega) name val hvl) ?_; rintro v7 w7 ⟨hset2, kp7⟩
  have st7 := st6.keep kp7; have up7 := Up.keep kp7 st6.lt
  obtain ⟨uc, ec, yc, rfl, hcS, hsc⟩ := hset2.split
  have hcS := XS.all hcS
  obtain ⟨he1, he2⟩ := hsb.uniq hsc
  subst he1; subst he2
  have hm := hm.kp kp7
  have hl := XS.kpA hl kp7
  have hvl := Sl.kpA hvl kp7
  have hvr := own_kp hvr kp7
  have kB := kB.trans kp7
  have ha := own_kp ha kp7
  have hbn := hbn.kp kp7
  refine SL.op (ev_move rfl) ?_
  refine SL.op (ev_extract rfl rfl) ?_
  refine SL.op (ev_extract rfl rfl) ?_
  refine SL.op (ev_assign rfl) ?_
  refine SL.op (ev_assign rfl) ?_
  refine SL.nil ?_
  refine CW.seq ?_
  refine CW.region ?_
  refine SL.op (ev_move rfl) ?_
  refine SL.op (ev_move rfl) ?_
  refine SL.call call_xattr_Drop rfl (w_Drop (fun _ h => h) hm.read (by omega) hb2 name) ?_; rintro v8 w8 ⟨hdr, kp8⟩
  have st8 := st7.keep kp8; have up8 := Up.keep kp8 st7.lt
  obtain ⟨ux, ex, yx, rfl, hxn, hsx⟩ := hdr.split
  have hxn := hxn.lo kB.2.2.2.1
  obtain ⟨Ax, cx, e, hncx, hAx⟩ := hxn.form
  subst e
  have hm := hm.kp kp8
  have hl := XS.kpA hl kp8
  have hvl := Sl.kpA hvl kp8
  have hvr := own_kp hvr kp8
  have kB := kB.trans kp8
  have ha := own_kp ha kp8
  have hbn := hbn.kp kp8
  have hcS := XS.kpA hcS kp8
  refine SL.op (ev_move rfl) ?_
  refine SL.op (ev_extract rfl rfl) ?_
  refine SL.op (ev_extract rfl rfl) ?_
  refine SL.op (ev_assign rfl) ?_
  refine SL.op (ev_assign rfl) ?_
  refine SL.nil ?_
  refine CW.seq ?_
  refine CW.region ?_
  refine SL.op (ev_move rfl) ?_
  refine SL.op (ev_move rfl) ?_
  refine SL.call call_cloisterref16_Drop rfl (w_rDrop (fun _ h => h) hl (by omega) name) ?_; rintro v9 w9 ⟨hdr2, kp9⟩
  have st9 := st8.keep kp9; have up9 := Up.keep kp9 st8.lt
  obtain ⟨uy, ey, yy, rfl, hyS, hsy⟩ := hdr2.split
  have hyS := XS.all hyS
  obtain ⟨he1, he2⟩ := hsx.uniq hsy
  subst he1; subst he2
  have hm := hm.kp kp9
  have hl := XS.kpA hl kp9
  have hvl := Sl.kpA hvl kp9
  have hvr := own_kp hvr kp9
  have kB := kB.trans kp9
  have ha := own_kp ha kp9
  have hbn := hbn.kp kp9
  have hcS := XS.kpA hcS kp9
  have hxn := hxn.kp kp9
  refine SL.op (ev_move rfl) ?_
  refine SL.op (ev_extract rfl rfl) ?_
  refine SL.op (ev_extract rfl rfl) ?_
  refine SL.op (ev_assign rfl) ?_
  refine SL.op (ev_assign rfl) ?_
  refine SL.nil ?_
  refine CW.seq ?_
  refine CW.region ?_
  refine SL.op (ev_move rfl) ?_
  refine SL.op (ev_move rfl) ?_
  refine SL.call call_cloisterref16_Index rfl (w_Index' hl (by omega) name) ?_; rintro v10 w10 ⟨rfl, rfl⟩
  obtain ⟨at_, hat⟩ : ∃ z, z = xidx xs name := ⟨_, rfl⟩
  rw [← hat]
  refine SL.op (ev_assign rfl) ?_
  refine SL.nil ?_
  refine CW.seq ?_
  refine CW.mono (N' := fun L' w' => Eng.Sub L' ([(0, .slice A xs.length c), (2, .slice Av val.length cv), (7, vm), (8, .slice A3 val.length c3), (9, .bool (xright xs)), (10, .slice Aa bs.length ca), (12, .slice Ab yb.length cb), (13, .int .i64 eb), (14, uc), (15, .int .i64 eb), (16, .slice Ax yx.length cx), (17, .int .i64 ex), (18, uy), (19, .int .i64 ex)]) ∧ Kp [] w10 w') ?_ ?_
  · refine CW.block ?_
    refine CW.seq ?_
    refine CW.region ?_
    refine SL.op (ev_move rfl) ?_
    refine SL.op (ev_not rfl) ?_
    refine SL.op (ev_assign rfl) ?_
    refine SL.nil ?_
    refine CW.cond rfl (fun hr => ?_) (fun hr => ?_)
    · skip
      refine CW.seq ?_
      refine CW.region ?_
      have hr2 : xright xs = false := by simpa using hr
      obtain ⟨he3, hbs⟩ := hgs.1 hr2
      subst he3; subst hbs
      refine SL.op (ev_move rfl) ?_
      refine SL.op (ev_ne rfl rfl) ?_
      refine SL.op (ev_move rfl) ?_
      refine SL.on rfl ?_ ?_
      · rfl
      refine SL.op (ev_move rfl) ?_
      refine SL.on rfl ?_ ?_
      · rfl
      refine SL.op (ev_lenS els_sluint8 rfl) ?_
      refine SL.on rfl ?_ ?_
      · rfl
      refine SL.op (ev_ne rfl rfl) ?_
      refine SL.op (ev_pickF rfl rfl (by rfl)) ?_
      refine SL.nil ?_
      refine CW.ifF rfl ?_ ?_
      · rfl
      refine CW.skip ?_
      exact ⟨by repeat (first | exact Sub.nil _ | refine Sub.cons rfl ?_), Kp.refl _ _⟩
    · skip
      refine CW.seq ?_
      refine CW.region ?_
      have hr2 : xright xs = true := by simpa using hr
      refine SL.op (ev_move rfl) ?_
      refine SL.op (ev_lt rfl rfl) ?_
      refine SL.op (ev_assign rfl) ?_
      refine SL.nil ?_
      refine CW.ifp rfl (fun hi => ?_) (fun hi => ?_)
      · skip
        refine CW.seq ?_
        refine CW.region ?_
        obtain ⟨he4, hbs⟩ := hgs.2.1 hr2 (xidx_lt.1 (by rw [← hat]; exact hi))
        subst he4; subst hbs
        refine SL.op (ev_move rfl) ?_
        refine SL.op (ev_ne rfl rfl) ?_
        refine SL.op (ev_move rfl) ?_
        refine SL.on rfl ?_ ?_
        · rfl
        refine SL.op (ev_move rfl) ?_
        refine SL.on rfl ?_ ?_
        · rfl
        refine SL.op (ev_lenS els_sluint8 rfl) ?_
        refine SL.on rfl ?_ ?_
        · rfl
        refine SL.op (ev_ne rfl rfl) ?_
        refine SL.op (ev_pickF rfl rfl (by rfl)) ?_
        refine SL.nil ?_
        refine CW.ifF rfl ?_ ?_
        · rfl
        refine CW.skip ?_
        exact ⟨by repeat (first | exact Sub.nil _ | refine Sub.cons rfl ?_), Kp.refl _ _⟩
      · skip
        refine CW.seq ?_
        obtain ⟨k, hk, hat2⟩ := xidx_some (by rw [← hat]; exact hi)
        rw [hat2] at hat
        subst hat
        obtain ⟨x, hx, hfx⟩ := idx_some hk
        obtain ⟨he0, hbs⟩ := hgs.2.2 x hr2 hfx
        subst he0; subst hbs
        have hkl := (List.getElem?_eq_some_iff.1 hx).1
        obtain ⟨al, vx, hal, _, hcx, hslx⟩ := hl.at' hx
        subst hal
        obtain ⟨Avx, cvx, rfl, _, hrdx⟩ := Sl.len hslx
        obtain ⟨_, _, eaa, _, hrda⟩ := Sl.len (own_all ha)
        injection eaa with eaa1 eaa2 eaa3
        subst eaa1
        refine CW.quiet mixed (by kernel_rfl) ?_
        refine QL.op (ev_move rfl) ?_
        refine QL.op (ev_ne rfl rfl) ?_
        refine QL.op (ev_move rfl) ?_
        refine QL.on rfl ?_ ?_
        · rfl
        refine QL.op (ev_move rfl) ?_
        refine QL.on rfl ?_ ?_
        · rfl
        refine QL.op (ev_str ⟨_, und_sluint8, und_uint8⟩ und_string rfl rfl (Rd.str hrda)) ?_
        refine QL.on rfl ?_ ?_
        · rfl
        refine QL.op (ev_move rfl) ?_
        refine QL.on rfl ?_ ?_
        · rfl
        refine QL.op (ev_move rfl) ?_
        refine QL.on rfl ?_ ?_
        · rfl
        refine QL.op (ev_idx els_slapi_Xattr rfl rfl (by omega) (by omega)) ?_
        refine QL.on rfl ?_ ?_
        · rfl
        refine QL.op (ev_fld fld_api_Xattr_Value rfl) ?_
        refine QL.on rfl ?_ ?_
        · rfl
        refine QL.op (ev_load one_sluint8 rfl (hcx 1 _ rfl)) ?_
        refine QL.on rfl ?_ ?_
        · rfl
        refine QL.op (ev_str ⟨_, und_sluint8, und_uint8⟩ und_string rfl rfl (Rd.str hrdx)) ?_
        refine QL.on rfl ?_ ?_
        · rfl
        refine QL.op (ev_sne rfl rfl) ?_
        refine QL.op (ev_pickF rfl rfl (by rfl)) ?_
        refine QL.nil ?_; intro w11 kp11; have st11 := st9.keep kp11; have up11 := Up.keep kp11 st9.lt
        refine CW.ifF rfl ?_ ?_
        · simp
        refine CW.skip ?_
        exact ⟨by repeat (first | exact Sub.nil _ | refine Sub.cons rfl ?_), kp11⟩
  · skip
    intro L2 w20 ⟨hs2, kp20⟩
    refine CW.sub ?_ hs2
    have st20 := st9.keep kp20
    have hm := hm.kp kp20
    have hl := XS.kpA hl kp20
    have hvl := Sl.kpA hvl kp20
    have hvr := own_kp hvr kp20
    have ha := own_kp ha kp20
    have hbn := hbn.kp kp20
    have hxn := hxn.kp kp20
    have hcS := XS.kpA hcS kp20
    have hyS := XS.kpA hyS kp20
    have kB := kB.trans kp20
    refine CW.seq ?_
    refine CW.seq ?_
    refine CW.region ?_
    refine SL.call call_cloisterlaw16_fixed rfl (w_fixed) ?_; rintro v12 w12 ⟨rfl, kp12⟩
    have st12 := st20.keep kp12; have up12 := Up.keep kp12 st20.lt
    have hm := hm.kp kp12
    have hl := XS.kpA hl kp12
    have hvl := Sl.kpA hvl kp12
    have hvr := own_kp hvr kp12
    have ha := own_kp ha kp12
    have hbn := hbn.kp kp12
    have hxn := hxn.kp kp12
    have hcS := XS.kpA hcS kp12
    have hyS := XS.kpA hyS kp12
    have kB := kB.trans kp12
    refine SL.op (ev_not rfl) ?_
    refine SL.op (ev_move rfl) ?_
    refine SL.on rfl ?_ ?_
    · rfl
    refine SL.op (ev_move rfl) ?_
    refine SL.on rfl ?_ ?_
    · rfl
    refine SL.call call_xattr_Check rfl (w_Check (fun _ h => h) hm.read (by omega)) ?_; rintro v13 w13 ⟨rfl, kp13⟩
    have st13 := st12.keep kp13; have up13 := Up.keep kp13 st12.lt
    have hm := hm.kp kp13
    have hl := XS.kpA hl kp13
    have hvl := Sl.kpA hvl kp13
    have hvr := own_kp hvr kp13
    have ha := own_kp ha kp13
    have hbn := hbn.kp kp13
    have hxn := hxn.kp kp13
    have hcS := XS.kpA hcS kp13
    have hyS := XS.kpA hyS kp13
    have kB := kB.trans kp13
    refine SL.on rfl ?_ ?_
    · rfl
    refine SL.op (ev_eq rfl rfl) ?_
    refine SL.on rfl ?_ ?_
    · rfl
    refine SL.op (ev_move rfl) ?_
    refine SL.on rfl ?_ ?_
    · rfl
    refine SL.op (ev_neb und_bool rfl rfl) ?_
    rw [neq_right]
    refine SL.op (ev_pickF rfl rfl (by rfl)) ?_
    refine SL.op (ev_move rfl) ?_
    refine SL.on rfl ?_ ?_
    · rfl
    refine SL.op (ev_move rfl) ?_
    refine SL.on rfl ?_ ?_
    · rfl
    refine SL.op (ev_move rfl) ?_
    refine SL.on rfl ?_ ?_
    · rfl
    refine SL.call call_cloisterref16_Same rfl (w_Same (fun _ h => h) hbn.read hcS (by have := hsb.len; omega)) ?_; rintro v14 w14 ⟨⟨b1, rfl, hb1⟩, kp14⟩
    have st14 := st13.keep kp14; have up14 := Up.keep kp14 st13.lt
    have hm := hm.kp kp14
    have hl := XS.kpA hl kp14
    have hvl := Sl.kpA hvl kp14
    have hvr := own_kp hvr kp14
    have ha := own_kp ha kp14
    have hbn := hbn.kp kp14
    have hxn := hxn.kp kp14
    have hcS := XS.kpA hcS kp14
    have hyS := XS.kpA hyS kp14
    have kB := kB.trans kp14
    have hb1' := hb1.2 rfl
    subst hb1'
    refine SL.on rfl ?_ ?_
    · rfl
    refine SL.op (ev_not rfl) ?_
    refine SL.op (ev_pickF rfl rfl (by rfl)) ?_
    refine SL.op (ev_move rfl) ?_
    refine SL.on rfl ?_ ?_
    · rfl
    refine SL.op (ev_move rfl) ?_
    refine SL.on rfl ?_ ?_
    · rfl
    refine SL.op (ev_move rfl) ?_
    refine SL.on rfl ?_ ?_
    · rfl
    refine SL.op (ev_ne rfl rfl) ?_
    rw [show decide (eb ≠ eb) = false by simp]
    refine SL.op (ev_pickF rfl rfl (by rfl)) ?_
    refine SL.op (ev_move rfl) ?_
    refine SL.on rfl ?_ ?_
    · rfl
    refine SL.op (ev_move rfl) ?_
    refine SL.on rfl ?_ ?_
    · rfl
    refine SL.op (ev_move rfl) ?_
    refine SL.on rfl ?_ ?_
    · rfl
    refine SL.call call_cloisterref16_Same rfl (w_Same (fun _ h => h) hxn.read hyS (by have := hsx.len; omega)) ?_; rintro v15 w15 ⟨⟨b2, rfl, hb2_⟩, kp15⟩
    have st15 := st14.keep kp15; have up15 := Up.keep kp15 st14.lt
    have hm := hm.kp kp15
    have hl := XS.kpA hl kp15
    have hvl := Sl.kpA hvl kp15
    have hvr := own_kp hvr kp15
    have ha := own_kp ha kp15
    have hbn := hbn.kp kp15
    have hxn := hxn.kp kp15
    have hcS := XS.kpA hcS kp15
    have hyS := XS.kpA hyS kp15
    have kB := kB.trans kp15
    have hb2' := hb2_.2 rfl
    subst hb2'
    refine SL.on rfl ?_ ?_
    · rfl
    refine SL.op (ev_not rfl) ?_
    refine SL.op (ev_pickF rfl rfl (by rfl)) ?_
    refine SL.op (ev_move rfl) ?_
    refine SL.on rfl ?_ ?_
    · rfl
    refine SL.op (ev_move rfl) ?_
    refine SL.on rfl ?_ ?_
    · rfl
    refine SL.op (ev_move rfl) ?_
    refine SL.on rfl ?_ ?_
    · rfl
    refine SL.op (ev_ne rfl rfl) ?_
    rw [show decide (ex ≠ ex) = false by simp]
    refine SL.op (ev_pickF rfl rfl (by rfl)) ?_
    refine SL.nil ?_
    refine CW.ifF rfl ?_ ?_
    · rfl
    refine CW.skip ?_
    refine CW.seq ?_
    refine CW.seq ?_
    refine CW.region ?_
    refine SL.op (ev_move rfl) ?_
    refine SL.op (ev_lenS els_sluint8 rfl) ?_
    refine SL.op (ev_move rfl) ?_
    refine SL.nil ?_
    refine CW.block ?_
    refine CW.loop (α := Nat) (fun i => [(0, .slice A xs.length c), (2, .slice Av val.length cv), (7, vm), (8, .slice A3 val.length c3), (10, .slice Aa bs.length ca), (12, .slice Ab yb.length cb), (16, .slice Ax yx.length cx), (135, .int .i64 bs.length), (136, .int .i64 i)]) (fun i w => i ≤ bs.length ∧ Inv w0 w3 (.slice Aa bs.length ca) (.slice Ab yb.length cb) (.slice Ax yx.length cx) bs.length (yb.map (fun x => x.val.length)) (yx.map (fun x => x.val.length)) w) (fun i => bs.length - i) 0 (by repeat (first | exact Sub.nil _ | refine Sub.cons rfl ?_)) (⟨Nat.zero_le _, ⟨leB, ⟨bs, rfl, ha⟩, hbn.weak (Nat.le_refl _), hxn.weak (Nat.le_refl _), fun g hg => kB.2.2.2.2 g hg (by simp), st15.kp⟩⟩) ?_
    rintro i w ⟨hi, inv⟩
    refine CW.seq ?_
    refine CW.region ?_
    refine SL.op (ev_lt rfl rfl) ?_
    refine SL.nil ?_
    refine CW.seq ?_
    refine CW.ifp rfl (fun h => ?_) (fun h => ?_)
    · skip
      refine CW.skip ?_
      refine CW.seq ?_
      obtain ⟨g, cap, cur, b, e, hB, hbk, hcj⟩ := inv.a.at (j := i) (by omega)
      injection e with e1 e2 e3
      subst e1
      have stL := St.blk inv.kp hbk (Nat.le_trans inv.le hB)
      have hbl : bs.length ≤ 9223372036854775807 := by have := hnca; have := own_cap ha; omega
      refine CW.block ?_
      refine CW.seq ?_
      refine CW.region ?_
      refine SL.op (ev_move rfl) ?_
      refine SL.op (ev_assign rfl) ?_
      skip
      refine SL.nil ?_
      refine CW.region ?_
      refine SL.op (ev_move rfl) ?_
      refine SL.op (ev_move rfl) ?_
      refine SL.op (ev_idx els_sluint8 rfl rfl (by omega) (by omega)) ?_
      rw [add_off, Nat.zero_add, Int.toNat_natCast, Nat.mul_one]
      refine SL.op (ev_load one_uint8 rfl (by have := hbk.cell i; simp only at this; rw [this]; exact hcj)) ?_
      refine SL.op (ev_addk rfl rfl) ?_
      rw [wrap_inc]
      refine SL.op (ev_idx els_sluint8 rfl rfl (by omega) (by omega)) ?_
      rw [add_off, Nat.zero_add, Int.toNat_natCast, Nat.mul_one]
      refine SL.store stL 0 one_uint8 rfl rfl rfl hcj ?_; intro w16 st16 up16 kp16
      have inv16 := inv.turn hB hbk kp16 (st16.ok _ (.head _))
      refine SL.nil ?_
      refine CW.region ?_
      refine SL.op (ev_add rfl rfl (by omega) (by omega)) ?_
      refine SL.op (ev_move rfl) ?_
      refine SL.nil ?_
      refine ⟨i + 1, by repeat (first | exact Sub.nil _ | refine Sub.cons rfl ?_), ⟨by omega, inv16⟩, by omega⟩
    · skip
      refine CW.exit ?_
      refine CW.seq ?_
      refine CW.seq ?_
      refine CW.region ?_
      refine SL.op (ev_move rfl) ?_
      refine SL.op (ev_lenS els_slapi_Xattr rfl) ?_
      refine SL.op (ev_move rfl) ?_
      refine SL.nil ?_
      refine CW.block ?_
      refine CW.loop (α := Nat) (fun k => [(0, .slice A xs.length c), (2, .slice Av val.length cv), (7, vm), (8, .slice A3 val.length c3), (12, .slice Ab yb.length cb), (16, .slice Ax yx.length cx), (147, .int .i64 yb.length), (148, .int .i64 k)]) (fun k w => k ≤ yb.length ∧ Inv w0 w3 (.slice Aa bs.length ca) (.slice Ab yb.length cb) (.slice Ax yx.length cx) bs.length (yb.map (fun x => x.val.length)) (yx.map (fun x => x.val.length)) w) (fun k => yb.length - k) 0 (by repeat (first | exact Sub.nil _ | refine Sub.cons rfl ?_)) (⟨Nat.zero_le _, inv⟩) ?_
      rintro k w ⟨hk, inv⟩
      refine CW.seq ?_
      refine CW.region ?_
      refine SL.op (ev_lt rfl rfl) ?_
      refine SL.nil ?_
      refine CW.seq ?_
      refine CW.ifp rfl (fun h => ?_) (fun h => ?_)
      · skip
        refine CW.skip ?_
        refine CW.seq ?_
        have invb := inv.b
        obtain ⟨cs, hr, hn⟩ := invb
        obtain ⟨gs, hgs⟩ := hAb (by omega)
        subst hgs
        obtain ⟨vv, hcv, hbr⟩ := hn k (yb[k]'(by omega)).val.length (by rw [List.getElem?_map, List.getElem?_eq_getElem (by omega)]; rfl)
        obtain ⟨nn, hnn⟩ : ∃ nn, nn = (yb[k]'(by omega)).val.length := ⟨_, rfl⟩
        rw [← hnn] at hbr
        obtain ⟨bv, hbvl, hbvr⟩ := id hbr
        obtain ⟨Aw, cw, rfl, hnw, hmw, _⟩ := own_form hbvr
        have hnn2 : nn ≤ 9223372036854775807 := by unfold maxLen at hmw; omega
        have hy5 := hsb.len
        refine CW.block ?_
        refine CW.seq ?_
        refine CW.region ?_
        refine SL.op (ev_move rfl) ?_
        refine SL.op (ev_assign rfl) ?_
        refine SL.nil ?_
        refine CW.seq ?_
        refine CW.region ?_
        refine SL.op (ev_move rfl) ?_
        refine SL.op (ev_move rfl) ?_
        refine SL.op (ev_idx els_slapi_Xattr rfl rfl (by omega) (by omega)) ?_
        refine SL.op (ev_fld fld_api_Xattr_Value rfl) ?_
        refine SL.op (ev_load one_sluint8 rfl (by rw [add_add, show (k : Int).toNat * 2 + 1 = 2 * k + 1 by omega]; exact World.ownsRow.cells (g := gs) hr rfl _ _ hcv)) ?_
        refine SL.op (ev_lenS els_sluint8 rfl) ?_
        refine SL.op (ev_move rfl) ?_
        refine SL.nil ?_
        refine CW.block ?_
        refine CW.loop (α := Nat) (fun j => [(0, .slice A xs.length c), (2, .slice Av val.length cv), (7, vm), (8, .slice A3 val.length c3), (12, .slice (some ⟨gs, 0, none⟩) yb.length cb), (16, .slice Ax yx.length cx), (147, .int .i64 yb.length), (148, .int .i64 k), (22, .int .i64 k), (156, .int .i64 nn), (157, .int .i64 j)]) (fun j w => j ≤ nn ∧ Inv w0 w3 (.slice Aa bs.length ca) (.slice (some ⟨gs, 0, none⟩) yb.length cb) (.slice Ax yx.length cx) bs.length (yb.map (fun x => x.val.length)) (yx.map (fun x => x.val.length)) w) (fun j => nn - j) 0 (by repeat (first | exact Sub.nil _ | refine Sub.cons rfl ?_)) (⟨Nat.zero_le _, inv⟩) ?_
        rintro j w ⟨hj, inv⟩
        refine CW.seq ?_
        refine CW.region ?_
        refine SL.op (ev_lt rfl rfl) ?_
        refine SL.nil ?_
        refine CW.seq ?_
        refine CW.ifp rfl (fun h2 => ?_) (fun h2 => ?_)
        · skip
          refine CW.skip ?_
          refine CW.seq ?_
          have invb := inv.b
          obtain ⟨cs, hr, hn⟩ := invb
          obtain ⟨vv, hcv, hbr⟩ := hn k (yb[k]'(by omega)).val.length (by rw [List.getElem?_map, List.getElem?_eq_getElem (by omega)]; rfl)
          rw [← hnn] at hbr
          obtain ⟨g, cap, cur, b, e, hB, hbk, hcj⟩ := hbr.at (j := j) (by omega)
          subst e
          have stX := St.blk inv.kp hbk (Nat.le_trans inv.le hB)
          refine CW.block ?_
          refine CW.seq ?_
          refine CW.region ?_
          refine SL.op (ev_move rfl) ?_
          refine SL.op (ev_assign rfl) ?_
          skip
          refine SL.nil ?_
          refine CW.region ?_
          refine SL.op (ev_move rfl) ?_
          refine SL.op (ev_move rfl) ?_
          refine SL.op (ev_idx els_slapi_Xattr rfl rfl (by omega) (by omega)) ?_
          refine SL.op (ev_fld fld_api_Xattr_Value rfl) ?_
          refine SL.op (ev_load one_sluint8 rfl (by rw [add_add, show (k : Int).toNat * 2 + 1 = 2 * k + 1 by omega]; exact World.ownsRow.cells (g := gs) hr rfl _ _ hcv)) ?_
          refine SL.op (ev_move rfl) ?_
          refine SL.op (ev_idx els_sluint8 rfl rfl (by omega) (by omega)) ?_
          rw [add_off, Nat.zero_add, Int.toNat_natCast, Nat.mul_one]
          refine SL.op (ev_load one_uint8 rfl (by have := hbk.cell j; simp only at this; rw [this]; exact hcj)) ?_
          refine SL.op (ev_addk rfl rfl) ?_
          rw [wrap_inc]
          refine SL.op (ev_idx els_sluint8 rfl rfl (by omega) (by omega)) ?_
          rw [add_off, Nat.zero_add, Int.toNat_natCast, Nat.mul_one]
          refine SL.store stX 0 one_uint8 rfl rfl rfl hcj ?_; intro w17 st17 up17 kp17
          have inv17 := inv.turn hB hbk kp17 (st17.ok _ (.head _))
          refine SL.nil ?_
          refine CW.region ?_
          refine SL.op (ev_add rfl rfl (by omega) (by omega)) ?_
          refine SL.op (ev_move rfl) ?_
          refine SL.nil ?_
          refine ⟨j + 1, by repeat (first | exact Sub.nil _ | refine Sub.cons rfl ?_), ⟨by omega, inv17⟩, by omega⟩
        · skip
          refine CW.exit ?_
          refine CW.region ?_
          refine SL.op (ev_add rfl rfl (by omega) (by omega)) ?_
          refine SL.op (ev_move rfl) ?_
          refine SL.nil ?_
          refine ⟨k + 1, by repeat (first | exact Sub.nil _ | refine Sub.cons rfl ?_), ⟨by omega, inv⟩, by omega⟩
      · skip
        refine CW.exit ?_
        refine CW.seq ?_
        refine CW.seq ?_
        refine CW.region ?_
        refine SL.op (ev_move rfl) ?_
        refine SL.op (ev_lenS els_slapi_Xattr rfl) ?_
        refine SL.op (ev_move rfl) ?_
        refine SL.nil ?_
        refine CW.block ?_
        refine CW.loop (α := Nat) (fun k => [(0, .slice A xs.length c), (2, .slice Av val.length cv), (7, vm), (8, .slice A3 val.length c3), (12, .slice Ab yb.length cb), (16, .slice Ax yx.length cx), (173, .int .i64 yx.length), (174, .int .i64 k)]) (fun k w => k ≤ yx.length ∧ Inv w0 w3 (.slice Aa bs.length ca) (.slice Ab yb.length cb) (.slice Ax yx.length cx) bs.length (yb.map (fun x => x.val.length)) (yx.map (fun x => x.val.length)) w) (fun k => yx.length - k) 0 (by repeat (first | exact Sub.nil _ | refine Sub.cons rfl ?_)) (⟨Nat.zero_le _, inv⟩) ?_
        rintro k w ⟨hk, inv⟩
        refine CW.seq ?_
        refine CW.region ?_
        refine SL.op (ev_lt rfl rfl) ?_
        refine SL.nil ?_
        refine CW.seq ?_
        refine CW.ifp rfl (fun h => ?_) (fun h => ?_)
        · skip
          refine CW.skip ?_
          refine CW.seq ?_
          have invx := inv.x
          obtain ⟨cs, hr, hn⟩ := invx
          obtain ⟨gs, hgs⟩ := hAx (by omega)
          subst hgs
          obtain ⟨vv, hcv, hbr⟩ := hn k (yx[k]'(by omega)).val.length (by rw [List.getElem?_map, List.getElem?_eq_getElem (by omega)]; rfl)
          obtain ⟨nn, hnn⟩ : ∃ nn, nn = (yx[k]'(by omega)).val.length := ⟨_, rfl⟩
          rw [← hnn] at hbr
          obtain ⟨bv, hbvl, hbvr⟩ := id hbr
          obtain ⟨Aw, cw, rfl, hnw, hmw, _⟩ := own_form hbvr
          have hnn2 : nn ≤ 9223372036854775807 := by unfold maxLen at hmw; omega
          have hy5 := hsx.len
          refine CW.block ?_
          refine CW.seq ?_
          refine CW.region ?_
          refine SL.op (ev_move rfl) ?_
          refine SL.op (ev_assign rfl) ?_
          refine SL.nil ?_
          refine CW.seq ?_
          refine CW.region ?_
          refine SL.op (ev_move rfl) ?_
          refine SL.op (ev_move rfl) ?_
          refine SL.op (ev_idx els_slapi_Xattr rfl rfl (by omega) (by omega)) ?_
          refine SL.op (ev_fld fld_api_Xattr_Value rfl) ?_
          refine SL.op (ev_load one_sluint8 rfl (by rw [add_add, show (k : Int).toNat * 2 + 1 = 2 * k + 1 by omega]; exact World.ownsRow.cells (g := gs) hr rfl _ _ hcv)) ?_
          refine SL.op (ev_lenS els_sluint8 rfl) ?_
          refine SL.op (ev_move rfl) ?_
          refine SL.nil ?_
          refine CW.block ?_
          refine CW.loop (α := Nat) (fun j => [(0, .slice A xs.length c), (2, .slice Av val.length cv), (7, vm), (8, .slice A3 val.length c3), (12, .slice Ab yb.length cb), (16, .slice (some ⟨gs, 0, none⟩) yx.length cx), (173, .int .i64 yx.length), (174, .int .i64 k), (24, .int .i64 k), (182, .int .i64 nn), (183, .int .i64 j)]) (fun j w => j ≤ nn ∧ Inv w0 w3 (.slice Aa bs.length ca) (.slice Ab yb.length cb) (.slice (some ⟨gs, 0, none⟩) yx.length cx) bs.length (yb.map (fun x => x.val.length)) (yx.map (fun x => x.val.length)) w) (fun j => nn - j) 0 (by repeat (first | exact Sub.nil _ | refine Sub.cons rfl ?_)) (⟨Nat.zero_le _, inv⟩) ?_
          rintro j w ⟨hj, inv⟩
          refine CW.seq ?_
          refine CW.region ?_
          refine SL.op (ev_lt rfl rfl) ?_
          refine SL.nil ?_
          refine CW.seq ?_
          refine CW.ifp rfl (fun h2 => ?_) (fun h2 => ?_)
          · skip
            refine CW.skip ?_
            refine CW.seq ?_
            have invx := inv.x
            obtain ⟨cs, hr, hn⟩ := invx
            obtain ⟨vv, hcv, hbr⟩ := hn k (yx[k]'(by omega)).val.length (by rw [List.getElem?_map, List.getElem?_eq_getElem (by omega)]; rfl)
            rw [← hnn] at hbr
            obtain ⟨g, cap, cur, b, e, hB, hbk, hcj⟩ := hbr.at (j := j) (by omega)
            subst e
            have stX := St.blk inv.kp hbk (Nat.le_trans inv.le hB)
            refine CW.block ?_
            refine CW.seq ?_
            refine CW.region ?_
            refine SL.op (ev_move rfl) ?_
            refine SL.op (ev_assign rfl) ?_
            skip
            refine SL.nil ?_
            refine CW.region ?_
            refine SL.op (ev_move rfl) ?_
            refine SL.op (ev_move rfl) ?_
            refine SL.op (ev_idx els_slapi_Xattr rfl rfl (by omega) (by omega)) ?_
            refine SL.op (ev_fld fld_api_Xattr_Value rfl) ?_
            refine SL.op (ev_load one_sluint8 rfl (by rw [add_add, show (k : Int).toNat * 2 + 1 = 2 * k + 1 by omega]; exact World.ownsRow.cells (g := gs) hr rfl _ _ hcv)) ?_
            refine SL.op (ev_move rfl) ?_
            refine SL.op (ev_idx els_sluint8 rfl rfl (by omega) (by omega)) ?_
            rw [add_off, Nat.zero_add, Int.toNat_natCast, Nat.mul_one]
            refine SL.op (ev_load one_uint8 rfl (by have := hbk.cell j; simp only at this; rw [this]; exact hcj)) ?_
            refine SL.op (ev_addk rfl rfl) ?_
            rw [wrap_inc]
            refine SL.op (ev_idx els_sluint8 rfl rfl (by omega) (by omega)) ?_
            rw [add_off, Nat.zero_add, Int.toNat_natCast, Nat.mul_one]
            refine SL.store stX 0 one_uint8 rfl rfl rfl hcj ?_; intro w18 st18 up18 kp18
            have inv18 := inv.turn hB hbk kp18 (st18.ok _ (.head _))
            refine SL.nil ?_
            refine CW.region ?_
            refine SL.op (ev_add rfl rfl (by omega) (by omega)) ?_
            refine SL.op (ev_move rfl) ?_
            refine SL.nil ?_
            refine ⟨j + 1, by repeat (first | exact Sub.nil _ | refine Sub.cons rfl ?_), ⟨by omega, inv18⟩, by omega⟩
          · skip
            refine CW.exit ?_
            refine CW.region ?_
            refine SL.op (ev_add rfl rfl (by omega) (by omega)) ?_
            refine SL.op (ev_move rfl) ?_
            refine SL.nil ?_
            refine ⟨k + 1, by repeat (first | exact Sub.nil _ | refine Sub.cons rfl ?_), ⟨by omega, inv⟩, by omega⟩
        · skip
          refine CW.exit ?_
          refine CW.seq ?_
          refine CW.region ?_
          have hmF : XNew w0.heap.size w vm xs := hmB.up (I := AllB w3) (fun _ _ h => h) inv.up
          have hlF : XS (AllB w) w (.slice A xs.length c) xs := hlB.up inv.up
          have hvlF : Sl (AllB w) w 1 (.slice Av val.length cv) (bytesV val) := hvlB.up inv.up
          have hvrF := (own_up hvrB (I := AllB w3) (fun g hg => (own_lt hvrB hg).2) inv.up).1
          have stF := st.keep inv.kp
          refine SL.op (ev_move rfl) ?_
          refine SL.call call_xattr_Names rfl (w_Names (fun _ h => h) hmF.read (by omega)) ?_; rintro v19 w19 ⟨hns, kp19⟩
          have st19 := stF.keep kp19; have up19 := Up.keep kp19 stF.lt
          obtain ⟨An, cn, e, hncn, _, hAn⟩ := own_form hns
          subst e
          have hmG := hmF.kp kp19
          have hlG := XS.kpA hlF kp19
          have hvlG := Sl.kpA hvlF kp19
          have hvrG := own_kp hvrF kp19
          obtain ⟨wN, hwN⟩ : ∃ z, z = w19 := ⟨_, rfl⟩
          subst hwN
          have kpN := st19.kp
          refine SL.op (ev_assign rfl) ?_
          refine SL.nil ?_
          refine CW.seq ?_
          refine CW.seq ?_
          refine CW.region ?_
          refine SL.op (ev_move rfl) ?_
          refine SL.op (ev_lenS els_slstring rfl) ?_
          refine SL.op (ev_move rfl) ?_
          refine SL.op (ev_lenS els_slapi_Xattr rfl) ?_
          refine SL.op (ev_ne rfl rfl) ?_
          refine SL.nil ?_
          refine CW.ifF rfl ?_ ?_
          · simp
          refine CW.skip ?_
          refine CW.seq ?_
          refine CW.seq ?_
          refine CW.region ?_
          refine SL.op (ev_move rfl) ?_
          refine SL.op (ev_lenS els_slstring rfl) ?_
          refine SL.op (ev_move rfl) ?_
          refine SL.nil ?_
          refine CW.block ?_
          refine CW.loop (α := Nat) (fun i => [(0, .slice A xs.length c), (2, .slice Av val.length cv), (7, vm), (8, .slice A3 val.length c3), (26, .slice An xs.length cn), (206, .int .i64 xs.length), (207, .int .i64 i)]) (fun i w => i ≤ xs.length ∧ Kp [] wN w) (fun i => xs.length - i) 0 (by repeat (first | exact Sub.nil _ | refine Sub.cons rfl ?_)) (⟨Nat.zero_le _, Kp.refl _ _⟩) ?_
          rintro i w ⟨hi, kpi⟩
          have hlH := XS.kpA hlG kpi
          have hnsH := own_kp hns kpi
          have stH := st.keep (kpN.trans kpi)
          refine CW.seq ?_
          refine CW.region ?_
          refine SL.op (ev_lt rfl rfl) ?_
          refine SL.nil ?_
          refine CW.seq ?_
          refine CW.ifp rfl (fun h => ?_) (fun h => ?_)
          · skip
            refine CW.skip ?_
            refine CW.seq ?_
            obtain ⟨x, hx⟩ : ∃ x, xs[i]? = some x := ⟨_, List.getElem?_eq_getElem (by omega)⟩
            obtain ⟨al, vx, hal, _, hcx, hslx⟩ := hlH.at' hx
            obtain ⟨gn, hgn⟩ := hAn (by omega)
            subst hgn
            subst hal
            refine CW.block ?_
            refine CW.seq ?_
            refine CW.region ?_
            refine SL.op (ev_move rfl) ?_
            refine SL.op (ev_assign rfl) ?_
            skip
            refine SL.nil ?_
            refine CW.seq ?_
            refine CW.quiet mixed (by kernel_rfl) ?_
            refine QL.op (ev_move rfl) ?_
            refine QL.op (ev_move rfl) ?_
            refine QL.op (ev_idx els_slstring rfl rfl (by omega) (by omega)) ?_
            refine QL.op (ev_load one_string rfl (by rw [Int.toNat_natCast, Nat.mul_one]; exact World.ownsRow.cells (g := gn) hnsH rfl i (T x.name) (by rw [List.getElem?_map, hx]; rfl))) ?_
            refine QL.op (ev_move rfl) ?_
            refine QL.op (ev_move rfl) ?_
            refine QL.op (ev_idx els_slapi_Xattr rfl rfl (by omega) (by omega)) ?_
            refine QL.op (ev_fld fld_api_Xattr_Name rfl) ?_
            refine QL.op (ev_load one_string rfl (hcx 0 _ rfl)) ?_
            refine QL.op (ev_sne rfl rfl) ?_
            refine QL.nil ?_; intro w20 kp20; have st20 := stH.keep kp20; have up20 := Up.keep kp20 stH.lt
            refine CW.ifF rfl ?_ ?_
            · simp
            refine CW.skip ?_
            refine CW.region ?_
            refine SL.op (ev_add rfl rfl (by omega) (by omega)) ?_
            refine SL.op (ev_move rfl) ?_
            refine SL.nil ?_
            refine ⟨i + 1, by repeat (first | exact Sub.nil _ | refine Sub.cons rfl ?_), ⟨by omega, kpi.trans kp20⟩, by omega⟩
          · skip
            refine CW.exit ?_
            refine CW.seq ?_
            refine CW.region ?_
            have hmI := hmG.kp kpi
            have hvlI := Sl.kpA hvlG kpi
            have hvrI := own_kp hvrG kpi
            refine SL.op (ev_move rfl) ?_
            refine SL.op (ev_move rfl) ?_
            refine SL.call call_cloisterref16_Same rfl (w_Same (fun _ h => h) hmI.read hlH (by omega)) ?_; rintro v21 w21 ⟨⟨b3, rfl, hb3⟩, kp21⟩
            have st21 := stH.keep kp21; have up21 := Up.keep kp21 stH.lt
            have hb3' := hb3.2 rfl
            subst hb3'
            obtain ⟨_, _, ev3, _, hrv3⟩ := Sl.len (own_all (own_kp hvrI kp21))
            injection ev3 with ev31 _ _
            subst ev31
            obtain ⟨_, _, evl, _, hrvl⟩ := Sl.len (Sl.kpA hvlI kp21)
            injection evl with evl1 _ _
            subst evl1
            refine SL.op (ev_move rfl) ?_
            refine SL.on rfl ?_ ?_
            · rfl
            refine SL.op (ev_move rfl) ?_
            refine SL.on rfl ?_ ?_
            · rfl
            refine SL.op (ev_str ⟨_, und_sluint8, und_uint8⟩ und_string rfl rfl (Rd.str hrv3)) ?_
            refine SL.on rfl ?_ ?_
            · rfl
            refine SL.op (ev_move rfl) ?_
            refine SL.on rfl ?_ ?_
            · rfl
            refine SL.op (ev_str ⟨_, und_sluint8, und_uint8⟩ und_string rfl rfl (Rd.str hrvl)) ?_
            refine SL.on rfl ?_ ?_
            · rfl
            refine SL.op (ev_seq rfl rfl) ?_
            refine SL.op (ev_pickT rfl rfl (by rfl)) ?_
            refine SL.op (ev_assign rfl) ?_
            refine SL.nil ?_
            refine CW.ret ?_
            refine RetOk.one rfl ?_
            exact ⟨by simp, st21.kp⟩
end Go.Proofs.Ytodaagikppaidaa.Cw
