/- xattr.Set and xattr.Drop answer as told. -/
import Derived.Test.YtodaagikppaidaaCwXat7
/-! Set, Drop. -/
namespace Go.Proofs.Ytodaagikppaidaa.Cw
open Go Go.Proofs.Ytodaagikppaidaa.Eng Go.Proofs.Ytodaagikppaidaa.Cl
def SetOut (xs : List Xa) (name val : List UInt8) (ys : List Xa) : Prop := ∃ p, XAt xs name p ∧ ys = xs.take p ++ (⟨name, val⟩ :: xs.drop (if xhas xs name p then p + 1 else p))
def SetR (lo : Nat) (w : World) (xs : List Xa) (name val : List UInt8) (v : Value) : Prop :=
  if xright xs = true then
    if xone name val = true then
      if xs.find? (fun x => decide (x.name = name)) = none ∧ xs.length = 4 then v = .tuple #[.slice none 0 0, .int .i64 5]
      else ∃ u ys, v = .tuple #[u, .int .i64 0] ∧ SetOut xs name val ys ∧ XNew lo w u ys
    else v = .tuple #[.slice none 0 0, .int .i64 2]
  else v = .tuple #[.slice none 0 0, .int .i64 3]
def DropOut (xs : List Xa) (name : List UInt8) (ys : List Xa) : Prop := ∃ p, XAt xs name p ∧ xhas xs name p = true ∧ ys = xs.take p ++ xs.drop (p + 1)
def DropR (lo : Nat) (w : World) (xs : List Xa) (name : List UInt8) (v : Value) : Prop :=
  if xright xs = true then
    if xs.find? (fun x => decide (x.name = name)) = none then v = .tuple #[.slice none 0 0, .int .i64 4]
    else ∃ u ys, v = .tuple #[u, .int .i64 0] ∧ DropOut xs name ys ∧ XNew lo w u ys
  else v = .tuple #[.slice none 0 0, .int .i64 3]
theorem NX.ofCall {S : List Nat} {w0 w w' : World} {I J : Nat → Prop} {M : List Bk} {lo2 n : Nat} {cs cs' : List Value} {u : Value} {xs : List Xa} (st : St S w0 I w M) (h : NX J w.heap.size w' cs xs) (hr : w'.ownsRow lo2 T_api_Xattr 2 u n cs') : NX (ExtF I w w' (fun g => u.ownBlock = some g)) w0.heap.size w' cs xs :=
  (h.into (I' := ExtF I w w' (fun g => u.ownBlock = some g)) hr (fun g h1 h2 h3 => .inr ⟨h1, h2, h3⟩) (Nat.le_refl _)).lo st.kp.2.2.2.1
theorem set1 {α : Type} {cs cur cur2 : List α} {p n : Nat} {a b : α} (hp : p < n) (hcl : cs.length = n * 2) (hc : n * 2 ≤ cur.length) (h0 : cur.take (n * 2) = cs) (h2 : cur2 = cur.take (p * 2) ++ [a, b] ++ cur.drop (p * 2 + 2)) : cur2.take (n * 2) = cs.take (p * 2) ++ ([a, b] ++ cs.drop ((p + 1) * 2)) := by
  have hl : (cur.take (p * 2)).length = p * 2 := by rw [List.length_take]; omega
  have e1 : cur.drop (p * 2 + 2) = cs.drop ((p + 1) * 2) ++ cur.drop (n * 2) := by
    rw [← h0, show (p + 1) * 2 = p * 2 + 2 by omega, List.drop_take]
    have := List.take_append_drop (n * 2 - (p * 2 + 2)) (cur.drop (p * 2 + 2))
    rw [List.drop_drop, show p * 2 + 2 + (n * 2 - (p * 2 + 2)) = n * 2 by omega] at this
    exact this.symm
  have hd : (cs.drop ((p + 1) * 2)).length = n * 2 - (p * 2 + 2) := by rw [List.length_drop, hcl]; omega
  rw [h2, e1, ← List.append_assoc, List.take_left' (by simp only [List.length_append, hl, hd, List.length_cons, List.length_nil]; omega), List.append_assoc, ← h0, List.take_take, Nat.min_eq_left (by omega)]
theorem find_none {xs : List Xa} {name : List UInt8} {p : Nat} (hs : XSorted xs) (hp : XAt xs name p) : xs.find? (fun x => decide (x.name = name)) = none ↔ xhas xs name p = false := by
  rw [find_at hs hp]
  cases h : xhas xs name p
  · simp
  · obtain ⟨x, hx, _⟩ := xhas_some h
    simp [hx]
theorem w_Set {I : Nat → Prop} {w : World} (hI : ∀ g, I g → g < w.heap.size) {v vv : Value} {xs : List Xa} (hv : XS I w v xs) (hb : xs.length * 40 ≤ 140737488351232) (hb2 : ∀ x, x ∈ xs → x.val.length ≤ 140737488355328) (name val : List UInt8) (hvv : Sl I w 1 vv (bytesV val)) (hbv : val.length ≤ 140737488355328) : Ret P F_xattr_Set [v, T name, vv] w (fun v w' => SetR w.heap.size w' xs name val v ∧ Kp [] w w') := by
  refine Ret.enter func_xattr_Set rfl nt_xattr_Set ?_
  obtain ⟨A, c, ev, hnc, he⟩ := id hv
  subst ev
  have st := St.start I w hI []
  obtain ⟨w0, hw0⟩ : ∃ w0, w0 = w := ⟨_, rfl⟩
  subst hw0
  refine CW.seq ?_
  refine CW.region ?_
  refine SL.op (ev_assign rfl) ?_
  refine SL.op (ev_assign rfl) ?_
  refine SL.nil ?_
  refine CW.seq ?_
  refine CW.seq ?_
  refine CW.region ?_
  refine SL.op (ev_move rfl) ?_
  refine SL.call call_xattr_Check rfl (w_Check hI hv (by omega)) ?_; rintro v1 w1 ⟨rfl, kp1⟩
  have st1 := st.call kp1; have up1 := Up.kp kp1 st.lt
  have hvA := hv.up up1
  refine SL.op (ev_assign rfl) ?_
  refine SL.nil ?_
  refine CW.seq ?_
  refine CW.region ?_
  refine SL.op (ev_move rfl) ?_
  refine SL.op (ev_ne rfl rfl) ?_
  refine SL.nil ?_
  refine CW.ifp rfl (fun hr => ?_) (fun hr => ?_)
  · skip
    refine CW.seq ?_
    refine CW.region ?_
    refine SL.op (ev_move rfl) ?_
    refine SL.op (ev_assign rfl) ?_
    refine SL.op (ev_assign rfl) ?_
    refine SL.nil ?_
    refine CW.ret ?_
    refine RetOk.two rfl rfl ?_
    have hr2 := ite3.1 hr
    rw [hr2]
    exact ⟨by simp [SetR, hr2], st1.kp⟩
  · skip
    refine CW.skip ?_
    refine CW.seq ?_
    refine CW.region ?_
    refine SL.op (ev_move rfl) ?_
    refine SL.op (ev_move rfl) ?_
    have hr2 : xright xs = true := by
      rw [← Bool.not_eq_false]; exact fun h => hr (ite3.2 h)
    have hso := XSorted.of_right hr2
    have hr4 := ((xright_iff xs).1 hr2).1
    refine SL.call call_xattr_at rfl (w_at st1.lt hvA hso (by omega) name) ?_; rintro v2 w2 ⟨⟨p, hp, rfl⟩, kp2⟩
    have st2 := st1.call kp2; have up2 := Up.kp kp2 st1.lt
    have hvB := hvA.up up2
    have hvvB := (hvv.up up1).up up2
    refine SL.op (ev_move rfl) ?_
    refine SL.op (ev_extract rfl rfl) ?_
    refine SL.op (ev_extract rfl rfl) ?_
    refine SL.op (ev_assign rfl) ?_
    refine SL.op (ev_assign rfl) ?_
    refine SL.nil ?_
    refine CW.seq ?_
    refine CW.block ?_
    refine CW.seq ?_
    refine CW.region ?_
    refine SL.op (ev_move rfl) ?_
    refine SL.op (ev_move rfl) ?_
    refine SL.call call_xattr_one rfl (w_one st2.lt hvvB) ?_; rintro v3 w3 ⟨rfl, rfl⟩
    refine SL.op (ev_not rfl) ?_
    refine SL.op (ev_assign rfl) ?_
    refine SL.nil ?_
    refine CW.cond rfl (fun ho => ?_) (fun ho => ?_)
    · skip
      refine CW.seq ?_
      refine CW.region ?_
      refine SL.op (ev_assign rfl) ?_
      refine SL.op (ev_assign rfl) ?_
      refine SL.nil ?_
      refine CW.ret ?_
      refine RetOk.two rfl rfl ?_
      have ho2 : xone name val = false := by simpa using ho
      exact ⟨by simp [SetR, hr2, ho2], st2.kp⟩
    · skip
      refine CW.seq ?_
      refine CW.region ?_
      have ho2 : xone name val = true := by simpa using ho
      refine SL.op (ev_move rfl) ?_
      refine SL.op (ev_not rfl) ?_
      refine SL.op (ev_move rfl) ?_
      refine SL.cutPut 4 36 (.bool (!xhas xs name p && decide (xs.length = 4))) ?_ ?_
      · by_cases hj1 : (!xhas xs name p) = true
        · skip
          refine SL.on rfl ?_ ?_
          · first | exact decide_eq_true hj1 | exact hj1 | simpa using hj1
          refine SL.op (ev_move rfl) ?_
          refine SL.on rfl ?_ ?_
          · first | exact decide_eq_true hj1 | exact hj1 | simpa using hj1
          refine SL.op (ev_lenS els_slapi_Xattr rfl) ?_
          refine SL.on rfl ?_ ?_
          · first | exact decide_eq_true hj1 | exact hj1 | simpa using hj1
          refine SL.op (ev_eq rfl rfl) ?_
          refine SL.op (ev_pickT rfl rfl (by first | exact decide_eq_true hj1 | exact hj1 | simpa using hj1)) ?_
          exact SL.nil ⟨rfl, Sub.put (by exact bsome (by grind)) (by repeat (first | exact Sub.refl _ | refine Sub.skip rfl ?_))⟩
        · skip
          refine SL.off rfl ?_ ?_
          · first | exact decide_eq_false hj1 | simpa using hj1
          refine SL.off rfl ?_ ?_
          · first | exact decide_eq_false hj1 | simpa using hj1
          refine SL.off rfl ?_ ?_
          · first | exact decide_eq_false hj1 | simpa using hj1
          refine SL.op (ev_pickF rfl rfl (by first | exact decide_eq_false hj1 | simpa using hj1)) ?_
          exact SL.nil ⟨rfl, Sub.put (by exact bsome (by grind)) (by repeat (first | exact Sub.refl _ | refine Sub.skip rfl ?_))⟩
      refine SL.op (ev_assign rfl) ?_
      refine SL.nil ?_
      refine CW.cond rfl (fun hf => ?_) (fun hf => ?_)
      · skip
        refine CW.seq ?_
        refine CW.region ?_
        refine SL.op (ev_assign rfl) ?_
        refine SL.op (ev_assign rfl) ?_
        refine SL.nil ?_
        refine CW.ret ?_
        refine RetOk.two rfl rfl ?_
        have hf2 : xs.find? (fun x => decide (x.name = name)) = none ∧ xs.length = 4 := by
          simp only [Bool.and_eq_true, Bool.not_eq_true', decide_eq_true_eq] at hf
          exact ⟨(find_none hso hp).2 hf.1, hf.2⟩
        exact ⟨by simp only [SetR, hr2, ho2, if_true, if_pos hf2], st2.kp⟩
      · skip
        refine CW.skip ?_
        refine CW.seq ?_
        refine CW.region ?_
        have hf2 : ¬ (xs.find? (fun x => decide (x.name = name)) = none ∧ xs.length = 4) := by
          rintro ⟨h1, h2⟩
          rw [(find_none hso hp).1 h1] at hf
          simp [h2] at hf
        refine SL.op (ev_move rfl) ?_
        refine SL.call call_xattr_copied rfl (w_copied st2.lt hvB (by omega) hb2) ?_; rintro v4 w4 ⟨⟨cs, hrow, hnx⟩, kp4⟩
        have st4 := st2.callT kp4 Free.nil (fun g => v4.ownBlock = some g)
        have up4 := Up.callT st2 kp4 Free.nil (fun g => v4.ownBlock = some g)
        have own4 : Own _ _ _ _ _ _ _ _ _ _ := Own.ofCall (F := fun g => v4.ownBlock = some g) st2 Free.nil hrow (fun g hg => .inl (own_lt hrow hg).1) (fun g hg => hg)
        have nx4 := NX.ofCall st2 hnx hrow
        have hcl : cs.length = xs.length * 2 := hrow.1
        refine SL.op (ev_assign rfl) ?_
        refine SL.nil ?_
        refine CW.seq ?_
        refine CW.region ?_
        refine SL.op (ev_move rfl) ?_
        refine SL.op (ev_move rfl) ?_
        refine SL.call call_slices_Clone_byte rfl (w_Clone st4.lt (hvvB.up up4) hbv) ?_; rintro v5 w5 ⟨kp5, hrowv⟩
        have st5 := st4.call kp5; have up5 := Up.kp kp5 st4.lt
        obtain ⟨Av, cv, rfl, hnv, _⟩ := own_form hrowv
        have own5 := own4.call kp5
        have nx5 := nx4.up up5
        have hlov : w0.heap.size ≤ w4.heap.size := st4.kp.2.2.2.1
        have hinv : ∀ g, (Value.slice Av val.length cv).ownBlock = some g → _ := fun g hg => (.inr ⟨(own_lt hrowv hg).1, (own_lt hrowv hg).2⟩ : Ext (ExtF (Ext (Ext I w0 w1) w1 w3) w3 w4 fun g => v4.ownBlock = some g) w4 w5 g)
        refine SL.op (ev_bld bld_api_Xattr rfl) ?_
        refine SL.alloc st5 zero_api_Xattr ?_; intro w6 g6 st6 up6 kp6 hg6
        refine SL.storeN st6 0 agg_api_Xattr rfl rfl rfl ?_; intro w7 st7 up7 kp7
        have own7 := own5.var (t := T_api_Xattr) (cs := [T name, .slice Av val.length cv]) kp6 hg6 kp7
        have hrow7 := own_up (own_up hrowv hinv up6).1 (own_up hrowv hinv up6).2 up7
        have nx7 := (nx5.up up6).up up7
        have nxv : NX _ w0.heap.size w7 [T name, .slice Av val.length cv] [⟨name, val⟩] := NX.one (x := ⟨name, val⟩) (own_base hrow7.1 (fun g hg => Nat.le_trans hlov (own_lt hrow7.1 hg).1)) hrow7.2
        have hpx : (xs.take p).length = p := by rw [List.length_take]; have := hp.1; omega
        have hpc : (cs.take (p * 2)).length = p * 2 := by rw [List.length_take, hcl]; have := hp.1; omega
        refine SL.nil ?_
        refine CW.seq ?_
        refine CW.seq ?_
        refine CW.region ?_
        refine SL.op (ev_move rfl) ?_
        refine SL.nil ?_
        refine CW.cond rfl (fun ht => ?_) (fun ht => ?_)
        · skip
          refine CW.seq ?_
          refine CW.region ?_
          obtain ⟨x, hx, hxn⟩ := xhas_some ht
          have hpl := (List.getElem?_eq_some_iff.1 hx).1
          obtain ⟨go, cap, cur, e, hnc', hcm', hclc, hcur, hgs, stM⟩ := Own.toM st7 own7 (by omega)
          subst e
          refine SL.op (ev_move rfl) ?_
          refine SL.op (ev_move rfl) ?_
          refine SL.op (ev_loadMN stM 1 agg_api_Xattr rfl rfl) ?_
          refine SL.op (ev_idx els_slapi_Xattr rfl rfl (by omega) (by omega)) ?_
          rw [add_off, Nat.zero_add, Int.toNat_natCast]
          refine SL.storeN stM 0 agg_api_Xattr rfl rfl rfl (hb := Nat.ble_eq_true_of_le (by rw [hclc]; show _ + 2 ≤ _; omega)) ?_; intro w8 st8 up8 kp8
          refine SL.nil ?_
          refine CW.seq ?_
          refine CW.region ?_
          refine SL.op (ev_move rfl) ?_
          refine SL.op (ev_assign rfl) ?_
          refine SL.op (ev_assign rfl) ?_
          refine SL.nil ?_
          refine CW.ret ?_
          refine RetOk.two rfl rfl ?_
          have hst := st8
          obtain ⟨cur2, hc2⟩ : ∃ c, c = cur.take (p * 2) ++ [T name, .slice Av val.length cv] ++ cur.drop (p * 2 + [T name, .slice Av val.length cv].length) := ⟨_, rfl⟩
          have hl2 : cur2.length = cap * 2 := by
            rw [hc2]; simp only [List.length_append, List.length_take, List.length_drop, List.length_cons, List.length_nil]; omega
          have hfin := Own.ofM (n := xs.length) (cur := cur2) (by rw [hc2]; exact hst) hnc' hcm' hl2 rfl
          refine ⟨?_, hst.kp⟩
          have hlen : (xs.take p ++ (⟨name, val⟩ : Xa) :: xs.drop (p + 1)).length = xs.length := by simp; omega
          simp only [SetR, hr2, ho2, if_true, if_neg hf2]
          refine ⟨_, _, rfl, ⟨p, hp, rfl⟩, cs.take (p * 2) ++ ([T name, .slice Av val.length cv] ++ cs.drop ((p + 1) * 2)), ?_, ?_⟩
          · rw [ht, if_pos rfl, hlen]
            have := own_base (b' := w0.heap.size) hfin.row (fun g hg => (hfin.out g hg).2.2.resolve_left (by simp))
            rwa [set1 hpl hcl (by omega) hcur hc2] at this
          · rw [ht, if_pos rfl]
            exact (((nx7.up up8).take p).app (by rw [hpc, hpx]) ((nxv.up up8).app rfl ((nx7.up up8).drop (p + 1)))).any
        · skip
          refine CW.skip ?_
          refine CW.seq ?_
          refine CW.region ?_
          refine SL.op (ev_move rfl) ?_
          refine SL.op (ev_move rfl) ?_
          refine SL.op (ev_loadMN st7 0 agg_api_Xattr rfl rfl) ?_
          refine SL.bsl st7 els_slapi_Xattr info_api_Xattr rfl ?_; intro w9 g9 st9 up9 kp9 hg9
          refine SL.call call_slices_Insert_Xattr rfl (w_Insert (own7.more kp9 hg9 (b := ⟨g9, T_api_Xattr, [T name, .slice Av val.length cv]⟩)).row hp.1 (by omega) (st9.ok _ (.head _)) rfl (nx7.ones hcl) (fun e => ((own7.more kp9 hg9 (b := ⟨g9, T_api_Xattr, [T name, .slice Av val.length cv]⟩)).out g9 e).2.1 _ (.head _) rfl)) ?_; rintro v10 w10 ⟨kp10, hrowi, hob⟩
          have own9 := own7.more kp9 hg9 (b := ⟨g9, T_api_Xattr, [T name, .slice Av val.length cv]⟩)
          have st10 := st9.callT kp10 own9.free (fun _ => False); have up10 := Up.callT st9 kp10 own9.free (fun _ => False)
          refine SL.op (ev_assign rfl) ?_
          refine SL.op (ev_assign rfl) ?_
          refine SL.nil ?_
          refine CW.ret ?_
          refine RetOk.two rfl rfl ?_
          refine ⟨?_, st10.kp⟩
          have hht : xhas xs name p = false := by simpa using ht
          have hlen : (xs.take p ++ (⟨name, val⟩ : Xa) :: xs.drop p).length = xs.length + 1 := by simp; have := hp.1; omega
          simp only [SetR, hr2, ho2, if_true, if_neg hf2]
          refine ⟨_, _, rfl, ⟨p, hp, rfl⟩, cs.take (p * 2) ++ ([T name, .slice Av val.length cv] ++ cs.drop (p * 2)), ?_, ?_⟩
          · rw [hht, if_neg (by simp), hlen, ← List.append_assoc]
            refine own_base hrowi (fun g hg => ?_)
            rcases hob with h | ⟨g', h1, h2⟩
            · rw [h] at hg; exact (own9.out g hg).2.2.resolve_left (by simp)
            · rw [h1] at hg; injection hg with hg; subst hg; exact Nat.le_trans st9.kp.2.2.2.1 h2
          · rw [hht, if_neg (by simp)]
            exact ((((nx7.up up9).up up10).take p).app (by rw [hpc, hpx]) (((nxv.up up9).up up10).app rfl (((nx7.up up9).up up10).drop p))).any
theorem w_Drop {I : Nat → Prop} {w : World} (hI : ∀ g, I g → g < w.heap.size) {v : Value} {xs : List Xa} (hv : XS I w v xs) (hb : xs.length * 40 ≤ 140737488351232) (hb2 : ∀ x, x ∈ xs → x.val.length ≤ 140737488355328) (name : List UInt8) : Ret P F_xattr_Drop [v, T name] w (fun v w' => DropR w.heap.size w' xs name v ∧ Kp [] w w') := by
  refine Ret.enter func_xattr_Drop rfl nt_xattr_Drop ?_
  obtain ⟨A, c, ev, hnc, he⟩ := id hv
  subst ev
  have st := St.start I w hI []
  obtain ⟨w0, hw0⟩ : ∃ w0, w0 = w := ⟨_, rfl⟩
  subst hw0
  refine CW.seq ?_
  refine CW.region ?_
  refine SL.op (ev_assign rfl) ?_
  refine SL.op (ev_assign rfl) ?_
  refine SL.nil ?_
  refine CW.seq ?_
  refine CW.seq ?_
  refine CW.region ?_
  refine SL.op (ev_move rfl) ?_
  refine SL.call call_xattr_Check rfl (w_Check hI hv (by omega)) ?_; rintro v1 w1 ⟨rfl, kp1⟩
  have st1 := st.call kp1; have up1 := Up.kp kp1 st.lt
  have hvA := hv.up up1
  refine SL.op (ev_assign rfl) ?_
  refine SL.nil ?_
  refine CW.seq ?_
  refine CW.region ?_
  refine SL.op (ev_move rfl) ?_
  refine SL.op (ev_ne rfl rfl) ?_
  refine SL.nil ?_
  refine CW.ifp rfl (fun hr => ?_) (fun hr => ?_)
  · skip
    refine CW.seq ?_
    refine CW.region ?_
    refine SL.op (ev_move rfl) ?_
    refine SL.op (ev_assign rfl) ?_
    refine SL.op (ev_assign rfl) ?_
    refine SL.nil ?_
    refine CW.ret ?_
    refine RetOk.two rfl rfl ?_
    have hr2 := ite3.1 hr
    rw [hr2]
    exact ⟨by simp [DropR, hr2], st1.kp⟩
  · skip
    refine CW.skip ?_
    refine CW.seq ?_
    refine CW.region ?_
    refine SL.op (ev_move rfl) ?_
    refine SL.op (ev_move rfl) ?_
    have hr2 : xright xs = true := by
      rw [← Bool.not_eq_false]; exact fun h => hr (ite3.2 h)
    have hso := XSorted.of_right hr2
    have hr4 := ((xright_iff xs).1 hr2).1
    refine SL.call call_xattr_at rfl (w_at st1.lt hvA hso (by omega) name) ?_; rintro v2 w2 ⟨⟨p, hp, rfl⟩, kp2⟩
    have st2 := st1.call kp2; have up2 := Up.kp kp2 st1.lt
    have hvB := hvA.up up2
    refine SL.op (ev_move rfl) ?_
    refine SL.op (ev_extract rfl rfl) ?_
    refine SL.op (ev_extract rfl rfl) ?_
    refine SL.op (ev_assign rfl) ?_
    refine SL.op (ev_assign rfl) ?_
    refine SL.nil ?_
    refine CW.seq ?_
    refine CW.seq ?_
    refine CW.region ?_
    refine SL.op (ev_move rfl) ?_
    refine SL.op (ev_not rfl) ?_
    refine SL.nil ?_
    refine CW.cond rfl (fun hf => ?_) (fun hf => ?_)
    · skip
      refine CW.seq ?_
      refine CW.region ?_
      refine SL.op (ev_assign rfl) ?_
      refine SL.op (ev_assign rfl) ?_
      refine SL.nil ?_
      refine CW.ret ?_
      refine RetOk.two rfl rfl ?_
      have hf2 := (find_none hso hp).2 (by simpa using hf)
      exact ⟨by simp only [DropR, hr2, if_true, if_pos hf2], st2.kp⟩
    · skip
      refine CW.skip ?_
      refine CW.seq ?_
      refine CW.region ?_
      have hh : xhas xs name p = true := by simpa using hf
      have hf2 : ¬ xs.find? (fun x => decide (x.name = name)) = none := fun h => by rw [(find_none hso hp).1 h] at hh; cases hh
      obtain ⟨x, hx, hxn⟩ := xhas_some hh
      have hpl := (List.getElem?_eq_some_iff.1 hx).1
      refine SL.op (ev_move rfl) ?_
      refine SL.call call_xattr_copied rfl (w_copied st2.lt hvB (by omega) hb2) ?_; rintro v3 w3 ⟨⟨cs, hrow, hnx⟩, kp3⟩
      have st3 := st2.callT kp3 Free.nil (fun g => v3.ownBlock = some g)
      have up3 := Up.callT st2 kp3 Free.nil (fun g => v3.ownBlock = some g)
      have own3 : Own _ _ _ _ _ _ _ _ _ _ := Own.ofCall (F := fun g => v3.ownBlock = some g) st2 Free.nil hrow (fun g hg => .inl (own_lt hrow hg).1) (fun g hg => hg)
      have nx3 := NX.ofCall st2 hnx hrow
      have hcl : cs.length = xs.length * 2 := hrow.1
      refine SL.op (ev_move rfl) ?_
      refine SL.op (ev_move rfl) ?_
      refine SL.op (ev_add rfl rfl (by omega) (by omega)) ?_
      rw [show (p : Int) + 1 = ((p + 1 : Nat) : Int) by omega]
      refine SL.call call_slices_Delete_Xattr rfl (w_Delete own3.row hpl (nx3.ones hcl)) ?_; rintro v4 w4 ⟨kp4, hrowd, hob⟩
      have st4 := st3.callT kp4 own3.free (fun _ => False); have up4 := Up.callT st3 kp4 own3.free (fun _ => False)
      refine SL.op (ev_assign rfl) ?_
      refine SL.op (ev_assign rfl) ?_
      refine SL.nil ?_
      refine CW.ret ?_
      refine RetOk.two rfl rfl ?_
      refine ⟨?_, st4.kp⟩
      simp only [DropR, hr2, if_true, if_neg hf2]
      have hpx : (xs.take p).length = p := by rw [List.length_take]; omega
      have hpc : (cs.take (p * 2)).length = p * 2 := by rw [List.length_take, hcl]; omega
      have hlen : (xs.take p ++ xs.drop (p + 1)).length = xs.length - 1 := by simp; omega
      refine ⟨_, _, rfl, ⟨p, hp, hh, rfl⟩, cs.take (p * 2) ++ cs.drop ((p + 1) * 2), ?_, ?_⟩
      · rw [hlen]
        exact own_base hrowd (fun g hg => (own3.out g (by rw [← hob]; exact hg)).2.2.resolve_left (by simp))
      · exact (((nx3.up up4).take p).app (by rw [hpc, hpx]) ((nx3.up up4).drop (p + 1))).any
end Go.Proofs.Ytodaagikppaidaa.Cw
