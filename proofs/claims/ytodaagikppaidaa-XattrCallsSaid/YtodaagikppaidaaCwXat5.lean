/- xattr.Names and slices.Insert of one attribute answer as told. -/
import Derived.Test.YtodaagikppaidaaCwXat4
/-! Names; Insert. -/
namespace Go.Proofs.Ytodaagikppaidaa.Cw
open Go Go.Proofs.Ytodaagikppaidaa.Eng Go.Proofs.Ytodaagikppaidaa.Cl
theorem take_map_snoc {α β : Type} {l : List α} {i : Nat} {x : α} (f : α → β) (h : l[i]? = some x) : (l.take (i + 1)).map f = (l.take i).map f ++ [f x] := by
  obtain ⟨hl, rfl⟩ := List.getElem?_eq_some_iff.1 h
  rw [List.take_succ_eq_append_getElem hl, List.map_append]; rfl
theorem w_Names {I : Nat → Prop} {w : World} (hI : ∀ g, I g → g < w.heap.size) {v : Value} {xs : List Xa} (hv : XS I w v xs) (hb : xs.length * 16 ≤ 140737488355328) : Ret P F_xattr_Names [v] w (fun v w' => w'.ownsRow w.heap.size T_string 1 v xs.length (xs.map (fun x => T x.name)) ∧ Kp [] w w') := by
  refine Ret.enter func_xattr_Names rfl nt_xattr_Names ?_
  have st := St.start I w hI []
  have hv0 := hv
  obtain ⟨A, c, rfl, hnc, he⟩ := hv0
  obtain ⟨w0, hw0⟩ : ∃ w0, w0 = w := ⟨_, rfl⟩
  subst hw0
  refine CW.seq ?_
  refine CW.region ?_
  refine SL.op (ev_assign rfl) ?_
  refine SL.nil ?_
  refine CW.seq ?_
  refine CW.region ?_
  refine SL.op (ev_assign rfl) ?_
  refine SL.nil ?_
  refine CW.seq ?_
  refine CW.seq ?_
  refine CW.region ?_
  refine SL.op (ev_move rfl) ?_
  refine SL.op (ev_lenS els_slapi_Xattr rfl) ?_
  refine SL.op (ev_move rfl) ?_
  refine SL.nil ?_
  refine CW.block ?_
  refine CW.loop (α := Nat × Value) (fun q => [(3, q.2), (6, .slice A xs.length c), (7, .int .i64 xs.length), (8, .int .i64 q.1)]) (fun q w => q.1 ≤ xs.length ∧ w.ownsRow w0.heap.size T_string 1 q.2 q.1 ((xs.take q.1).map (fun x => T x.name)) ∧ Kp [] w0 w) (fun q => xs.length - q.1) (0, .slice none 0 0) (by repeat (first | exact Sub.nil _ | refine Sub.cons rfl ?_)) (⟨by simp, World.ownsRow_nil _ _ _ _, Kp.refl _ _⟩) ?_
  rintro ⟨i, u⟩ w ⟨hi, hrow, kp0⟩; simp only at hi hrow ⊢
  have st0 := st.callT kp0 Free.nil (fun g => u.ownBlock = some g); have up0 := Up.callT st kp0 Free.nil (fun g => u.ownBlock = some g)
  have own0 : Own _ _ _ _ _ _ _ _ _ _ := Own.ofCall (F := fun g => u.ownBlock = some g) st Free.nil hrow (fun g hg => .inl (own_lt hrow hg).1) (fun g hg => hg)
  refine CW.seq ?_
  refine CW.region ?_
  refine SL.op (ev_lt rfl rfl) ?_
  refine SL.nil ?_
  refine CW.seq ?_
  refine CW.ifp rfl (fun h => ?_) (fun h => ?_)
  · skip
    refine CW.skip ?_
    refine CW.seq ?_
    obtain ⟨x, hx⟩ : ∃ x, xs[i]? = some x := ⟨_, List.getElem?_eq_getElem (by omega)⟩
    obtain ⟨a, vv, ha, hia, hc, hsl⟩ := (hv.up up0).at' hx
    subst ha
    obtain ⟨Av, cv, rfl, hncv, hrv⟩ := Sl.len hsl
    refine CW.block ?_
    refine CW.seq ?_
    refine CW.region ?_
    refine SL.op (ev_idx els_slapi_Xattr rfl rfl (by omega) (by omega)) ?_
    refine SL.op (ev_loadN agg_api_Xattr rfl hc) ?_
    refine SL.alloc st0 zero_api_Xattr ?_; intro w1 g1 st1 up1 kp1 hg1
    refine SL.storeN st1 0 agg_api_Xattr rfl rfl rfl ?_; intro w2 st2 up2 kp2
    have own2 := (own0.var (t := T_api_Xattr) (cs := [T x.name, .slice Av x.val.length cv]) kp1 hg1 kp2)
    refine SL.nil ?_
    refine CW.region ?_
    refine SL.op (ev_move rfl) ?_
    refine SL.op (ev_fld fld_api_Xattr_Name rfl) ?_
    refine SL.op (ev_loadM st2 0 one_string rfl rfl rfl) ?_
    refine SL.bsl st2 els_slstring info_string rfl ?_; intro w3 g3 st3 up3 kp3 hg3
    refine SL.append st3 els_slstring info_string rfl (own2.more kp3 hg3) (news := [T x.name]) rfl rfl (fun h => ⟨_, rfl, (st3.ok _ (.head _)).cells 0⟩) (all_one rfl) (by omega) ?_; intro v4 w4 st4 up4 kp4 ob4 own4
    refine SL.op (ev_assign rfl) ?_
    refine SL.nil ?_
    refine CW.region ?_
    refine SL.op (ev_add rfl rfl (by omega) (by omega)) ?_
    refine SL.op (ev_move rfl) ?_
    refine SL.nil ?_
    refine ⟨(i + 1, v4), by repeat (first | exact Sub.nil _ | refine Sub.cons rfl ?_), ⟨by simp only; omega, ?_, st4.kp⟩, by simp only; omega⟩
    simp only; rw [take_map_snoc _ hx]; exact own_base own4.row (fun g hg => (own4.out g hg).2.2.resolve_left (by simp))
  · skip
    refine CW.exit ?_
    refine CW.seq ?_
    refine CW.region ?_
    refine SL.op (ev_move rfl) ?_
    refine SL.op (ev_assign rfl) ?_
    refine SL.nil ?_
    refine CW.ret ?_
    refine RetOk.one rfl ?_
    have : i = xs.length := by omega
    subst this
    rw [List.take_length] at hrow
    exact ⟨hrow, kp0⟩
theorem x_over {w : World} {g g' o n c : Nat} {cs cs' : List Value} (h : BkOk w ⟨g, T_api_Xattr, cs⟩) (h' : BkOk w ⟨g', T_api_Xattr, cs'⟩) (hne : g ≠ g') (hc : cs' ≠ []) : ExtW P F_slices_overlaps_api_Xattr [.slice (some ⟨g, 0, none⟩) 1 1, .slice (some ⟨g', o, none⟩) n c] w (.bool false) := fun w' hk => by
  have e1 := hk.2.2.2.2 g h.lt (by simp)
  have e2 := hk.2.2.2.2 g' h'.lt (by simp)
  unfold BkOk at h h'
  simp only at h h'
  rw [h] at e1; rw [h'] at e2
  rw [run_callFunc_extern func_slices_overlaps_api_Xattr (by kernel_rfl) (by kernel_rfl) (by kernel_rfl) (e := Extern.SlicesOverlaps.overlaps #[T_slapi_Xattr, T_slapi_Xattr] #[T_bool]) (by kernel_rfl)]
  have := Lib.run_overlaps_apart (P := P) w' T_slapi_Xattr T_bool T_api_Xattr els_slapi_Xattr.1 2 els_slapi_Xattr.2 ⟨g, 0, none⟩ ⟨g', o, none⟩ 1 1 n c hne T_api_Xattr T_api_Xattr cs.length cs'.length (by simp [World.shape?, e1]) (by simp [World.shape?, e2]) (by intro h0; exact hc (List.eq_nil_of_length_eq_zero h0)) (by simp [World.frozen?, e1]) (by simp [World.frozen?, e1])
  rw [this]; rfl
theorem ins1 {α : Type} {cs z cur1 cur2 : List α} {i n : Nat} {a b : α} (hi : i < n) (hcs : cs.length = n * 2) (hz : (n + 1 - i) * 2 ≤ z.length) (h1 : cur1 = (cs.take (i * 2) ++ z).take (i * 2) ++ [a, b] ++ (cs.take (i * 2) ++ z).drop (i * 2 + 2))
    (h2 : cur2 = cur1.take ((i + 1) * 2) ++ cs.drop (i * 2) ++ cur1.drop ((i + 1) * 2 + (n - i) * 2)) : cur2.take ((n + 1) * 2) = cs.take (i * 2) ++ [a, b] ++ cs.drop (i * 2) := by
  have hl : (cs.take (i * 2)).length = i * 2 := by rw [List.length_take]; omega
  have e1 : cur1.take ((i + 1) * 2) = cs.take (i * 2) ++ [a, b] := by
    rw [h1, List.take_left' hl, List.take_left' (by simp; omega)]
  rw [h2, e1, List.take_left' (by simp [hl]; omega)]
theorem ins2 {α : Type} {cs cur cur1 cur2 : List α} {i n : Nat} {a b : α} (hi : i < n) (hcs : cs.length = n * 2) (hc : (n + 1) * 2 ≤ cur.length) (h0 : cur.take (n * 2) = cs) (h1 : cur1 = cur.take ((i + 1) * 2) ++ (cur.drop (i * 2)).take ((n - i) * 2) ++ cur.drop ((i + 1) * 2 + (n - i) * 2))
    (h2 : cur2 = cur1.take (i * 2) ++ [a, b] ++ cur1.drop (i * 2 + 2)) : cur2.take ((n + 1) * 2) = cs.take (i * 2) ++ [a, b] ++ cs.drop (i * 2) := by
  have hl : (cur.take ((i + 1) * 2)).length = (i + 1) * 2 := by rw [List.length_take]; omega
  have e1 : cur1.take (i * 2) = cs.take (i * 2) := by
    rw [h1, List.append_assoc, List.take_append_of_le_length (by rw [hl]; omega), List.take_take, ← h0, List.take_take]; congr 1; omega
  have e2 : (cur.drop (i * 2)).take ((n - i) * 2) = cs.drop (i * 2) := by
    rw [← h0, List.drop_take]; congr 1; omega
  have e3 : cur1.drop (i * 2 + 2) = cs.drop (i * 2) ++ cur.drop ((i + 1) * 2 + (n - i) * 2) := by
    rw [h1, List.append_assoc, List.drop_left' (by rw [hl]; omega), e2]
  have hl2 : (cs.take (i * 2)).length = i * 2 := by rw [List.length_take]; omega
  rw [h2, e1, e3, ← List.append_assoc, List.take_left' (by simp [hl2]; omega)]
theorem w_Insert {w : World} {base n i gx : Nat} {sv nm vv : Value} {cs : List Value} (hs : w.ownsRow base T_api_Xattr 2 sv n cs) (hi : i ≤ n) (hn : (n + 1) * 40 ≤ 140737488355328) (hx : BkOk w ⟨gx, T_api_Xattr, [nm, vv]⟩) (h1 : [nm, vv].all isOne = true) (h1c : ∀ u ∈ cs, isOne u = true) (hne : sv.ownBlock ≠ some gx) : Ret P F_slices_Insert_Xattr [sv, .int .i64 i, .slice (some ⟨gx, 0, none⟩) 1 1] w (fun v w' => Kp sv.ownBlock.toList w w' ∧ w'.ownsRow 0 T_api_Xattr 2 v (n + 1) (cs.take (i * 2) ++ [nm, vv] ++ cs.drop (i * 2)) ∧ (v.ownBlock = sv.ownBlock ∨ ∃ g, v.ownBlock = some g ∧ w.heap.size ≤ g)) := by
  refine Ret.enter func_slices_Insert_Xattr rfl nt_slices_Insert_Xattr ?_
  have hlt : ∀ g, g ∈ sv.ownBlock.toList → g < w.heap.size := fun g hg => (own_lt hs (by simpa using hg)).2
  have hgx : w.heap[gx]? = some (.cells [nm, vv].toArray T_api_Xattr (0, 0)) := hx
  have st := St.start (fun g => g = gx) w (fun g hg => by subst hg; exact lt_of_some hgx) sv.ownBlock.toList
  have own : Own sv.ownBlock.toList w (fun g => g = gx) [] w T_api_Xattr 2 sv n cs := ⟨own_base hs (fun _ _ => Nat.zero_le _), fun g hg => ⟨fun e => hne (by rw [← e]; exact hg), (fun b hb => by cases hb), .inl (by simpa using hg)⟩⟩
  obtain ⟨w0, hw0⟩ : ∃ w0, w0 = w := ⟨_, rfl⟩
  subst hw0
  obtain ⟨A, cap, esv, hnc, hcm, hA⟩ := own_form hs
  subst esv
  have hcl : cs.length = n * 2 := hs.1
  have hxc : CellsAt w0 ⟨gx, 0, none⟩ [nm, vv] := BkOk.cells hx 0
  have hcm2 : cap ≤ 9223372036854775807 := by unfold maxLen at hcm; omega
  refine CW.seq ?_
  refine CW.region ?_
  refine SL.op (ev_assign rfl) ?_
  refine SL.nil ?_
  refine CW.seq ?_
  refine CW.region ?_
  refine SL.op (ev_move rfl) ?_
  refine SL.op (ev_move rfl) ?_
  refine SL.op (ev_cut els_slapi_Xattr rfl (by first | exact bdn rfl | exact ⟨_, _, rfl, by omega, rfl⟩) rfl (by omega) (by omega)) ?_
  refine SL.nil ?_
  refine CW.seq ?_
  refine CW.region ?_
  refine SL.op (ev_move rfl) ?_
  refine SL.op (ev_lenS els_slapi_Xattr rfl) ?_
  refine SL.op (ev_assign rfl) ?_
  refine SL.nil ?_
  refine CW.seq ?_
  refine CW.seq ?_
  refine CW.region ?_
  refine SL.op (ev_move rfl) ?_
  refine SL.op (ev_eq rfl rfl) ?_
  refine SL.nil ?_
  refine CW.ifF rfl ?_ ?_
  · rfl
  refine CW.skip ?_
  refine CW.seq ?_
  refine CW.region ?_
  refine SL.op (ev_move rfl) ?_
  refine SL.op (ev_lenS els_slapi_Xattr rfl) ?_
  refine SL.op (ev_assign rfl) ?_
  refine SL.nil ?_
  refine CW.seq ?_
  refine CW.seq ?_
  refine CW.region ?_
  refine SL.op (ev_move rfl) ?_
  refine SL.op (ev_move rfl) ?_
  refine SL.op (ev_eq rfl rfl) ?_
  refine SL.nil ?_
  refine CW.ifp rfl (fun hin => ?_) (fun hin => ?_)
  · skip
    refine CW.seq ?_
    refine CW.region ?_
    have hin2 : i = n := by omega
    subst hin2
    refine SL.op (ev_move rfl) ?_
    refine SL.op (ev_move rfl) ?_
    refine SL.append st els_slapi_Xattr info_api_Xattr rfl (own) (news := [nm, vv]) rfl rfl (fun h => ⟨_, rfl, hxc⟩) (all_one h1) (by omega) ?_; intro v1 w1 st1 up1 kp1 ob1 own1
    refine SL.op (ev_assign rfl) ?_
    refine SL.nil ?_
    refine CW.ret ?_
    refine RetOk.one rfl ?_
    refine ⟨st1.kp, ?_, ?_⟩
    · have := own1.row
      rwa [List.take_of_length_le (by omega), List.drop_of_length_le (by omega), List.append_nil]
    · exact ob1.imp id (fun h => ⟨_, h, Nat.le_refl _⟩)
  · skip
    refine CW.skip ?_
    refine CW.seq ?_
    refine CW.seq ?_
    refine CW.region ?_
    refine SL.op (ev_move rfl) ?_
    refine SL.op (ev_move rfl) ?_
    refine SL.op (ev_add rfl rfl (by omega) (by omega)) ?_
    refine SL.op (ev_move rfl) ?_
    refine SL.op (ev_cap els_slapi_Xattr rfl) ?_
    refine SL.op (ev_gt rfl rfl) ?_
    refine SL.nil ?_
    refine CW.ifp rfl (fun hroom => ?_) (fun hroom => ?_)
    · skip
      refine CW.seq ?_
      refine CW.region ?_
      refine SL.op (ev_move rfl) ?_
      refine SL.op (ev_move rfl) ?_
      refine SL.op (ev_cutH els_slapi_Xattr rfl (by first | exact bdn rfl | exact ⟨_, _, rfl, by omega, rfl⟩) (by omega)) ?_
      refine SL.op (ev_move rfl) ?_
      refine SL.op (ev_move rfl) ?_
      refine SL.op (ev_add rfl rfl (by omega) (by omega)) ?_
      refine SL.op (ev_move rfl) ?_
      refine SL.op (ev_sub rfl rfl (by omega) (by omega)) ?_
      rw [show (n : Int) + ((1 : Nat) : Int) - (i : Int) = ((n + 1 - i : Nat) : Int) by omega]
      refine SL.appendZ st els_slapi_Xattr und_int info_api_Xattr rfl (own_head own.row hi) rfl (by omega) (by omega) (by omega) (by decide) (by decide) ?_; intro w2 g2 cap2 st2 up2 kp2 hc2 hm2 hg2
      have hil : i < cap2 := by omega
      have hic : i < cap := by omega
      rw [show i + (n + 1 - i) = n + 1 by omega]
      obtain ⟨gs, hA2⟩ := hA (by omega)
      subst hA2
      have own2 := own.more kp2 (b := ⟨g2, T_api_Xattr, cs.take (i * 2) ++ zeros [.string ⟨#[]⟩, .slice none 0 0] (cap2 - i)⟩) hg2
      obtain ⟨cur0, hc0⟩ : ∃ c, c = cs.take (i * 2) ++ zeros [.string ⟨#[]⟩, .slice none 0 0] (cap2 - i) := ⟨_, rfl⟩
      have hc0' : (Value.agg #[Value.string { data := #[] }, Value.slice none 0 0]).cells.toList = [.string ⟨#[]⟩, .slice none 0 0] := rfl
      rw [hc0', ← hc0] at st2
      rw [← hc0] at own2
      have hl0 : cur0.length = cap2 * 2 := by
        rw [hc0, List.length_append, zeros_length, List.length_take, hcl]; simp only [List.length_cons, List.length_nil]; omega
      refine SL.op (ev_assign rfl) ?_
      refine SL.nil ?_
      refine CW.seq ?_
      refine CW.region ?_
      refine SL.op (ev_move rfl) ?_
      refine SL.op (ev_move rfl) ?_
      refine SL.op (ev_cut els_slapi_Xattr rfl (by first | exact bdn rfl | exact ⟨_, _, rfl, by omega, rfl⟩) rfl (by omega) (by omega)) ?_
      rw [cutA_lt hil]
      refine SL.op (ev_move rfl) ?_
      refine SL.copy st2 0 els_slapi_Xattr rfl rfl rfl (nn := 1) (vs := [nm, vv]) (by omega) rfl (fun h => ⟨_, rfl, cells_up (up2 gx rfl).2 hxc⟩) (all_one h1) (by simp only [List.length_cons, List.length_nil]; omega) ?_; intro w3 st3 up3 kp3
      obtain ⟨cur1, hc1⟩ : ∃ c, c = cur0.take (0 + i * 2) ++ [nm, vv] ++ cur0.drop (0 + i * 2 + [nm, vv].length) := ⟨_, rfl⟩
      rw [← hc1] at st3
      have own3 := own2.set kp3 (k := 0) rfl cur1
      have hl1 : cur1.length = cap2 * 2 := by
        rw [hc1]; simp only [List.length_append, List.length_take, List.length_drop, List.length_cons, List.length_nil]; omega
      refine SL.nil ?_
      refine CW.seq ?_
      refine CW.mix [0, 1, 2, 3, 4, 5, 6, 7] [] [8] mixed (by kernel_rfl) ?_
      refine RL.op (ev_move rfl) ?_
      refine RL.op (ev_move rfl) ?_
      refine RL.op (ev_move rfl) ?_
      refine RL.op (ev_add rfl rfl (by omega) (by omega)) ?_
      rw [show (i : Int) + ((1 : Nat) : Int) = ((i + 1 : Nat) : Int) by omega]
      refine RL.op (ev_cut els_slapi_Xattr rfl (by first | exact bdn rfl | exact ⟨_, _, rfl, by omega, rfl⟩) rfl (by omega) (by omega)) ?_
      rw [cutA_lt (by omega)]
      refine RL.op (ev_move rfl) ?_
      refine RL.op (ev_move rfl) ?_
      refine RL.op (ev_cut els_slapi_Xattr rfl (by first | exact bdn rfl | exact ⟨_, _, rfl, by omega, rfl⟩) rfl (by omega) (by omega)) ?_
      rw [cutA_lt hic]
      refine RL.nil ?_; have st4 := st3.drew; have up4 : Up _ _ _ _ := Up.keep (Kp.refl [] _).drew st3.lt
      refine CL.nil ?_
      refine SL.copy st4 0 els_slapi_Xattr rfl rfl rfl (nn := n - i) (vs := cs.drop (i * 2)) (by omega) (by rw [List.length_drop, hcl]; omega) (fun h => ⟨_, rfl, by have := (show CellsAt w3 ⟨gs, 0, none⟩ cs from own3.row.cells (g := gs) rfl).drop (i * 2); rwa [add_off] at this⟩) (fun u hu => h1c u (List.mem_of_mem_drop hu)) (by rw [List.length_drop, hcl, hl1]; omega) ?_; intro w5 st5 up5 kp5
      refine SL.nil ?_
      refine CW.seq ?_
      refine CW.region ?_
      refine SL.op (ev_move rfl) ?_
      refine SL.op (ev_assign rfl) ?_
      refine SL.nil ?_
      refine CW.ret ?_
      refine RetOk.one rfl ?_
      obtain ⟨cur2, hc2'⟩ : ∃ c, c = cur1.take (0 + (i + 1) * 2) ++ cs.drop (i * 2) ++ cur1.drop (0 + (i + 1) * 2 + (cs.drop (i * 2)).length) := ⟨_, rfl⟩
      rw [← hc2'] at st5
      simp only [Nat.zero_add, List.length_cons, List.length_nil] at hc1 hc2'
      have hd : (cs.drop (i * 2)).length = (n - i) * 2 := by rw [List.length_drop, hcl]; omega
      rw [hd] at hc2'
      have hl2 : cur2.length = cap2 * 2 := by
        rw [hc2']; simp only [List.length_append, List.length_take, List.length_drop]; omega
      have hfin := Own.ofM (n := n + 1) st5 (by omega) hm2 hl2 (ins1 (z := zeros [.string ⟨#[]⟩, .slice none 0 0] (cap2 - i)) (by omega) hcl (by rw [zeros_length]; show _ ≤ (cap2 - i) * 2; omega) (by rw [hc1, hc0]) hc2')
      exact ⟨st5.kp, hfin.row, .inr ⟨g2, rfl, hg2⟩⟩
    · skip
      refine CW.skip ?_
      refine CW.seq ?_
      refine CW.region ?_
      obtain ⟨gs, cap', cur, e, hnc', hcm', hcl', hcur, hgs, stM⟩ := Own.toM st own (by omega)
      injection e with e1 e2 e3
      subst e1; subst e3
      have hsrc : (cur.drop (i * 2)).take ((n - i) * 2) = cs.drop (i * 2) := by
        rw [← hcur, List.drop_take]; congr 1; omega
      have hd : (cs.drop (i * 2)).length = (n - i) * 2 := by rw [List.length_drop, hcl]; omega
      have hgx2 : gs ≠ gx := fun e => hne (by rw [e]; rfl)
      refine SL.op (ev_move rfl) ?_
      refine SL.op (ev_move rfl) ?_
      refine SL.op (ev_move rfl) ?_
      refine SL.op (ev_add rfl rfl (by omega) (by omega)) ?_
      rw [show (n : Int) + ((1 : Nat) : Int) = ((n + 1 : Nat) : Int) by omega]
      refine SL.op (ev_cutH els_slapi_Xattr rfl (by first | exact bdn rfl | exact ⟨_, _, rfl, by omega, rfl⟩) (by omega)) ?_
      refine SL.op (ev_assign rfl) ?_
      skip
      refine SL.nil ?_
      refine CW.seq ?_
      refine CW.seq ?_
      refine CW.region ?_
      refine SL.op (ev_move rfl) ?_
      refine SL.op (ev_move rfl) ?_
      refine SL.op (ev_move rfl) ?_
      refine SL.op (ev_move rfl) ?_
      refine SL.op (ev_add rfl rfl (by omega) (by omega)) ?_
      rw [show (i : Int) + ((1 : Nat) : Int) = ((i + 1 : Nat) : Int) by omega]
      refine SL.op (ev_cut els_slapi_Xattr rfl (by first | exact bdn rfl | exact ⟨_, _, rfl, by omega, rfl⟩) rfl (by omega) (by omega)) ?_
      rw [cutA_lt (by omega)]
      refine SL.op (ev_xw rfl (x_over hx (stM.ok _ (.head _)) (Ne.symm hgx2) (by intro e; rw [e] at hcl'; simp only [List.length_nil] at hcl'; omega))) ?_
      refine SL.op (ev_not rfl) ?_
      refine SL.nil ?_
      refine CW.ifT rfl ?_ ?_
      · rfl
      refine CW.seq ?_
      refine CW.mix [0, 1, 2, 3, 4, 5, 6, 7] [] [8] mixed (by kernel_rfl) ?_
      refine RL.op (ev_move rfl) ?_
      refine RL.op (ev_move rfl) ?_
      refine RL.op (ev_move rfl) ?_
      refine RL.op (ev_add rfl rfl (by omega) (by omega)) ?_
      rw [show (i : Int) + ((1 : Nat) : Int) = ((i + 1 : Nat) : Int) by omega]
      refine RL.op (ev_cut els_slapi_Xattr rfl (by first | exact bdn rfl | exact ⟨_, _, rfl, by omega, rfl⟩) rfl (by omega) (by omega)) ?_
      rw [cutA_lt (by omega)]
      refine RL.op (ev_move rfl) ?_
      refine RL.op (ev_move rfl) ?_
      refine RL.op (ev_cut els_slapi_Xattr rfl (by first | exact bdn rfl | exact ⟨_, _, rfl, by omega, rfl⟩) rfl (by omega) (by omega)) ?_
      rw [cutA_lt (by omega)]
      refine RL.nil ?_; have st6 := stM.drew; have up6 : Up _ _ _ _ := Up.keep (Kp.refl [] _).drew stM.lt
      refine CL.nil ?_
      refine SL.copy st6 0 els_slapi_Xattr rfl rfl rfl (nn := n - i) (vs := cs.drop (i * 2)) (by omega) (by rw [hd]) (fun h => ⟨_, rfl, by rw [← hsrc]; have := (stM.drew.ok _ (.head _)).cells (0 + i * 2); rw [Nat.zero_add] at this ⊢; exact this.take _⟩) (fun u hu => h1c u (List.mem_of_mem_drop hu)) (by rw [hd, hcl']; omega) ?_; intro w7 st7 up7 kp7
      obtain ⟨cur1, hc1⟩ : ∃ c, c = cur.take (0 + (i + 1) * 2) ++ cs.drop (i * 2) ++ cur.drop (0 + (i + 1) * 2 + (cs.drop (i * 2)).length) := ⟨_, rfl⟩
      rw [← hc1] at st7
      rw [hd, Nat.zero_add] at hc1
      have hl1 : cur1.length = cap * 2 := by
        rw [hc1]; simp only [List.length_append, List.length_take, hd, List.length_drop]; omega
      refine SL.nil ?_
      refine CW.seq ?_
      refine CW.region ?_
      refine SL.op (ev_move rfl) ?_
      refine SL.op (ev_move rfl) ?_
      refine SL.op (ev_cut els_slapi_Xattr rfl (by first | exact bdn rfl | exact ⟨_, _, rfl, by omega, rfl⟩) rfl (by omega) (by omega)) ?_
      rw [cutA_lt (by omega)]
      refine SL.op (ev_move rfl) ?_
      refine SL.copy st7 0 els_slapi_Xattr rfl rfl rfl (nn := 1) (vs := [nm, vv]) (by omega) rfl (fun h => ⟨_, rfl, cells_up (up7 gx rfl).2 hxc⟩) (all_one h1) (by rw [hl1]; simp only [List.length_cons, List.length_nil]; omega) ?_; intro w8 st8 up8 kp8
      refine SL.nil ?_
      refine CW.seq ?_
      refine CW.region ?_
      refine SL.op (ev_move rfl) ?_
      refine SL.op (ev_assign rfl) ?_
      refine SL.nil ?_
      refine CW.ret ?_
      refine RetOk.one rfl ?_
      obtain ⟨cur2, hc2'⟩ : ∃ c, c = cur1.take (0 + i * 2) ++ [nm, vv] ++ cur1.drop (0 + i * 2 + [nm, vv].length) := ⟨_, rfl⟩
      rw [← hc2'] at st8
      simp only [Nat.zero_add, List.length_cons, List.length_nil] at hc2'
      have hl2 : cur2.length = cap * 2 := by
        rw [hc2']; simp only [List.length_append, List.length_take, List.length_drop, List.length_cons, List.length_nil]; omega
      have hfin := Own.ofM (n := n + 1) st8 (by omega) hcm' hl2 (ins2 (cur := cur) (by omega) hcl (by omega) hcur (by rw [hc1, hsrc]) hc2')
      exact ⟨st8.kp, hfin.row, .inl rfl⟩
end Go.Proofs.Ytodaagikppaidaa.Cw
