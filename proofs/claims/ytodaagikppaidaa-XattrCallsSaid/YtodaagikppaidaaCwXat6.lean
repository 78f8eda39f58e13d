/- slices.Delete of one attribute answers as told. -/
import Derived.Test.YtodaagikppaidaaCwXat5
/-! Delete. -/
namespace Go.Proofs.Ytodaagikppaidaa.Cw
open Go Go.Proofs.Ytodaagikppaidaa.Eng Go.Proofs.Ytodaagikppaidaa.Cl
theorem del1 {α : Type} {cs cur cur1 cur2 z : List α} {i n : Nat} (hi : i < n) (hcs : cs.length = n * 2) (hc : n * 2 ≤ cur.length) (h0 : cur.take (n * 2) = cs) (h1 : cur1 = cur.take (i * 2) ++ cs.drop ((i + 1) * 2) ++ cur.drop (i * 2 + (n - (i + 1)) * 2))
    (h2 : cur2 = cur1.take ((n - 1) * 2) ++ z ++ cur1.drop ((n - 1) * 2 + 2)) : cur2.take ((n - 1) * 2) = cs.take (i * 2) ++ cs.drop ((i + 1) * 2) := by
  have hl1 : (cur.take (i * 2)).length = i * 2 := by rw [List.length_take]; omega
  have hl2 : (cs.drop ((i + 1) * 2)).length = (n - (i + 1)) * 2 := by rw [List.length_drop]; omega
  have e1 : cur1.take ((n - 1) * 2) = cs.take (i * 2) ++ cs.drop ((i + 1) * 2) := by
    rw [h1, List.take_left' (by rw [List.length_append, hl1, hl2]; omega), ← h0, List.take_take]
    congr 2; omega
  have hl3 : (cur1.take ((n - 1) * 2)).length = (n - 1) * 2 := by
    rw [e1, List.length_append, hl2, List.length_take]; omega
  rw [h2, List.append_assoc, List.take_left' hl3, e1]
theorem w_Delete {w : World} {base n i : Nat} {sv : Value} {cs : List Value} (hs : w.ownsRow base T_api_Xattr 2 sv n cs) (hi : i < n) (h1c : ∀ u ∈ cs, isOne u = true) : Ret P F_slices_Delete_Xattr [sv, .int .i64 i, .int .i64 ((i + 1 : Nat) : Int)] w (fun v w' => Kp sv.ownBlock.toList w w' ∧ w'.ownsRow 0 T_api_Xattr 2 v (n - 1) (cs.take (i * 2) ++ cs.drop ((i + 1) * 2)) ∧ v.ownBlock = sv.ownBlock) := by
  refine Ret.enter func_slices_Delete_Xattr rfl nt_slices_Delete_Xattr ?_
  have st := St.start (fun _ => False) w (fun _ h => h.elim) sv.ownBlock.toList
  have own : Own sv.ownBlock.toList w (fun _ => False) [] w T_api_Xattr 2 sv n cs := ⟨own_base hs (fun _ _ => Nat.zero_le _), fun g hg => ⟨fun e => e, (fun b hb => by cases hb), .inl (by simpa using hg)⟩⟩
  obtain ⟨w0, hw0⟩ : ∃ w0, w0 = w := ⟨_, rfl⟩
  subst hw0
  obtain ⟨gs, cap, cur, esv, hnc, hcm, hcl, hcur, hgs, stM⟩ := Own.toM st own (by omega)
  subst esv
  have hcl0 : cs.length = n * 2 := hs.1
  have hd : (cs.drop ((i + 1) * 2)).length = (n - (i + 1)) * 2 := by rw [List.length_drop, hcl0]; omega
  have hn2 : cap ≤ 9223372036854775807 := by unfold maxLen at hcm; omega
  have hsrc : (cur.drop ((i + 1) * 2)).take ((n - (i + 1)) * 2) = cs.drop ((i + 1) * 2) := by
    rw [← hcur, List.drop_take]; congr 1; omega
  refine CW.seq ?_
  refine CW.region ?_
  refine SL.op (ev_assign rfl) ?_
  refine SL.nil ?_
  refine CW.seq ?_
  refine CW.region ?_
  refine SL.op (ev_move rfl) ?_
  refine SL.op (ev_move rfl) ?_
  refine SL.op (ev_move rfl) ?_
  refine SL.op (ev_move rfl) ?_
  refine SL.op (ev_lenS els_slapi_Xattr rfl) ?_
  refine SL.op (ev_cut3 els_slapi_Xattr rfl (by first | exact bdn rfl | exact ⟨_, _, rfl, by omega, rfl⟩) (by first | exact bdn rfl | exact ⟨_, _, rfl, by omega, rfl⟩) (by first | exact bdn rfl | exact ⟨_, _, rfl, by omega, rfl⟩) (by omega) (by omega) (by omega)) ?_
  refine SL.nil ?_
  refine CW.seq ?_
  refine CW.seq ?_
  refine CW.region ?_
  refine SL.op (ev_move rfl) ?_
  refine SL.op (ev_move rfl) ?_
  refine SL.op (ev_eq rfl rfl) ?_
  refine SL.nil ?_
  refine CW.ifF rfl ?_ ?_
  · exact decide_eq_false (by omega)
  refine CW.skip ?_
  refine CW.seq ?_
  refine CW.region ?_
  refine SL.op (ev_move rfl) ?_
  refine SL.op (ev_lenS els_slapi_Xattr rfl) ?_
  refine SL.op (ev_assign rfl) ?_
  refine SL.nil ?_
  refine CW.seq ?_
  refine CW.mix [0, 1, 2, 3, 4, 5] [] [6, 7] mixed (by kernel_rfl) ?_
  refine RL.op (ev_move rfl) ?_
  refine RL.op (ev_move rfl) ?_
  refine RL.op (ev_cutH els_slapi_Xattr rfl (by first | exact bdn rfl | exact ⟨_, _, rfl, by omega, rfl⟩) (by omega)) ?_
  refine RL.op (ev_move rfl) ?_
  refine RL.op (ev_move rfl) ?_
  refine RL.op (ev_cut els_slapi_Xattr rfl (by first | exact bdn rfl | exact ⟨_, _, rfl, by omega, rfl⟩) rfl (by omega) (by omega)) ?_
  refine RL.nil ?_; have st1 := stM.drew; have up1 : Up _ _ _ _ := Up.keep (Kp.refl [] _).drew stM.lt
  refine CL.nil ?_
  refine SL.appendM st1 0 els_slapi_Xattr info_api_Xattr rfl rfl rfl (by omega) hcl hd (fun h => by have hj : i + 1 < cap := (by have := List.length_pos_iff.2 h; omega); refine ⟨_, cutA_lt hj, ?_⟩; rw [← hsrc]; have := (st1.ok _ (.head _)).cells (0 + (i + 1) * 2); rw [Nat.zero_add] at this ⊢; exact this.take _) (fun u hu => h1c u (List.mem_of_mem_drop hu)) ?_; intro w2 st2 up2 kp2
  rw [show i + (n - (i + 1)) = n - 1 by omega]
  obtain ⟨cur1, hc1⟩ : ∃ c, c = cur.take (i * 2) ++ cs.drop ((i + 1) * 2) ++ cur.drop (i * 2 + (cs.drop ((i + 1) * 2)).length) := ⟨_, rfl⟩
  rw [← hc1] at st2
  rw [hd] at hc1
  have hl1 : cur1.length = cap * 2 := by
    rw [hc1]; simp only [List.length_append, List.length_take, hd, List.length_drop]; omega
  refine SL.op (ev_assign rfl) ?_
  refine SL.nil ?_
  refine CW.seq ?_
  refine CW.region ?_
  refine SL.op (ev_move rfl) ?_
  refine SL.op (ev_move rfl) ?_
  refine SL.op (ev_lenS els_slapi_Xattr rfl) ?_
  refine SL.op (ev_move rfl) ?_
  refine SL.op (ev_cut els_slapi_Xattr rfl (by first | exact bdn rfl | exact ⟨_, _, rfl, by omega, rfl⟩) (by first | exact bdn rfl | exact ⟨_, _, rfl, by omega, rfl⟩) (by omega) (by omega)) ?_
  rw [cutA_lt (by omega), show n - (n - 1) = 1 by omega]
  refine SL.clear st2 0 els_slapi_Xattr info_api_Xattr rfl rfl (by decide) (by omega) ?_; intro w3 st3 up3 kp3
  refine SL.nil ?_
  refine CW.seq ?_
  refine CW.region ?_
  refine SL.op (ev_move rfl) ?_
  refine SL.op (ev_assign rfl) ?_
  refine SL.nil ?_
  refine CW.ret ?_
  refine RetOk.one rfl ?_
  obtain ⟨cur2, hc2⟩ : ∃ c, c = cur1.take (0 + (n - 1) * 2) ++ zeros [.string ⟨#[]⟩, .slice none 0 0] 1 ++ cur1.drop (0 + (n - 1) * 2 + 1 * 2) := ⟨_, rfl⟩
  have hc0' : (Value.agg #[Value.string { data := #[] }, Value.slice none 0 0]).cells.toList = [.string ⟨#[]⟩, .slice none 0 0] := rfl
  have hst := st3
  rw [hc0', ← hc2] at hst
  have hl2 : cur2.length = cap * 2 := by
    rw [hc2]; simp only [List.length_append, List.length_take, List.length_drop, zeros_length, List.length_cons, List.length_nil]; omega
  rw [Nat.zero_add] at hc2
  have hfin := Own.ofM (n := n - 1) hst (by omega) hcm hl2 (del1 (cur := cur) hi hcl0 (by omega) hcur hc1 hc2)
  exact ⟨hst.kp, hfin.row, rfl⟩
end Go.Proofs.Ytodaagikppaidaa.Cw
