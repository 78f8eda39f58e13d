/- For every list of attributes, every name and every value the law XattrCalls returns true, does not panic, and its arguments read as they did; no condition beyond those of the given statement. -/
import Derived.Test.YtodaagikppaidaaCwXlaw4
import Derived.Test.YtodaagikppaidaaRows
import Derived.WalkKit
import Derived.ProofKit
import Derived.OpenShut
import Derived.ShutString
import Derived.ChangeOld
import Derived.Below
import Derived.SizedLaws
import Derived.Deep.Slices
import Derived.ChangeArms
/-! The row: from the law's contract to the given statement. -/
namespace Go.Proofs.Ytodaagikppaidaa.Cw
open Go Go.Proofs.Ytodaagikppaidaa.Eng Go.Proofs.Ytodaagikppaidaa.Cl
open Go.ChangeShapes Go.WideShapes Go.ChangeAt Go.RowKit
open Go.ChangeMaps (open_string shut_string)
theorem noKnob : ownKnob Go.Proofs.Try.prog.godebug = none := by kernel_rfl
theorem laidOut : laidOutB Go.Proofs.Try.prog = true := by kernel_rfl
theorem list_choice {α : Type} {Q : Nat → α → Prop} : ∀ n, (∀ i, i < n → ∃ y, Q i y) → ∃ ys : List α, ys.length = n ∧ ∀ i y, ys[i]? = some y → Q i y
  | 0, _ => ⟨[], rfl, fun i y h => by cases h⟩
  | n + 1, h => by
    obtain ⟨ys, hl, hq⟩ := list_choice n (fun i hi => h i (by omega))
    obtain ⟨y, hy⟩ := h n (by omega)
    refine ⟨ys ++ [y], by simp [hl], fun i z hz => ?_⟩
    rw [List.getElem?_append] at hz
    split at hz
    · exact hq i z hz
    · have h0 : i - ys.length = 0 := by
        rcases Nat.eq_zero_or_pos (i - ys.length) with h | h
        · exact h
        · rw [List.getElem?_eq_none (by simp only [List.length_cons, List.length_nil]; omega)] at hz; cases hz
      rw [h0] at hz; injection hz with hz; subst hz
      have : i = n := by omega
      subst this; exact hy
theorem u8_of {z : Int} (h : (Lit.int .u8 z).wf = true) : Value.int .u8 z = U8 (UInt8.ofNat z.toNat) := by
  have h2 : 0 ≤ z ∧ z ≤ 255 := by simpa [Lit.wf, IntKind.min, IntKind.max, IntKind.bits, IntKind.signed] using h
  unfold U8
  congr 1
  simp only [UInt8.toNat_ofNat']
  omega
section
variable {H : Type} {enc : TypeId × Value → H} {w : World} {base : Nat} {spare : Nat → Bool} {held : Bool}
theorem weightsAll_mem {e : TypeId} {d : DataW H} : ∀ {l : List (DataW H)}, d ∈ l → ∀ n ∈ d.weights P e, n ∈ DataW.weightsAll P e l
  | d0 :: l, hm, n, hn => by
    unfold DataW.weightsAll
    rcases List.mem_cons.1 hm with rfl | hm
    · exact List.mem_append.2 (.inl hn)
    · exact List.mem_append.2 (.inr (weightsAll_mem hm n hn))
/-- A row of bytes that came in. -/
theorem open_bytes {fuel : Nat} {v : Value} {x : DataW H × List MemPlace} (h : DataW.trod enc P w base spare held fuel T_sluint8 [v] = some x) :
    ∃ s : List UInt8, Sl (AllB w) w 1 v (bytesV s) ∧ ((∀ n ∈ x.1.weights P T_sluint8, n ≤ reachBytes) → s.length ≤ reachBytes) := by
  rcases open_ints und_sluint8 und_uint8 (by kernel_rfl) h with ⟨hcs, hx⟩ | ⟨a, l, c, zs, hcs, _, hl, hm, hz, hx, hcell, hwz⟩
  · injection hcs with hv _; subst hv
    exact ⟨[], Sl.nil _ _ _, fun _ => Nat.zero_le _⟩
  · injection hcs with hv _; subst hv
    have hzl : l ≤ zs.length := by rw [hz]; split <;> omega
    refine ⟨(zs.take l).map (fun n => UInt8.ofNat n.toNat), ?_, fun hw => ?_⟩
    · refine Sl.all (I := fun _ => True) ⟨some a, l, c, rfl, hl, by rw [bytesV_length, List.length_map, List.length_take]; omega, fun hn => ⟨a, rfl, trivial, fun j u hu => ?_⟩⟩
      rw [bytesV, List.map_map, List.getElem?_map, List.getElem?_take] at hu
      split at hu
      · rename_i hj
        have hz1 : zs[j]? = some zs[j] := List.getElem?_eq_getElem (by omega)
        rw [hz1] at hu
        injection hu with hu
        rw [hcell j (by omega), List.getD_eq_getElem?_getD, hz1, ← hu]
        exact congrArg some (u8_of (hwz _ (List.getElem_mem (by omega))))
      · cases hu
    · have h1 := hw ((lits (H := H) .u8 (zs.take l)).length + (lits (H := H) .u8 (zs.drop l)).length) (by
        rw [hx]; simp only [DataW.weights, und_sluint8]
        rw [show P.bytesOf 5 = 1 from by kernel_rfl, Nat.mul_one]; exact List.mem_cons_self ..)
      simp only [lits, List.length_map] at h1 ⊢
      omega
/-- A list of attributes that came in. -/
theorem open_xs {fuel : Nat} {v : Value} {x : DataW H × List MemPlace} (h : DataW.trod enc P w base spare held fuel T_slapi_Xattr [v] = some x) :
    ∃ xs : List Xa, XS (AllB w) w v xs ∧ ((∀ n ∈ x.1.weights P T_slapi_Xattr, n ≤ reachBytes) → xs.length * 40 ≤ reachBytes ∧ ∀ y ∈ xs, y.val.length ≤ reachBytes) := by
  rcases Go.Deep.open_slice els_slapi_Xattr.1 h with ⟨hcs, hx⟩ | ⟨a, len, cap, m, n, D, Pl, hcs, hb, hl, hm, hmm, hx, hi⟩
  · injection hcs with hv _; subst hv
    exact ⟨[], XS.nil _ _, fun _ => ⟨Nat.zero_le _, fun y hy => by cases hy⟩⟩
  · injection hcs with hv _; subst hv
    have hC : P.cellsOf T_api_Xattr = 2 := by kernel_rfl
    have hlm : len ≤ m := by rw [hmm]; split <;> omega
    obtain ⟨xs, hxl, hxs⟩ := list_choice (Q := fun i (y : Xa) => ∃ vv, CellsAt w (a.add (i * 2)) [T y.name, vv] ∧ Sl (AllB w) w 1 vv (bytesV y.val) ∧ ((∀ n ∈ (D i).weights P T_api_Xattr, n ≤ reachBytes) → y.val.length ≤ reachBytes)) len (fun i hil => by
      obtain ⟨cs', hc, ht⟩ := hi i (by omega)
      rw [hC] at hc
      obtain ⟨_, hcl, hat⟩ := World.cells?_some hc
      obtain ⟨ys, n', _, hy, _, hyl, hf⟩ := DataW.trod_struct Go.Proofs.Try.underlying37 ht
      match cs', hcl with
      | [c0, c1], _ =>
        have h0 := hf 0 _ rfl
        have h1 := hf 1 _ rfl
        have hy2 : ys.length = 2 := hyl
        match ys, hy2 with
        | [y0, y1], _ =>
          have h0' : DataW.trod enc P w base spare held n' T_string [c0] = some y0 := h0
          have h1' : DataW.trod enc P w base spare held n' T_sluint8 [c1] = some y1 := h1
          obtain ⟨s, hs, _, _⟩ := DataW.trod_string und_string h0'
          injection hs with hs _; subst hs
          obtain ⟨bs, hsl, hwt⟩ := open_bytes h1'
          refine ⟨⟨s.data.toList, bs⟩, c1, fun j u hu => ?_, hsl, fun hw => hwt (fun n hn => hw n ?_)⟩
          · match j, hu with
            | 0, hu => injection hu with hu; subst hu; have := hat 0 (by omega); rw [add_add] at this; rw [add_add]; simpa using this
            | 1, hu => injection hu with hu; subst hu; have := hat 1 (by omega); rw [add_add] at this; rw [add_add]; simpa using this
          · have hD : D i = .agg [y0.1, y1.1] := (Prod.mk.inj hy).1
            rw [hD]
            simp only [DataW.weights]
            rw [Go.Proofs.Try.underlying37]
            exact List.mem_append.2 (.inr (List.mem_append.2 (.inl hn))))
    refine ⟨xs, ⟨some a, cap, by rw [hxl], by omega, fun i y hy => ?_⟩, fun hw => ?_⟩
    · obtain ⟨vv, h1, h2, _⟩ := hxs i y hy
      exact ⟨a, vv, rfl, (by have := block_lt_of_cell (h1 0 _ rfl); rwa [block_of_add, block_of_add] at this), h1, h2⟩
    · have h40 : P.bytesOf T_api_Xattr = 40 := by kernel_rfl
      rw [hx] at hw
      simp only [DataW.weights, els_slapi_Xattr.1] at hw
      refine ⟨?_, fun y hy => ?_⟩
      · have := hw _ (List.mem_cons_self ..)
        rw [h40, List.length_map, List.length_range, List.length_map, List.length_range] at this
        omega
      · obtain ⟨i, hi'⟩ := List.mem_iff_getElem?.1 hy
        have hil := (List.getElem?_eq_some_iff.1 hi').1
        obtain ⟨_, _, _, h3⟩ := hxs i y hi'
        refine h3 (fun n hn => hw n (List.mem_cons_of_mem _ (List.mem_append.2 (.inl (weightsAll_mem (d := D i) ?_ n hn)))))
        exact List.mem_map.2 ⟨i, List.mem_range.2 (by omega), rfl⟩
end
open Go.Proofs.Ytodaagikppaidaa in
theorem lifted (os : Os) (started : os.Started) (H : Type) (enc : TypeId × Value → H) :
    ReturnsInHanded {} Try.checked os 3 .any (Rows.xattrCallsSpec.pre6 enc Try.prog Try.f3 Rows.xattrCallsRow.domain false) (Rows.xattrCallsSpec.post enc Try.prog Try.f3 false true false false) := by
  refine returnsInHanded_of_change_sized (C := Try.checked) noKnob started (by kernel_rfl) Try.func3
    (ChangeSpec.witness6 (enc := enc) (C := Try.checked) false ⟨#[], #[.slice none 0 0, .string ByteArray.empty, .slice none 0 0], []⟩ 8 (by kernel_rfl) (by kernel_rfl) (by kernel_rfl) (by kernel_rfl)) ?_
  intro W base args ds gs before hval0 hW hcnd hsz0 _
  have hval : ∀ (j : Nat) t v, Try.f3.params[j]? = some t → args[j]? = some v → Value.okWide Try.prog W .any base t v := hval0
  have hW' := hW
  obtain ⟨p, q, hA0, hV, rfl, hfz, hnd⟩ := hW
  have hA : DataW.TrodAll enc Try.prog W 0 (fun _ => true) true Try.f3.params.toList args.toList ds p := hA0
  have hsz : (DataW.weightsEach Try.prog (Try.f3.params.toList ++ Rows.xattrCallsSpec.plain.varTypes Try.prog) (ds ++ gs)).all (· ≤ reachBytes) = true := hsz0
  rw [Try.params3] at hA hval hsz
  obtain ⟨v0, vs0, d0, ds0, p0, q0, hargs, rfl, rfl, h0, r0⟩ := trodAll_cons hA
  obtain ⟨v1, vs1, d1, ds1, p1, q1, rfl, rfl, rfl, h1, r1⟩ := trodAll_cons r0
  obtain ⟨v2, vs2, d2, ds2, p2, q2, rfl, rfl, rfl, h2, r2⟩ := trodAll_cons r1
  obtain ⟨rfl, rfl, rfl⟩ := trodAll_nil r2
  obtain rfl : args = #[v0, v1, v2] := by cases args; simp_all
  obtain ⟨rfl, rfl⟩ := trodVars_none hV
  have hall := fun n hn => of_decide_eq_true (List.all_eq_true.1 hsz n hn)
  obtain ⟨a0, len0, cap0, rfl⟩ := okWide_slice Try.underlying22 (hval 0 22 v0 rfl rfl)
  have k0 := h0
  have lt0 : ∀ x ∈ p0, x.block < W.heap.size := by obtain ⟨m, hm⟩ := k0; exact DataW.trod_lt m _ _ _ hm
  obtain ⟨xs, hxs, hwt0⟩ : ∃ xs : List Xa, XS (AllB W) W (.slice a0 len0 cap0) xs ∧ ((∀ n ∈ d0.weights P T_slapi_Xattr, n ≤ reachBytes) → xs.length * 40 ≤ reachBytes ∧ ∀ y ∈ xs, y.val.length ≤ reachBytes) := by
    obtain ⟨fuel, hf⟩ := h0
    exact open_xs (x := (d0, p0)) hf
  obtain ⟨a1, rfl, rfl, rfl, w1⟩ := open_string Try.underlying9 (hval 1 9 v1 rfl rfl) h1
  obtain ⟨a2, len2, cap2, rfl⟩ := okWide_slice Try.underlying23 (hval 2 23 v2 rfl rfl)
  have k2 := h2
  have lt2 : ∀ x ∈ p2, x.block < W.heap.size := by obtain ⟨m, hm⟩ := k2; exact DataW.trod_lt m _ _ _ hm
  obtain ⟨bs, hbs, hwt2⟩ : ∃ s : List UInt8, Sl (AllB W) W 1 (.slice a2 len2 cap2) (bytesV s) ∧ ((∀ n ∈ d2.weights P T_sluint8, n ≤ reachBytes) → s.length ≤ reachBytes) := by
    obtain ⟨fuel, hf⟩ := h2
    exact open_bytes (x := (d2, p2)) hf
  have hw0 := hwt0 (fun n hn => hall n (DataW.weights_mem_each (j := 0) (t := T_slapi_Xattr) (d := d0) rfl rfl n hn))
  have hw2 := hwt2 (fun n hn => hall n (DataW.weights_mem_each (j := 2) (t := T_sluint8) (d := d2) rfl rfl n hn))
  have hrb : reachBytes = 140737488351232 := by decide
  rw [hrb] at hw0 hw2
  obtain ⟨⟨l1⟩⟩ := a1
  clear hA0 hval0
  refine Calls.mono (w_law (I := AllB W) (fun _ h => h) hxs l1 bs hbs hw0.1 (fun x hx => by have := hw0.2 x hx; omega) (by omega)) fun e W' ⟨v, he, hv, hk⟩ => ?_
  subst he; subst hv
  have bel : Below W.heap.size W W' := ⟨hk.1, hk.2.1, hk.2.2.1, hk.2.2.2.1, fun k hk' => hk.2.2.2.2 k hk' (by simp)⟩
  exact ⟨_, rfl, _, _, _, [], _, [], hW', trodAll_mk1 (shut_bool Try.underlying4 _), (trodAll_cons_mk (Below.trod laidOut (by kernel_rfl) (of_decide_eq_true (by kernel_rfl)) k0 bel lt0) (trodAll_cons_mk (shut_string Try.underlying9 w1) (trodAll_cons_mk (Below.trod laidOut (by kernel_rfl) (of_decide_eq_true (by kernel_rfl)) k2 bel lt2) trodAll_mk0))), rfl, bel.frame _, fun h => by cases h⟩
open Go.Proofs.Ytodaagikppaidaa in
theorem over : Rows.xattrCallsRow.holds Try.pinned (OpenSpec.ofChange Rows.xattrCallsSpec) :=
  OpenClaim.holds_of_wide 3 Try.f3 rfl rfl rfl rfl rfl rfl rfl ⟨rfl, rfl, rfl, rfl, rfl⟩ rfl rfl rfl rfl rfl (by kernel_rfl) Try.func3 (by kernel_rfl)
    (of_decide_eq_true (by kernel_rfl)) (by unfold Func.isWrapper; first | (rw [if_pos (by decide +kernel)]; kernel_rfl) | (rw [if_neg (by decide +kernel)]; exact ⟨rfl, rfl⟩))
    (fun os started H enc _ => lifted os started H enc)
theorem proved : Go.Proofs.Ytodaagikppaidaa.Rows.XattrCallsSaid := over
#print axioms proved
end Go.Proofs.Ytodaagikppaidaa.Cw
