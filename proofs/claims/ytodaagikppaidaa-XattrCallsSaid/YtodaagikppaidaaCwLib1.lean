/- strings.Contains of one byte, strings.Compare and what they call answer as told. -/
import Derived.Test.YtodaagikppaidaaCwTab
/-! Texts: Contains of a nought, Compare. -/
namespace Go.Proofs.Ytodaagikppaidaa.Cw
open Go Go.Proofs.Ytodaagikppaidaa.Eng
abbrev T (s : List UInt8) : Value := .string ⟨s.toArray⟩
theorem x_idxb (s : List UInt8) (c : UInt8) : Ext1 P F_bytealg_IndexByteString [T s, .int .u8 c.toNat] (.int .i64 (firstIdx ⟨s.toArray⟩ c)) := ext_idxb func_bytealg_IndexByteString (by kernel_rfl) rfl (by kernel_rfl) (by kernel_rfl) s c
theorem x_cmp (a b : List UInt8) : Ext1 P F_bytealg_abigen_runtime_cmpstring [T a, T b] (.int .i64 (cmpS a b)) := ext_cmp func_bytealg_abigen_runtime_cmpstring (by kernel_rfl) rfl (by kernel_rfl) (by kernel_rfl) a b
theorem w_IndexByte (s : List UInt8) (c : UInt8) (w : World) : Ret P F_stringslite_IndexByte [T s, .int .u8 c.toNat] w (fun v w' => v = .int .i64 (firstIdx ⟨s.toArray⟩ c) ∧ w' = w) := by
  refine Ret.enter func_stringslite_IndexByte rfl nt_stringslite_IndexByte ?_
  refine CW.seq ?_
  refine CW.region ?_
  refine SL.op (ev_assign rfl) ?_
  refine SL.nil ?_
  refine CW.seq ?_
  refine CW.region ?_
  refine SL.op (ev_move rfl) ?_
  refine SL.op (ev_move rfl) ?_
  refine SL.op (ev_x rfl (x_idxb s c)) ?_
  refine SL.op (ev_assign rfl) ?_
  refine SL.nil ?_
  refine CW.ret ?_
  refine RetOk.one rfl ?_
  exact ⟨rfl, rfl⟩
theorem w_Index1 (s : List UInt8) (c : UInt8) (w : World) : Ret P F_stringslite_Index [T s, T [c]] w (fun v w' => v = .int .i64 (firstIdx ⟨s.toArray⟩ c) ∧ w' = w) := by
  refine Ret.enter func_stringslite_Index rfl nt_stringslite_Index ?_
  refine CW.seq ?_
  refine CW.region ?_
  refine SL.op (ev_assign rfl) ?_
  refine SL.nil ?_
  refine CW.seq ?_
  refine CW.region ?_
  refine SL.op (ev_move rfl) ?_
  refine SL.op (ev_lenL und_string rfl) ?_
  refine SL.op (ev_assign rfl) ?_
  refine SL.nil ?_
  refine CW.seq ?_
  refine CW.block ?_
  refine CW.seq ?_
  refine CW.region ?_
  refine SL.op (ev_move rfl) ?_
  refine SL.op (ev_eq rfl rfl) ?_
  refine SL.op (ev_move rfl) ?_
  refine SL.on rfl ?_ ?_
  · simp
  refine SL.op (ev_move rfl) ?_
  refine SL.on rfl ?_ ?_
  · simp
  refine SL.op (ev_move rfl) ?_
  refine SL.on rfl ?_ ?_
  · simp
  refine SL.op (ev_seq rfl rfl) ?_
  refine SL.op (ev_pickF rfl rfl (by simp)) ?_
  refine SL.op (ev_assign rfl) ?_
  refine SL.nil ?_
  refine CW.cond rfl (fun hb => ?_) (fun hb => ?_)
  · skip
    refine CW.seq ?_
    refine CW.region ?_
    refine SL.op (ev_assign rfl) ?_
    refine SL.nil ?_
    refine CW.ret ?_
    refine RetOk.one rfl ?_
    have hb2 : [c] = s := by simpa using hb
    subst hb2
    exact ⟨by rw [firstIdx_one], rfl⟩
  · skip
    refine CW.seq ?_
    refine CW.region ?_
    refine SL.op (ev_move rfl) ?_
    refine SL.op (ev_eq rfl rfl) ?_
    refine SL.op (ev_assign rfl) ?_
    refine SL.nil ?_
    refine CW.ifT rfl ?_ ?_
    · simp
    refine CW.seq ?_
    refine CW.region ?_
    refine SL.op (ev_move rfl) ?_
    refine SL.op (ev_move rfl) ?_
    refine SL.op (ev_at und_string rfl rfl (by omega) rfl) ?_
    refine SL.call call_stringslite_IndexByte rfl (w_IndexByte s c _) ?_; rintro v1 w1 ⟨rfl, rfl⟩
    refine SL.op (ev_assign rfl) ?_
    refine SL.nil ?_
    refine CW.ret ?_
    refine RetOk.one rfl ?_
    exact ⟨rfl, rfl⟩
theorem w_sIndex1 (s : List UInt8) (c : UInt8) (w : World) : Ret P F_strings_Index [T s, T [c]] w (fun v w' => v = .int .i64 (firstIdx ⟨s.toArray⟩ c) ∧ w' = w) := by
  refine Ret.enter func_strings_Index rfl nt_strings_Index ?_
  refine CW.seq ?_
  refine CW.region ?_
  refine SL.op (ev_assign rfl) ?_
  refine SL.nil ?_
  refine CW.seq ?_
  refine CW.region ?_
  refine SL.op (ev_move rfl) ?_
  refine SL.op (ev_move rfl) ?_
  refine SL.call call_stringslite_Index rfl (w_Index1 s c _) ?_; rintro v1 w1 ⟨rfl, rfl⟩
  refine SL.op (ev_assign rfl) ?_
  refine SL.nil ?_
  refine CW.ret ?_
  refine RetOk.one rfl ?_
  exact ⟨rfl, rfl⟩
theorem w_Contains1 (s : List UInt8) (c : UInt8) (w : World) : Ret P F_strings_Contains [T s, T [c]] w (fun v w' => v = .bool (decide (c ∈ s)) ∧ w' = w) := by
  refine Ret.enter func_strings_Contains rfl nt_strings_Contains ?_
  refine CW.seq ?_
  refine CW.region ?_
  refine SL.op (ev_assign rfl) ?_
  refine SL.nil ?_
  refine CW.seq ?_
  refine CW.region ?_
  refine SL.op (ev_move rfl) ?_
  refine SL.op (ev_move rfl) ?_
  refine SL.call call_strings_Index rfl (w_sIndex1 s c _) ?_; rintro v1 w1 ⟨rfl, rfl⟩
  refine SL.op (ev_ge rfl rfl) ?_
  refine SL.op (ev_assign rfl) ?_
  refine SL.nil ?_
  refine CW.ret ?_
  refine RetOk.one rfl ?_
  refine ⟨?_, rfl⟩
  rw [decide_eq_decide.2 (firstIdx_mem s c)]
theorem w_CompareString (a b : List UInt8) (w : World) : Ret P F_bytealg_CompareString [T a, T b] w (fun v w' => v = .int .i64 (cmpS a b) ∧ w' = w) := by
  refine Ret.enter func_bytealg_CompareString rfl nt_bytealg_CompareString ?_
  refine CW.seq ?_
  refine CW.region ?_
  refine SL.op (ev_assign rfl) ?_
  refine SL.nil ?_
  refine CW.seq ?_
  refine CW.region ?_
  refine SL.op (ev_move rfl) ?_
  refine SL.op (ev_move rfl) ?_
  refine SL.op (ev_x rfl (x_cmp a b)) ?_
  refine SL.op (ev_assign rfl) ?_
  refine SL.nil ?_
  refine CW.ret ?_
  refine RetOk.one rfl ?_
  exact ⟨rfl, rfl⟩
theorem w_Compare (a b : List UInt8) (w : World) : Ret P F_strings_Compare [T a, T b] w (fun v w' => v = .int .i64 (cmpS a b) ∧ w' = w) := by
  refine Ret.enter func_strings_Compare rfl nt_strings_Compare ?_
  refine CW.seq ?_
  refine CW.region ?_
  refine SL.op (ev_assign rfl) ?_
  refine SL.nil ?_
  refine CW.seq ?_
  refine CW.region ?_
  refine SL.op (ev_move rfl) ?_
  refine SL.op (ev_move rfl) ?_
  refine SL.call call_bytealg_CompareString rfl (w_CompareString a b _) ?_; rintro v1 w1 ⟨rfl, rfl⟩
  refine SL.op (ev_assign rfl) ?_
  refine SL.nil ?_
  refine CW.ret ?_
  refine RetOk.one rfl ?_
  exact ⟨rfl, rfl⟩
end Go.Proofs.Ytodaagikppaidaa.Cw
