/- Rules for stepping through code: part 7. -/
import Derived.Test.YtodaagikppaidaaCwE6
import Derived.Laws.CopyRow
import Derived.Laws.BytesString
/-! Makes, literals, copies, texts out of bytes. -/
namespace Go.Proofs.Ytodaagikppaidaa.Eng
open Go

section
variable {P : Program} {n : Nat} {ops : Array Oper} {N R : Env → World → Prop} {X : Kt} {L : Env} {w : World} {S : List Nat} {w0 : World} {I : Nat → Prop} {M : List Bk} {l : List Oper}
  {d : Nat} {dd : Option Tmp} {t t1 t2 : TypeId} {p : String} {af : Array Edge} {g : Option (Nat × Bool)} {x y : Operand} {v : Value} {i j : Int} {k : IntKind}

def parts (L : Env) : List (Nat × Operand) → Option (List (Nat × Value))
  | [] => some []
  | (i, x) :: r => match ev L x, parts L r with
    | some v, some vs => some ((i, v) :: vs)
    | _, _ => none
theorem parts_eval {a : Act} (ha : Fits n L a) : ∀ (xs : List (Nat × Operand)) (vs : List (Nat × Value)), parts L xs = some vs → xs.map (fun q => (q.1, a.eval q.2)) = vs
  | [], vs, h => by unfold parts at h; injection h with h
  | (i, x) :: r, vs, h => by
    unfold parts at h
    cases hx : ev L x with
    | none => rw [hx] at h; cases h
    | some v =>
      cases hr : parts L r with
      | none => rw [hx, hr] at h; cases h
      | some us =>
        rw [hx, hr] at h
        injection h with h
        subst h
        rw [List.map_cons, ev_eval ha hx, parts_eval ha r us hr]
/-- A struct written out: h by 'fun w => by simp [..]', a closed fact on the tables and the parts' shapes. -/
theorem ev_build {xs : List (Nat × Operand)} {vs : List (Nat × Value)} (hx : parts L xs = some vs) (h : ∀ w, (Instr.build t1 vs.toArray).run P w = .ok v w) : EvO P n L w ⟨dd, .build t1 xs.toArray, t, p, af, g⟩ v := fun a ha w' _ => by
  have h1 : xs.toArray.map (fun (q : Nat × Operand) => (q.1, a.eval q.2)) = vs.toArray := by simp [parts_eval ha xs vs hx]
  simp only [execOp, Sem.run_bind, h1, h, Result.andThen_ok, Sem.run_pure]
/-- []T{..}: cs the new block's cells. -/
theorem SL.bslice (st : St S w0 I w M) {e m len : Nat} {xs : List (Nat × Operand)} {vs : List (Nat × Value)} {cs : List Value} (he : ElS P t1 e m) (hx : parts L xs = some vs) (h : ∀ w, (Instr.buildSlice t1 len vs.toArray).run P w = .ok (.slice (some ⟨w.heap.size, 0, none⟩) len len) (w.alloc (.cells cs.toArray e)))
    (k : ∀ w1 g1, St S w0 I w1 (⟨g1, e, cs⟩ :: M) → Up I w I w1 → Kp [] w w1 → w.heap.size ≤ g1 → SL P n ops l N ((d, .slice (some ⟨g1, 0, none⟩) len len) :: L) w1) (hn : Nat.blt d n = true := by rfl) : SL P n ops (⟨some d, .buildSlice t1 len xs.toArray, t, p, af, none⟩ :: l) N L w := by
  have hka := kp_alloc w (.cells cs.toArray e)
  refine SL.eff (w1 := w.alloc (.cells cs.toArray e)) (fun a ha => ?_) (k _ _ (st.alloc e cs) (Up.keep hka st.lt) hka (Nat.le_refl _)) rfl hn
  have h1 : xs.toArray.map (fun (q : Nat × Operand) => (q.1, a.eval q.2)) = vs.toArray := by simp [parts_eval ha xs vs hx]
  simp only [execOp, Sem.run_bind, h1, h, Result.andThen_ok, Sem.run_pure]
def zeros (z : List Value) : Nat → List Value
  | 0 => []
  | n + 1 => z ++ zeros z n
theorem zeros_length (z : List Value) : ∀ n, (zeros z n).length = n * z.length
  | 0 => by simp [zeros]
  | n + 1 => by simp [zeros, zeros_length z n, Nat.succ_mul, Nat.add_comm]
theorem zeros_one (v : Value) : ∀ n, zeros [v] n = List.replicate n v
  | 0 => rfl
  | n + 1 => by simp [zeros, zeros_one v n, List.replicate_succ]
theorem zeros_get (z : List Value) : ∀ (n j : Nat), j < n * z.length → (zeros z n)[j]? = z[j % z.length]?
  | 0, j, h => by omega
  | n + 1, j, h => by
    unfold zeros
    rw [List.getElem?_append]
    split
    · rename_i hlt; rw [Nat.mod_eq_of_lt hlt]
    · rename_i hge
      have h2 : j - z.length < n * z.length := by rw [Nat.succ_mul] at h; omega
      have h3 : j % z.length = (j - z.length) % z.length := Nat.mod_eq_sub_mod (by omega)
      rw [zeros_get z n (j - z.length) h2, h3]
theorem made_zeros (z : Array Value) (n : Nat) : (madeCells z (n * z.size)).toList = zeros z.toList n := by
  apply List.ext_getElem?
  intro j
  by_cases h : j < n * z.size
  · rw [zeros_get _ _ _ (by simpa using h)]
    have hz : 0 < z.size := by
      rcases Nat.eq_zero_or_pos z.size with h0 | h0
      · rw [h0] at h; omega
      · exact h0
    have hm : j % z.size < z.size := Nat.mod_lt _ hz
    simp [madeCells, h, hm]
  · rw [List.getElem?_eq_none (by simp [madeCells]; omega), List.getElem?_eq_none (by rw [zeros_length]; simpa using h)]
/-- make([]T, n). -/
theorem SL.make (st : St S w0 I w M) {e m bytes len : Nat} {z : Value} (he : ElS P t1 e m) (hi : InfoOk P e z m bytes) (hx : ev L x = some (.int .i64 (len : Int))) (hy : ev L y = some (.int .i64 (len : Int))) (hb : bytes * len ≤ 140737488355328) (hl : len ≤ 9223372036854775807)
    (k : ∀ w1 g1, St S w0 I w1 (⟨g1, e, zeros z.cells.toList len⟩ :: M) → Up I w I w1 → Kp [] w w1 → w.heap.size ≤ g1 → SL P n ops l N ((d, .slice (some ⟨g1, 0, none⟩) len len) :: L) w1) (hn : Nat.blt d n = true := by rfl) : SL P n ops (⟨some d, .makeSlice t1 x y, t, p, af, none⟩ :: l) N L w := by
  obtain ⟨inf, hi1, hz, hs, hby, hzs⟩ := hi
  have hka := kp_alloc w (.cells (zeros z.cells.toList len).toArray e)
  refine SL.eff (w1 := w.alloc (.cells (zeros z.cells.toList len).toArray e)) (fun a ha => ?_) (k _ _ (st.alloc e _) (Up.keep hka st.lt) hka (Nat.le_refl _)) rfl hn
  have hb2 : (inf.bytes : Int) * (len : Int) ≤ 281474976710656 := by
    rw [hby]
    have : ((bytes * len : Nat) : Int) ≤ 140737488355328 := by omega
    rw [Int.natCast_mul] at this
    omega
  have hr := run_make (P := P) w t1 e inf z he.1 hi1 hz .i64 .i64 len len (by omega) (by omega) hb2 (by omega)
  have hm : madeCells z.cells ((len : Int).toNat * inf.size) = (zeros z.cells.toList len).toArray := by
    rw [hs, ← hzs, ← made_zeros]; simp
  rw [hm] at hr
  simp only [Int.toNat_natCast] at hr
  simp only [execOp, Sem.run_bind, ev_eval ha hx, ev_eval ha hy, hr, Result.andThen_ok, Sem.run_pure]

/-! texts and bytes -/
def U8 (b : UInt8) : Value := .int .u8 (b.toNat : Int)
def bytesV (l : List UInt8) : List Value := l.map U8
theorem bytesV_length (l : List UInt8) : (bytesV l).length = l.length := by simp [bytesV]
theorem bytesV_one (l : List UInt8) : ∀ u ∈ bytesV l, isOne u = true := by
  intro u hu
  obtain ⟨b, _, rfl⟩ := List.mem_map.1 hu
  rfl
/-- string(b). -/
theorem ev_str {A : Option Addr} {len cap : Nat} {bs : List UInt8} (h1 : ∃ e, P.underlying t1 = some (.slice e) ∧ P.underlying e = some (.int .u8)) (h2 : P.underlying t2 = some .string) (hx : ev L x = some (.slice A len cap)) (hl : bs.length = len) (hr : bs ≠ [] → ∃ a, A = some a ∧ CellsAt w a (bytesV bs)) :
    EvO P n L w ⟨dd, .convert t1 t2 x, t, p, af, g⟩ (.string ⟨bs.toArray⟩) := fun a ha w' hk => by
  obtain ⟨e, he1, he2⟩ := h1
  have key : ∀ (l : List UInt8) (r : ByteArray), (l.map (fun b : UInt8 => (b.toNat : Int))).foldl (fun r n => r.push (UInt8.ofNat n.toNat)) r = ⟨r.data ++ l.toArray⟩ := by
    intro l
    induction l with
    | nil => intro r; simp
    | cons b l ih =>
      intro r
      simp only [List.map_cons, List.foldl_cons, Int.toNat_natCast, UInt8.ofNat_toNat]
      rw [ih]
      simp [ByteArray.push]
  simp only [execOp, ev_eval ha hx, Sem.run_bind, run_convert_bytes_string w' t1 t2 e A len cap he1 he2 h2]
  by_cases hn : bs = []
  · subst hn
    simp only [List.length_nil] at hl
    subst hl
    cases A with
    | none => rfl
    | some a0 =>
      have := run_bytesToString (P := P) w' a0 0 cap [] (by simp [loadCells, loadCellsFrom])
      rw [this]; rfl
  · obtain ⟨a0, rfl, hc⟩ := hr hn
    have hb : (bytesV bs) = (bs.map (fun b : UInt8 => (b.toNat : Int))).map (Value.int .u8) := by simp [bytesV, U8]
    have hlc := run_loadCells (P := P) (hc.kp hk)
    rw [bytesV_length, hl, hb] at hlc
    rw [run_bytesToString w' a0 len cap _ hlc, key]
    simp [ByteArray.empty, ByteArray.emptyWithCapacity]
    rfl
/-- []byte(s): the block bears a mark; it isn't told whole. -/
theorem SL.bytes (st : St S w0 I w M) {e : Nat} {s : List UInt8} (h1 : P.underlying t1 = some .string) (h2 : P.underlying t2 = some (.slice e)) (h3 : P.underlying e = some (.int .u8)) (hx : ev L x = some (.string ⟨s.toArray⟩))
    (k : ∀ w1 g1 c, St S w0 (Ext I w w1) w1 M → Up I w (Ext I w w1) w1 → Kp [] w w1 → s.length ≤ c → w.heap.size ≤ g1 → g1 < w1.heap.size → CellsAt w1 ⟨g1, 0, none⟩ (bytesV s) → SL P n ops l N ((d, .slice (some ⟨g1, 0, none⟩) s.length c) :: L) w1) (hn : Nat.blt d n = true := by rfl) : SL P n ops (⟨some d, .convert t1 t2 x, t, p, af, none⟩ :: l) N L w := by
  have hex : ∃ w1 c, (convert t1 t2 (.string ⟨s.toArray⟩)).run P w = .ok (.slice (some ⟨w.heap.size, 0, none⟩) s.length c) w1 ∧ Kp [] w w1 ∧ s.length ≤ c ∧ w1.heap.size = w.heap.size + 1 ∧ CellsAt w1 ⟨w.heap.size, 0, none⟩ (bytesV s) := by
    have hsz : (ByteArray.mk s.toArray).size = s.length := by simp [ByteArray.size]
    obtain ⟨c, hc⟩ : ∃ c, c = s.length + w.tape w.drawn (.appendCap s.length 0 e) % (2 ^ 63 - s.length) := ⟨_, rfl⟩
    obtain ⟨cs, hcs0⟩ : ∃ cs : List Value, cs = bytesV s ++ List.replicate (c - s.length) (.int .u8 0) := ⟨_, rfl⟩
    have hcs : (Array.map (fun b : UInt8 => Value.int .u8 (b.toNat : Int)) s.toArray ++ Array.replicate (c - s.length) (Value.int .u8 0)) = cs.toArray := by
      rw [hcs0]; simp [bytesV, U8]
    obtain ⟨wa, hwa⟩ : ∃ wa : World, wa = { heap := w.heap.push (.cells cs.toArray e), tape := w.tape, drawn := w.drawn + 1, os := w.os, output := w.output } := ⟨_, rfl⟩
    have hblk : wa.heap[w.heap.size]? = some (.cells cs.toArray e (0, 0)) := by rw [hwa]; simp
    have hsh : wa.shape? w.heap.size = some (e, cs.length) := by simp [World.shape?, hblk]
    have hws : wa.heap.size = w.heap.size + 1 := by rw [hwa]; simp
    have hold : ∀ g, g < w.heap.size → wa.heap[g]? = w.heap[g]? := fun g hg => by rw [hwa]; simp only [Array.getElem?_push]; rw [if_neg (by omega)]
    have hfz : ∀ g, (wa.freeze ⟨w.heap.size, cs.length, none⟩ 1).heap[g]? = if g = w.heap.size then some (.cells cs.toArray e (cs.length, cs.length + 1)) else wa.heap[g]? := by
      intro g
      simp only [World.freeze, Nat.one_ne_zero, if_false, Array.getElem?_modify]
      by_cases hg : w.heap.size = g
      · rw [if_pos hg, if_pos hg.symm, ← hg, hblk]; simp
      · rw [if_neg hg, if_neg (Ne.symm hg)]
    refine ⟨wa.freeze ⟨w.heap.size, cs.length, none⟩ 1, c, ?_, ⟨by rw [hwa]; rfl, by rw [hwa]; rfl, by rw [hwa]; rfl, by simp [World.freeze, hws], fun g hg _ => by rw [hfz, if_neg (by omega), hold g hg]⟩, by omega, by simp [World.freeze, hws], ?_⟩
    · simp only [convert, Sem.run_bind, run_underlying h1, run_underlying h2, run_underlying h3, Result.andThen_ok, Conv.stringToBytes]
      simp only [hsz, choose, Sem.run, Question.forced, Question.cut, Result.andThen_ok, newRow, newObj, Sem.run_bind, Sem.run_pure, markStringish, shape, Bool.false_eq_true, if_false, ← hc, hcs, ← hwa, hsh, freeze]
    · intro j v hv
      rw [add_off, Nat.zero_add]
      simp only [World.cell?, hfz, if_true]
      rw [List.getElem?_toArray, hcs0, List.getElem?_append_left (List.getElem?_eq_some_iff.1 hv).1]
      simpa using hv
  obtain ⟨w1, c, hr, hk, hc, hs, hcell⟩ := hex
  refine SL.eff (w1 := w1) (fun a ha => ?_) (k w1 w.heap.size c (st.call hk) (Up.kp hk st.lt) hk hc (Nat.le_refl _) (by omega) hcell) rfl hn
  simp only [execOp, Sem.run_bind, ev_eval ha hx, hr, Result.andThen_ok, Sem.run_pure]
/-- copy(dst, src): dst in a known block from cell o on. cs' : the block's cells then. -/
theorem SL.copy (st : St S w0 I w M) (kk : Nat) {b g0 o e m : Nat} {cs vs : List Value} {A : Option Addr} {dl dc sl sc nn : Nat} (he : ElS P t1 e m) (hx : ev L x = some (.slice (some ⟨g0, o, none⟩) dl dc)) (hy : ev L y = some (.slice A sl sc)) (hM : M[kk]? = some ⟨g0, b, cs⟩)
    (hnn : nn = min sl dl) (hvs : vs.length = nn * m) (hr : vs ≠ [] → ∃ a, A = some a ∧ CellsAt w a vs) (h1 : ∀ u ∈ vs, isOne u = true) (hb : o + vs.length ≤ cs.length) 
    (k : ∀ w1, St S w0 I w1 (M.set kk ⟨g0, b, cs.take o ++ vs ++ cs.drop (o + vs.length)⟩) → Up I w I w1 → Kp [g0] w w1 → SL P n ops l N ((d, .int .i64 (nn : Int)) :: L) w1) (hn : Nat.blt d n = true := by rfl) :
    SL P n ops (⟨some d, .call ⟨.builtin .copy, #[x, y], #[t1, t2]⟩, t, p, af, none⟩ :: l) N L w := by
  have hbk := st.ok _ (mem_of_get hM)
  obtain ⟨w', hrs, hk, hh⟩ := run_storeCells (P := P) vs w o 0 cs hbk (by simpa using hb) h1
  simp only [Nat.add_zero] at hh
  refine SL.eff (w1 := w') (fun a ha => ?_) (k _ (st.turn hM rfl hk hh) (Up.set st hM hk) hk) rfl hn
  obtain ⟨ccs, hcs⟩ := run_builtin (P := P) (b := .copy) (ats := #[t1, t2]) (dd := some d) (t := t) (p := p) (af := af) (g := none) (xs := [x, y]) (vs := [.slice (some ⟨g0, o, none⟩) dl dc, .slice A sl sc]) ha (by simp [evs, hx, hy])
  rw [hcs]
  have hfc : (Builtin.firstCells m nn (.slice A sl sc)).run P w = .ok vs.toArray w := by
    by_cases hz : vs = []
    · subst hz
      have h0 : nn * m = 0 := by simpa using hvs.symm
      cases A with
      | none => simp [Builtin.firstCells]
      | some a0 => simp [Builtin.firstCells, h0, loadCells, loadCellsFrom]
    · obtain ⟨a0, rfl, hc⟩ := hr hz
      have := run_loadCells (P := P) hc
      rw [hvs] at this
      simpa [Builtin.firstCells] using this
  have hmin : Nat.min sl dl = nn := hnn.symm
  simp [builtin, Builtin.copy_, run_underlying he.1, Builtin.lenOf, hmin, he.2 w, hfc, hrs, goInt]
end
end Go.Proofs.Ytodaagikppaidaa.Eng
