/- Part C1 of the proof: the laws and contracts that the last text joins. Own work; no condition of its own. -/
import Derived.Test.YtfdkncmlnfenjaaGreatDoorD
import Derived.Test.YtfdkncmlnfenjaaGreatDoorR1
import Derived.Test.YtfdkncmlnfenjaaGreatDoorR2
set_option linter.all false
set_option maxRecDepth 100000
set_option linter.all false
namespace Go.Pg
open Go.Proofs
def letterF (c : Int) (first : Bool) : Bool := (decide (c ≥ 97) && decide (c ≤ 122)) || (!first && (c == 95 || (decide (c ≥ 48) && decide (c ≤ 57))))
theorem letter_spec (c : Int) (first : Bool) : Ret Tryz.prog 113 [.d (.int .u8 c), .d (.bool first)] (.bool (letterF c first)) := by
  have hroomB : roomB = 140737488355328 := rfl; refine ac_of ok113 rfl rfl ?_
  repeat' first | (with_reducible refine W.seq ?_) | ((with_reducible refine W.region ?_); conv => whnf) | ((with_reducible refine W.ret ?_); conv => whnf) | (refine finD (.inr rfl) rfl rfl ⟨?_, rfl⟩) | ((refine condM_intro (fun hc => ?_) (fun hc => ?_)) <;> (try simp only [decide_eq_true_eq, decide_eq_false_iff_not, beq_iff_eq, bne_iff_ne, beq_eq_false_iff_ne, bne_eq_false_iff_eq, ne_eq, Bool.not_eq_true', Bool.not_eq_false'] at hc) <;> (first | (exfalso; omega) | (conv => whnf)))
  all_goals (simp_all [letterF])
  all_goals grind
theorem rletter_spec (c : Int) (first : Bool) : Ret Tryz.prog 131 [.d (.int .u8 c), .d (.bool first)] (.bool (letterF c first)) := by
  have hroomB : roomB = 140737488355328 := rfl; refine ac_of ok131 rfl rfl ?_
  repeat' first | (with_reducible refine W.seq ?_) | ((with_reducible refine W.region ?_); conv => whnf) | ((with_reducible refine W.cond ?_); conv => whnf) | ((with_reducible refine W.skip ?_); conv => whnf) | ((with_reducible refine W.ret ?_); conv => whnf) | (refine finD (.inr rfl) rfl rfl ⟨?_, rfl⟩) | ((refine condM_intro (fun hc => ?_) (fun hc => ?_)) <;> (try simp only [decide_eq_true_eq, decide_eq_false_iff_not, beq_iff_eq, bne_iff_ne, beq_eq_false_iff_ne, bne_eq_false_iff_eq, ne_eq, Bool.not_eq_true', Bool.not_eq_false'] at hc) <;> (first | (exfalso; omega) | (conv => whnf)))
  all_goals (simp_all [letterF])
  all_goals grind
/-- May all bytes from the i-th on stand in a name? -/
def lettersF (s : Txt) : Bool := decide (∀ i, i < s.length → letterF (byteAt s i) (i == 0) = true)
def checkF (s : Txt) : Int := if lettersF s = true then (if s = [] then 11 else if s.length > 32 then 3 else 0) else 11
theorem checkF_bad {s : Txt} {i : Nat} (hi : i < s.length) (h : letterF (byteAt s i) (i == 0) = false) : checkF s = 11 := by
  unfold checkF lettersF
  rw [if_neg]
  simp only [decide_eq_true_eq]
  intro hall
  rw [hall i hi] at h
  cases h
theorem checkF_good {s : Txt} (h : ∀ i, i < s.length → letterF (byteAt s i) (i == 0) = true) : checkF s = if s = [] then 11 else if s.length > 32 then 3 else 0 := by
  unfold checkF lettersF
  rw [if_pos (by simpa using h)]
theorem check_spec (s : Txt) : Ret Tryz.prog 65 [.d (.str s)] (.int .i64 (checkF s)) := by
  have hroomB : roomB = 140737488355328 := rfl; refine ac_of ok65 rfl rfl ?_
  repeat' first | (with_reducible refine W.seq ?_) | ((with_reducible refine W.region ?_); conv => whnf) | (with_reducible refine W.block ?_) | (intro _; conv => whnf)
  refine W.loop (σ := Nat) (fun i => [(0, .d (.str s)), (5, .d (.int .i64 s.length)), (6, .d (.int .i64 i))]) (fun _ => gl) (fun i => i ≤ s.length ∧ ∀ j, j < i → letterF (byteAt s j) (j == 0) = true) (fun i => s.length - i) 0 ⟨Nat.zero_le _, fun j h => by omega⟩ ⟨.same _, .same _, .same _, trivial⟩ rfl ?_
  rintro i ⟨hi, hall⟩
  repeat' first | (with_reducible refine W.seq ?_) | ((with_reducible refine W.region ?_); conv => whnf) | ((with_reducible refine W.cond ?_); conv => whnf) | (with_reducible refine W.block ?_) | ((with_reducible refine W.skip ?_); conv => whnf) | ((with_reducible refine W.exit ?_); conv => whnf) | ((refine AC.use (letter_spec _ _) ?_ rfl ?_); (focus (simp only [allL, FV.all, and_self]; done)); conv => whnf) | ((with_reducible refine W.ret ?_); conv => whnf) | (refine finD (.inr rfl) rfl rfl ⟨?_, rfl⟩) | ((refine condM_intro (fun hc => ?_) (fun hc => ?_)) <;> (try simp only [decide_eq_true_eq, decide_eq_false_iff_not, beq_iff_eq, bne_iff_ne, beq_eq_false_iff_ne, bne_eq_false_iff_eq, ne_eq, Bool.not_eq_true', Bool.not_eq_false'] at hc) <;> (first | (exfalso; omega) | (conv => whnf))) | (intro _; conv => whnf) | ((refine And.intro ?_ ?_); (focus (first | omega | (simp only [rT_len, rE_len, rF_len, rC_len, rV_len, rP_len, rS_len, rR_len, rTT_len, rW_len, List.length_map, List.length_replicate] at *; omega) | exact (byteAt_lt _ _).1 | exact (byteAt_lt _ _).2 | (simp [ebStr, ebTxts, ebU8, ebExpr, ebStmt, ebVar, ebParam, ebField, ebRec, ebRoutine, ebPair, roomB]; done))); conv => whnf)
  · rw [checkF_bad (i := i) (by omega) (by simpa [i0] using hc)]
  · refine ⟨i + 1, ⟨by omega, fun j hj => ?_⟩, by omega, ?_, rfl⟩
    · rcases Nat.lt_succ_iff_lt_or_eq.1 hj with h | rfl
      · exact hall j h
      · simpa [i0] using hc
    · (repeat' (first | exact trivial | exact SlotLe.same _ | exact SlotLe.own _ _ _ | exact SlotLe.nil _ | exact SlotLe.any _ | (apply And.intro) | (refine SlotLe.of_eq ?_; rw [wr (by omega) (by omega)]; rfl) | (refine SlotLe.of_eq ?_; rw [wr (by omega) (by omega)]; congr 2; omega)))
  all_goals (rw [checkF_good (fun j hj => hall j (by omega))]; congr 2; grind)
theorem rcheck_spec (s : Txt) : Ret Tryz.prog 88 [.d (.str s)] (.int .i64 (checkF s)) := by
  have hroomB : roomB = 140737488355328 := rfl; refine ac_of ok88 rfl rfl ?_
  repeat' first | (with_reducible refine W.seq ?_) | ((with_reducible refine W.region ?_); conv => whnf) | ((with_reducible refine W.cond ?_); conv => whnf) | (with_reducible refine W.block ?_) | ((with_reducible refine W.skip ?_); conv => whnf) | ((with_reducible refine W.ret ?_); conv => whnf) | (refine finD (.inr rfl) rfl rfl ⟨?_, rfl⟩) | ((refine condM_intro (fun hc => ?_) (fun hc => ?_)) <;> (try simp only [decide_eq_true_eq, decide_eq_false_iff_not, beq_iff_eq, bne_iff_ne, beq_eq_false_iff_ne, bne_eq_false_iff_eq, ne_eq, Bool.not_eq_true', Bool.not_eq_false'] at hc) <;> (first | (exfalso; omega) | (conv => whnf)))
  · simp_all [checkF]
  refine W.loop (σ := Nat) (fun i => [(0, .d (.str s)), (3, .d (.int .i64 i))]) (fun _ => gl) (fun i => i ≤ s.length ∧ ∀ j, j < i → letterF (byteAt s j) (j == 0) = true) (fun i => s.length - i) 0 ⟨Nat.zero_le _, fun j h => by omega⟩ ⟨.same _, .same _, trivial⟩ rfl ?_
  rintro i ⟨hi, hall⟩
  repeat' first | (with_reducible refine W.seq ?_) | ((with_reducible refine W.region ?_); conv => whnf) | ((with_reducible refine W.cond ?_); conv => whnf) | (with_reducible refine W.block ?_) | ((with_reducible refine W.skip ?_); conv => whnf) | ((with_reducible refine W.exit ?_); conv => whnf) | ((refine AC.use (rletter_spec _ _) ?_ rfl ?_); (focus (simp only [allL, FV.all, and_self]; done)); conv => whnf) | ((with_reducible refine W.ret ?_); conv => whnf) | (refine finD (.inr rfl) rfl rfl ⟨?_, rfl⟩) | ((refine condM_intro (fun hc => ?_) (fun hc => ?_)) <;> (try simp only [decide_eq_true_eq, decide_eq_false_iff_not, beq_iff_eq, bne_iff_ne, beq_eq_false_iff_ne, bne_eq_false_iff_eq, ne_eq, Bool.not_eq_true', Bool.not_eq_false'] at hc) <;> (first | (exfalso; omega) | (conv => whnf))) | (intro _; conv => whnf) | ((refine And.intro ?_ ?_); (focus (first | omega | (simp only [rT_len, rE_len, rF_len, rC_len, rV_len, rP_len, rS_len, rR_len, rTT_len, rW_len, List.length_map, List.length_replicate] at *; omega) | exact (byteAt_lt _ _).1 | exact (byteAt_lt _ _).2 | (simp [ebStr, ebTxts, ebU8, ebExpr, ebStmt, ebVar, ebParam, ebField, ebRec, ebRoutine, ebPair, roomB]; done))); conv => whnf)
  · rw [checkF_bad (i := i) (by omega) (by simpa [i0] using hc)]
  · refine ⟨i + 1, ⟨by omega, fun j hj => ?_⟩, by omega, ?_, rfl⟩
    · rcases Nat.lt_succ_iff_lt_or_eq.1 hj with h | rfl
      · exact hall j h
      · simpa [i0] using hc
    · (repeat' (first | exact trivial | exact SlotLe.same _ | exact SlotLe.own _ _ _ | exact SlotLe.nil _ | exact SlotLe.any _ | (apply And.intro) | (refine SlotLe.of_eq ?_; rw [wr (by omega) (by omega)]; rfl) | (refine SlotLe.of_eq ?_; rw [wr (by omega) (by omega)]; congr 2; omega)))
  all_goals (rw [checkF_good (fun j hj => hall j (by omega))]; congr 2; grind)
/-- A text is among some. -/
theorem among_spec (l : List Txt) (s : Txt) : Ret Tryz.prog 44 [.d (aT l), .d (.str s)] (.bool (l.contains s)) := by
  have hroomB : roomB = 140737488355328 := rfl; refine ac_of ok44 rfl rfl ?_
  repeat' first | (with_reducible refine W.seq ?_) | ((with_reducible refine W.region ?_); conv => whnf) | (with_reducible refine W.block ?_)
  refine W.loop (σ := Nat) (fun i => [(0, .d (aT l)), (1, .d (.str s)), (5, .d (.int .i64 i))]) (fun _ => gl) (fun i => i ≤ l.length ∧ (l.drop i).contains s = l.contains s) (fun i => l.length - i) 0 ⟨Nat.zero_le _, by simp⟩ ⟨.same _, .same _, .same _, trivial⟩ rfl ?_
  rintro i ⟨hi, hall⟩
  repeat' first | (with_reducible refine W.seq ?_) | ((with_reducible refine W.region ?_); conv => whnf) | ((with_reducible refine W.cond ?_); conv => whnf) | (with_reducible refine W.block ?_) | ((with_reducible refine W.skip ?_); conv => whnf) | ((with_reducible refine W.exit ?_); conv => whnf) | ((with_reducible refine W.ret ?_); conv => whnf) | (refine finD (.inr rfl) rfl rfl ⟨?_, rfl⟩) | ((refine condM_intro (fun hc => ?_) (fun hc => ?_)) <;> (try simp only [decide_eq_true_eq, decide_eq_false_iff_not, beq_iff_eq, bne_iff_ne, beq_eq_false_iff_ne, bne_eq_false_iff_eq, ne_eq, Bool.not_eq_true', Bool.not_eq_false'] at hc) <;> (first | (exfalso; omega) | (conv => whnf))) | (intro row hrow; (first | (obtain rfl := spaceCells_at hrow) | (obtain ⟨x, hx, rfl⟩ := rE_at hrow) | (obtain ⟨x, hx, rfl⟩ := map_at hrow) | (obtain ⟨x, hx, rfl⟩ := rS_at hrow) | (obtain ⟨x, hx, rfl⟩ := rR_at hrow)); conv => whnf) | (intro hlen; simp only [rT_len, rE_len, rF_len, rC_len, rV_len, rP_len, rS_len, rR_len, rTT_len, rW_len] at hlen ⊢; conv => whnf) | ((refine And.intro rfl ?_); conv => whnf) | ((refine And.intro ?_ ?_); (focus (first | omega | (simp only [rT_len, rE_len, rF_len, rC_len, rV_len, rP_len, rS_len, rR_len, rTT_len, rW_len, List.length_map, List.length_replicate] at *; omega) | exact (byteAt_lt _ _).1 | exact (byteAt_lt _ _).2 | (simp [ebStr, ebTxts, ebU8, ebExpr, ebStmt, ebVar, ebParam, ebField, ebRec, ebRoutine, ebPair, roomB]; done))); conv => whnf)
  all_goals try (simp only [Int.toNat_natCast] at hx; rw [drop_at hx] at hall)
  · subst hc
    simp at hall
    simp [hall]
  · refine ⟨i + 1, ⟨by omega, ?_⟩, by omega, ?_, rfl⟩
    · rw [← hall]; simp only [List.contains_cons, beq_eq_false_iff_ne.2 (Ne.symm hc), Bool.false_or]
    · (repeat' (first | exact trivial | exact SlotLe.same _ | exact SlotLe.own _ _ _ | exact SlotLe.nil _ | exact SlotLe.any _ | (apply And.intro) | (refine SlotLe.of_eq ?_; rw [wr (by omega) (by omega)]; rfl) | (refine SlotLe.of_eq ?_; rw [wr (by omega) (by omega)]; congr 2; omega)))
  · rw [drop_end (by omega)] at hall
    rw [← hall]; simp
def pasWords : List Txt := ["and", "array", "begin", "boolean", "char", "div", "do", "downto", "else", "end", "false", "for", "forward", "function", "if", "integer", "mod", "not", "of", "or", "procedure", "program", "read", "record", "repeat", "return", "then", "to", "true", "type", "until", "var", "while", "write"].map fun s => s.toUTF8.data.toList
def ceeWords : List Txt := ["bool", "char", "do", "downto", "else", "false", "for", "get", "if", "int", "main", "program", "put", "return", "struct", "to", "true", "until", "up", "void", "while"].map fun s => s.toUTF8.data.toList
def wordsF (d : Int) : List Txt := if d = 0 then pasWords else if d = 1 then ceeWords else []
theorem rall_spec (d : Int) : Ret Tryz.prog 132 [.d (.int .i64 d)] (aT (wordsF d)) := by
  have hroomB : roomB = 140737488355328 := rfl; refine ac_of ok132 rfl rfl ?_
  repeat' first | (with_reducible refine W.seq ?_) | ((with_reducible refine W.region ?_); conv => whnf) | ((with_reducible refine W.cond ?_); conv => whnf) | (with_reducible refine W.block ?_) | ((with_reducible refine W.skip ?_); conv => whnf) | ((refine W.retd 2 _ (.nil _) ?_); conv => whnf) | ((with_reducible refine W.ret ?_); conv => whnf) | (refine finD (.inr rfl) rfl rfl ⟨?_, rfl⟩) | ((refine condM_intro (fun hc => ?_) (fun hc => ?_)) <;> (try simp only [decide_eq_true_eq, decide_eq_false_iff_not, beq_iff_eq, bne_iff_ne, beq_eq_false_iff_ne, bne_eq_false_iff_eq, ne_eq, Bool.not_eq_true', Bool.not_eq_false'] at hc) <;> (first | (exfalso; omega) | (conv => whnf))) | ((refine And.intro ?_ ?_); (focus (first | omega | (simp only [rT_len, rE_len, rF_len, rC_len, rV_len, rP_len, rS_len, rR_len, rTT_len, rW_len, List.length_map, List.length_replicate] at *; omega) | exact (byteAt_lt _ _).1 | exact (byteAt_lt _ _).2 | (simp [ebStr, ebTxts, ebU8, ebExpr, ebStmt, ebVar, ebParam, ebField, ebRec, ebRoutine, ebPair, roomB]; done))); conv => whnf)
  · subst hc; kernel_rfl
  · subst hc; kernel_rfl
  · simp_all [wordsF, aT, rT]
theorem ris_spec (d : Int) (s : Txt) : Ret Tryz.prog 89 [.d (.int .i64 d), .d (.str s)] (.bool ((wordsF d).contains s)) := by
  have hroomB : roomB = 140737488355328 := rfl; refine ac_of ok89 rfl rfl ?_
  repeat' first | (with_reducible refine W.seq ?_) | ((with_reducible refine W.region ?_); conv => whnf) | ((refine AC.use (rall_spec _) ?_ rfl ?_); (focus (simp only [allL, FV.all, and_self]; done)); conv => whnf) | ((refine AC.use (among_spec _ _) ?_ rfl ?_); (focus (simp only [allL, FV.all, and_self]; done)); conv => whnf) | ((with_reducible refine W.ret ?_); conv => whnf) | (refine finD (.inr rfl) rfl rfl ⟨?_, rfl⟩) | (with_reducible rfl)
end Go.Pg
set_option maxRecDepth 100000
set_option linter.all false
namespace Go.Pg
open Go.Proofs
/-! ### strings.Fields of a text without bytes from 128 on -/
def spc (s : Txt) (i : Nat) : Bool := spaceAt (byteAt s i).toNat
/-- How many fields: as the first loop counts them. -/
def fcount (s : Txt) : Nat → Nat → Int → Int → Int → Option (Int × Int)
  | 0, _, _, _, _ => none
  | f + 1, i, n, was, bits =>
    if i < s.length then
      let r : Int := IntKind.i64.wrap (if spc s i = true then 1 else 0)
      fcount s f (i + 1) (IntKind.i64.wrap (n + bitsF .and .i64 was (bitsF .xor .i64 (if IntKind.i64.signed = true then -1 else IntKind.i64.max) r))) r (bitsF .or .u8 bits (byteAt s i))
    else some (n, bits)
def fskip (s : Txt) : Nat → Nat → Nat
  | 0, i => i
  | f + 1, i => if i < s.length ∧ spc s i = true then fskip s f (i + 1) else i
/-- The fields: as the second part lays them. -/
def ffill (s : Txt) : Nat → Nat → Nat → Nat → List Txt → Option (List Txt)
  | 0, _, _, _, _ => none
  | f + 1, na, fs, i, arr =>
    if i < s.length then
      if spc s i = false then ffill s f na fs (i + 1) arr
      else if na < arr.length then
        let j := fskip s s.length (i + 1)
        ffill s f (na + 1) j j (arr.set na ((s.take i).drop fs))
      else none
    else if fs < s.length then
      if na < arr.length then some (arr.set na (s.drop fs)) else none
    else some arr
def fieldsF (s : Txt) : Option (List Txt) :=
  match fcount s (s.length + 1) 0 0 1 0 with
  | some (n, bits) => if 0 ≤ n ∧ n ≤ 1000000 ∧ bits < 128 then
      let j := fskip s s.length 0
      ffill s (s.length + 2) 0 j j (List.replicate n.toNat [])
    else none
  | none => none
theorem spc_step {s : Txt} {i f : Nat} (h : s.length - i ≤ f) : fskip s f i = if i < s.length ∧ spc s i = true then fskip s (f - 1) (i + 1) else i := by
  cases f with
  | zero =>
    simp only [fskip]
    rw [if_neg (by omega)]
  | succ f => simp only [fskip, Nat.add_sub_cancel]
theorem fskip_fuel {s : Txt} : ∀ {f g i : Nat}, s.length - i ≤ f → s.length - i ≤ g → fskip s f i = fskip s g i
  | 0, g, i, h1, h2 => by rw [spc_step h1, spc_step h2, if_neg (by omega), if_neg (by omega)]
  | f + 1, g, i, h1, h2 => by
    rw [spc_step h1, spc_step h2]
    split
    · rename_i hc
      exact fskip_fuel (by omega) (by omega)
    · rfl
theorem fskip_ge (s : Txt) : ∀ (f i : Nat), i ≤ fskip s f i
  | 0, i => Nat.le_refl _
  | f + 1, i => by
    simp only [fskip]
    split
    · exact Nat.le_of_succ_le (fskip_ge s f (i + 1))
    · exact Nat.le_refl _
theorem fskip_le (s : Txt) : ∀ (f i : Nat), i ≤ s.length → fskip s f i ≤ s.length
  | 0, i, h => h
  | f + 1, i, h => by
    simp only [fskip]
    split
    · exact fskip_le s f (i + 1) (by omega)
    · exact h
def pasText : Txt := "and array begin boolean char div do downto else end false for forward function if integer mod not of or procedure program read record repeat return then to true type until var while write".toUTF8.data.toList
def ceeText : Txt := "bool char do downto else false for get if int main program put return struct to true until up void while".toUTF8.data.toList
theorem cells_strs : ∀ arr : List Txt, allCellD (arr.map fun t => FV.d (.str t)) = some (arr.map fun t => AV.str t)
  | [] => rfl
  | t :: arr => by simp only [List.map_cons, allCellD, cells_strs arr, FV.cellD]
theorem ret_ms {fr : Fr} {arr : List Txt} {n N : Nat} {mt : List Nat} (h2 : fr.get 2 = .ms 9 1 0 n) (hn : arr.length = n) :
    W Tryz.prog mt N .ret (retQ gl [.tmp 2] fun r g => r = .d (aT arr) ∧ g = gl) fr (gl ++ [.var 9 (arr.map fun t => .d (.str t))]) := by
  refine W.freeze 1 9 (cs := arr.map fun t => .d (.str t)) (ds := arr.map fun t => .str t) rfl (cells_strs arr) (by kernel_rfl) ?_
  refine W.retd 2 (.d (aT arr)) ?_ (finD (junk := [.dead]) (.inr rfl) rfl rfl ⟨rfl, rfl⟩)
  rw [get_frzFr, h2]
  refine .of_eq ?_
  have hb : Nat.ble (0 + n) (arr.map fun t => AV.str t).length = true := by simp [hn]
  simp only [frzV, hb, Nat.beq_refl]
  simp [rows1, aT, rT, hn, sT, Function.comp_def]
  subst hn
  exact List.take_of_length_le (by simp)
theorem fields_spec (s : Txt) (l : List Txt) (hl : fieldsF s = some l) : Ret Tryz.prog 148 [.d (.str s)] (aT l) := by
  unfold fieldsF at hl
  split at hl
  case h_2 => cases hl
  rename_i n0 bits0 hcount
  split at hl
  case isFalse => cases hl
  rename_i hcond
  obtain ⟨hn0, hn1, hb0⟩ := hcond
  have hroomB : roomB = 140737488355328 := rfl; refine ac_of ok148 rfl rfl ?_
  repeat' first | (with_reducible refine W.seq ?_) | ((with_reducible refine W.region ?_); conv => whnf) | (with_reducible refine W.block ?_)
  refine W.loop (σ := Nat × Int × Int × Int) (fun ⟨i, n, was, bits⟩ => [(0, .d (.str s)), (2, .nil 9), (3, .d (.int .i64 n)), (4, .d (.int .i64 was)), (5, .d (.int .u8 bits)), (6, .d (.int .i64 i))]) (fun _ => gl)
    (fun ⟨i, n, was, bits⟩ => i ≤ s.length ∧ ∃ f, fcount s f i n was bits = some (n0, bits0)) (fun ⟨i, _⟩ => s.length - i) (0, 0, 1, 0) ⟨Nat.zero_le _, _, hcount⟩ ⟨.same _, .same _, .same _, .same _, .same _, .same _, trivial⟩ rfl ?_
  rintro ⟨i, n, was, bits⟩ ⟨hi, f, hf⟩
  have hfx : ¬ i < s.length → n = n0 ∧ bits = bits0 := by
    intro hlt
    cases f with
    | zero => cases hf
    | succ f => simp only [fcount, if_neg hlt] at hf; injection hf with hf; injection hf with h1 h2; exact ⟨h1, h2⟩
  repeat' first | (with_reducible refine W.seq ?_) | ((with_reducible refine W.region ?_); conv => whnf) | ((with_reducible refine W.cond ?_); conv => whnf) | (with_reducible refine W.block ?_) | ((with_reducible refine W.skip ?_); conv => whnf) | ((with_reducible refine W.exit ?_); conv => whnf) | ((refine condM_intro (fun hc => ?_) (fun hc => ?_)) <;> (try simp only [decide_eq_true_eq, decide_eq_false_iff_not, beq_iff_eq, bne_iff_ne, beq_eq_false_iff_ne, bne_eq_false_iff_eq, ne_eq, Bool.not_eq_true', Bool.not_eq_false'] at hc) <;> (first | (exfalso; omega) | (conv => whnf))) | (intro row hrow; (first | (obtain rfl := spaceCells_at hrow) | (obtain ⟨x, hx, rfl⟩ := rE_at hrow) | (obtain ⟨x, hx, rfl⟩ := map_at hrow) | (obtain ⟨x, hx, rfl⟩ := rS_at hrow) | (obtain ⟨x, hx, rfl⟩ := rR_at hrow)); conv => whnf) | (intro hlen; simp only [rT_len, rE_len, rF_len, rC_len, rV_len, rP_len, rS_len, rR_len, rTT_len, rW_len] at hlen ⊢; conv => whnf) | ((refine And.intro rfl ?_); conv => whnf) | ((refine And.intro ?_ ?_); (focus (first | omega | (simp only [rT_len, rE_len, rF_len, rC_len, rV_len, rP_len, rS_len, rR_len, rTT_len, rW_len, List.length_map, List.length_replicate] at *; omega) | exact (byteAt_lt _ _).1 | exact (byteAt_lt _ _).2 | (simp [ebStr, ebTxts, ebU8, ebExpr, ebStmt, ebVar, ebParam, ebField, ebRec, ebRoutine, ebPair, roomB]; done))); conv => whnf)
  · cases f with
    | zero => cases hf
    | succ f =>
      have hlt : i < s.length := by omega
      simp only [fcount, if_pos hlt] at hf
      refine ⟨(i + 1, _, _, _), ⟨hlt, f, hf⟩, by simp only; omega, ?_, rfl⟩
      (repeat' (first | exact trivial | exact SlotLe.same _ | exact SlotLe.own _ _ _ | exact SlotLe.nil _ | exact SlotLe.any _ | (apply And.intro) | (refine SlotLe.of_eq ?_; rw [wr (by omega) (by omega)]; rfl) | (refine SlotLe.of_eq ?_; rw [wr (by omega) (by omega)]; congr 2; omega)))
  obtain ⟨e1, e2⟩ := hfx (by omega)
  subst e1
  subst e2
  have hj0 := fskip_le s s.length 0 (Nat.zero_le _)
  generalize hjd : fskip s s.length 0 = j0 at hl hj0
  simp only at hl
  refine W.cutB (σ := Unit) (fun _ => [(0, .d (.str s)), (2, .nil 9), (9, .ms 9 1 0 n.toNat), (10, .d (.int .i64 0)), (12, .d (.int .i64 j0))]) (fun _ => gl ++ [.var 9 (List.replicate n.toNat (.d (.str [])))]) (fun _ => True) ?_ ?_
  · refine W.loop (σ := Nat) (fun k => [(0, .d (.str s)), (2, .nil 9), (9, .ms 9 1 0 n.toNat), (10, .d (.int .i64 0)), (12, .d (.int .i64 k))]) (fun _ => gl ++ [.var 9 (List.replicate n.toNat (.d (.str [])))])
      (fun k => k ≤ s.length ∧ fskip s s.length k = j0) (fun k => s.length - k) 0 ⟨Nat.zero_le _, hjd⟩ ⟨.same _, .same _, .same _, .same _, .same _, trivial⟩ rfl ?_
    rintro k ⟨hk, hks⟩
    rw [spc_step (by omega)] at hks
    repeat' first | (with_reducible refine W.seq ?_) | ((with_reducible refine W.region ?_); conv => whnf) | ((with_reducible refine W.cond ?_); conv => whnf) | (with_reducible refine W.block ?_) | ((with_reducible refine W.skip ?_); conv => whnf) | ((with_reducible refine W.exit ?_); conv => whnf) | ((refine condM_intro (fun hc => ?_) (fun hc => ?_)) <;> (try simp only [decide_eq_true_eq, decide_eq_false_iff_not, beq_iff_eq, bne_iff_ne, beq_eq_false_iff_ne, bne_eq_false_iff_eq, ne_eq, Bool.not_eq_true', Bool.not_eq_false'] at hc) <;> (first | (exfalso; omega) | (conv => whnf))) | (intro row hrow; (first | (obtain rfl := spaceCells_at hrow) | (obtain ⟨x, hx, rfl⟩ := rE_at hrow) | (obtain ⟨x, hx, rfl⟩ := map_at hrow) | (obtain ⟨x, hx, rfl⟩ := rS_at hrow) | (obtain ⟨x, hx, rfl⟩ := rR_at hrow)); conv => whnf) | (intro _; conv => whnf) | ((refine And.intro rfl ?_); conv => whnf) | ((refine And.intro ?_ ?_); (focus (first | omega | (simp only [rT_len, rE_len, rF_len, rC_len, rV_len, rP_len, rS_len, rR_len, rTT_len, rW_len, List.length_map, List.length_replicate] at *; omega) | exact (byteAt_lt _ _).1 | exact (byteAt_lt _ _).2 | (simp [ebStr, ebTxts, ebU8, ebExpr, ebStmt, ebVar, ebParam, ebField, ebRec, ebRoutine, ebPair, roomB]; done))); conv => whnf)
    · have hsp : spc s k = true := by
        unfold spc
        by_cases h : spaceAt (byteAt s k).toNat = true
        · exact h
        · simp [h] at hc
      rw [if_pos ⟨by omega, hsp⟩] at hks
      refine ⟨k + 1, ⟨by omega, ?_⟩, by omega, ?_, rfl⟩
      · rw [← hks]; exact fskip_fuel (by omega) (by omega)
      · (repeat' (first | exact trivial | exact SlotLe.same _ | exact SlotLe.own _ _ _ | exact SlotLe.nil _ | exact SlotLe.any _ | (apply And.intro) | (refine SlotLe.of_eq ?_; rw [wr (by omega) (by omega)]; rfl) | (refine SlotLe.of_eq ?_; rw [wr (by omega) (by omega)]; congr 2; omega)))
    · have hsp : ¬ spc s k = true := by
        unfold spc
        intro h
        simp [h] at hc
      rw [if_neg (fun h => hsp h.2)] at hks
      subst hks
      exact ⟨(), trivial, ⟨.same _, .same _, .same _, .same _, .same _, trivial⟩, rfl⟩
    · rw [if_neg (by omega)] at hks
      subst hks
      exact ⟨(), trivial, ⟨.same _, .same _, .same _, .same _, .same _, trivial⟩, rfl⟩
  rintro _ _
  repeat' first | (with_reducible refine W.seq ?_) | ((with_reducible refine W.region ?_); conv => whnf) | (with_reducible refine W.block ?_)
  refine W.cutB (σ := Nat × Nat × List Txt) (fun ⟨na, fs, arr⟩ => [(0, .d (.str s)), (2, .nil 9), (9, .ms 9 1 0 n.toNat), (10, .d (.int .i64 na)), (11, .d (.int .i64 fs)), (12, .d (.int .i64 s.length))]) (fun ⟨na, fs, arr⟩ => gl ++ [.var 9 (arr.map fun t => .d (.str t))])
    (fun ⟨na, fs, arr⟩ => fs ≤ s.length ∧ arr.length = n.toNat ∧ (if fs < s.length then if na < arr.length then some (arr.set na (s.drop fs)) else none else some arr) = some l) ?_ ?_
  · refine W.loop (σ := Nat × Nat × Nat × List Txt) (fun ⟨na, fs, i, arr⟩ => [(0, .d (.str s)), (2, .nil 9), (9, .ms 9 1 0 n.toNat), (10, .d (.int .i64 na)), (11, .d (.int .i64 fs)), (12, .d (.int .i64 i))]) (fun ⟨na, fs, i, arr⟩ => gl ++ [.var 9 (arr.map fun t => .d (.str t))])
      (fun ⟨na, fs, i, arr⟩ => i ≤ s.length ∧ fs ≤ i ∧ arr.length = n.toNat ∧ ∃ f, ffill s f na fs i arr = some l) (fun ⟨na, fs, i, arr⟩ => s.length - i) (0, j0, j0, List.replicate n.toNat []) ⟨hj0, Nat.le_refl _, by simp, _, hl⟩ ⟨.same _, .same _, .same _, .same _, .same _, .same _, trivial⟩ (by simp) ?_
    rintro ⟨na, fs, i, arr⟩ ⟨hi, hfi, harr, f, hf⟩
    cases f with
    | zero => cases hf
    | succ f =>
    simp only [ffill] at hf
    have hna : i < s.length → ¬ ((if spaceAt (byteAt s (↑i : Int).toNat).toNat = true then (1 : Int) else 0) = 0) → na < arr.length := by
      intro h1 h2
      have hsp : spc s i = true := by
        unfold spc
        by_cases h : spaceAt (byteAt s i).toNat = true
        · exact h
        · simp [h] at h2
      rw [if_pos h1, if_neg (by simp [hsp])] at hf
      split at hf
      · assumption
      · cases hf
    repeat' first | (with_reducible refine W.seq ?_) | ((with_reducible refine W.region ?_); conv => whnf) | ((with_reducible refine W.cond ?_); conv => whnf) | (with_reducible refine W.block ?_) | ((with_reducible refine W.skip ?_); conv => whnf) | ((with_reducible refine W.exit ?_); conv => whnf) | ((refine condM_intro (fun hc => ?_) (fun hc => ?_)) <;> (try simp only [decide_eq_true_eq, decide_eq_false_iff_not, beq_iff_eq, bne_iff_ne, beq_eq_false_iff_ne, bne_eq_false_iff_eq, ne_eq, Bool.not_eq_true', Bool.not_eq_false'] at hc) <;> (first | (exfalso; omega) | (conv => whnf))) | (intro row hrow; (first | (obtain rfl := spaceCells_at hrow) | (obtain ⟨x, hx, rfl⟩ := rE_at hrow) | (obtain ⟨x, hx, rfl⟩ := map_at hrow) | (obtain ⟨x, hx, rfl⟩ := rS_at hrow) | (obtain ⟨x, hx, rfl⟩ := rR_at hrow)); conv => whnf) | (intro hlen; simp only [rT_len, rE_len, rF_len, rC_len, rV_len, rP_len, rS_len, rR_len, rTT_len, rW_len] at hlen ⊢; conv => whnf) | ((refine And.intro rfl ?_); conv => whnf) | ((refine And.intro ?_ ?_); (focus (first | omega | (simp only [rT_len, rE_len, rF_len, rC_len, rV_len, rP_len, rS_len, rR_len, rTT_len, rW_len, List.length_map, List.length_replicate] at *; omega) | exact (byteAt_lt _ _).1 | exact (byteAt_lt _ _).2 | (simp [ebStr, ebTxts, ebU8, ebExpr, ebStmt, ebVar, ebParam, ebField, ebRec, ebRoutine, ebPair, roomB]; done))); conv => whnf)
    · have hlt : i < s.length := by omega
      have hsp : spc s i = false := by
        unfold spc
        by_cases h : spaceAt (byteAt s i).toNat = true
        · simp [h] at hc
        · simpa using h
      rw [if_pos hlt, if_pos hsp] at hf
      refine ⟨(na, fs, i + 1, arr), ⟨hlt, by simp only; omega, harr, f, hf⟩, by simp only; omega, ?_, rfl⟩
      (repeat' (first | exact trivial | exact SlotLe.same _ | exact SlotLe.own _ _ _ | exact SlotLe.nil _ | exact SlotLe.any _ | (apply And.intro) | (refine SlotLe.of_eq ?_; rw [wr (by omega) (by omega)]; rfl) | (refine SlotLe.of_eq ?_; rw [wr (by omega) (by omega)]; congr 2; omega)))
    · have hlt : i < s.length := by omega
      have hn1 : na < arr.length := hna hlt hc
      have hsp : ¬ spc s i = false := by
        unfold spc
        intro h
        simp [h] at hc
      rw [if_pos hlt, if_neg hsp, if_pos hn1] at hf
      have hj1 := fskip_le s s.length (i + 1) hlt
      have hj2 := fskip_ge s s.length (i + 1)
      generalize hjd2 : fskip s s.length (i + 1) = j1 at hf hj1 hj2
      have hset : (gl ++ [AObj.var 9 (List.map (fun t => FV.d (AV.str t)) arr)]).set 1 (AObj.var 9 ((List.map (fun t => FV.d (AV.str t)) arr).set (0 + (↑na : Int).toNat * 1) (FV.d (AV.str (List.drop (↑fs : Int).toNat (List.take (↑i : Int).toNat s)))))) =
          gl ++ [AObj.var 9 (List.map (fun t => FV.d (AV.str t)) (arr.set na ((s.take i).drop fs)))] := by
        simp [List.map_set]
      refine W.cutB (σ := Unit) (fun _ => [(0, .d (.str s)), (2, .nil 9), (9, .ms 9 1 0 n.toNat), (10, .d (.int .i64 (na + 1 : Nat))), (12, .d (.int .i64 j1))]) (fun _ => gl ++ [.var 9 ((arr.set na ((s.take i).drop fs)).map fun t => .d (.str t))]) (fun _ => True) ?_ ?_
      · refine W.loop (σ := Nat) (fun k => [(0, .d (.str s)), (2, .nil 9), (9, .ms 9 1 0 n.toNat), (10, .d (.int .i64 (na + 1 : Nat))), (12, .d (.int .i64 k))]) (fun _ => gl ++ [.var 9 ((arr.set na ((s.take i).drop fs)).map fun t => .d (.str t))])
          (fun k => k ≤ s.length ∧ fskip s s.length k = j1) (fun k => s.length - k) (i + 1) ⟨by omega, hjd2⟩ ?_ hset ?_
        · have e1 : IntKind.i64.wrap (↑na + 1) = ((na + 1 : Nat) : Int) := wr (by omega) (by omega)
          have e2 : IntKind.i64.wrap (↑i + 1) = ((i + 1 : Nat) : Int) := wr (by omega) (by omega)
          exact ⟨.same _, .same _, .same _, .of_eq (by rw [← e1]; rfl), .of_eq (by rw [← e2]; rfl), trivial⟩
        rintro k ⟨hk, hks⟩
        rw [spc_step (by omega)] at hks
        repeat' first | (with_reducible refine W.seq ?_) | ((with_reducible refine W.region ?_); conv => whnf) | ((with_reducible refine W.cond ?_); conv => whnf) | (with_reducible refine W.block ?_) | ((with_reducible refine W.skip ?_); conv => whnf) | ((with_reducible refine W.exit ?_); conv => whnf) | ((refine condM_intro (fun hc => ?_) (fun hc => ?_)) <;> (try simp only [decide_eq_true_eq, decide_eq_false_iff_not, beq_iff_eq, bne_iff_ne, beq_eq_false_iff_ne, bne_eq_false_iff_eq, ne_eq, Bool.not_eq_true', Bool.not_eq_false'] at hc) <;> (first | (exfalso; omega) | (conv => whnf))) | (intro row hrow; (first | (obtain rfl := spaceCells_at hrow) | (obtain ⟨x, hx, rfl⟩ := rE_at hrow) | (obtain ⟨x, hx, rfl⟩ := map_at hrow) | (obtain ⟨x, hx, rfl⟩ := rS_at hrow) | (obtain ⟨x, hx, rfl⟩ := rR_at hrow)); conv => whnf) | (intro _; conv => whnf) | ((refine And.intro rfl ?_); conv => whnf) | ((refine And.intro ?_ ?_); (focus (first | omega | (simp only [rT_len, rE_len, rF_len, rC_len, rV_len, rP_len, rS_len, rR_len, rTT_len, rW_len, List.length_map, List.length_replicate] at *; omega) | exact (byteAt_lt _ _).1 | exact (byteAt_lt _ _).2 | (simp [ebStr, ebTxts, ebU8, ebExpr, ebStmt, ebVar, ebParam, ebField, ebRec, ebRoutine, ebPair, roomB]; done))); conv => whnf)
        · have hsp : spc s k = true := by
            unfold spc
            by_cases h : spaceAt (byteAt s k).toNat = true
            · exact h
            · simp [h] at hc
          rw [if_pos ⟨by omega, hsp⟩] at hks
          refine ⟨k + 1, ⟨by omega, ?_⟩, by omega, ?_, rfl⟩
          · rw [← hks]; exact fskip_fuel (by omega) (by omega)
          · (repeat' (first | exact trivial | exact SlotLe.same _ | exact SlotLe.own _ _ _ | exact SlotLe.nil _ | exact SlotLe.any _ | (apply And.intro) | (refine SlotLe.of_eq ?_; rw [wr (by omega) (by omega)]; rfl) | (refine SlotLe.of_eq ?_; rw [wr (by omega) (by omega)]; congr 2; omega)))
        · have hsp : ¬ spc s k = true := by
            unfold spc
            intro h
            simp [h] at hc
          rw [if_neg (fun h => hsp h.2)] at hks
          subst hks
          exact ⟨(), trivial, ⟨.same _, .same _, .same _, .same _, .same _, trivial⟩, rfl⟩
        · rw [if_neg (by omega)] at hks
          subst hks
          exact ⟨(), trivial, ⟨.same _, .same _, .same _, .same _, .same _, trivial⟩, rfl⟩
      rintro _ _
      repeat' first | ((with_reducible refine W.region ?_); conv => whnf)
      refine ⟨(na + 1, j1, j1, arr.set na ((s.take i).drop fs)), ⟨hj1, Nat.le_refl _, by simpa using harr, f, hf⟩, by simp only; omega, ?_, rfl⟩
      exact ⟨.same _, .same _, .same _, .same _, .same _, .same _, trivial⟩
    · have hlt : ¬ i < s.length := by omega
      rw [if_neg hlt] at hf
      have : i = s.length := by omega
      subst this
      exact ⟨(na, fs, arr), ⟨hfi, harr, hf⟩, ⟨.same _, .same _, .same _, .same _, .same _, .same _, trivial⟩, rfl⟩
  rintro ⟨na, fs, arr⟩ ⟨hfs, harr, hfin⟩
  have hna : fs < s.length → na < arr.length := by
    intro h1
    rw [if_pos h1] at hfin
    split at hfin
    · assumption
    · cases hfin
  repeat' first | (with_reducible refine W.seq ?_) | ((with_reducible refine W.region ?_); conv => whnf) | ((with_reducible refine W.cond ?_); conv => whnf) | ((with_reducible refine W.skip ?_); conv => whnf) | ((refine condM_intro (fun hc => ?_) (fun hc => ?_)) <;> (try simp only [decide_eq_true_eq, decide_eq_false_iff_not, beq_iff_eq, bne_iff_ne, beq_eq_false_iff_ne, bne_eq_false_iff_eq, ne_eq, Bool.not_eq_true', Bool.not_eq_false'] at hc) <;> (first | (exfalso; omega) | (conv => whnf))) | (intro hlen; simp only [rT_len, rE_len, rF_len, rC_len, rV_len, rP_len, rS_len, rR_len, rTT_len, rW_len] at hlen ⊢; conv => whnf) | ((refine And.intro rfl ?_); conv => whnf) | ((refine And.intro ?_ ?_); (focus (first | omega | (simp only [rT_len, rE_len, rF_len, rC_len, rV_len, rP_len, rS_len, rR_len, rTT_len, rW_len, List.length_map, List.length_replicate] at *; omega) | exact (byteAt_lt _ _).1 | exact (byteAt_lt _ _).2 | (simp [ebStr, ebTxts, ebU8, ebExpr, ebStmt, ebVar, ebParam, ebField, ebRec, ebRoutine, ebPair, roomB]; done))); conv => whnf)
  · rw [if_pos (by omega), if_pos (hna (by omega))] at hfin
    injection hfin with hfin
    subst hfin
    have hset : (gl ++ [AObj.var 9 (List.map (fun t => FV.d (AV.str t)) arr)]).set 1 (AObj.var 9 ((List.map (fun t => FV.d (AV.str t)) arr).set (0 + (↑na : Int).toNat * 1) (FV.d (AV.str (List.drop (↑fs : Int).toNat (List.take (↑(List.length s) : Int).toNat s)))))) =
        gl ++ [AObj.var 9 (List.map (fun t => FV.d (AV.str t)) (arr.set na (s.drop fs)))] := by
      simp [List.map_set]
    rw [hset]
    exact ret_ms rfl (by simpa using harr)
  · rw [if_neg (by omega)] at hfin
    injection hfin with hfin
    subst hfin
    exact ret_ms rfl harr
theorem fields_pas : fieldsF pasText = some pasWords := by kernel_rfl
theorem fields_cee : fieldsF ceeText = some ceeWords := by kernel_rfl
theorem all_spec (d : Int) : Ret Tryz.prog 115 [.d (.int .i64 d)] (aT (wordsF d)) := by
  have hroomB : roomB = 140737488355328 := rfl; refine ac_of ok115 rfl rfl ?_
  repeat' first | (with_reducible refine W.seq ?_) | ((with_reducible refine W.region ?_); conv => whnf) | ((with_reducible refine W.cond ?_); conv => whnf) | (with_reducible refine W.block ?_) | ((with_reducible refine W.skip ?_); conv => whnf) | ((refine AC.use (fields_spec pasText _ fields_pas) ?_ rfl ?_); (focus (simp only [allL, FV.all, and_self]; done)); conv => whnf) | ((refine AC.use (fields_spec ceeText _ fields_cee) ?_ rfl ?_); (focus (simp only [allL, FV.all, and_self]; done)); conv => whnf) | ((refine W.retd 2 _ (.nil _) ?_); conv => whnf) | ((with_reducible refine W.ret ?_); conv => whnf) | (refine finD (.inr rfl) rfl rfl ⟨?_, rfl⟩) | ((refine condM_intro (fun hc => ?_) (fun hc => ?_)) <;> (try simp only [decide_eq_true_eq, decide_eq_false_iff_not, beq_iff_eq, bne_iff_ne, beq_eq_false_iff_ne, bne_eq_false_iff_eq, ne_eq, Bool.not_eq_true', Bool.not_eq_false'] at hc) <;> (first | (exfalso; omega) | (conv => whnf)))
  · subst hc; rfl
  · subst hc; rfl
  · simp_all [wordsF, aT, rT]
theorem cmpNaN_spec (s : Txt) : Ret Tryz.prog 154 [.d (.str s)] (.bool false) := by
  have hroomB : roomB = 140737488355328 := rfl; refine ac_of ok154 rfl rfl ?_
  repeat' first | (with_reducible refine W.seq ?_) | ((with_reducible refine W.region ?_); conv => whnf) | ((with_reducible refine W.ret ?_); conv => whnf) | (refine finD (.inr rfl) rfl rfl ⟨?_, rfl⟩)
  all_goals simp_all
theorem slNaN_spec (s : Txt) : Ret Tryz.prog 147 [.d (.str s)] (.bool false) := by
  have hroomB : roomB = 140737488355328 := rfl; refine ac_of ok147 rfl rfl ?_
  repeat' first | (with_reducible refine W.seq ?_) | ((with_reducible refine W.region ?_); conv => whnf) | ((with_reducible refine W.ret ?_); conv => whnf) | (refine finD (.inr rfl) rfl rfl ⟨?_, rfl⟩)
  all_goals simp_all
theorem less_spec (s t : Txt) : Ret Tryz.prog 146 [.d (.str s), .d (.str t)] (.bool (Op.bytesLess s t)) := by
  have hroomB : roomB = 140737488355328 := rfl; refine ac_of ok146 rfl rfl ?_
  repeat' first | (with_reducible refine W.seq ?_) | ((with_reducible refine W.region ?_); conv => whnf) | ((refine AC.use (cmpNaN_spec _) ?_ rfl ?_); (focus (simp only [allL, FV.all, and_self]; done)); conv => whnf) | ((with_reducible refine W.ret ?_); conv => whnf) | (refine finD (.inr rfl) rfl rfl ⟨?_, rfl⟩) | (with_reducible rfl)
/-- Each is less than all behind it. -/
def sortedB : List Txt → Bool
  | [] => true
  | x :: l => l.all (fun y => Op.bytesLess x y) && sortedB l
theorem sortedB_at : ∀ {l : List Txt} {i k : Nat} {x y : Txt}, sortedB l = true → l[i]? = some x → l[k]? = some y → i < k → Op.bytesLess x y = true
  | [], i, k, x, y, _, h, _, _ => by simp at h
  | a :: l, 0, k + 1, x, y, hs, h1, h2, _ => by
    simp [sortedB] at hs
    simp at h1 h2
    subst h1
    exact hs.1 y (List.mem_of_getElem? h2)
  | a :: l, i + 1, k + 1, x, y, hs, h1, h2, hik => by
    simp [sortedB] at hs
    simp at h1 h2
    exact sortedB_at hs.2 h1 h2 (by omega)
theorem bytesLess_irrefl : ∀ s : Txt, Op.bytesLess s s = false
  | [] => rfl
  | a :: s => by simp [Op.bytesLess, bytesLess_irrefl s]
theorem bytesLess_asymm : ∀ s t : Txt, Op.bytesLess s t = true → Op.bytesLess t s = false
  | [], [], h => by simp [Op.bytesLess] at h
  | [], _ :: _, _ => by simp [Op.bytesLess]
  | _ :: _, [], h => by simp [Op.bytesLess] at h
  | a :: s, b :: t, h => by
    simp [Op.bytesLess] at h ⊢
    rcases h with h | ⟨rfl, h⟩
    · refine ⟨UInt8.le_of_lt h, fun e => ?_⟩
      subst e; exact absurd h (UInt8.lt_irrefl _)
    · exact ⟨UInt8.le_refl _, fun _ => bytesLess_asymm s t h⟩
theorem bytesLess_trans : ∀ {s t u : Txt}, Op.bytesLess s t = true → Op.bytesLess t u = true → Op.bytesLess s u = true
  | _, [], _, h, _ => by cases ‹Txt› <;> simp [Op.bytesLess] at h
  | _, _ :: _, [], _, h => by simp [Op.bytesLess] at h
  | [], _ :: _, _ :: _, _, _ => by simp [Op.bytesLess]
  | a :: s, b :: t, c :: u, h, k => by
    simp [Op.bytesLess] at h k ⊢
    rcases h with h | ⟨rfl, h⟩
    · rcases k with k | ⟨rfl, k⟩
      · exact .inl (UInt8.lt_trans h k)
      · exact .inl h
    · rcases k with k | ⟨rfl, k⟩
      · exact .inl k
      · exact .inr ⟨rfl, bytesLess_trans h k⟩
theorem u64wrap {n : Int} (h1 : 0 ≤ n) (h2 : n ≤ 9223372036854775807) : IntKind.u64.wrap n = n := by
  unfold IntKind.wrap
  simp [IntKind.bits, IntKind.signed]
  omega
theorem bsearch_spec (l : List Txt) (t : Txt) (hs : sortedB l = true) : AC Tryz.prog 114 [.d (aT l), .d (.str t)] gl fun r g => (∃ k : Int, r = .tup [.d (.int .i64 k), .d (.bool (l.contains t))]) ∧ g = gl := by
  have hroomB : roomB = 140737488355328 := rfl; refine ac_of ok114 rfl rfl ?_
  repeat' first | (with_reducible refine W.seq ?_) | ((with_reducible refine W.region ?_); conv => whnf) | (with_reducible refine W.block ?_) | (intro hlen; simp only [rT_len, rE_len, rF_len, rC_len, rV_len, rP_len, rS_len, rR_len, rTT_len, rW_len] at hlen ⊢; conv => whnf) | ((refine And.intro rfl ?_); conv => whnf)
  refine W.loop (σ := Nat × Nat) (fun ⟨i, j⟩ => [(0, .d (aT l)), (1, .d (.str t)), (6, .d (.int .i64 l.length)), (7, .d (.int .i64 i)), (8, .d (.int .i64 j))]) (fun _ => gl)
    (fun ⟨i, j⟩ => i ≤ j ∧ j ≤ l.length ∧ (∀ k x, k < i → l[k]? = some x → Op.bytesLess x t = true) ∧ ∀ k x, j ≤ k → l[k]? = some x → Op.bytesLess x t = false) (fun ⟨i, j⟩ => j - i) (0, l.length)
    ⟨Nat.zero_le _, Nat.le_refl _, fun k x h => by omega, fun k x h1 h2 => by rw [List.getElem?_eq_none (by omega)] at h2; cases h2⟩ ⟨.same _, .same _, .same _, .same _, .same _, trivial⟩ rfl ?_
  rintro ⟨i, j⟩ ⟨hij, hj, hlo, hhi⟩
  have hmid : IntKind.i64.wrap (IntKind.u64.wrap (IntKind.i64.wrap (↑i + ↑j)) / 2 ^ (1 : Int).toNat) = (((i + j) / 2 : Nat) : Int) := by
    have a1 : IntKind.i64.wrap (↑i + ↑j) = ↑i + ↑j := wr (by omega) (by omega)
    have a2 : IntKind.u64.wrap (↑i + ↑j) = ↑i + ↑j := u64wrap (by omega) (by omega)
    have e : (2 : Int) ^ (1 : Int).toNat = 2 := rfl
    have a3 : IntKind.i64.wrap ((↑i + ↑j) / 2) = (↑i + ↑j) / 2 := wr (by omega) (by omega)
    rw [a1, a2, e, a3]
    omega
  dsimp only
  repeat' first | (with_reducible refine W.seq ?_) | ((with_reducible refine W.region ?_); conv => whnf) | ((with_reducible refine W.cond ?_); conv => whnf) | (with_reducible refine W.block ?_) | ((with_reducible refine W.skip ?_); conv => whnf) | ((with_reducible refine W.exit ?_); conv => whnf) | ((refine AC.use (less_spec _ _) ?_ rfl ?_); (focus (simp only [allL, FV.all, and_self]; done)); conv => whnf) | ((refine AC.use (slNaN_spec _) ?_ rfl ?_); (focus (simp only [allL, FV.all, and_self]; done)); conv => whnf) | ((with_reducible refine W.ret ?_); conv => whnf) | ((refine finDR (.inr rfl) rfl rfl ?_ ⟨?_, rfl⟩); (focus ((simp [OkIn, Fr.get]); done))) | ((refine condM_intro (fun hc => ?_) (fun hc => ?_)) <;> (try simp only [decide_eq_true_eq, decide_eq_false_iff_not, beq_iff_eq, bne_iff_ne, beq_eq_false_iff_ne, bne_eq_false_iff_eq, ne_eq, Bool.not_eq_true', Bool.not_eq_false'] at hc) <;> (first | (exfalso; omega) | (conv => whnf))) | ((refine fun row hrow => ?_); revert row; (apply row_same); (focus assumption); conv => whnf) | (intro row hrow; (first | (obtain rfl := spaceCells_at hrow) | (obtain ⟨x, hx, rfl⟩ := rE_at hrow) | (obtain ⟨x, hx, rfl⟩ := map_at hrow) | (obtain ⟨x, hx, rfl⟩ := rS_at hrow) | (obtain ⟨x, hx, rfl⟩ := rR_at hrow)); conv => whnf) | ((refine And.intro rfl ?_); conv => whnf) | ((refine And.intro ?_ ?_); (focus (first | omega | (simp only [rT_len, rE_len, rF_len, rC_len, rV_len, rP_len, rS_len, rR_len, rTT_len, rW_len, List.length_map, List.length_replicate] at *; omega) | exact (byteAt_lt _ _).1 | exact (byteAt_lt _ _).2 | (simp [ebStr, ebTxts, ebU8, ebExpr, ebStmt, ebVar, ebParam, ebField, ebRec, ebRoutine, ebPair, roomB]; done))); conv => whnf)
  · rw [hmid] at hx hrow
    simp only [Int.toNat_natCast] at hx
    refine ⟨((i + j) / 2 + 1, j), ⟨by omega, hj, fun k y hk hy => ?_, hhi⟩, by simp only; omega, ?_, rfl⟩
    · rcases Nat.lt_or_ge k ((i + j) / 2) with h | h
      · exact bytesLess_trans (sortedB_at hs hy hx h) hc
      · have : k = (i + j) / 2 := by omega
        subst this
        rw [hx] at hy; injection hy with hy; subst hy; exact hc
    · refine ⟨.same _, .same _, .same _, .of_eq ?_, .same _, trivial⟩
      have e1 : IntKind.i64.wrap ((((i + j) / 2 : Nat) : Int) + 1) = (((i + j) / 2 + 1 : Nat) : Int) := wr (by omega) (by omega)
      show FV.d (AV.int IntKind.i64 (IntKind.i64.wrap (_ + 1))) = _
      rw [hmid, e1]
  · rw [hmid] at hx hrow
    simp only [Int.toNat_natCast] at hx
    refine ⟨(i, (i + j) / 2), ⟨by omega, by omega, hlo, fun k y hk hy => ?_⟩, by simp only; omega, ?_, rfl⟩
    · rcases Nat.lt_or_ge ((i + j) / 2) k with h | h
      · cases hb : Op.bytesLess y t with
        | false => rfl
        | true => rw [bytesLess_trans (sortedB_at hs hx hy h) hb] at hc; cases hc
      · have : k = (i + j) / 2 := by omega
        subst this
        rw [hx] at hy; injection hy with hy; subst hy; exact hc
    · refine ⟨.same _, .same _, .same _, .same _, .of_eq ?_, trivial⟩
      show FV.d (AV.int IntKind.i64 _) = _
      rw [hmid]
  · have hin : l.contains t = true := by
      simp only [Int.toNat_natCast] at hx
      subst hc
      simpa using List.mem_of_getElem? hx
    exact ⟨i, by rw [hin]; rfl⟩
  · have hout : l.contains t = false := by
      simp only [List.contains_eq_mem, decide_eq_false_iff_not]
      intro hmem
      obtain ⟨k, hk⟩ := List.getElem?_of_mem hmem
      have hx0 := hx
      simp only [Int.toNat_natCast] at hx0
      rcases Nat.lt_trichotomy k i with h | h | h
      · have := hlo k t h hk; rw [bytesLess_irrefl] at this; cases this
      · subst h; rw [hk] at hx0; injection hx0 with hx0; exact absurd hx0.symm ‹_›
      · have h1 := hhi i x (by omega) hx0
        rw [sortedB_at hs hx0 hk h] at h1; cases h1
    exact ⟨i, by rw [hout]; rfl⟩
  · have hout : l.contains t = false := by
      simp only [List.contains_eq_mem, decide_eq_false_iff_not]
      intro hmem
      obtain ⟨k, hk⟩ := List.getElem?_of_mem hmem
      have := hlo k t (by have := lt_of_get? hk; omega) hk
      rw [bytesLess_irrefl] at this; cases this
    exact ⟨i, by rw [hout]; rfl⟩
theorem AC.useGl {P : Program} {f : FuncId} {args : List FV} {hp : AHeap} {R : FV → Prop} {Q : FV → AHeap → Prop} (h : AC P f args gl fun r g => R r ∧ g = gl) (inA : allL (fun _ => False) args) (h0 : hp[0]? = some glo)
    (hq : ∀ r, R r → Q (r.ren (renTo hp.length [0])) hp) : AC P f args hp Q :=
  lift_gl h inA h0 fun r g _ hr => by
    obtain ⟨hr, rfl⟩ := hr
    have : mergeH hp [0] gl = hp := by simp [mergeH, putAll, AObj.ren, set_same h0]
    rw [this]
    exact hq r hr
theorem wordsF_sorted (d : Int) : sortedB (wordsF d) = true := by
  unfold wordsF
  split
  · kernel_rfl
  · split
    · kernel_rfl
    · rfl
/-- Is a text a word of the dialect? -/
def isW (d : Int) (s : Txt) : Bool := (wordsF d).contains s
theorem is_spec (d : Int) (s : Txt) : Ret Tryz.prog 66 [.d (.int .i64 d), .d (.str s)] (.bool (isW d s)) := by
  have hroomB : roomB = 140737488355328 := rfl; refine ac_of ok66 rfl rfl ?_
  repeat' first | (with_reducible refine W.seq ?_) | ((with_reducible refine W.region ?_); conv => whnf) | ((refine AC.use (all_spec _) ?_ rfl ?_); (focus (simp only [allL, FV.all, and_self]; done)); conv => whnf)
  refine AC.useGl (bsearch_spec _ _ (wordsF_sorted d)) (by simp [allL, FV.all]) rfl ?_
  rintro r ⟨k, rfl⟩
  conv => whnf
  repeat' first | (with_reducible refine W.seq ?_) | ((with_reducible refine W.region ?_); conv => whnf) | ((with_reducible refine W.ret ?_); conv => whnf) | (refine finD (.inr rfl) rfl rfl ⟨?_, rfl⟩)
  rfl
end Go.Pg
set_option maxRecDepth 100000
set_option linter.all false
namespace Go.Pg
open Go.Proofs
abbrev tBld : TypeId := 163
abbrev tU8 : TypeId := 5
/-- A builder at object l, its bytes at object b. -/
abbrev bldV (l b : Nat) (s : Txt) : AObj := .var tBld [.vp l 0, .own tU8 (s.map byteRow) b]
abbrev bld0 : AObj := .var tBld [.nilp, .nil tU8]
theorem copy_fresh : AC Tryz.prog 149 [.vp 1 0] [glo, bld0] fun r g => r = .tup [] ∧ g = [glo, .var tBld [.vp 1 0, .nil tU8]] := by
  have hroomB : roomB = 140737488355328 := rfl; refine ac_of ok149 rfl rfl ?_
  repeat' first | (with_reducible refine W.seq ?_) | ((with_reducible refine W.region ?_); conv => whnf) | ((with_reducible refine W.cond ?_); conv => whnf) | ((refine And.intro rfl ?_); conv => whnf)
  exact finH [glo, .var tBld [.vp 1 0, .nil tU8]] [] (.inl rfl) rfl rfl (by simp) (by simp [ObjOk, OkIn]) (by simp [OkIn, Fr.get]) ⟨rfl, rfl⟩
theorem copy_used (s : Txt) (n : Nat) : AC Tryz.prog 149 [.vp 1 0] [glo, bldV 1 2 s, .buf tU8 n] fun r g => r = .tup [] ∧ g = [glo, bldV 1 2 s, .buf tU8 n] := by
  have hroomB : roomB = 140737488355328 := rfl; refine ac_of ok149 rfl rfl ?_
  repeat' first | (with_reducible refine W.seq ?_) | ((with_reducible refine W.region ?_); conv => whnf) | ((with_reducible refine W.cond ?_); conv => whnf) | ((with_reducible refine W.skip ?_); conv => whnf) | ((refine finDR (.inl rfl) rfl rfl ?_ ⟨?_, rfl⟩); (focus ((simp [OkIn, Fr.get]); done))) | (with_reducible rfl)
/-- A call whose memory is all its own: no names turned. -/
theorem lift_id {P : Program} {f : FuncId} {args : List FV} {hp : AHeap} {Q0 Q : FV → AHeap → Prop} (h : AC P f args hp Q0) (hq : ∀ r g, Q0 r g → Q r g) : AC P f args hp Q := h.mono hq
theorem ws_fresh (t : Txt) (ht : t.length ≤ roomB) : AC Tryz.prog 117 [.vp 1 0, .d (.str t)] [glo, bld0] fun r g => r = .tup [.d (.int .i64 t.length), .any] ∧ g = [glo, bldV 1 2 t, .buf tU8 t.length] := by
  have hroomB : roomB = 140737488355328 := rfl; refine ac_of ok117 rfl rfl ?_
  repeat' first | (with_reducible refine W.seq ?_) | ((with_reducible refine W.region ?_); conv => whnf)
  refine lift_id copy_fresh ?_
  rintro r g ⟨rfl, rfl⟩
  conv => whnf
  repeat' first | (with_reducible refine W.seq ?_) | ((with_reducible refine W.region ?_); conv => whnf) | ((with_reducible refine W.ret ?_); conv => whnf) | (intro _; conv => whnf) | ((refine And.intro rfl ?_); conv => whnf) | ((refine And.intro ?_ ?_); (focus (first | omega | (simp only [rT_len, rE_len, rF_len, rC_len, rV_len, rP_len, rS_len, rR_len, rTT_len, rW_len, List.length_map, List.length_replicate] at *; omega) | exact (byteAt_lt _ _).1 | exact (byteAt_lt _ _).2 | (simp [ebStr, ebTxts, ebU8, ebExpr, ebStmt, ebVar, ebParam, ebField, ebRec, ebRoutine, ebPair, roomB]; done))); conv => whnf)
  exact finH [glo, bldV 1 2 t, .buf tU8 t.length] [] (.inr rfl) rfl rfl (by simp) (by simp [ObjOk, OkIn]) (by simp [OkIn, Fr.get]) ⟨rfl, rfl⟩
theorem ws_used (s t : Txt) (ht : s.length + t.length ≤ roomB) : AC Tryz.prog 117 [.vp 1 0, .d (.str t)] [glo, bldV 1 2 s, .buf tU8 s.length] fun r g => r = .tup [.d (.int .i64 t.length), .any] ∧ g = [glo, bldV 1 2 (s ++ t), .buf tU8 (s ++ t).length] := by
  have hroomB : roomB = 140737488355328 := rfl; refine ac_of ok117 rfl rfl ?_
  repeat' first | (with_reducible refine W.seq ?_) | ((with_reducible refine W.region ?_); conv => whnf)
  refine lift_id (copy_used _ _) ?_
  rintro r g ⟨rfl, rfl⟩
  conv => whnf
  repeat' first | (with_reducible refine W.seq ?_) | ((with_reducible refine W.region ?_); conv => whnf) | ((with_reducible refine W.ret ?_); conv => whnf) | (intro _; conv => whnf) | ((refine And.intro rfl ?_); conv => whnf) | ((refine And.intro ?_ ?_); (focus (first | omega | (simp only [rT_len, rE_len, rF_len, rC_len, rV_len, rP_len, rS_len, rR_len, rTT_len, rW_len, List.length_map, List.length_replicate] at *; omega) | exact (byteAt_lt _ _).1 | exact (byteAt_lt _ _).2 | (simp [ebStr, ebTxts, ebU8, ebExpr, ebStmt, ebVar, ebParam, ebField, ebRec, ebRoutine, ebPair, roomB]; done))); conv => whnf)
  refine finH [glo, bldV 1 2 (s ++ t), .buf tU8 (s ++ t).length] [] (.inr rfl) ?_ rfl (by simp) (by simp [ObjOk, OkIn]) (by simp [OkIn, Fr.get]) ⟨rfl, rfl⟩
  simp
theorem wb_fresh (c : UInt8) (x : Int) (hx : x = c.toNat) : AC Tryz.prog 120 [.vp 1 0, .d (.int .u8 x)] [glo, bld0] fun r g => r = .any ∧ g = [glo, bldV 1 2 [c], .buf tU8 [c].length] := by
  subst hx
  have hroomB : roomB = 140737488355328 := rfl; refine ac_of ok120 rfl rfl ?_
  repeat' first | (with_reducible refine W.seq ?_) | ((with_reducible refine W.region ?_); conv => whnf)
  refine lift_id copy_fresh ?_
  rintro r g ⟨rfl, rfl⟩
  conv => whnf
  repeat' first | (with_reducible refine W.seq ?_) | ((with_reducible refine W.region ?_); conv => whnf) | ((with_reducible refine W.ret ?_); conv => whnf) | ((refine And.intro rfl ?_); conv => whnf) | ((refine And.intro ?_ ?_); (focus (first | omega | (simp only [rT_len, rE_len, rF_len, rC_len, rV_len, rP_len, rS_len, rR_len, rTT_len, rW_len, List.length_map, List.length_replicate] at *; omega) | exact (byteAt_lt _ _).1 | exact (byteAt_lt _ _).2 | (simp [ebStr, ebTxts, ebU8, ebExpr, ebStmt, ebVar, ebParam, ebField, ebRec, ebRoutine, ebPair, roomB]; done))); conv => whnf)
  exact finH [glo, bldV 1 2 [c], .buf tU8 [c].length] [] (.inr rfl) rfl rfl (by simp) (by simp [ObjOk, OkIn]) (by simp [OkIn, Fr.get]) ⟨rfl, rfl⟩
theorem wb_used (s : Txt) (c : UInt8) (x : Int) (hx : x = c.toNat) (ht : s.length + 1 ≤ roomB) : AC Tryz.prog 120 [.vp 1 0, .d (.int .u8 x)] [glo, bldV 1 2 s, .buf tU8 s.length] fun r g => r = .any ∧ g = [glo, bldV 1 2 (s ++ [c]), .buf tU8 (s ++ [c]).length] := by
  subst hx
  have hroomB : roomB = 140737488355328 := rfl; refine ac_of ok120 rfl rfl ?_
  repeat' first | (with_reducible refine W.seq ?_) | ((with_reducible refine W.region ?_); conv => whnf)
  refine lift_id (copy_used _ _) ?_
  rintro r g ⟨rfl, rfl⟩
  conv => whnf
  repeat' first | (with_reducible refine W.seq ?_) | ((with_reducible refine W.region ?_); conv => whnf) | ((refine And.intro rfl ?_); conv => whnf) | ((refine And.intro ?_ ?_); (focus (first | omega | (simp only [rT_len, rE_len, rF_len, rC_len, rV_len, rP_len, rS_len, rR_len, rTT_len, rW_len, List.length_map, List.length_replicate] at *; omega) | exact (byteAt_lt _ _).1 | exact (byteAt_lt _ _).2 | (simp [ebStr, ebTxts, ebU8, ebExpr, ebStmt, ebVar, ebParam, ebField, ebRec, ebRoutine, ebPair, roomB]; done))); conv => whnf)
  refine And.intro (by simpa using ht) ?_
  conv => whnf
  repeat' first | (with_reducible refine W.seq ?_) | ((with_reducible refine W.region ?_); conv => whnf) | ((with_reducible refine W.ret ?_); conv => whnf)
  refine finH [glo, bldV 1 2 (s ++ [c]), .buf tU8 (s ++ [c]).length] [] (.inr rfl) ?_ rfl (by simp) (by simp [ObjOk, OkIn]) (by simp [OkIn, Fr.get]) ⟨rfl, rfl⟩
  simp [byteRow]
theorem str_used (s : Txt) : AC Tryz.prog 121 [.vp 1 0] [glo, bldV 1 2 s, .buf tU8 s.length] fun r g => r = .d (.str s) ∧ g = [glo, bldV 1 2 s, .buf tU8 (s.length + 1)] := by
  have hroomB : roomB = 140737488355328 := rfl; refine ac_of ok121 rfl rfl ?_
  repeat' first | (with_reducible refine W.seq ?_) | ((with_reducible refine W.region ?_); conv => whnf) | ((with_reducible refine W.regions2 ?_ ?_) <;> (conv => whnf)) | (intro _; conv => whnf) | ((refine And.intro rfl ?_); conv => whnf) | ((refine And.intro ?_ ?_); (focus (first | omega | (simp only [rT_len, rE_len, rF_len, rC_len, rV_len, rP_len, rS_len, rR_len, rTT_len, rW_len, List.length_map, List.length_replicate] at *; omega) | exact (byteAt_lt _ _).1 | exact (byteAt_lt _ _).2 | (simp [ebStr, ebTxts, ebU8, ebExpr, ebStmt, ebVar, ebParam, ebField, ebRec, ebRoutine, ebPair, roomB]; done))); conv => whnf)
  all_goals refine ⟨s, rfl, ?_⟩
  all_goals (conv => whnf)
  repeat' first | ((with_reducible refine W.ret ?_); conv => whnf)
  all_goals exact finH [glo, bldV 1 2 s, .buf tU8 (s.length + 1)] [] (.inr rfl) (by simp) rfl (by simp) (by simp [ObjOk, OkIn]) (by simp [OkIn, Fr.get]) ⟨rfl, rfl⟩
theorem str_fresh : AC Tryz.prog 121 [.vp 1 0] [glo, bld0] fun r g => r = .d (.str []) ∧ g = [glo, bld0] := by
  have hroomB : roomB = 140737488355328 := rfl; refine ac_of ok121 rfl rfl ?_
  repeat' first | (with_reducible refine W.seq ?_) | ((with_reducible refine W.region ?_); conv => whnf) | ((with_reducible refine W.regions2 ?_ ?_) <;> (conv => whnf)) | ((with_reducible refine W.ret ?_); conv => whnf) | (refine finD (.inr rfl) rfl rfl ⟨?_, rfl⟩) | ((refine And.intro rfl ?_); conv => whnf) | (with_reducible rfl)
theorem grow_in (n : Nat) (hn : n ≤ roomB) : AC Tryz.prog 163 [.vp 1 0, .d (.int .i64 n)] [glo, .var tBld [.vp 1 0, .nil tU8]] fun r g => r = .tup [] ∧ g = [glo, bldV 1 2 [], .buf tU8 0] := by
  have hroomB : roomB = 140737488355328 := rfl; refine ac_of ok163 rfl rfl ?_
  have e0 : IntKind.i64.wrap (IntKind.i64.wrap (2 * 0) + ↑n) = ↑n := by
    have : IntKind.i64.wrap (2 * 0) = 0 := rfl
    rw [this]
    rw [wr (by omega) (by omega)]
    omega
  repeat' first | (with_reducible refine W.seq ?_) | ((with_reducible refine W.region ?_); conv => whnf) | ((with_reducible refine W.regions3 ?_ ?_ ?_) <;> (conv => whnf)) | ((refine And.intro rfl ?_); conv => whnf) | ((refine And.intro ?_ ?_); (focus (first | omega | (simp only [rT_len, rE_len, rF_len, rC_len, rV_len, rP_len, rS_len, rR_len, rTT_len, rW_len, List.length_map, List.length_replicate] at *; omega) | exact (byteAt_lt _ _).1 | exact (byteAt_lt _ _).2 | (simp [ebStr, ebTxts, ebU8, ebExpr, ebStmt, ebVar, ebParam, ebField, ebRec, ebRoutine, ebPair, roomB]; done))); conv => whnf)
  all_goals exact finH [glo, bldV 1 2 [], .buf tU8 0] [] (.inl rfl) rfl rfl (by simp) (by simp [ObjOk, OkIn]) (by simp [OkIn, Fr.get]) ⟨rfl, rfl⟩
theorem grow_fresh (n : Nat) (h0 : 0 < n) (hn : n ≤ roomB) : AC Tryz.prog 153 [.vp 1 0, .d (.int .i64 n)] [glo, bld0] fun r g => r = .tup [] ∧ g = [glo, bldV 1 2 [], .buf tU8 0] := by
  have hroomB : roomB = 140737488355328 := rfl; refine ac_of ok153 rfl rfl ?_
  repeat' first | (with_reducible refine W.seq ?_) | ((with_reducible refine W.region ?_); conv => whnf)
  refine lift_id copy_fresh ?_
  rintro r g ⟨rfl, rfl⟩
  conv => whnf
  have e0 : IntKind.i64.wrap (0 - 0) = 0 := rfl
  repeat' first | (with_reducible refine W.seq ?_) | ((with_reducible refine W.region ?_); conv => whnf) | ((with_reducible refine W.cond ?_); conv => whnf) | ((with_reducible refine W.skip ?_); conv => whnf) | ((with_reducible refine W.regions2 ?_ ?_) <;> (conv => whnf)) | ((refine condM_intro (fun hc => ?_) (fun hc => ?_)) <;> (try simp only [decide_eq_true_eq, decide_eq_false_iff_not, beq_iff_eq, bne_iff_ne, beq_eq_false_iff_ne, bne_eq_false_iff_eq, ne_eq, Bool.not_eq_true', Bool.not_eq_false'] at hc) <;> (first | (exfalso; omega) | (conv => whnf)))
  all_goals try (exfalso; omega)
  all_goals refine lift_id (grow_in n hn) ?_
  all_goals rintro r g ⟨rfl, rfl⟩
  all_goals (conv => whnf)
  skip
  all_goals exact finH [glo, bldV 1 2 [], .buf tU8 0] [] (.inl rfl) rfl rfl (by simp) (by simp [ObjOk, OkIn]) (by simp [OkIn, Fr.get]) ⟨rfl, rfl⟩
/-! ### the same over any memory -/
section
variable {P : Program} {f : FuncId} {xs : List FV} {r : FV} {hp : AHeap} {l b n n' : Nat} {s s' : Txt} {Q : FV → AHeap → Prop}
theorem ren_none {ρ : Nat → Nat} {x : FV} (h : x.all fun _ => False) : x.ren ρ = x := by
  have := FV.ren_congr (p := fun _ => False) (ρ := ρ) (σ := id) (fun l hl => hl.elim) h
  rw [this, FV.ren_id]
theorem renL_none {ρ : Nat → Nat} {xs : List FV} (h : allL (fun _ => False) xs) : renL ρ xs = xs := by
  have := renL_congr (p := fun _ => False) (ρ := ρ) (σ := id) (fun l hl => hl.elim) h
  rw [this, renL_id]
theorem allL_lt {k : Nat} {xs : List FV} (h : allL (fun _ => False) xs) : allL (· < k) xs := by
  have := renL_all (p := fun _ => False) (q := (· < k)) (ρ := id) (fun l hl => hl.elim) h
  rwa [renL_id] at this
theorem useB (h : AC P f (.vp 1 0 :: xs) [glo, bldV 1 2 s, .buf tU8 n] fun r' g => r' = r ∧ g = [glo, bldV 1 2 s', .buf tU8 n']) (has : allL (fun _ => False) xs) (hr : r.all fun _ => False)
    (h0 : hp[0]? = some glo) (hl : hp[l]? = some (bldV l b s)) (hb : hp[b]? = some (.buf tU8 n)) (l0 : l ≠ 0) (b0 : b ≠ 0) (lb : l ≠ b) (hq : Q r ((hp.set l (bldV l b s')).set b (.buf tU8 n'))) : AC P f (.vp l 0 :: xs) hp Q := by
  refine AC.lift [0, l, b] h rfl (by simp [lb, Ne.symm l0, Ne.symm b0]) ?_ ?_ ?_ ?_ ?_
  · intro i h1 h2
    match i, h1 with
    | 0, _ => simpa [AObj.ren] using h0
    | 1, _ => simpa [AObj.ren, FV.ren, renL, renTo] using hl
    | 2, _ => simpa [AObj.ren] using hb
  · simp [renL, FV.ren, renTo, renL_none has]
  · simp only [allL, FV.all]; exact ⟨by simp, allL_lt has⟩
  · intro o ho
    simp only [List.mem_cons, List.not_mem_nil, or_false] at ho
    rcases ho with rfl | rfl | rfl <;> simp [AObj.all, allL, FV.all]
  · rintro r' g _ ⟨rfl, rfl⟩
    rw [ren_none hr]
    have e : mergeH hp [0, l, b] [glo, bldV 1 2 s', .buf tU8 n'] = (hp.set l (bldV l b s')).set b (.buf tU8 n') := by
      simp [mergeH, putAll, AObj.ren, FV.ren, renL, renTo, set_same h0]
    rw [e]; exact hq
theorem useB0 (h : AC P f (.vp 1 0 :: xs) [glo, bld0] fun r' g => r' = r ∧ g = [glo, bldV 1 2 s', .buf tU8 n']) (has : allL (fun _ => False) xs) (hr : r.all fun _ => False)
    (h0 : hp[0]? = some glo) (hl : hp[l]? = some bld0) (l0 : l ≠ 0) (hq : Q r (hp.set l (bldV l hp.length s') ++ [.buf tU8 n'])) : AC P f (.vp l 0 :: xs) hp Q := by
  refine AC.lift [0, l] h rfl (by simp [Ne.symm l0]) ?_ ?_ ?_ ?_ ?_
  · intro i h1 h2
    match i, h1 with
    | 0, _ => simpa [AObj.ren] using h0
    | 1, _ => simpa [AObj.ren, FV.ren, renL, renTo] using hl
  · simp [renL, FV.ren, renTo, renL_none has]
  · simp only [allL, FV.all]; exact ⟨by simp, allL_lt has⟩
  · intro o ho
    simp only [List.mem_cons, List.not_mem_nil, or_false] at ho
    rcases ho with rfl | rfl <;> simp [AObj.all, allL, FV.all]
  · rintro r' g _ ⟨rfl, rfl⟩
    rw [ren_none hr]
    have e : mergeH hp [0, l] [glo, bldV 1 2 s', .buf tU8 n'] = hp.set l (bldV l hp.length s') ++ [.buf tU8 n'] := by
      simp [mergeH, putAll, AObj.ren, FV.ren, renL, renTo, set_same h0]
    rw [e]; exact hq
theorem useB1 (h : AC P f (.vp 1 0 :: xs) [glo, bld0] fun r' g => r' = r ∧ g = [glo, bld0]) (has : allL (fun _ => False) xs) (hr : r.all fun _ => False)
    (h0 : hp[0]? = some glo) (hl : hp[l]? = some bld0) (l0 : l ≠ 0) (hq : Q r hp) : AC P f (.vp l 0 :: xs) hp Q := by
  refine AC.lift [0, l] h rfl (by simp [Ne.symm l0]) ?_ ?_ ?_ ?_ ?_
  · intro i h1 h2
    match i, h1 with
    | 0, _ => simpa [AObj.ren] using h0
    | 1, _ => simpa [AObj.ren, FV.ren, renL, renTo] using hl
  · simp [renL, FV.ren, renTo, renL_none has]
  · simp only [allL, FV.all]; exact ⟨by simp, allL_lt has⟩
  · intro o ho
    simp only [List.mem_cons, List.not_mem_nil, or_false] at ho
    rcases ho with rfl | rfl <;> simp [AObj.all, allL, FV.all]
  · rintro r' g _ ⟨rfl, rfl⟩
    rw [ren_none hr]
    have e : mergeH hp [0, l] [glo, bld0] = hp := by
      simp [mergeH, putAll, AObj.ren, FV.ren, renL, set_same h0, set_same hl]
    rw [e]; exact hq
end
end Go.Pg
set_option maxRecDepth 100000
set_option linter.all false
namespace Go.Pg
open Go.Proofs
theorem isPrefix_take (p s : Txt) (h : p.length ≤ s.length) : (s.take p.length == p) = p.isPrefixOf s := by
  rw [Bool.eq_iff_iff, beq_iff_eq, List.isPrefixOf_iff_prefix]
  constructor
  · intro e; rw [← e]; exact List.take_prefix _ _
  · intro e; exact (List.prefix_iff_eq_take.1 e).symm
theorem slHasPrefix_spec (s p : Txt) : Ret Tryz.prog 150 [.d (.str s), .d (.str p)] (.bool (p.isPrefixOf s)) := by
  have hroomB : roomB = 140737488355328 := rfl; refine ac_of ok150 rfl rfl ?_
  repeat' first | (with_reducible refine W.seq ?_) | ((with_reducible refine W.region ?_); conv => whnf) | ((with_reducible refine W.ret ?_); conv => whnf) | (refine finD (.inr rfl) rfl rfl ⟨?_, rfl⟩) | ((refine condM_intro (fun hc => ?_) (fun hc => ?_)) <;> (try simp only [decide_eq_true_eq, decide_eq_false_iff_not, beq_iff_eq, bne_iff_ne, beq_eq_false_iff_ne, bne_eq_false_iff_eq, ne_eq, Bool.not_eq_true', Bool.not_eq_false'] at hc) <;> (first | (exfalso; omega) | (conv => whnf))) | (intro _; conv => whnf) | ((refine And.intro ?_ ?_); (focus (first | omega | (simp only [rT_len, rE_len, rF_len, rC_len, rV_len, rP_len, rS_len, rR_len, rTT_len, rW_len, List.length_map, List.length_replicate] at *; omega) | exact (byteAt_lt _ _).1 | exact (byteAt_lt _ _).2 | (simp [ebStr, ebTxts, ebU8, ebExpr, ebStmt, ebVar, ebParam, ebField, ebRec, ebRoutine, ebPair, roomB]; done))); conv => whnf)
  · simp only [Int.toNat_natCast, Int.toNat_zero, List.drop_zero]
    rw [isPrefix_take p s (by omega)]
  · have : p.isPrefixOf s = false := by
      rw [Bool.eq_false_iff]
      intro h
      have := (List.isPrefixOf_iff_prefix.1 h).length_le
      omega
    rw [this]
theorem hasPrefix_spec (s p : Txt) : Ret Tryz.prog 119 [.d (.str s), .d (.str p)] (.bool (p.isPrefixOf s)) := by
  have hroomB : roomB = 140737488355328 := rfl; refine ac_of ok119 rfl rfl ?_
  repeat' first | (with_reducible refine W.seq ?_) | ((with_reducible refine W.region ?_); conv => whnf) | ((refine AC.use (slHasPrefix_spec _ _) ?_ rfl ?_); (focus (simp only [allL, FV.all, and_self]; done)); conv => whnf) | ((with_reducible refine W.ret ?_); conv => whnf) | (refine finD (.inr rfl) rfl rfl ⟨?_, rfl⟩) | (with_reducible rfl)
def rightF (c : Int) : Bool := c == 9 || c == 10 || (decide (c ≥ 32) && decide (c ≤ 126))
theorem right_spec (c : Int) : Ret Tryz.prog 118 [.d (.int .u8 c)] (.bool (rightF c)) := by
  have hroomB : roomB = 140737488355328 := rfl; refine ac_of ok118 rfl rfl ?_
  repeat' first | (with_reducible refine W.seq ?_) | ((with_reducible refine W.region ?_); conv => whnf) | ((with_reducible refine W.ret ?_); conv => whnf) | (refine finD (.inr rfl) rfl rfl ⟨?_, rfl⟩) | ((refine condM_intro (fun hc => ?_) (fun hc => ?_)) <;> (try simp only [decide_eq_true_eq, decide_eq_false_iff_not, beq_iff_eq, bne_iff_ne, beq_eq_false_iff_ne, bne_eq_false_iff_eq, ne_eq, Bool.not_eq_true', Bool.not_eq_false'] at hc) <;> (first | (exfalso; omega) | (conv => whnf)))
  all_goals (simp_all [rightF])
  all_goals grind
theorem rright_spec (c : Int) : Ret Tryz.prog 133 [.d (.int .u8 c)] (.bool (rightF c)) := by
  have hroomB : roomB = 140737488355328 := rfl; refine ac_of ok133 rfl rfl ?_
  repeat' first | (with_reducible refine W.seq ?_) | ((with_reducible refine W.region ?_); conv => whnf) | ((with_reducible refine W.ret ?_); conv => whnf) | (refine finD (.inr rfl) rfl rfl ⟨?_, rfl⟩) | ((refine condM_intro (fun hc => ?_) (fun hc => ?_)) <;> (try simp only [decide_eq_true_eq, decide_eq_false_iff_not, beq_iff_eq, bne_iff_ne, beq_eq_false_iff_ne, bne_eq_false_iff_eq, ne_eq, Bool.not_eq_true', Bool.not_eq_false'] at hc) <;> (first | (exfalso; omega) | (conv => whnf)))
  all_goals (simp_all [rightF])
  all_goals grind
def rightB (c : UInt8) : Bool := rightF c.toNat
def noteF (s : Txt) : Int := if s.length > 1024 then 3 else if s.all rightB then 0 else 8
theorem byteAt_get {s : Txt} {i : Nat} {c : UInt8} (h : s[i]? = some c) : byteAt s i = c.toNat := by simp [byteAt, h]
theorem byteAt_getLt {s : Txt} {i : Nat} (h : i < s.length) : byteAt s i = (s[i]).toNat := by simp [byteAt, h]
theorem rnote_spec (s : Txt) : Ret Tryz.prog 90 [.d (.str s)] (.int .i64 (noteF s)) := by
  have hroomB : roomB = 140737488355328 := rfl; refine ac_of ok90 rfl rfl ?_
  repeat' first | (with_reducible refine W.seq ?_) | ((with_reducible refine W.region ?_); conv => whnf) | ((with_reducible refine W.cond ?_); conv => whnf) | (with_reducible refine W.block ?_) | ((with_reducible refine W.skip ?_); conv => whnf) | ((with_reducible refine W.ret ?_); conv => whnf) | (refine finD (.inr rfl) rfl rfl ⟨?_, rfl⟩) | ((refine condM_intro (fun hc => ?_) (fun hc => ?_)) <;> (try simp only [decide_eq_true_eq, decide_eq_false_iff_not, beq_iff_eq, bne_iff_ne, beq_eq_false_iff_ne, bne_eq_false_iff_eq, ne_eq, Bool.not_eq_true', Bool.not_eq_false'] at hc) <;> (first | (exfalso; omega) | (conv => whnf))) | (intro _; conv => whnf)
  · simp [noteF, show s.length > 1024 by omega]
  refine W.loop (σ := Nat) (fun i => [(0, .d (.str s)), (3, .d (.int .i64 i))]) (fun _ => gl) (fun i => i ≤ s.length ∧ (s.drop i).all rightB = s.all rightB) (fun i => s.length - i) 0 ⟨Nat.zero_le _, by simp⟩ ⟨.same _, .same _, trivial⟩ rfl ?_
  rintro i ⟨hi, hall⟩
  repeat' first | (with_reducible refine W.seq ?_) | ((with_reducible refine W.region ?_); conv => whnf) | ((with_reducible refine W.cond ?_); conv => whnf) | (with_reducible refine W.block ?_) | ((with_reducible refine W.skip ?_); conv => whnf) | ((with_reducible refine W.exit ?_); conv => whnf) | ((refine AC.use (rright_spec _) ?_ rfl ?_); (focus (simp only [allL, FV.all, and_self]; done)); conv => whnf) | ((with_reducible refine W.ret ?_); conv => whnf) | (refine finD (.inr rfl) rfl rfl ⟨?_, rfl⟩) | ((refine condM_intro (fun hc => ?_) (fun hc => ?_)) <;> (try simp only [decide_eq_true_eq, decide_eq_false_iff_not, beq_iff_eq, bne_iff_ne, beq_eq_false_iff_ne, bne_eq_false_iff_eq, ne_eq, Bool.not_eq_true', Bool.not_eq_false'] at hc) <;> (first | (exfalso; omega) | (conv => whnf))) | (intro _; conv => whnf) | ((refine And.intro ?_ ?_); (focus (first | omega | (simp only [rT_len, rE_len, rF_len, rC_len, rV_len, rP_len, rS_len, rR_len, rTT_len, rW_len, List.length_map, List.length_replicate] at *; omega) | exact (byteAt_lt _ _).1 | exact (byteAt_lt _ _).2 | (simp [ebStr, ebTxts, ebU8, ebExpr, ebStmt, ebVar, ebParam, ebField, ebRec, ebRoutine, ebPair, roomB]; done))); conv => whnf)
  · have hlt : i < s.length := by omega
    rw [Int.toNat_natCast, byteAt_getLt hlt] at hc
    rw [List.drop_eq_getElem_cons hlt, List.all_cons] at hall
    simp only [rightB, hc, Bool.false_and] at hall
    simp [noteF, show ¬ s.length > 1024 by omega, ← hall, rightB]
  · have hlt : i < s.length := by omega
    rw [Int.toNat_natCast, byteAt_getLt hlt] at hc
    rw [List.drop_eq_getElem_cons hlt, List.all_cons] at hall
    simp only [rightB, hc, Bool.true_and] at hall
    refine ⟨i + 1, ⟨hlt, hall⟩, by omega, ?_, rfl⟩
    (repeat' (first | exact trivial | exact SlotLe.same _ | exact SlotLe.own _ _ _ | exact SlotLe.nil _ | exact SlotLe.any _ | (apply And.intro) | (refine SlotLe.of_eq ?_; rw [wr (by omega) (by omega)]; rfl) | (refine SlotLe.of_eq ?_; rw [wr (by omega) (by omega)]; congr 2; omega)))
  · rw [drop_end (by omega)] at hall
    simp [noteF, show ¬ s.length > 1024 by omega, ← hall]
def utf8T (s : String) : Txt := s.toUTF8.data.toList
def openF (d : Int) : Txt := if d = 0 then [123] else if d = 1 then [47, 42] else []
def closeF (d : Int) : Txt := if d = 0 then [125] else if d = 1 then [42, 47] else []
def quotedF (d : Int) : Txt := if d = 0 then [92, 125] else if d = 1 then [92, 42] else []
theorem of_spec (d : Int) : RetT Tryz.prog 116 [.d (.int .i64 d)] [.agg [.str (openF d), .str (closeF d), .str (quotedF d)], .bool (d == 0 || d == 1)] := by
  have hroomB : roomB = 140737488355328 := rfl; refine ac_of ok116 rfl rfl ?_
  repeat' first | (with_reducible refine W.seq ?_) | ((with_reducible refine W.region ?_); conv => whnf) | ((with_reducible refine W.cond ?_); conv => whnf) | (with_reducible refine W.block ?_) | ((with_reducible refine W.skip ?_); conv => whnf) | ((with_reducible refine W.ret ?_); conv => whnf) | ((refine condM_intro (fun hc => ?_) (fun hc => ?_)) <;> (try simp only [decide_eq_true_eq, decide_eq_false_iff_not, beq_iff_eq, bne_iff_ne, beq_eq_false_iff_ne, bne_eq_false_iff_eq, ne_eq, Bool.not_eq_true', Bool.not_eq_false'] at hc) <;> (first | (exfalso; omega) | (conv => whnf)))
  · subst hc; exact finEq (junk := [_]) (.inr rfl) rfl rfl (by simp [OkIn])
  · subst hc; exact finEq (junk := [_]) (.inr rfl) rfl rfl (by simp [OkIn])
  · have e1 : openF d = [] := by simp [openF, *]
    have e2 : closeF d = [] := by simp [closeF, *]
    have e3 : quotedF d = [] := by simp [quotedF, *]
    have e4 : (d == 0 || d == 1) = false := by simp [*]
    rw [e1, e2, e3, e4]
    exact finEq (junk := [_]) (.inr rfl) rfl rfl (by simp [OkIn])
/-- A comment's text, with \ ahead of what might end it. -/
def escF (e : Txt) : Txt → Txt
  | [] => []
  | c :: r => (if c == 92 || e.isPrefixOf (c :: r) then [92, c] else [c]) ++ escF e r
def printF (d : Int) (s : Txt) : Txt := openF d ++ escF (closeF d) s ++ closeF d
theorem escF_len (e : Txt) : ∀ s, (escF e s).length ≤ 2 * s.length
  | [] => Nat.le_refl _
  | c :: r => by
    have := escF_len e r
    simp only [escF]
    split <;> simp <;> omega
theorem print_spec (d : Int) (s : Txt) : RetT Tryz.prog 68 [.d (.int .i64 d), .d (.str s)]
    (if d = 0 ∨ d = 1 then [.str (if noteF s = 0 then printF d s else []), .int .i64 (noteF s)] else [.str [], .int .i64 1]) := by
  have hroomB : roomB = 140737488355328 := rfl; refine ac_of ok68 rfl rfl ?_
  repeat' first | (with_reducible refine W.seq ?_) | ((with_reducible refine W.region ?_); conv => whnf) | ((with_reducible refine W.cond ?_); conv => whnf) | (with_reducible refine W.block ?_) | ((with_reducible refine W.skip ?_); conv => whnf) | ((refine AC.useT (of_spec _) ?_ rfl ?_); (focus (simp only [allL, FV.all, and_self]; done)); conv => whnf) | ((with_reducible refine W.ret ?_); conv => whnf) | ((refine finDR (.inr rfl) rfl rfl ?_ ⟨?_, rfl⟩); (focus ((simp [OkIn, Fr.get]); done))) | ((refine condM_intro (fun hc => ?_) (fun hc => ?_)) <;> (try simp only [decide_eq_true_eq, decide_eq_false_iff_not, beq_iff_eq, bne_iff_ne, beq_eq_false_iff_ne, bne_eq_false_iff_eq, ne_eq, Bool.not_eq_true', Bool.not_eq_false'] at hc) <;> (first | (exfalso; omega) | (conv => whnf))) | (intro _; conv => whnf)
  · have hd : ¬ (d = 0 ∨ d = 1) := by simpa using hc
    rw [if_neg hd]; rfl
  · have hd : d = 0 ∨ d = 1 := by rename_i h0 _; simpa using h0
    rw [if_pos hd]
    simp only [noteF, show s.length > 1024 by omega, if_true]
    rfl
  have hd : d = 0 ∨ d = 1 := by rename_i hz _; simpa using hz
  rw [if_pos hd]
  have hol : (openF d).length ≤ 2 := by rcases hd with rfl | rfl <;> decide
  have hcl : (closeF d).length ≤ 2 := by rcases hd with rfl | rfl <;> decide
  refine useB0 (ws_fresh (openF d) (by omega)) (by simp [allL, FV.all]) (by simp [FV.all, allL]) rfl rfl (by simp) ?_
  conv => whnf
  repeat' first | (with_reducible refine W.seq ?_) | ((with_reducible refine W.region ?_); conv => whnf) | (with_reducible refine W.block ?_)
  refine W.cutB (σ := Unit) (fun _ => [(0, .d (.int .i64 d)), (1, .d (.str s)), (4, .d (.str [])), (5, .d (.int .i64 0)), (6, .vp 1 0), (8, .vp 2 0)])
    (fun _ => [glo, .var 157 [.d (.str (openF d)), .d (.str (closeF d)), .d (.str (quotedF d))], bldV 2 3 (openF d ++ escF (closeF d) s), .buf tU8 (openF d ++ escF (closeF d) s).length, .siter s s.length])
    (fun _ => s.all rightB = true) ?_ ?_
  · refine W.loop (σ := Nat × Txt) (fun _ => [(0, .d (.int .i64 d)), (1, .d (.str s)), (4, .d (.str [])), (5, .d (.int .i64 0)), (6, .vp 1 0), (8, .vp 2 0), (26, .vp 4 0)])
      (fun x => [glo, .var 157 [.d (.str (openF d)), .d (.str (closeF d)), .d (.str (quotedF d))], bldV 2 3 x.2, .buf tU8 x.2.length, .siter s x.1])
      (fun x => x.1 ≤ s.length ∧ x.2 ++ escF (closeF d) (s.drop x.1) = openF d ++ escF (closeF d) s ∧ (s.drop x.1).all rightB = s.all rightB ∧ x.2.length ≤ 2 + 2 * x.1) (fun x => s.length - x.1) (0, openF d)
      ⟨Nat.zero_le _, by simp, by simp, by simpa using hol⟩ ⟨.same _, .same _, .same _, .same _, .same _, .same _, .same _, trivial⟩ rfl ?_
    rintro ⟨i, o⟩ ⟨hi, ho, hall, hlen⟩
    dsimp only at hi ho hall hlen ⊢
    have hri : ∀ x : Int, rightF x = true → x ≤ 126 := by
      intro x h
      simp [rightF] at h
      omega
    have hbad : ∀ h : i < s.length, rightF (byteAt s (↑i : Int).toNat) = false → noteF s = 8 := by
      intro hlt h
      rw [Int.toNat_natCast, byteAt_getLt hlt] at h
      rw [List.drop_eq_getElem_cons hlt, List.all_cons] at hall
      simp only [rightB, h, Bool.false_and] at hall
      simp [noteF, show ¬ s.length > 1024 by omega, ← hall, rightB]
    have hgood : ∀ h : i < s.length, rightF (byteAt s (↑i : Int).toNat) = true → (s.drop (i + 1)).all rightB = s.all rightB := by
      intro hlt h
      rw [Int.toNat_natCast, byteAt_getLt hlt] at h
      rw [List.drop_eq_getElem_cons hlt, List.all_cons] at hall
      simp only [rightB, h, Bool.true_and] at hall
      exact hall
    have hby : ∀ h : i < s.length, byteAt s (↑i : Int).toNat = (s[i]).toNat := fun h => by rw [Int.toNat_natCast, byteAt_getLt h]
    have hesc : ∀ h : i < s.length, escF (closeF d) (s.drop i) = (if s[i] == 92 || (closeF d).isPrefixOf (s.drop i) then [92, s[i]] else [s[i]]) ++ escF (closeF d) (s.drop (i + 1)) := by
      intro h
      conv => lhs; rw [List.drop_eq_getElem_cons h]
      simp only [escF]
      rw [← List.drop_eq_getElem_cons h]
    repeat' first | (with_reducible refine W.seq ?_) | ((with_reducible refine W.region ?_); conv => whnf) | ((with_reducible refine W.cond ?_); conv => whnf) | (with_reducible refine W.block ?_) | ((with_reducible refine W.skip ?_); conv => whnf) | ((with_reducible refine W.exit ?_); conv => whnf) | ((refine AC.use (right_spec _) ?_ rfl ?_); (focus (simp only [allL, FV.all, and_self]; done)); conv => whnf) | ((refine AC.use (hasPrefix_spec _ _) ?_ rfl ?_); (focus (simp only [allL, FV.all, and_self]; done)); conv => whnf) | ((with_reducible refine W.ret ?_); conv => whnf) | ((refine finDR (.inr rfl) rfl rfl ?_ ⟨?_, rfl⟩); (focus ((simp [OkIn, Fr.get]); done))) | ((refine condM_intro (fun hc => ?_) (fun hc => ?_)) <;> (try simp only [decide_eq_true_eq, decide_eq_false_iff_not, beq_iff_eq, bne_iff_ne, beq_eq_false_iff_ne, bne_eq_false_iff_eq, ne_eq, Bool.not_eq_true', Bool.not_eq_false'] at hc) <;> (first | (exfalso; omega) | (conv => whnf))) | ((refine And.intro ?_ ?_); (focus (first | omega | (simp only [rT_len, rE_len, rF_len, rC_len, rV_len, rP_len, rS_len, rR_len, rTT_len, rW_len, List.length_map, List.length_replicate] at *; omega) | exact (byteAt_lt _ _).1 | exact (byteAt_lt _ _).2 | (simp [ebStr, ebTxts, ebU8, ebExpr, ebStmt, ebVar, ebParam, ebField, ebRec, ebRoutine, ebPair, roomB]; done))); conv => whnf) | ((refine And.intro (fun hz => ?_) (And.intro (fun hz1 hz2 => ?_) (fun hz1 hz2 wz cz => ?_))) <;> (conv => whnf))
    all_goals try (exfalso; have := hri _ ‹rightF _ = true›; rw [Int.toNat_natCast] at this; omega)
    · have e : i = s.length := by omega
      subst e
      rw [List.drop_length] at ho hall
      simp only [escF, List.append_nil] at ho
      simp only [ho]
      exact ⟨(), by simpa using hall.symm, ⟨.same _, .same _, .same _, .same _, .same _, .same _, trivial⟩, by simp⟩
    · rw [hbad (by omega) hc]; rfl
    · have hlt : i < s.length := hz1
      have hc0 : s[i] = 92 := by
        rw [hby hlt] at hc
        exact UInt8.toNat_inj.1 (by simpa using Int.ofNat_inj.1 hc)
      refine useB (l := 2) (b := 3) (s := o) (wb_used o 92 _ rfl (by omega)) (by simp [allL, FV.all]) (by simp [FV.all, allL]) rfl rfl rfl (by simp) (by simp) (by simp) ?_
      conv => whnf
      repeat' first | ((with_reducible refine W.region ?_); conv => whnf) | ((refine And.intro ?_ ?_); (focus (first | omega | (simp only [rT_len, rE_len, rF_len, rC_len, rV_len, rP_len, rS_len, rR_len, rTT_len, rW_len, List.length_map, List.length_replicate] at *; omega) | exact (byteAt_lt _ _).1 | exact (byteAt_lt _ _).2 | (simp [ebStr, ebTxts, ebU8, ebExpr, ebStmt, ebVar, ebParam, ebField, ebRec, ebRoutine, ebPair, roomB]; done))); conv => whnf)
      refine useB (l := 2) (b := 3) (s := o ++ [92]) (wb_used (o ++ [92]) s[i] _ (hby hlt) (by simp; omega)) (by simp [allL, FV.all]) (by simp [FV.all, allL]) rfl (by simp) (by simp) (by simp) (by simp) (by simp) ?_
      conv => whnf
      skip
      have he := hesc hlt
      rw [hc0] at he
      simp only [beq_self_eq_true, Bool.true_or, if_true] at he
      refine ⟨(i + 1, o ++ [92] ++ [s[i]]), ⟨hlt, ?_, hgood hlt (by assumption), by simp; omega⟩, by simp only; omega, ⟨.same _, .same _, .same _, .same _, .same _, .same _, .same _, trivial⟩, by simp⟩
      rw [← ho, he, hc0]; simp
    · have hlt : i < s.length := hz1
      have hc0 : ¬ s[i] = 92 := by
        intro h
        have h9 : ¬ byteAt s (↑i : Int).toNat = 92 := by assumption
        rw [hby hlt, h] at h9
        exact h9 rfl
      have hp0 : (closeF d).isPrefixOf (s.drop i) = true := by simpa using hc
      refine useB (l := 2) (b := 3) (s := o) (wb_used o 92 _ rfl (by omega)) (by simp [allL, FV.all]) (by simp [FV.all, allL]) rfl rfl rfl (by simp) (by simp) (by simp) ?_
      conv => whnf
      repeat' first | ((with_reducible refine W.region ?_); conv => whnf) | ((refine And.intro ?_ ?_); (focus (first | omega | (simp only [rT_len, rE_len, rF_len, rC_len, rV_len, rP_len, rS_len, rR_len, rTT_len, rW_len, List.length_map, List.length_replicate] at *; omega) | exact (byteAt_lt _ _).1 | exact (byteAt_lt _ _).2 | (simp [ebStr, ebTxts, ebU8, ebExpr, ebStmt, ebVar, ebParam, ebField, ebRec, ebRoutine, ebPair, roomB]; done))); conv => whnf)
      refine useB (l := 2) (b := 3) (s := o ++ [92]) (wb_used (o ++ [92]) s[i] _ (hby hlt) (by simp; omega)) (by simp [allL, FV.all]) (by simp [FV.all, allL]) rfl (by simp) (by simp) (by simp) (by simp) (by simp) ?_
      conv => whnf
      skip
      have he := hesc hlt
      rw [hp0] at he
      simp only [Bool.or_true, if_true] at he
      refine ⟨(i + 1, o ++ [92] ++ [s[i]]), ⟨hlt, ?_, hgood hlt (by assumption), by simp; omega⟩, by simp only; omega, ⟨.same _, .same _, .same _, .same _, .same _, .same _, .same _, trivial⟩, by simp⟩
      rw [← ho, he]; simp
    · have hlt : i < s.length := hz1
      have hc0 : (s[i] == 92) = false := by
        rw [beq_eq_false_iff_ne]
        intro h
        have h9 : ¬ byteAt s (↑i : Int).toNat = 92 := by assumption
        rw [hby hlt, h] at h9
        exact h9 rfl
      have hp0 : (closeF d).isPrefixOf (s.drop i) = false := by simpa using hc
      refine useB (l := 2) (b := 3) (s := o) (wb_used o s[i] _ (hby hlt) (by omega)) (by simp [allL, FV.all]) (by simp [FV.all, allL]) rfl rfl rfl (by simp) (by simp) (by simp) ?_
      conv => whnf
      skip
      have he := hesc hlt
      rw [hp0, hc0] at he
      simp only [Bool.or_false, Bool.false_eq_true, if_false] at he
      refine ⟨(i + 1, o ++ [s[i]]), ⟨hlt, ?_, hgood hlt (by assumption), by simp; omega⟩, by simp only; omega, ⟨.same _, .same _, .same _, .same _, .same _, .same _, .same _, trivial⟩, by simp⟩
      rw [← ho, he]; simp
    · have : rightF (byteAt s (↑i : Int).toNat) = false := by assumption
      rw [hbad (by omega) this]; rfl
  rintro _ hall
  have hlen2 := escF_len (closeF d) s
  repeat' first | (with_reducible refine W.seq ?_) | ((with_reducible refine W.region ?_); conv => whnf)
  refine useB (l := 2) (b := 3) (s := openF d ++ escF (closeF d) s) (ws_used _ (closeF d) (by simp; omega)) (by simp [allL, FV.all]) (by simp [FV.all, allL]) rfl rfl rfl (by simp) (by simp) (by simp) ?_
  conv => whnf
  repeat' first | (with_reducible refine W.seq ?_) | ((with_reducible refine W.region ?_); conv => whnf)
  refine useB (l := 2) (b := 3) (s := openF d ++ escF (closeF d) s ++ closeF d) (str_used _) (by simp [allL, FV.all]) (by simp [FV.all, allL]) rfl (by simp) (by simp) (by simp) (by simp) (by simp) ?_
  conv => whnf
  repeat' first | ((with_reducible refine W.ret ?_); conv => whnf) | ((refine finDR (.inr rfl) rfl rfl ?_ ⟨?_, rfl⟩); (focus ((simp [OkIn, Fr.get]); done)))
  have hn : noteF s = 0 := by simp [noteF, show ¬ s.length > 1024 by omega, hall]
  rw [hn]
  rfl
end Go.Pg
