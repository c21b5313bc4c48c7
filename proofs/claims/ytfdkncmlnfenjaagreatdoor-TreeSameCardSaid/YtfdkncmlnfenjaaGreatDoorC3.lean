/- Part C3 of the proof: the laws and contracts that the last text joins. Own work; no condition of its own. -/
import Derived.Test.YtfdkncmlnfenjaaGreatDoorC1
import Derived.Test.YtfdkncmlnfenjaaGreatDoorC2
set_option linter.all false
set_option maxRecDepth 100000
set_option linter.all false
namespace Go.Pg
open Go.Proofs
/-- A text's parts between a byte. -/
def partsF (c : UInt8) : Txt → List Txt
  | [] => [[]]
  | x :: r => if x = c then [] :: partsF c r else match partsF c r with
    | p :: ps => (x :: p) :: ps
    | [] => [[x]]
def joinF (sep : Txt) : List Txt → Txt
  | [] => []
  | [x] => x
  | x :: y :: l => x ++ sep ++ joinF sep (y :: l)
theorem partsF_ne (c : UInt8) : ∀ s, partsF c s ≠ []
  | [] => by simp [partsF]
  | x :: r => by
    simp only [partsF]
    split
    · simp
    · split <;> simp
theorem partsF_len (c : UInt8) : ∀ s, (partsF c s).length = s.count c + 1
  | [] => rfl
  | x :: r => by
    have ih := partsF_len c r
    simp only [partsF]
    split
    · rename_i h; subst h; simp [ih]
    · rename_i h
      have : (x :: r).count c = r.count c := by simp [List.count_cons, h]
      rw [this]
      split
      · rename_i p ps hp; rw [hp] at ih; simpa using ih
      · rename_i hp; exact absurd hp (partsF_ne c r)
theorem partsF_none (c : UInt8) : ∀ s, c ∉ s → partsF c s = [s]
  | [], _ => rfl
  | x :: r, h => by
    simp only [List.mem_cons, not_or] at h
    simp only [partsF, if_neg (Ne.symm h.1), partsF_none c r h.2]
theorem partsF_cut (c : UInt8) : ∀ s : Txt, c ∈ s → partsF c s = s.take (s.idxOf c) :: partsF c (s.drop (s.idxOf c + 1)) ∧ s.count c = (s.drop (s.idxOf c + 1)).count c + 1
  | [], h => by simp at h
  | x :: r, h => by
    by_cases e : x = c
    · subst e
      simp [partsF]
    · have hr : c ∈ r := by
        rcases List.mem_cons.1 h with h | h
        · exact absurd h.symm e
        · exact h
      obtain ⟨h1, h2⟩ := partsF_cut c r hr
      have hi : (x :: r).idxOf c = r.idxOf c + 1 := by simp [List.idxOf_cons, beq_eq_false_iff_ne.2 e]
      have hc : (x :: r).count c = r.count c := by simp [List.count_cons, e]
      rw [hi, hc]
      simp only [partsF, if_neg e]
      rw [h1]
      exact ⟨by simp, by simpa using h2⟩
theorem idxByte_spec (s : Txt) (x : Int) : Ret Tryz.prog 172 [.d (.str s), .d (.int .u8 x)] (.int .i64 (idxB s (UInt8.ofNat x.toNat))) := by
  have hroomB : roomB = 140737488355328 := rfl; refine ac_of ok172 rfl rfl ?_
  repeat' first | (with_reducible refine W.seq ?_) | ((with_reducible refine W.region ?_); conv => whnf) | ((with_reducible refine W.ret ?_); conv => whnf) | (refine finD (.inr rfl) rfl rfl ⟨?_, rfl⟩) | (with_reducible rfl)
theorem slIndex_spec (s : Txt) (c : UInt8) : Ret Tryz.prog 166 [.d (.str s), .d (.str [c])] (.int .i64 (idxB s c)) := by
  have hroomB : roomB = 140737488355328 := rfl; refine ac_of ok166 rfl rfl ?_
  repeat' first | (with_reducible refine W.seq ?_) | ((with_reducible refine W.region ?_); conv => whnf) | ((with_reducible refine W.cond ?_); conv => whnf) | (with_reducible refine W.block ?_) | ((refine AC.use (idxByte_spec _ _) ?_ rfl ?_); (focus (simp only [allL, FV.all, and_self]; done)); conv => whnf) | ((with_reducible refine W.ret ?_); conv => whnf) | (refine finD (.inr rfl) rfl rfl ⟨?_, rfl⟩) | ((refine condM_intro (fun hc => ?_) (fun hc => ?_)) <;> (try simp only [decide_eq_true_eq, decide_eq_false_iff_not, beq_iff_eq, bne_iff_ne, beq_eq_false_iff_ne, bne_eq_false_iff_eq, ne_eq, Bool.not_eq_true', Bool.not_eq_false'] at hc) <;> (first | (exfalso; omega) | (conv => whnf))) | (intro _; conv => whnf) | ((refine And.intro ?_ ?_); (focus (first | omega | (simp only [rT_len, rE_len, rF_len, rC_len, rV_len, rP_len, rS_len, rR_len, rTT_len, rW_len, List.length_map, List.length_replicate] at *; omega) | exact (byteAt_lt _ _).1 | exact (byteAt_lt _ _).2 | (simp [ebStr, ebTxts, ebU8, ebExpr, ebStmt, ebVar, ebParam, ebField, ebRec, ebRoutine, ebPair, roomB]; done))); conv => whnf)
  · subst hc; simp [idxB]
  · simp [byteAt]
theorem index_spec (s : Txt) (c : UInt8) : Ret Tryz.prog 160 [.d (.str s), .d (.str [c])] (.int .i64 (idxB s c)) := by
  have hroomB : roomB = 140737488355328 := rfl; refine ac_of ok160 rfl rfl ?_
  repeat' first | (with_reducible refine W.seq ?_) | ((with_reducible refine W.region ?_); conv => whnf) | ((refine AC.use (slIndex_spec _ _) ?_ rfl ?_); (focus (simp only [allL, FV.all, and_self]; done)); conv => whnf) | ((with_reducible refine W.ret ?_); conv => whnf) | (refine finD (.inr rfl) rfl rfl ⟨?_, rfl⟩) | (with_reducible rfl)
theorem count_spec (s : Txt) (c : UInt8) : Ret Tryz.prog 162 [.d (.str s), .d (.str [c])] (.int .i64 (s.count c : Nat)) := by
  have hroomB : roomB = 140737488355328 := rfl; refine ac_of ok162 rfl rfl ?_
  repeat' first | (with_reducible refine W.seq ?_) | ((with_reducible refine W.region ?_); conv => whnf) | ((with_reducible refine W.cond ?_); conv => whnf) | ((with_reducible refine W.skip ?_); conv => whnf) | ((with_reducible refine W.ret ?_); conv => whnf) | (refine finD (.inr rfl) rfl rfl ⟨?_, rfl⟩) | (intro _; conv => whnf) | ((refine And.intro ?_ ?_); (focus (first | omega | (simp only [rT_len, rE_len, rF_len, rC_len, rV_len, rP_len, rS_len, rR_len, rTT_len, rW_len, List.length_map, List.length_replicate] at *; omega) | exact (byteAt_lt _ _).1 | exact (byteAt_lt _ _).2 | (simp [ebStr, ebTxts, ebU8, ebExpr, ebStmt, ebVar, ebParam, ebField, ebRec, ebRoutine, ebPair, roomB]; done))); conv => whnf)
  simp [byteAt]
theorem genSplit_spec (c : UInt8) (s : Txt) (hs : s.length ≤ 4398046511104) : AC Tryz.prog 152 [.d (.str s), .d (.str [c]), .d (.int .i64 0), .d (.int .i64 (-1))] gl fun r g =>
    r = .ms 9 1 0 (partsF c s).length ∧ g = gl ++ [.var 9 ((partsF c s).map fun t => .d (.str t))] := by
  have hcl : s.count c ≤ s.length := List.count_le_length
  have hroomB : roomB = 140737488355328 := rfl; refine ac_of ok152 rfl rfl ?_
  have e1 : IntKind.i64.wrap (↑(s.count c) + 1) = ((s.count c + 1 : Nat) : Int) := wr (by omega) (by omega)
  have e2 : IntKind.i64.wrap (↑s.length + 1) = ((s.length + 1 : Nat) : Int) := wr (by omega) (by omega)
  generalize hm : (if IntKind.i64.wrap (↑s.length + 1) < IntKind.i64.wrap (↑(s.count c) + 1) then IntKind.i64.wrap (↑s.length + 1) else IntKind.i64.wrap (↑(s.count c) + 1)) = m
  have em : m = ((s.count c + 1 : Nat) : Int) := by
    rw [← hm, e1, e2, if_neg (by omega)]
  have e3 : IntKind.i64.wrap (m - 1) = ((s.count c : Nat) : Int) := by
    rw [em, wr (by omega) (by omega)]; omega
  repeat' first | (with_reducible refine W.seq ?_) | ((with_reducible refine W.region ?_); conv => whnf) | ((with_reducible refine W.cond ?_); conv => whnf) | (with_reducible refine W.block ?_) | ((with_reducible refine W.skip ?_); conv => whnf) | ((refine AC.use (count_spec _ _) ?_ rfl ?_); (focus (simp only [allL, FV.all, and_self]; done)); conv => whnf) | (intro _; conv => whnf) | ((refine And.intro rfl ?_); conv => whnf) | ((refine And.intro ?_ ?_); (focus (first | omega | (simp only [rT_len, rE_len, rF_len, rC_len, rV_len, rP_len, rS_len, rR_len, rTT_len, rW_len, List.length_map, List.length_replicate] at *; omega) | exact (byteAt_lt _ _).1 | exact (byteAt_lt _ _).2 | (simp [ebStr, ebTxts, ebU8, ebExpr, ebStmt, ebVar, ebParam, ebField, ebRec, ebRoutine, ebPair, roomB]; done))); conv => whnf)
  rw [hm]
  refine W.cutB (σ := Txt × Nat × List Txt) (fun x => [(0, .d (.str x.1)), (9, .ms 9 1 0 (s.count c + 1)), (10, .d (.int .i64 x.2.1))]) (fun x => gl ++ [.var 9 (x.2.2.map fun t => .d (.str t))])
    (fun x => x.2.1 = s.count c ∧ x.2.2.length = s.count c + 1 ∧ x.2.2.set x.2.1 x.1 = partsF c s) ?_ ?_
  · refine W.loop (σ := Txt × Nat × List Txt) (fun x => [(0, .d (.str x.1)), (1, .d (.str [c])), (2, .d (.int .i64 0)), (3, .d (.int .i64 (s.count c : Nat))), (9, .ms 9 1 0 (s.count c + 1)), (10, .d (.int .i64 x.2.1))]) (fun x => gl ++ [.var 9 (x.2.2.map fun t => .d (.str t))])
      (fun x => x.2.1 + x.1.count c = s.count c ∧ x.2.2.length = s.count c + 1 ∧ x.1.length ≤ s.length ∧ x.2.2.take x.2.1 ++ partsF c x.1 = partsF c s) (fun x => x.1.count c) (s, 0, List.replicate (s.count c + 1) []) ⟨by simp, by simp, Nat.le_refl _, by simp⟩ ?_ ?_ ?_
    · exact ⟨.same _, .same _, .same _, .of_eq (by rw [← e3]; rfl), .of_eq (by rw [em]; rfl), .same _, trivial⟩
    · simp [em]
    rintro ⟨s', i, arr⟩ ⟨hi, harr, hle, hp⟩
    dsimp only at hi harr hle hp ⊢
    have hcl' : s'.count c ≤ s'.length := List.count_le_length
    rcases Nat.eq_zero_or_pos (s'.count c) with h0 | h0
    · repeat' first | (with_reducible refine W.seq ?_) | ((with_reducible refine W.region ?_); conv => whnf) | ((with_reducible refine W.cond ?_); conv => whnf) | ((with_reducible refine W.exit ?_); conv => whnf) | ((refine condM_intro (fun hc => ?_) (fun hc => ?_)) <;> (try simp only [decide_eq_true_eq, decide_eq_false_iff_not, beq_iff_eq, bne_iff_ne, beq_eq_false_iff_ne, bne_eq_false_iff_eq, ne_eq, Bool.not_eq_true', Bool.not_eq_false'] at hc) <;> (first | (exfalso; omega) | (conv => whnf)))
      refine ⟨(s', i, arr), ⟨by simp only; omega, harr, ?_⟩, ⟨.same _, .same _, .same _, trivial⟩, rfl⟩
      have hn : c ∉ s' := by rwa [List.count_eq_zero] at h0
      rw [partsF_none c s' hn] at hp
      simp only
      rw [← hp]
      have hii : i + 1 = arr.length := by omega
      apply List.ext_getElem?
      intro k
      rw [List.getElem?_set]
      by_cases hk : i = k
      · subst hk; simp [show i < arr.length by omega, Nat.min_eq_left (show i ≤ arr.length by omega)]
      · rw [if_neg hk]
        rcases Nat.lt_or_ge k i with h | h
        · rw [List.getElem?_append_left (by simp; omega), List.getElem?_take, if_pos h]
        · rw [List.getElem?_eq_none (by omega), List.getElem?_eq_none (by simp; omega)]
    · have hmem : c ∈ s' := List.count_pos_iff.1 h0
      obtain ⟨k1, k2⟩ := partsF_cut c s' hmem
      have hlt := List.idxOf_lt_length_of_mem hmem
      have hidx : idxB s' c = (s'.idxOf c : Int) := by simp [idxB, hmem]
      have e5 : IntKind.i64.wrap (idxB s' c + 0) = (s'.idxOf c : Int) := by rw [hidx, wr (by omega) (by omega)]; omega
      have e6 : IntKind.i64.wrap (idxB s' c + ↑[c].length) = ((s'.idxOf c + 1 : Nat) : Int) := by rw [hidx, wr (by simp; omega) (by simp; omega)]; simp
      have e7 : IntKind.i64.wrap (↑i + 1) = ((i + 1 : Nat) : Int) := wr (by omega) (by omega)
      repeat' first | (with_reducible refine W.seq ?_) | ((with_reducible refine W.region ?_); conv => whnf) | ((with_reducible refine W.cond ?_); conv => whnf) | (with_reducible refine W.block ?_) | ((with_reducible refine W.skip ?_); conv => whnf) | ((refine AC.use (index_spec _ _) ?_ rfl ?_); (focus (simp only [allL, FV.all, and_self]; done)); conv => whnf) | ((refine condM_intro (fun hc => ?_) (fun hc => ?_)) <;> (try simp only [decide_eq_true_eq, decide_eq_false_iff_not, beq_iff_eq, bne_iff_ne, beq_eq_false_iff_ne, bne_eq_false_iff_eq, ne_eq, Bool.not_eq_true', Bool.not_eq_false'] at hc) <;> (first | (exfalso; omega) | (conv => whnf))) | (intro _; conv => whnf) | ((refine And.intro rfl ?_); conv => whnf) | ((refine And.intro ?_ ?_); (focus (first | omega | (simp only [rT_len, rE_len, rF_len, rC_len, rV_len, rP_len, rS_len, rR_len, rTT_len, rW_len, List.length_map, List.length_replicate] at *; omega) | exact (byteAt_lt _ _).1 | exact (byteAt_lt _ _).2 | (simp [ebStr, ebTxts, ebU8, ebExpr, ebStmt, ebVar, ebParam, ebField, ebRec, ebRoutine, ebPair, roomB]; done))); conv => whnf)
      have hset : (gl ++ [AObj.var 9 (List.map (fun t => FV.d (AV.str t)) arr)]).set 1 (AObj.var 9 ((List.map (fun t => FV.d (AV.str t)) arr).set (0 + (↑i : Int).toNat * 1) (FV.d (AV.str (List.drop (Int.toNat 0) (List.take (IntKind.i64.wrap (idxB s' c + 0)).toNat s')))))) =
          gl ++ [AObj.var 9 (List.map (fun t => FV.d (AV.str t)) (arr.set i (s'.take (s'.idxOf c))))] := by
        rw [e5]; simp [List.map_set]
      refine ⟨(s'.drop (s'.idxOf c + 1), i + 1, arr.set i (s'.take (s'.idxOf c))), ⟨by simp only; omega, by simpa using harr, by simp; omega, ?_⟩, by simp only; omega, ⟨.of_eq ?_, .same _, .same _, .same _, .same _, .of_eq (by rw [← e7]; rfl), trivial⟩, hset⟩
      · simp only
        rw [← hp, k1]
        have : i < arr.length := by omega
        rw [List.take_add_one]
        simp [List.getElem?_set, this, List.take_set_of_le]
      · show FV.d (AV.str _) = _
        rw [e6]
        simp
  rintro ⟨s', i, arr⟩ ⟨hi, harr, hset⟩
  dsimp only at hi harr hset ⊢
  subst hi
  repeat' first | (with_reducible refine W.seq ?_) | ((with_reducible refine W.region ?_); conv => whnf) | ((refine And.intro rfl ?_); conv => whnf) | ((refine And.intro ?_ ?_); (focus (first | omega | (simp only [rT_len, rE_len, rF_len, rC_len, rV_len, rP_len, rS_len, rR_len, rTT_len, rW_len, List.length_map, List.length_replicate] at *; omega) | exact (byteAt_lt _ _).1 | exact (byteAt_lt _ _).2 | (simp [ebStr, ebTxts, ebU8, ebExpr, ebStmt, ebVar, ebParam, ebField, ebRec, ebRoutine, ebPair, roomB]; done))); conv => whnf)
  refine W.ret ?_
  refine finH (gl ++ [.var 9 ((partsF c s).map fun t => .d (.str t))]) [] (.inr rfl) ?_ ?_ (by simp) ?_ ?_ ⟨rfl, rfl⟩
  · rw [← hset]; simp [List.map_set]
  · show some (FV.ms _ _ _ _) = _
    rw [e1, partsF_len]
    simp
  · intro o ho
    simp at ho
    rcases ho with rfl | rfl
    · trivial
    · simp [ObjOk, OkIn]
  · simp [OkIn]
theorem split_spec (c : UInt8) (s : Txt) (hs : s.length ≤ 4398046511104) : AC Tryz.prog 136 [.d (.str s), .d (.str [c])] gl fun r g =>
    r = .ms 9 1 0 (partsF c s).length ∧ g = gl ++ [.var 9 ((partsF c s).map fun t => .d (.str t))] := by
  have hroomB : roomB = 140737488355328 := rfl; refine ac_of ok136 rfl rfl ?_
  repeat' first | (with_reducible refine W.seq ?_) | ((with_reducible refine W.region ?_); conv => whnf)
  refine AC.mono (genSplit_spec c s hs) ?_
  rintro r g ⟨rfl, rfl⟩
  conv => whnf
  repeat' first | ((with_reducible refine W.ret ?_); conv => whnf)
  refine finH _ [] (.inr rfl) (by simp) rfl (by simp) ?_ (by simp [OkIn, Fr.get]) ⟨rfl, rfl⟩
  intro o ho
  simp at ho
  rcases ho with rfl | rfl
  · trivial
  · simp [ObjOk, OkIn]
/-! ### strings.Join -/
def sumLen : List Txt → Nat
  | [] => 0
  | x :: l => x.length + sumLen l
theorem joinF_len (sep : Txt) : ∀ l : List Txt, (joinF sep l).length = sumLen l + sep.length * (l.length - 1)
  | [] => by simp [joinF, sumLen]
  | [x] => by simp [joinF, sumLen]
  | x :: y :: l => by
    have := joinF_len sep (y :: l)
    simp only [joinF, List.length_append, this, sumLen, List.length_cons, Nat.add_sub_cancel]
    rw [Nat.mul_add, Nat.mul_one]
    omega
theorem sumLen_take : ∀ (l : List Txt) (i : Nat) (x : Txt), l[i]? = some x → sumLen (l.take (i + 1)) = sumLen (l.take i) + x.length ∧ sumLen (l.take (i + 1)) ≤ sumLen l
  | [], i, x, h => by simp at h
  | a :: l, 0, x, h => by simp at h; subst h; simp [sumLen]
  | a :: l, i + 1, x, h => by
    simp at h
    obtain ⟨h1, h2⟩ := sumLen_take l i x h
    simp only [List.take_succ_cons, sumLen, h1] at *
    omega
/-- What stands behind the first ones. -/
def behindF (sep : Txt) : List Txt → Txt
  | [] => []
  | x :: l => sep ++ x ++ behindF sep l
theorem joinF_behind (sep : Txt) : ∀ (x : Txt) (l : List Txt), joinF sep (x :: l) = x ++ behindF sep l
  | x, [] => by simp [joinF, behindF]
  | x, y :: l => by simp [joinF, behindF, joinF_behind sep y l]
theorem join_spec (l : List Txt) (sep : Txt) (hT : (joinF sep l).length ≤ roomB) (hT0 : l.length ≤ 1 ∨ 0 < (joinF sep l).length) : Ret Tryz.prog 137 [.d (aT l), .d (.str sep)] (.str (joinF sep l)) := by
  have hlen0 := joinF_len sep l
  have hw : l.length * 16 ≤ roomB → 2 ≤ l.length → IntKind.i64.wrap (↑l.length - 1) = ((l.length - 1 : Nat) : Int) := by
    intro h1 h2
    simp only [roomB] at h1
    rw [wr (by omega) (by omega)]; omega
  have hmulN : sep.length * (l.length - 1) ≤ roomB := by omega
  have hdv : l.length * 16 ≤ roomB → 2 ≤ l.length → (sep.length : Int) < IntKind.i64.wrap (Int.tdiv 9223372036854775807 (IntKind.i64.wrap (↑l.length - 1))) := by
    intro h1 h2
    rw [hw h1 h2]
    obtain ⟨k, hk⟩ : ∃ k, l.length = k + 1 := ⟨l.length - 1, by omega⟩
    have hk1 : l.length - 1 = k := by omega
    rw [hk1] at hmulN ⊢
    have e1 : Int.tdiv 9223372036854775807 (k : Int) = 9223372036854775807 / (k : Int) := Int.tdiv_eq_ediv_of_nonneg (by decide)
    rw [e1]
    have h3 : (sep.length : Int) + 1 ≤ 9223372036854775807 / (k : Int) := by
      rw [Int.le_ediv_iff_mul_le (by omega)]
      have h4 : (sep.length + 1) * k = sep.length * k + k := by rw [Nat.add_mul, Nat.one_mul]
      have h5 : (sep.length + 1) * k ≤ 9223372036854775807 := by rw [h4]; simp only [roomB] at h1 hmulN; omega
      have := Int.ofNat_le.2 h5
      simpa using this
    have h6 : 9223372036854775807 / (k : Int) ≤ 9223372036854775807 := Int.ediv_le_self _ (by decide)
    rw [wr (by omega) h6]
    omega
  have hml : l.length * 16 ≤ roomB → 2 ≤ l.length → IntKind.i64.wrap (0 + IntKind.i64.wrap (↑sep.length * IntKind.i64.wrap (↑l.length - 1))) = ((sep.length * (l.length - 1) : Nat) : Int) := by
    intro h1 h2
    have h7 : (sep.length : Int) * ((l.length - 1 : Nat) : Int) = ((sep.length * (l.length - 1) : Nat) : Int) := by simp
    rw [hw h1 h2, h7]
    generalize sep.length * (l.length - 1) = m at hmulN
    have hm : m ≤ 140737488355328 := hmulN
    clear hdv hw hlen0
    rw [wr (n := (m : Int)) (by omega) (by omega), wr (by omega) (by omega)]
    omega
  have hroomB : roomB = 140737488355328 := rfl; refine ac_of ok137 rfl rfl ?_
  repeat' first | (with_reducible refine W.seq ?_) | ((with_reducible refine W.region ?_); conv => whnf) | ((with_reducible refine W.cond ?_); conv => whnf) | (with_reducible refine W.block ?_) | ((with_reducible refine W.skip ?_); conv => whnf) | ((with_reducible refine W.ret ?_); conv => whnf) | (refine finD (.inr rfl) rfl rfl ⟨?_, rfl⟩) | ((refine condM_intro (fun hc => ?_) (fun hc => ?_)) <;> (try simp only [decide_eq_true_eq, decide_eq_false_iff_not, beq_iff_eq, bne_iff_ne, beq_eq_false_iff_ne, bne_eq_false_iff_eq, ne_eq, Bool.not_eq_true', Bool.not_eq_false'] at hc) <;> (first | (exfalso; omega) | (conv => whnf))) | (intro row hrow; (first | (obtain rfl := spaceCells_at hrow) | (obtain ⟨x, hx, rfl⟩ := rE_at hrow) | (obtain ⟨x, hx, rfl⟩ := map_at hrow) | (obtain ⟨x, hx, rfl⟩ := rS_at hrow) | (obtain ⟨x, hx, rfl⟩ := rR_at hrow)); conv => whnf) | (intro hlen; simp only [rT_len, rE_len, rF_len, rC_len, rV_len, rP_len, rS_len, rR_len, rTT_len, rW_len] at hlen ⊢; conv => whnf) | (intro _; conv => whnf) | ((refine And.intro rfl ?_); conv => whnf) | ((refine And.intro ?_ ?_); (focus (first | omega | (simp only [rT_len, rE_len, rF_len, rC_len, rV_len, rP_len, rS_len, rR_len, rTT_len, rW_len, List.length_map, List.length_replicate] at *; omega) | exact (byteAt_lt _ _).1 | exact (byteAt_lt _ _).2 | (simp [ebStr, ebTxts, ebU8, ebExpr, ebStmt, ebVar, ebParam, ebField, ebRec, ebRoutine, ebPair, roomB]; done))); conv => whnf)
  · have : l = [] := List.eq_nil_of_length_eq_zero (by omega)
    subst this; rfl
  · obtain ⟨y, rfl⟩ : ∃ y, l = [y] := List.length_eq_one_iff.1 (by omega)
    simp at hx; subst hx; rfl
  all_goals (
    refine W.cutB (σ := Unit) (fun _ => [(0, .d (aT l)), (1, .d (.str sep)), (5, .d (.int .i64 (joinF sep l).length))]) (fun _ => gl) (fun _ => True) ?_ ?_
    · refine W.loop (σ := Nat) (fun i => [(0, .d (aT l)), (1, .d (.str sep)), (5, .d (.int .i64 (sep.length * (l.length - 1) + sumLen (l.take i) : Nat))), (39, .d (aT l)), (40, .d (.int .i64 l.length)), (41, .d (.int .i64 i))]) (fun _ => gl) (fun i => i ≤ l.length) (fun i => l.length - i) 0 (Nat.zero_le _) ?_ rfl ?_
      · refine ⟨.same _, .same _, .of_eq ?_, .same _, .same _, .same _, trivial⟩
        show FV.d (AV.int _ _) = _
        first
          | (rw [hml (by omega) (by omega)]; simp [sumLen])
          | (have h0 : sep.length = 0 := by omega
             simp [h0, sumLen])
      intro i hi
      rcases Nat.lt_or_ge i l.length with hlt | hge
      · obtain ⟨x, hx⟩ := at_lt hlt
        have hrx := rT_some hx
        obtain ⟨k1, k2⟩ := sumLen_take l i x hx
        generalize hsd : sep.length * (l.length - 1) = sd at *
        have e1 : IntKind.i64.wrap (9223372036854775807 - ↑(sd + sumLen (l.take i))) = 9223372036854775807 - ↑(sd + sumLen (l.take i)) := wr (by omega) (by omega)
        have e2 : IntKind.i64.wrap (↑(sd + sumLen (l.take i)) + ↑x.length) = ((sd + sumLen (l.take (i + 1)) : Nat) : Int) := by rw [wr (by omega) (by omega)]; omega
        have e3 : IntKind.i64.wrap (↑i + 1) = ((i + 1 : Nat) : Int) := wr (by omega) (by omega)
        repeat' first | (with_reducible refine W.seq ?_) | ((with_reducible refine W.region ?_); conv => whnf) | ((with_reducible refine W.cond ?_); conv => whnf) | (with_reducible refine W.block ?_) | ((with_reducible refine W.skip ?_); conv => whnf) | ((refine condM_intro (fun hc => ?_) (fun hc => ?_)) <;> (try simp only [decide_eq_true_eq, decide_eq_false_iff_not, beq_iff_eq, bne_iff_ne, beq_eq_false_iff_ne, bne_eq_false_iff_eq, ne_eq, Bool.not_eq_true', Bool.not_eq_false'] at hc) <;> (first | (exfalso; omega) | (conv => whnf))) | ((refine fun row hrow => ?_); revert row; (apply row_same); (focus assumption); conv => whnf) | (intro _; conv => whnf) | ((refine And.intro rfl ?_); conv => whnf) | ((refine And.intro ?_ ?_); (focus (first | omega | (simp only [rT_len, rE_len, rF_len, rC_len, rV_len, rP_len, rS_len, rR_len, rTT_len, rW_len, List.length_map, List.length_replicate] at *; omega) | exact (byteAt_lt _ _).1 | exact (byteAt_lt _ _).2 | (simp [ebStr, ebTxts, ebU8, ebExpr, ebStmt, ebVar, ebParam, ebField, ebRec, ebRoutine, ebPair, roomB]; done))); conv => whnf)
        exact ⟨i + 1, hlt, by omega, ⟨.same _, .same _, .of_eq (by rw [← e2]; rfl), .same _, .same _, .of_eq (by rw [← e3]; rfl), trivial⟩, rfl⟩
      · repeat' first | (with_reducible refine W.seq ?_) | ((with_reducible refine W.region ?_); conv => whnf) | ((with_reducible refine W.cond ?_); conv => whnf) | ((with_reducible refine W.exit ?_); conv => whnf) | ((refine condM_intro (fun hc => ?_) (fun hc => ?_)) <;> (try simp only [decide_eq_true_eq, decide_eq_false_iff_not, beq_iff_eq, bne_iff_ne, beq_eq_false_iff_ne, bne_eq_false_iff_eq, ne_eq, Bool.not_eq_true', Bool.not_eq_false'] at hc) <;> (first | (exfalso; omega) | (conv => whnf)))
        have hil : i = l.length := by omega
        subst hil
        rw [List.take_length]
        exact ⟨(), trivial, ⟨.same _, .same _, .of_eq (by rw [hlen0, Nat.add_comm (sumLen l)]; rfl), trivial⟩, rfl⟩
    rintro _ _
    obtain ⟨y, l', rfl⟩ : ∃ y l', l = y :: l' := by
      cases l with
      | nil => exfalso; simp at *
      | cons y l' => exact ⟨y, l', rfl⟩
    have hb := joinF_behind sep y l'
    have hrow0 : (rT (y :: l'))[(0 : Int).toNat]? = some (sT y) := rfl
    have htail : List.drop (Int.toNat 1) (List.take (↑(y :: l').length : Int).toNat (rT (y :: l'))) = rT l' := by
      rw [Int.toNat_natCast, List.take_of_length_le (by simp [rT])]
      rfl
    have htaill : (List.drop (Int.toNat 1) (List.take (↑(y :: l').length : Int).toNat (rT (y :: l')))).length = l'.length := by rw [htail, rT_len]
    have hTp : 0 < (joinF sep (y :: l')).length := by
      rcases hT0 with h | h
      · omega
      · exact h
    repeat' first | (with_reducible refine W.seq ?_) | ((with_reducible refine W.region ?_); conv => whnf)
    refine useB0 (grow_fresh _ hTp hT) (by simp [allL, FV.all]) (by simp [FV.all, allL]) rfl rfl (by simp) ?_
    conv => whnf
    repeat' first | (with_reducible refine W.seq ?_) | ((with_reducible refine W.region ?_); conv => whnf) | ((refine fun row hrow => ?_); revert row; (apply row_same); (focus assumption); conv => whnf) | ((refine And.intro rfl ?_); conv => whnf) | ((refine And.intro ?_ ?_); (focus (first | omega | (simp only [rT_len, rE_len, rF_len, rC_len, rV_len, rP_len, rS_len, rR_len, rTT_len, rW_len, List.length_map, List.length_replicate] at *; omega) | exact (byteAt_lt _ _).1 | exact (byteAt_lt _ _).2 | (simp [ebStr, ebTxts, ebU8, ebExpr, ebStmt, ebVar, ebParam, ebField, ebRec, ebRoutine, ebPair, roomB]; done))); conv => whnf)
    refine useB (l := 1) (b := 2) (s := []) (ws_used [] y (by rw [hb] at hT; simp at hT ⊢; omega)) (by simp [allL, FV.all]) (by simp [FV.all, allL]) rfl rfl rfl (by simp) (by simp) (by simp) ?_
    conv => whnf
    repeat' first | (with_reducible refine W.seq ?_) | ((with_reducible refine W.region ?_); conv => whnf) | (with_reducible refine W.block ?_) | (intro hlen; simp only [rT_len, rE_len, rF_len, rC_len, rV_len, rP_len, rS_len, rR_len, rTT_len, rW_len] at hlen ⊢; conv => whnf) | ((refine And.intro rfl ?_); conv => whnf) | ((refine And.intro ?_ ?_); (focus (first | omega | (simp only [rT_len, rE_len, rF_len, rC_len, rV_len, rP_len, rS_len, rR_len, rTT_len, rW_len, List.length_map, List.length_replicate] at *; omega) | exact (byteAt_lt _ _).1 | exact (byteAt_lt _ _).2 | (simp [ebStr, ebTxts, ebU8, ebExpr, ebStmt, ebVar, ebParam, ebField, ebRec, ebRoutine, ebPair, roomB]; done))); conv => whnf)
    rw [htaill, htail]
    generalize hTT : joinF sep (y :: l') = T at *
    refine W.cutB (σ := Unit) (fun _ => [(8, .vp 1 0)]) (fun _ => [glo, bldV 1 2 T, .buf tU8 T.length]) (fun _ => True) ?_ ?_
    · refine W.loop (σ := Nat × Txt) (fun x => [(1, .d (.str sep)), (8, .vp 1 0), (63, .d (aT l')), (64, .d (.int .i64 l'.length)), (65, .d (.int .i64 x.1))]) (fun x => [glo, bldV 1 2 x.2, .buf tU8 x.2.length])
        (fun x => x.1 ≤ l'.length ∧ x.2 ++ behindF sep (l'.drop x.1) = T) (fun x => l'.length - x.1) (0, y) ⟨Nat.zero_le _, by simp [hb]⟩ ⟨.same _, .same _, .same _, .same _, .same _, trivial⟩ (by simp) ?_
      rintro ⟨i, o⟩ ⟨hi, ho⟩
      dsimp only at hi ho ⊢
      rcases Nat.lt_or_ge i l'.length with hlt | hge
      · obtain ⟨x, hx⟩ := at_lt hlt
        have hrx := rT_some hx
        rw [drop_at hx] at ho
        simp only [behindF] at ho
        have hlo : o.length + sep.length + x.length ≤ T.length := by rw [← ho]; simp; omega
        repeat' first | (with_reducible refine W.seq ?_) | ((with_reducible refine W.region ?_); conv => whnf) | ((with_reducible refine W.cond ?_); conv => whnf) | (with_reducible refine W.block ?_) | ((with_reducible refine W.skip ?_); conv => whnf) | ((refine condM_intro (fun hc => ?_) (fun hc => ?_)) <;> (try simp only [decide_eq_true_eq, decide_eq_false_iff_not, beq_iff_eq, bne_iff_ne, beq_eq_false_iff_ne, bne_eq_false_iff_eq, ne_eq, Bool.not_eq_true', Bool.not_eq_false'] at hc) <;> (first | (exfalso; omega) | (conv => whnf))) | ((refine fun row hrow => ?_); revert row; (apply row_same); (focus assumption); conv => whnf) | ((refine And.intro rfl ?_); conv => whnf) | ((refine And.intro ?_ ?_); (focus (first | omega | (simp only [rT_len, rE_len, rF_len, rC_len, rV_len, rP_len, rS_len, rR_len, rTT_len, rW_len, List.length_map, List.length_replicate] at *; omega) | exact (byteAt_lt _ _).1 | exact (byteAt_lt _ _).2 | (simp [ebStr, ebTxts, ebU8, ebExpr, ebStmt, ebVar, ebParam, ebField, ebRec, ebRoutine, ebPair, roomB]; done))); conv => whnf)
        refine useB (l := 1) (b := 2) (s := o) (ws_used o sep (by omega)) (by simp [allL, FV.all]) (by simp [FV.all, allL]) rfl rfl rfl (by simp) (by simp) (by simp) ?_
        conv => whnf
        repeat' first | ((with_reducible refine W.region ?_); conv => whnf)
        refine useB (l := 1) (b := 2) (s := o ++ sep) (ws_used (o ++ sep) x (by simp; omega)) (by simp [allL, FV.all]) (by simp [FV.all, allL]) rfl (by simp) (by simp) (by simp) (by simp) (by simp) ?_
        conv => whnf
        repeat' first | ((with_reducible refine W.region ?_); conv => whnf)
        have e3 : IntKind.i64.wrap (↑i + 1) = ((i + 1 : Nat) : Int) := wr (by omega) (by omega)
        exact ⟨(i + 1, o ++ sep ++ x), ⟨hlt, by rw [← ho]; simp⟩, by simp only; omega, ⟨.same _, .same _, .same _, .same _, .of_eq (by rw [← e3]; rfl), trivial⟩, by simp⟩
      · rw [drop_end hge] at ho
        simp only [behindF, List.append_nil] at ho
        subst ho
        repeat' first | (with_reducible refine W.seq ?_) | ((with_reducible refine W.region ?_); conv => whnf) | ((with_reducible refine W.cond ?_); conv => whnf) | ((with_reducible refine W.exit ?_); conv => whnf) | ((refine condM_intro (fun hc => ?_) (fun hc => ?_)) <;> (try simp only [decide_eq_true_eq, decide_eq_false_iff_not, beq_iff_eq, bne_iff_ne, beq_eq_false_iff_ne, bne_eq_false_iff_eq, ne_eq, Bool.not_eq_true', Bool.not_eq_false'] at hc) <;> (first | (exfalso; omega) | (conv => whnf)))
        exact ⟨(), trivial, ⟨.same _, trivial⟩, rfl⟩
    rintro _ _
    repeat' first | (with_reducible refine W.seq ?_) | ((with_reducible refine W.region ?_); conv => whnf)
    refine useB (l := 1) (b := 2) (s := T) (str_used T) (by simp [allL, FV.all]) (by simp [FV.all, allL]) rfl rfl rfl (by simp) (by simp) (by simp) ?_
    conv => whnf
    repeat' first | ((with_reducible refine W.ret ?_); conv => whnf) | (refine finD (.inr rfl) rfl rfl ⟨?_, rfl⟩) | (with_reducible rfl)
    skip)
end Go.Pg
set_option maxRecDepth 100000
set_option linter.all false
namespace Go.Pg
open Go.Proofs
mutual
theorem all_ok {p : Nat → Prop} {k : Nat} (h : ∀ l, p l → l < k) : ∀ {x : FV}, x.all p → OkIn k x
  | .own _ _ l, hx => by simp only [FV.all] at hx; simp only [OkIn]; exact h l hx
  | .vp l _, hx => by simp only [FV.all] at hx; simp only [OkIn]; exact h l hx
  | .ep l _, hx => by simp only [FV.all] at hx; simp only [OkIn]; exact h l hx
  | .map l, hx => by simp only [FV.all] at hx; simp only [OkIn]; exact h l hx
  | .ms _ l _ _, hx => by simp only [FV.all] at hx; simp only [OkIn]; exact h l hx
  | .sd _ _ l, hx => by simp only [FV.all] at hx; simp only [OkIn]; exact h l hx
  | .raw _ l _, hx => by simp only [FV.all] at hx; simp only [OkIn]; exact h l hx
  | .clo _ a b, hx => by simp only [FV.all] at hx; simp only [OkIn]; exact ⟨allL_ok h hx.1, allL_ok h hx.2⟩
  | .agg cs, hx => by simp only [FV.all] at hx; simp only [OkIn]; exact allL_ok h hx
  | .tup cs, hx => by simp only [FV.all] at hx; simp only [OkIn]; exact allL_ok h hx
  | .d _, _ => by simp only [OkIn]
  | .nil _, _ => by simp only [OkIn]
  | .cp _, _ => by simp only [OkIn]
  | .nilp, _ => by simp only [OkIn]
  | .nilmap, _ => by simp only [OkIn]
  | .any, _ => by simp only [OkIn]
theorem allL_ok {p : Nat → Prop} {k : Nat} (h : ∀ l, p l → l < k) : ∀ {xs : List FV}, allL p xs → ∀ x ∈ xs, OkIn k x
  | [], _, x, hx => by simp at hx
  | y :: r, hy, x, hx => by
    simp only [allL] at hy
    rcases List.mem_cons.1 hx with e | hx
    · rw [e]; exact all_ok h hy.1
    · exact allL_ok h hy.2 x hx
end
section
variable {σ : Type}
def mapPartsL (f : σ → Txt → σ × Txt) : σ → List Txt → σ × List Txt
  | st, [] => (st, [])
  | st, p :: ps =>
    let r := if p = [] then (st, p) else f st p
    let q := mapPartsL f r.1 ps
    (q.1, r.2 :: q.2)
def mapText (f : σ → Txt → σ × Txt) (st : σ) (s : Txt) : σ × Txt :=
  if s = [] then (st, []) else
    let q := mapPartsL f st (partsF 36 s)
    (q.1, joinF [36] q.2)
def mapL {α β : Type} (g : σ → α → σ × β) : σ → List α → σ × List β
  | st, [] => (st, [])
  | st, x :: l =>
    let r := g st x
    let q := mapL g r.1 l
    (q.1, r.2 :: q.2)
theorem mapL_len {α β : Type} (g : σ → α → σ × β) : ∀ (st : σ) (l : List α), (mapL g st l).2.length = l.length
  | st, [] => rfl
  | st, x :: l => by simp [mapL, mapL_len g _ l]
theorem mapPartsL_len (f : σ → Txt → σ × Txt) : ∀ (st : σ) (l : List Txt), (mapPartsL f st l).2.length = l.length
  | st, [] => rfl
  | st, p :: ps => by simp [mapPartsL, mapPartsL_len f _ ps]
/-- What a walk may remember: four objects, of these and no others. -/
structure Fam (o1 o2 o3 o4 : σ → AObj) : Prop where
  all : ∀ st, (o1 st).all (· < 5) ∧ (o2 st).all (· < 5) ∧ (o3 st).all (· < 5) ∧ (o4 st).all (· < 5)
  ok : ∀ st n, 5 ≤ n → ObjOk n (o1 st) ∧ ObjOk n (o2 st) ∧ ObjOk n (o3 st) ∧ ObjOk n (o4 st)
abbrev GG (o1 o2 o3 o4 : σ → AObj) (st : σ) : AHeap := [glo, o1 st, o2 st, o3 st, o4 st]
def RetS (o1 o2 o3 o4 : σ → AObj) (f : FuncId) (args : List FV) (st : σ) (x : AV) (st' : σ) : Prop := AC Tryz.prog f args (GG o1 o2 o3 o4 st) fun r g => r = .d x ∧ g = GG o1 o2 o3 o4 st'
theorem AObj.ren_same {ρ : Nat → Nat} {o : AObj} {p : Nat → Prop} (h : ∀ l, p l → ρ l = l) (ho : o.all p) : o.ren ρ = o := by
  have := AObj.ren_back (p := p) (ρ := id) (σ := ρ) (fun l hl => h l hl) ho
  have e : o.ren id = o := by
    cases o with
    | var t cs => simp [AObj.ren, renL_id]
    | map es => simp [AObj.ren, FV.ren_id]
    | _ => rfl
  rw [e] at this
  exact this
theorem renTo5 {n : Nat} : ∀ l, l < 5 → renTo n [0, 1, 2, 3, 4] l = l
  | 0, _ => rfl
  | 1, _ => rfl
  | 2, _ => rfl
  | 3, _ => rfl
  | 4, _ => rfl
  | l + 5, h => by omega
variable {o1 o2 o3 o4 : σ → AObj}
theorem AC.useS (F : Fam o1 o2 o3 o4) {f : FuncId} {args : List FV} {st st' : σ} {x : AV} {rest : AHeap} {Q : FV → AHeap → Prop} (h : RetS o1 o2 o3 o4 f args st x st') (inA : allL (· < 5) args)
    (hq : Q (.d x) (glo :: o1 st' :: o2 st' :: o3 st' :: o4 st' :: rest)) : AC Tryz.prog f args (glo :: o1 st :: o2 st :: o3 st :: o4 st :: rest) Q := by
  obtain ⟨a1, a2, a3, a4⟩ := F.all st
  obtain ⟨b1, b2, b3, b4⟩ := F.all st'
  refine AC.lift [0, 1, 2, 3, 4] h rfl (by simp) ?_ ?_ inA ?_ ?_
  · intro i h1 h2
    match i, h1 with
    | 0, _ => rfl
    | 1, _ => simp [AObj.ren_same renTo5 a1]
    | 2, _ => simp [AObj.ren_same renTo5 a2]
    | 3, _ => simp [AObj.ren_same renTo5 a3]
    | 4, _ => simp [AObj.ren_same renTo5 a4]
  · have := renL_congr (p := (· < 5)) (ρ := renTo (glo :: o1 st :: o2 st :: o3 st :: o4 st :: rest).length [0, 1, 2, 3, 4]) (σ := id) renTo5 inA
    rw [this, renL_id]
  · intro o ho
    simp only [List.mem_cons, List.not_mem_nil, or_false] at ho
    rcases ho with rfl | rfl | rfl | rfl | rfl
    · trivial
    · exact a1
    · exact a2
    · exact a3
    · exact a4
  · rintro r g _ ⟨rfl, rfl⟩
    have e : mergeH (glo :: o1 st :: o2 st :: o3 st :: o4 st :: rest) [0, 1, 2, 3, 4] (GG o1 o2 o3 o4 st') = glo :: o1 st' :: o2 st' :: o3 st' :: o4 st' :: rest := by
      simp [mergeH, putAll, AObj.ren_same renTo5 b1, AObj.ren_same renTo5 b2, AObj.ren_same renTo5 b3, AObj.ren_same renTo5 b4]
      rfl
    rw [e]
    exact hq
theorem finS (F : Fam o1 o2 o3 o4) {st st' : σ} {x : AV} {fr : Fr} {hp : AHeap} {rs : List RRes} {e : AExit} {junk : AHeap} (he : e = .normal ∨ e = .ret) (hh : hp = glo :: o1 st' :: o2 st' :: o3 st' :: o4 st' :: junk) (h : resultOf fr hp rs = some (.d x)) :
    retQ (GG o1 o2 o3 o4 st) rs (fun r g => r = .d x ∧ g = GG o1 o2 o3 o4 st') e fr hp := by
  obtain ⟨b1, b2, b3, b4⟩ := F.ok st' 5 (Nat.le_refl _)
  refine finH (GG o1 o2 o3 o4 st') junk he hh h (by simp) ?_ (by simp [OkIn]) ⟨rfl, rfl⟩
  intro o ho
  simp only [List.mem_cons, List.not_mem_nil, or_false] at ho
  rcases ho with rfl | rfl | rfl | rfl | rfl
  · trivial
  · exact b1
  · exact b2
  · exact b3
  · exact b4
omit o1 o2 o3 o4 in
theorem useSplit {c : UInt8} {s : Txt} {hp : AHeap} {Q : FV → AHeap → Prop} (hs : s.length ≤ 4398046511104) (h0 : hp[0]? = some glo) (hq : Q (.ms 9 hp.length 0 (partsF c s).length) (hp ++ [.var 9 ((partsF c s).map fun t => .d (.str t))])) :
    AC Tryz.prog 136 [.d (.str s), .d (.str [c])] hp Q :=
  lift_gl (split_spec c s hs) (by simp [allL, FV.all]) h0 fun r g _ hr => by
    obtain ⟨rfl, rfl⟩ := hr
    have e1 : renL (renTo hp.length [0]) ((partsF c s).map fun t => FV.d (.str t)) = (partsF c s).map fun t => FV.d (.str t) := by
      have := ren_ds (renTo hp.length [0]) ((partsF c s).map fun t => AV.str t)
      simpa [Function.comp_def] using this
    have e2 : mergeH hp [0] (gl ++ [.var 9 ((partsF c s).map fun t => .d (.str t))]) = hp ++ [.var 9 ((partsF c s).map fun t => .d (.str t))] := by simp [mergeH, putAll, AObj.ren, set_same h0, e1]
    rw [e2]
    simpa [FV.ren, renTo] using hq
omit o1 o2 o3 o4 in
theorem W.freezeS {N : Nat} {mt : List Nat} {rc : RCode} {Q : AExit → Fr → AHeap → Prop} {fr : Fr} {hp : AHeap} (l d : Nat) {t : TypeId} {arr : List Txt} {n : Nat} (hl : hp[l]? = some (.var t (arr.map fun t => .d (.str t)))) (hd : fr.get d = .ms 9 l 0 n) (hn : arr.length = n)
    (h : W Tryz.prog mt N rc Q [(d, .d (aT arr))] (hp.set l .dead)) : W Tryz.prog mt N rc Q fr hp := by
  refine W.freeze l 9 (cs := arr.map fun t => .d (.str t)) (ds := arr.map fun t => .str t) hl (cells_strs arr) (by kernel_rfl) ?_
  refine W.le ?_ h
  refine ⟨.of_eq ?_, trivial⟩
  rw [get_frzFr, hd]
  have hb : Nat.ble (0 + n) (arr.map fun t => AV.str t).length = true := by simp [hn]
  simp only [frzV, hb, Nat.beq_refl]
  simp [rows1, aT, rT, hn, sT, Function.comp_def]
  exact List.take_of_length_le (by simp [hn])
variable (F : Fam o1 o2 o3 o4) (f : σ → Txt → σ × Txt) (by_ : FuncId) (cap : List FV) (hcap : allL (· < 5) cap)
  (okp ok : Txt → Prop) (hby : ∀ st s, okp s → RetS o1 o2 o3 o4 by_ ([.d (.str s)] ++ cap) st (.str (f st s).2) (f st s).1)
  (hok : ∀ s, ok s → s.length ≤ 1099511627776 ∧ (∀ p ∈ partsF 36 s, p ≠ [] → okp p) ∧ ∀ st, (mapText f st s).2.length ≤ roomB)
include F hcap hby hok
theorem parts_spec (st : σ) (s : Txt) (hs' : ok s) : RetS o1 o2 o3 o4 95 [.agg [.clo by_ [] cap], .d (.str s)] st (.str (mapText f st s).2) (mapText f st s).1 := by
  have hroomB : roomB = 140737488355328 := rfl; refine ac_of ok95 rfl rfl ?_
  obtain ⟨hs, hokp, hT⟩ := hok s hs'
  replace hT := hT st
  repeat' first | (with_reducible refine W.seq ?_) | ((with_reducible refine W.region ?_); conv => whnf) | ((with_reducible refine W.cond ?_); conv => whnf) | ((with_reducible refine W.skip ?_); conv => whnf) | ((with_reducible refine W.ret ?_); conv => whnf) | ((refine condM_intro (fun hc => ?_) (fun hc => ?_)) <;> (try simp only [decide_eq_true_eq, decide_eq_false_iff_not, beq_iff_eq, bne_iff_ne, beq_eq_false_iff_ne, bne_eq_false_iff_eq, ne_eq, Bool.not_eq_true', Bool.not_eq_false'] at hc) <;> (first | (exfalso; omega) | (conv => whnf)))
  · have e1 : mapText f st s = (st, []) := by simp [mapText, hc]
    rw [e1]
    exact finS F (.inr rfl) rfl rfl
  have e1 : mapText f st s = ((mapPartsL f st (partsF 36 s)).1, joinF [36] (mapPartsL f st (partsF 36 s)).2) := by simp [mapText, hc]
  refine useSplit (by omega) rfl ?_
  conv => whnf
  repeat' first | (with_reducible refine W.seq ?_) | ((with_reducible refine W.region ?_); conv => whnf) | (with_reducible refine W.block ?_) | ((refine And.intro rfl ?_); conv => whnf)
  generalize hps : partsF 36 s = ps at *
  have hcount : ps.length ≤ 1099511627777 := by
    rw [← hps, partsF_len]
    have : s.count 36 ≤ s.length := List.count_le_length
    omega
  refine W.cutB (σ := Unit) (fun _ => [(2, .vp 5 0), (5, .ms 9 6 0 ps.length)]) (fun _ => glo :: o1 (mapPartsL f st ps).1 :: o2 (mapPartsL f st ps).1 :: o3 (mapPartsL f st ps).1 :: o4 (mapPartsL f st ps).1 :: [.var 76 [.clo by_ [] cap], .var 9 ((mapPartsL f st ps).2.map fun t => .d (.str t))]) (fun _ => True) ?_ ?_
  · refine W.loop (σ := Nat × σ × List Txt) (fun x => [(2, .vp 5 0), (5, .ms 9 6 0 ps.length), (12, .ms 9 6 0 ps.length), (13, .d (.int .i64 ps.length)), (14, .d (.int .i64 x.1))])
      (fun x => glo :: o1 x.2.1 :: o2 x.2.1 :: o3 x.2.1 :: o4 x.2.1 :: [.var 76 [.clo by_ [] cap], .var 9 (x.2.2.map fun t => .d (.str t))])
      (fun x => x.1 ≤ ps.length ∧ x.2.2.length = ps.length ∧ x.2.2.drop x.1 = ps.drop x.1 ∧ mapPartsL f st ps = ((mapPartsL f x.2.1 (ps.drop x.1)).1, x.2.2.take x.1 ++ (mapPartsL f x.2.1 (ps.drop x.1)).2)) (fun x => ps.length - x.1) (0, st, ps)
      ⟨Nat.zero_le _, rfl, rfl, by simp⟩ ⟨.same _, .same _, .same _, .same _, .same _, trivial⟩ rfl ?_
    rintro ⟨i, sti, arr⟩ ⟨hi, harr, hdrop, hmap⟩
    dsimp only at hi harr hdrop hmap ⊢
    rcases Nat.lt_or_ge i ps.length with hlt | hge
    · obtain ⟨p, hp⟩ := at_lt hlt
      have hap : arr[i]? = some p := by
        have : (arr.drop i)[0]? = (ps.drop i)[0]? := by rw [hdrop]
        simpa [hp] using this
      have hrp : (arr.map fun t => FV.d (.str t))[0 + (↑i : Int).toNat * 1]? = some (FV.d (.str p)) := by simp [hap]
      rw [drop_at hp] at hmap
      simp only [mapPartsL] at hmap
      have e3 : IntKind.i64.wrap (↑i + 1) = ((i + 1 : Nat) : Int) := wr (by omega) (by omega)
      repeat' first | (with_reducible refine W.seq ?_) | ((with_reducible refine W.region ?_); conv => whnf) | ((with_reducible refine W.cond ?_); conv => whnf) | (with_reducible refine W.block ?_) | ((with_reducible refine W.skip ?_); conv => whnf) | ((refine condM_intro (fun hc => ?_) (fun hc => ?_)) <;> (try simp only [decide_eq_true_eq, decide_eq_false_iff_not, beq_iff_eq, bne_iff_ne, beq_eq_false_iff_ne, bne_eq_false_iff_eq, ne_eq, Bool.not_eq_true', Bool.not_eq_false'] at hc) <;> (first | (exfalso; omega) | (conv => whnf))) | ((refine fun row hrow => ?_); revert row; (apply row_same); (focus assumption); conv => whnf) | ((refine And.intro rfl ?_); conv => whnf) | ((refine And.intro ?_ ?_); (focus (first | omega | (simp only [rT_len, rE_len, rF_len, rC_len, rV_len, rP_len, rS_len, rR_len, rTT_len, rW_len, List.length_map, List.length_replicate] at *; omega) | exact (byteAt_lt _ _).1 | exact (byteAt_lt _ _).2 | (simp [ebStr, ebTxts, ebU8, ebExpr, ebStmt, ebVar, ebParam, ebField, ebRec, ebRoutine, ebPair, roomB]; done))); conv => whnf)
      · simp only [forceL_eq]
        rw [if_neg hc] at hmap
        refine AC.useS F (hby sti p (hokp p (List.mem_of_getElem? hp) (by simpa using hc))) (by simp only [List.cons_append, List.nil_append, allL, FV.all, true_and]; exact hcap) ?_
        conv => whnf
        repeat' first | ((with_reducible refine W.region ?_); conv => whnf) | ((refine And.intro rfl ?_); conv => whnf) | ((refine And.intro ?_ ?_); (focus (first | omega | (simp only [rT_len, rE_len, rF_len, rC_len, rV_len, rP_len, rS_len, rR_len, rTT_len, rW_len, List.length_map, List.length_replicate] at *; omega) | exact (byteAt_lt _ _).1 | exact (byteAt_lt _ _).2 | (simp [ebStr, ebTxts, ebU8, ebExpr, ebStmt, ebVar, ebParam, ebField, ebRec, ebRoutine, ebPair, roomB]; done))); conv => whnf)
        refine ⟨(i + 1, (f sti p).1, arr.set i (f sti p).2), ⟨by simp only; omega, by simpa using harr, ?_, ?_⟩, by simp only; omega, ⟨.same _, .same _, .same _, .same _, .of_eq (by rw [← e3]; rfl), trivial⟩, by simp [List.map_set]⟩
        · simp only
          rw [List.drop_set_of_lt (by omega)]
          have := congrArg (List.drop 1) hdrop
          simpa [List.drop_drop, Nat.add_comm] using this
        · simp only
          rw [hmap]
          have hia : i < arr.length := by omega
          rw [List.take_add_one]
          simp [List.getElem?_set, hia, List.take_set_of_le]
      · rw [if_pos hc] at hmap
        refine ⟨(i + 1, sti, arr), ⟨by simp only; omega, harr, ?_, ?_⟩, by simp only; omega, ⟨.same _, .same _, .same _, .same _, .of_eq (by rw [← e3]; rfl), trivial⟩, rfl⟩
        · have := congrArg (List.drop 1) hdrop
          simpa [List.drop_drop, Nat.add_comm] using this
        · simp only
          rw [hmap]
          have hia : i < arr.length := by omega
          rw [List.take_add_one, hap]
          simp
    · rw [drop_end hge] at hmap
      simp only [mapPartsL, List.append_nil] at hmap
      rw [List.take_of_length_le (by omega)] at hmap
      repeat' first | (with_reducible refine W.seq ?_) | ((with_reducible refine W.region ?_); conv => whnf) | ((with_reducible refine W.cond ?_); conv => whnf) | ((with_reducible refine W.exit ?_); conv => whnf) | ((refine condM_intro (fun hc => ?_) (fun hc => ?_)) <;> (try simp only [decide_eq_true_eq, decide_eq_false_iff_not, beq_iff_eq, bne_iff_ne, beq_eq_false_iff_ne, bne_eq_false_iff_eq, ne_eq, Bool.not_eq_true', Bool.not_eq_false'] at hc) <;> (first | (exfalso; omega) | (conv => whnf)))
      rw [hmap]
      exact ⟨(), trivial, ⟨.same _, .same _, trivial⟩, rfl⟩
  rintro _ _
  refine W.freezeS 6 5 (arr := (mapPartsL f st ps).2) rfl rfl (mapPartsL_len f st ps) ?_
  repeat' first | (with_reducible refine W.seq ?_) | ((with_reducible refine W.region ?_); conv => whnf)
  rw [e1] at hT
  refine AC.use (join_spec _ [36] hT (by rw [joinF_len]; simp; omega)) (by simp [allL, FV.all]) rfl ?_
  conv => whnf
  repeat' first | ((with_reducible refine W.ret ?_); conv => whnf)
  rw [e1]
  exact finS F (.inr rfl) rfl rfl
omit F hcap hby hok in
theorem renTo6 {n : Nat} : ∀ l, l < 6 → renTo n [0, 1, 2, 3, 4, 5] l = l
  | 0, _ => rfl
  | 1, _ => rfl
  | 2, _ => rfl
  | 3, _ => rfl
  | 4, _ => rfl
  | 5, _ => rfl
  | l + 6, h => by omega
abbrev M5 (by_ : FuncId) (cap : List FV) : AObj := .var 76 [.clo by_ [] cap]
omit F hcap hby hok in
theorem AObj.all_mono {p q : Nat → Prop} (h : ∀ l, p l → q l) {o : AObj} (ho : o.all p) : o.all q := by
  cases o with
  | var t cs =>
    have := renL_all (p := p) (q := q) (ρ := id) h (l := cs) ho
    rw [renL_id] at this
    exact this
  | map es =>
    intro x hx
    have := FV.ren_all (p := p) (q := q) (ρ := id) h (x := x.2) (ho x hx)
    rwa [FV.ren_id] at this
  | buf e n => exact ho
  | siter a b => exact ho
  | dead => exact ho
  | glob a b => exact ho
/-- .. with the walk's own receiver behind them. -/
def RetM (o1 o2 o3 o4 : σ → AObj) (by_ : FuncId) (cap : List FV) (f : FuncId) (args : List FV) (st : σ) (x : AV) (st' : σ) : Prop :=
  AC Tryz.prog f args [glo, o1 st, o2 st, o3 st, o4 st, M5 by_ cap] fun r g => r = .d x ∧ g = [glo, o1 st', o2 st', o3 st', o4 st', M5 by_ cap]
omit hby hok in
theorem AC.useM {g : FuncId} {args : List FV} {st st' : σ} {x : AV} {rest : AHeap} {Q : FV → AHeap → Prop} (h : RetM o1 o2 o3 o4 by_ cap g args st x st') (inA : allL (· < 6) args)
    (hq : Q (.d x) (glo :: o1 st' :: o2 st' :: o3 st' :: o4 st' :: M5 by_ cap :: rest)) : AC Tryz.prog g args (glo :: o1 st :: o2 st :: o3 st :: o4 st :: M5 by_ cap :: rest) Q := by
  obtain ⟨a1, a2, a3, a4⟩ := F.all st
  obtain ⟨b1, b2, b3, b4⟩ := F.all st'
  have lt : ∀ l, l < 5 → l < 6 := fun l h => by omega
  have hm : (M5 by_ cap).all (· < 6) := by
    have := renL_all (p := (· < 5)) (q := (· < 6)) (ρ := id) lt (l := cap) hcap
    rw [renL_id] at this
    simp only [AObj.all, allL, FV.all, true_and, and_true]
    exact this
  have m1 := AObj.all_mono lt a1
  have m2 := AObj.all_mono lt a2
  have m3 := AObj.all_mono lt a3
  have m4 := AObj.all_mono lt a4
  have n1 := AObj.all_mono lt b1
  have n2 := AObj.all_mono lt b2
  have n3 := AObj.all_mono lt b3
  have n4 := AObj.all_mono lt b4
  refine AC.lift [0, 1, 2, 3, 4, 5] h rfl (by simp) ?_ ?_ inA ?_ ?_
  · intro i h1 h2
    match i, h1 with
    | 0, _ => rfl
    | 1, _ => simp [AObj.ren_same renTo6 m1]
    | 2, _ => simp [AObj.ren_same renTo6 m2]
    | 3, _ => simp [AObj.ren_same renTo6 m3]
    | 4, _ => simp [AObj.ren_same renTo6 m4]
    | 5, _ => simp [AObj.ren_same renTo6 hm]
  · have := renL_congr (p := (· < 6)) (ρ := renTo (glo :: o1 st :: o2 st :: o3 st :: o4 st :: M5 by_ cap :: rest).length [0, 1, 2, 3, 4, 5]) (σ := id) renTo6 inA
    rw [this, renL_id]
  · intro o ho
    simp only [List.mem_cons, List.not_mem_nil, or_false] at ho
    rcases ho with rfl | rfl | rfl | rfl | rfl | rfl
    · trivial
    · exact m1
    · exact m2
    · exact m3
    · exact m4
    · exact hm
  · rintro r g _ ⟨rfl, rfl⟩
    have e : mergeH (glo :: o1 st :: o2 st :: o3 st :: o4 st :: M5 by_ cap :: rest) [0, 1, 2, 3, 4, 5] [glo, o1 st', o2 st', o3 st', o4 st', M5 by_ cap] = glo :: o1 st' :: o2 st' :: o3 st' :: o4 st' :: M5 by_ cap :: rest := by
      simp only [mergeH, putAll, List.length_cons, List.length_nil, List.take_succ_cons, List.take_zero, List.map_cons, List.map_nil, AObj.ren_same renTo6 n1, AObj.ren_same renTo6 n2, AObj.ren_same renTo6 n3, AObj.ren_same renTo6 n4, AObj.ren_same renTo6 hm]
      exact List.append_nil _
    rw [e]
    exact hq
omit F hby hok in
theorem okCap {n : Nat} (hn : 5 ≤ n) : ∀ x ∈ cap, OkIn n x := allL_ok (fun l hl => by omega) hcap
omit hby hok in
theorem eachE_spec (st : σ) (l : List Expr) (h : σ → Expr → σ × Expr) (g2 : FuncId) (first cap2 : List FV) (h1 : allL (· < 6) first) (h2 : allL (· < 6) cap2)
    (hcall : ∀ x ∈ l, ∀ st, RetM o1 o2 o3 o4 by_ cap g2 (first ++ [.d (.agg (sE x))] ++ cap2) st (.agg (sE (h st x).2)) (h st x).1) :
    RetM o1 o2 o3 o4 by_ cap 145 [.d (.sl 44 (rE l)), .clo g2 first cap2] st (.sl 44 (rE (mapL h st l).2)) (mapL h st l).1 := by
  have hroomB : roomB = 140737488355328 := rfl; refine ac_of ok145 rfl rfl ?_
  repeat' first | (with_reducible refine W.seq ?_) | ((with_reducible refine W.region ?_); conv => whnf) | (with_reducible refine W.block ?_) | (intro hlen; simp only [rT_len, rE_len, rF_len, rC_len, rV_len, rP_len, rS_len, rR_len, rTT_len, rW_len] at hlen ⊢; conv => whnf) | ((refine And.intro rfl ?_); conv => whnf)
  refine W.seed 5 44 rfl ?_
  have hmapl : ∀ (st' : σ) (i : Nat) (x : Expr), l[i]? = some x → mapL h st' (l.drop i) = ((mapL h (h st' x).1 (l.drop (i + 1))).1, (h st' x).2 :: (mapL h (h st' x).1 (l.drop (i + 1))).2) := by
    intro st' i x hx
    rw [drop_at hx]; simp only [mapL]
  have hl1 : (mapL h st l).2.length = l.length := mapL_len h st l
  refine W.cutB (σ := Unit) (fun _ => [(5, .own 44 (rE (mapL h st l).2) 6)]) (fun _ => glo :: o1 (mapL h st l).1 :: o2 (mapL h st l).1 :: o3 (mapL h st l).1 :: o4 (mapL h st l).1 :: M5 by_ cap :: [.buf 44 (rE (mapL h st l).2).length]) (fun _ => True) ?_ ?_
  · refine W.loopJ (σ := Nat × σ × List Expr) (fun x => [(1, .clo g2 first cap2), (5, .own 44 (rE x.2.2) 6), (8, .d (.sl 44 (rE l))), (9, .d (.int .i64 l.length)), (10, .d (.int .i64 x.1))])
      (fun x => glo :: o1 x.2.1 :: o2 x.2.1 :: o3 x.2.1 :: o4 x.2.1 :: M5 by_ cap :: [.buf 44 (rE x.2.2).length])
      (fun x => x.1 ≤ l.length ∧ x.2.2.length = x.1 ∧ mapL h st l = ((mapL h x.2.1 (l.drop x.1)).1, x.2.2 ++ (mapL h x.2.1 (l.drop x.1)).2)) (fun x => l.length - x.1) (0, st, [])
      ⟨Nat.zero_le _, rfl, by simp⟩ ⟨.same _, .same _, .same _, .same _, .same _, trivial⟩ rfl ?_ ?_
    · rintro ⟨i, sti, done⟩ _
      obtain ⟨b1, b2, b3, b4⟩ := F.ok sti 7 (by omega)
      refine ⟨?_, ?_⟩
      · have k1 := allL_ok (k := 7) (fun l hl => by omega) h1
        have k2 := allL_ok (k := 7) (fun l hl => by omega) h2
        simp [OkIn]
        exact ⟨k1, k2⟩
      · intro o ho
        simp only [List.mem_cons, List.not_mem_nil, or_false] at ho
        rcases ho with rfl | rfl | rfl | rfl | rfl | rfl | rfl
        · trivial
        · exact b1
        · exact b2
        · exact b3
        · exact b4
        · have := okCap cap hcap (n := 7) (by omega)
          simpa [ObjOk, OkIn] using this
        · simp [ObjOk]
    rintro ⟨i, sti, done⟩ ⟨hi, hdl, hmap⟩
    dsimp only at hi hdl hmap ⊢
    rcases Nat.lt_or_ge i l.length with hlt | hge
    · obtain ⟨x, hx⟩ := at_lt hlt
      have hrx := rE_some hx
      rw [hmapl sti i x hx] at hmap
      repeat' first | (with_reducible refine W.seq ?_) | ((with_reducible refine W.region ?_); conv => whnf) | ((with_reducible refine W.cond ?_); conv => whnf) | (with_reducible refine W.block ?_) | ((with_reducible refine W.skip ?_); conv => whnf) | ((refine condM_intro (fun hc => ?_) (fun hc => ?_)) <;> (try simp only [decide_eq_true_eq, decide_eq_false_iff_not, beq_iff_eq, bne_iff_ne, beq_eq_false_iff_ne, bne_eq_false_iff_eq, ne_eq, Bool.not_eq_true', Bool.not_eq_false'] at hc) <;> (first | (exfalso; omega) | (conv => whnf))) | ((refine fun row hrow => ?_); revert row; (apply row_same); (focus assumption); conv => whnf) | ((refine And.intro rfl ?_); conv => whnf) | ((refine And.intro ?_ ?_); (focus (first | omega | (simp only [rT_len, rE_len, rF_len, rC_len, rV_len, rP_len, rS_len, rR_len, rTT_len, rW_len, List.length_map, List.length_replicate] at *; omega) | exact (byteAt_lt _ _).1 | exact (byteAt_lt _ _).2 | (simp [ebStr, ebTxts, ebU8, ebExpr, ebStmt, ebVar, ebParam, ebField, ebRec, ebRoutine, ebPair, roomB]; done))); conv => whnf)
      simp only [forceL_eq]
      refine AC.useM (rest := [_, _]) F by_ cap hcap (hcall x (List.mem_of_getElem? hx) sti) ?_ ?_
      · have ha : ∀ (p : Nat → Prop) (xs ys : List FV), allL p xs → allL p ys → allL p (xs ++ ys) := by
          intro p xs ys h1 h2
          induction xs with
          | nil => exact h2
          | cons z r ih => simp only [List.cons_append, allL] at h1 ⊢; exact ⟨h1.1, ih h1.2⟩
        exact ha _ _ _ (ha _ _ _ h1 (by simp [allL, FV.all, ev, Fr.get, FV.arg, FV.data, FV.cellD])) h2
      conv => whnf
      repeat' first | ((refine And.intro rfl ?_); conv => whnf) | ((refine And.intro ?_ ?_); (focus (first | omega | (simp only [rT_len, rE_len, rF_len, rC_len, rV_len, rP_len, rS_len, rR_len, rTT_len, rW_len, List.length_map, List.length_replicate] at *; omega) | exact (byteAt_lt _ _).1 | exact (byteAt_lt _ _).2 | (simp [ebStr, ebTxts, ebU8, ebExpr, ebStmt, ebVar, ebParam, ebField, ebRec, ebRoutine, ebPair, roomB]; done))); conv => whnf)
      have e3 : IntKind.i64.wrap (↑i + 1) = ((i + 1 : Nat) : Int) := wr (by omega) (by omega)
      refine And.intro (by simp only [List.length_append, List.length_cons, List.length_nil, rE_len] at *; simp [ebExpr, roomB]; omega) ?_
      conv => whnf
      repeat' first | ((with_reducible refine W.region ?_); conv => whnf)
      refine ⟨(i + 1, (h sti x).1, done ++ [(h sti x).2]), [.var 44 ((sE x).map .d)], ⟨hlt, by simp [hdl], by simp only; rw [hmap]; simp⟩, by simp only; omega, ⟨.same _, .of_eq ?_, .same _, .same _, .of_eq (by rw [← e3]; rfl), trivial⟩, ?_, by simp⟩
      · dsimp only
        rw [rE_app]
        rfl
      · dsimp only
        simp only [rE_app, List.length_append]
        rfl
    · rw [drop_end hge] at hmap
      simp only [mapL, List.append_nil] at hmap
      repeat' first | (with_reducible refine W.seq ?_) | ((with_reducible refine W.region ?_); conv => whnf) | ((with_reducible refine W.cond ?_); conv => whnf) | ((with_reducible refine W.exit ?_); conv => whnf) | ((refine condM_intro (fun hc => ?_) (fun hc => ?_)) <;> (try simp only [decide_eq_true_eq, decide_eq_false_iff_not, beq_iff_eq, bne_iff_ne, beq_eq_false_iff_ne, bne_eq_false_iff_eq, ne_eq, Bool.not_eq_true', Bool.not_eq_false'] at hc) <;> (first | (exfalso; omega) | (conv => whnf)))
      rw [hmap]
      exact ⟨(), trivial, ⟨.same _, trivial⟩, rfl⟩
  rintro _ _
  repeat' first | (with_reducible refine W.seq ?_) | ((with_reducible refine W.region ?_); conv => whnf)
  refine W.retd 4 _ (.own _ _ _) ?_
  obtain ⟨b1, b2, b3, b4⟩ := F.ok (mapL h st l).1 6 (by omega)
  refine finH [glo, o1 (mapL h st l).1, o2 (mapL h st l).1, o3 (mapL h st l).1, o4 (mapL h st l).1, M5 by_ cap] [_] (.inr rfl) rfl rfl (by simp) ?_ (by simp [OkIn, Fr.get]) ⟨rfl, rfl⟩
  intro o ho
  simp only [List.mem_cons, List.not_mem_nil, or_false] at ho
  rcases ho with rfl | rfl | rfl | rfl | rfl | rfl
  · trivial
  · exact b1
  · exact b2
  · exact b3
  · exact b4
  · have := okCap cap hcap (n := 6) (by omega)
    simpa [ObjOk, OkIn] using this
omit hby hok in
theorem eachF_spec (st : σ) (l : List Fld) (h : σ → Fld → σ × Fld) (g2 : FuncId) (first cap2 : List FV) (h1 : allL (· < 6) first) (h2 : allL (· < 6) cap2)
    (hcall : ∀ x ∈ l, ∀ st, RetM o1 o2 o3 o4 by_ cap g2 (first ++ [.d (.agg (sF x))] ++ cap2) st (.agg (sF (h st x).2)) (h st x).1) :
    RetM o1 o2 o3 o4 by_ cap 139 [.d (.sl 69 (rF l)), .clo g2 first cap2] st (.sl 69 (rF (mapL h st l).2)) (mapL h st l).1 := by
  have hroomB : roomB = 140737488355328 := rfl; refine ac_of ok139 rfl rfl ?_
  repeat' first | (with_reducible refine W.seq ?_) | ((with_reducible refine W.region ?_); conv => whnf) | (with_reducible refine W.block ?_) | (intro hlen; simp only [rT_len, rE_len, rF_len, rC_len, rV_len, rP_len, rS_len, rR_len, rTT_len, rW_len] at hlen ⊢; conv => whnf) | ((refine And.intro rfl ?_); conv => whnf)
  refine W.seed 5 69 rfl ?_
  have hmapl : ∀ (st' : σ) (i : Nat) (x : Fld), l[i]? = some x → mapL h st' (l.drop i) = ((mapL h (h st' x).1 (l.drop (i + 1))).1, (h st' x).2 :: (mapL h (h st' x).1 (l.drop (i + 1))).2) := by
    intro st' i x hx
    rw [drop_at hx]; simp only [mapL]
  have hl1 : (mapL h st l).2.length = l.length := mapL_len h st l
  refine W.cutB (σ := Unit) (fun _ => [(5, .own 69 (rF (mapL h st l).2) 6)]) (fun _ => glo :: o1 (mapL h st l).1 :: o2 (mapL h st l).1 :: o3 (mapL h st l).1 :: o4 (mapL h st l).1 :: M5 by_ cap :: [.buf 69 (rF (mapL h st l).2).length]) (fun _ => True) ?_ ?_
  · refine W.loopJ (σ := Nat × σ × List Fld) (fun x => [(1, .clo g2 first cap2), (5, .own 69 (rF x.2.2) 6), (8, .d (.sl 69 (rF l))), (9, .d (.int .i64 l.length)), (10, .d (.int .i64 x.1))])
      (fun x => glo :: o1 x.2.1 :: o2 x.2.1 :: o3 x.2.1 :: o4 x.2.1 :: M5 by_ cap :: [.buf 69 (rF x.2.2).length])
      (fun x => x.1 ≤ l.length ∧ x.2.2.length = x.1 ∧ mapL h st l = ((mapL h x.2.1 (l.drop x.1)).1, x.2.2 ++ (mapL h x.2.1 (l.drop x.1)).2)) (fun x => l.length - x.1) (0, st, [])
      ⟨Nat.zero_le _, rfl, by simp⟩ ⟨.same _, .same _, .same _, .same _, .same _, trivial⟩ rfl ?_ ?_
    · rintro ⟨i, sti, done⟩ _
      obtain ⟨b1, b2, b3, b4⟩ := F.ok sti 7 (by omega)
      refine ⟨?_, ?_⟩
      · have k1 := allL_ok (k := 7) (fun l hl => by omega) h1
        have k2 := allL_ok (k := 7) (fun l hl => by omega) h2
        simp [OkIn]
        exact ⟨k1, k2⟩
      · intro o ho
        simp only [List.mem_cons, List.not_mem_nil, or_false] at ho
        rcases ho with rfl | rfl | rfl | rfl | rfl | rfl | rfl
        · trivial
        · exact b1
        · exact b2
        · exact b3
        · exact b4
        · have := okCap cap hcap (n := 7) (by omega)
          simpa [ObjOk, OkIn] using this
        · simp [ObjOk]
    rintro ⟨i, sti, done⟩ ⟨hi, hdl, hmap⟩
    dsimp only at hi hdl hmap ⊢
    rcases Nat.lt_or_ge i l.length with hlt | hge
    · obtain ⟨x, hx⟩ := at_lt hlt
      have hrx := rF_some hx
      rw [hmapl sti i x hx] at hmap
      repeat' first | (with_reducible refine W.seq ?_) | ((with_reducible refine W.region ?_); conv => whnf) | ((with_reducible refine W.cond ?_); conv => whnf) | (with_reducible refine W.block ?_) | ((with_reducible refine W.skip ?_); conv => whnf) | ((refine condM_intro (fun hc => ?_) (fun hc => ?_)) <;> (try simp only [decide_eq_true_eq, decide_eq_false_iff_not, beq_iff_eq, bne_iff_ne, beq_eq_false_iff_ne, bne_eq_false_iff_eq, ne_eq, Bool.not_eq_true', Bool.not_eq_false'] at hc) <;> (first | (exfalso; omega) | (conv => whnf))) | ((refine fun row hrow => ?_); revert row; (apply row_same); (focus assumption); conv => whnf) | ((refine And.intro rfl ?_); conv => whnf) | ((refine And.intro ?_ ?_); (focus (first | omega | (simp only [rT_len, rE_len, rF_len, rC_len, rV_len, rP_len, rS_len, rR_len, rTT_len, rW_len, List.length_map, List.length_replicate] at *; omega) | exact (byteAt_lt _ _).1 | exact (byteAt_lt _ _).2 | (simp [ebStr, ebTxts, ebU8, ebExpr, ebStmt, ebVar, ebParam, ebField, ebRec, ebRoutine, ebPair, roomB]; done))); conv => whnf)
      simp only [forceL_eq]
      refine AC.useM (rest := [_, _]) F by_ cap hcap (hcall x (List.mem_of_getElem? hx) sti) ?_ ?_
      · have ha : ∀ (p : Nat → Prop) (xs ys : List FV), allL p xs → allL p ys → allL p (xs ++ ys) := by
          intro p xs ys h1 h2
          induction xs with
          | nil => exact h2
          | cons z r ih => simp only [List.cons_append, allL] at h1 ⊢; exact ⟨h1.1, ih h1.2⟩
        exact ha _ _ _ (ha _ _ _ h1 (by simp [allL, FV.all, ev, Fr.get, FV.arg, FV.data, FV.cellD])) h2
      conv => whnf
      repeat' first | ((refine And.intro rfl ?_); conv => whnf) | ((refine And.intro ?_ ?_); (focus (first | omega | (simp only [rT_len, rE_len, rF_len, rC_len, rV_len, rP_len, rS_len, rR_len, rTT_len, rW_len, List.length_map, List.length_replicate] at *; omega) | exact (byteAt_lt _ _).1 | exact (byteAt_lt _ _).2 | (simp [ebStr, ebTxts, ebU8, ebExpr, ebStmt, ebVar, ebParam, ebField, ebRec, ebRoutine, ebPair, roomB]; done))); conv => whnf)
      have e3 : IntKind.i64.wrap (↑i + 1) = ((i + 1 : Nat) : Int) := wr (by omega) (by omega)
      refine And.intro (by simp only [List.length_append, List.length_cons, List.length_nil, rF_len] at *; simp [ebField, roomB]; omega) ?_
      conv => whnf
      repeat' first | ((with_reducible refine W.region ?_); conv => whnf)
      refine ⟨(i + 1, (h sti x).1, done ++ [(h sti x).2]), [.var 69 ((sF x).map .d)], ⟨hlt, by simp [hdl], by simp only; rw [hmap]; simp⟩, by simp only; omega, ⟨.same _, .of_eq ?_, .same _, .same _, .of_eq (by rw [← e3]; rfl), trivial⟩, ?_, by simp⟩
      · dsimp only
        rw [rF_app]
        rfl
      · dsimp only
        simp only [rF_app, List.length_append]
        rfl
    · rw [drop_end hge] at hmap
      simp only [mapL, List.append_nil] at hmap
      repeat' first | (with_reducible refine W.seq ?_) | ((with_reducible refine W.region ?_); conv => whnf) | ((with_reducible refine W.cond ?_); conv => whnf) | ((with_reducible refine W.exit ?_); conv => whnf) | ((refine condM_intro (fun hc => ?_) (fun hc => ?_)) <;> (try simp only [decide_eq_true_eq, decide_eq_false_iff_not, beq_iff_eq, bne_iff_ne, beq_eq_false_iff_ne, bne_eq_false_iff_eq, ne_eq, Bool.not_eq_true', Bool.not_eq_false'] at hc) <;> (first | (exfalso; omega) | (conv => whnf)))
      rw [hmap]
      exact ⟨(), trivial, ⟨.same _, trivial⟩, rfl⟩
  rintro _ _
  repeat' first | (with_reducible refine W.seq ?_) | ((with_reducible refine W.region ?_); conv => whnf)
  refine W.retd 4 _ (.own _ _ _) ?_
  obtain ⟨b1, b2, b3, b4⟩ := F.ok (mapL h st l).1 6 (by omega)
  refine finH [glo, o1 (mapL h st l).1, o2 (mapL h st l).1, o3 (mapL h st l).1, o4 (mapL h st l).1, M5 by_ cap] [_] (.inr rfl) rfl rfl (by simp) ?_ (by simp [OkIn, Fr.get]) ⟨rfl, rfl⟩
  intro o ho
  simp only [List.mem_cons, List.not_mem_nil, or_false] at ho
  rcases ho with rfl | rfl | rfl | rfl | rfl | rfl
  · trivial
  · exact b1
  · exact b2
  · exact b3
  · exact b4
  · have := okCap cap hcap (n := 6) (by omega)
    simpa [ObjOk, OkIn] using this
omit hby hok in
theorem eachC_spec (st : σ) (l : List Rc) (h : σ → Rc → σ × Rc) (g2 : FuncId) (first cap2 : List FV) (h1 : allL (· < 6) first) (h2 : allL (· < 6) cap2)
    (hcall : ∀ x ∈ l, ∀ st, RetM o1 o2 o3 o4 by_ cap g2 (first ++ [.d (.agg (sC x))] ++ cap2) st (.agg (sC (h st x).2)) (h st x).1) :
    RetM o1 o2 o3 o4 by_ cap 97 [.d (.sl 59 (rC l)), .clo g2 first cap2] st (.sl 59 (rC (mapL h st l).2)) (mapL h st l).1 := by
  have hroomB : roomB = 140737488355328 := rfl; refine ac_of ok97 rfl rfl ?_
  repeat' first | (with_reducible refine W.seq ?_) | ((with_reducible refine W.region ?_); conv => whnf) | (with_reducible refine W.block ?_) | (intro hlen; simp only [rT_len, rE_len, rF_len, rC_len, rV_len, rP_len, rS_len, rR_len, rTT_len, rW_len] at hlen ⊢; conv => whnf) | ((refine And.intro rfl ?_); conv => whnf)
  refine W.seed 5 59 rfl ?_
  have hmapl : ∀ (st' : σ) (i : Nat) (x : Rc), l[i]? = some x → mapL h st' (l.drop i) = ((mapL h (h st' x).1 (l.drop (i + 1))).1, (h st' x).2 :: (mapL h (h st' x).1 (l.drop (i + 1))).2) := by
    intro st' i x hx
    rw [drop_at hx]; simp only [mapL]
  have hl1 : (mapL h st l).2.length = l.length := mapL_len h st l
  refine W.cutB (σ := Unit) (fun _ => [(5, .own 59 (rC (mapL h st l).2) 6)]) (fun _ => glo :: o1 (mapL h st l).1 :: o2 (mapL h st l).1 :: o3 (mapL h st l).1 :: o4 (mapL h st l).1 :: M5 by_ cap :: [.buf 59 (rC (mapL h st l).2).length]) (fun _ => True) ?_ ?_
  · refine W.loopJ (σ := Nat × σ × List Rc) (fun x => [(1, .clo g2 first cap2), (5, .own 59 (rC x.2.2) 6), (8, .d (.sl 59 (rC l))), (9, .d (.int .i64 l.length)), (10, .d (.int .i64 x.1))])
      (fun x => glo :: o1 x.2.1 :: o2 x.2.1 :: o3 x.2.1 :: o4 x.2.1 :: M5 by_ cap :: [.buf 59 (rC x.2.2).length])
      (fun x => x.1 ≤ l.length ∧ x.2.2.length = x.1 ∧ mapL h st l = ((mapL h x.2.1 (l.drop x.1)).1, x.2.2 ++ (mapL h x.2.1 (l.drop x.1)).2)) (fun x => l.length - x.1) (0, st, [])
      ⟨Nat.zero_le _, rfl, by simp⟩ ⟨.same _, .same _, .same _, .same _, .same _, trivial⟩ rfl ?_ ?_
    · rintro ⟨i, sti, done⟩ _
      obtain ⟨b1, b2, b3, b4⟩ := F.ok sti 7 (by omega)
      refine ⟨?_, ?_⟩
      · have k1 := allL_ok (k := 7) (fun l hl => by omega) h1
        have k2 := allL_ok (k := 7) (fun l hl => by omega) h2
        simp [OkIn]
        exact ⟨k1, k2⟩
      · intro o ho
        simp only [List.mem_cons, List.not_mem_nil, or_false] at ho
        rcases ho with rfl | rfl | rfl | rfl | rfl | rfl | rfl
        · trivial
        · exact b1
        · exact b2
        · exact b3
        · exact b4
        · have := okCap cap hcap (n := 7) (by omega)
          simpa [ObjOk, OkIn] using this
        · simp [ObjOk]
    rintro ⟨i, sti, done⟩ ⟨hi, hdl, hmap⟩
    dsimp only at hi hdl hmap ⊢
    rcases Nat.lt_or_ge i l.length with hlt | hge
    · obtain ⟨x, hx⟩ := at_lt hlt
      have hrx := rC_some hx
      rw [hmapl sti i x hx] at hmap
      repeat' first | (with_reducible refine W.seq ?_) | ((with_reducible refine W.region ?_); conv => whnf) | ((with_reducible refine W.cond ?_); conv => whnf) | (with_reducible refine W.block ?_) | ((with_reducible refine W.skip ?_); conv => whnf) | ((refine condM_intro (fun hc => ?_) (fun hc => ?_)) <;> (try simp only [decide_eq_true_eq, decide_eq_false_iff_not, beq_iff_eq, bne_iff_ne, beq_eq_false_iff_ne, bne_eq_false_iff_eq, ne_eq, Bool.not_eq_true', Bool.not_eq_false'] at hc) <;> (first | (exfalso; omega) | (conv => whnf))) | ((refine fun row hrow => ?_); revert row; (apply row_same); (focus assumption); conv => whnf) | ((refine And.intro rfl ?_); conv => whnf) | ((refine And.intro ?_ ?_); (focus (first | omega | (simp only [rT_len, rE_len, rF_len, rC_len, rV_len, rP_len, rS_len, rR_len, rTT_len, rW_len, List.length_map, List.length_replicate] at *; omega) | exact (byteAt_lt _ _).1 | exact (byteAt_lt _ _).2 | (simp [ebStr, ebTxts, ebU8, ebExpr, ebStmt, ebVar, ebParam, ebField, ebRec, ebRoutine, ebPair, roomB]; done))); conv => whnf)
      simp only [forceL_eq]
      refine AC.useM (rest := [_, _]) F by_ cap hcap (hcall x (List.mem_of_getElem? hx) sti) ?_ ?_
      · have ha : ∀ (p : Nat → Prop) (xs ys : List FV), allL p xs → allL p ys → allL p (xs ++ ys) := by
          intro p xs ys h1 h2
          induction xs with
          | nil => exact h2
          | cons z r ih => simp only [List.cons_append, allL] at h1 ⊢; exact ⟨h1.1, ih h1.2⟩
        exact ha _ _ _ (ha _ _ _ h1 (by simp [allL, FV.all, ev, Fr.get, FV.arg, FV.data, FV.cellD])) h2
      conv => whnf
      repeat' first | ((refine And.intro rfl ?_); conv => whnf) | ((refine And.intro ?_ ?_); (focus (first | omega | (simp only [rT_len, rE_len, rF_len, rC_len, rV_len, rP_len, rS_len, rR_len, rTT_len, rW_len, List.length_map, List.length_replicate] at *; omega) | exact (byteAt_lt _ _).1 | exact (byteAt_lt _ _).2 | (simp [ebStr, ebTxts, ebU8, ebExpr, ebStmt, ebVar, ebParam, ebField, ebRec, ebRoutine, ebPair, roomB]; done))); conv => whnf)
      have e3 : IntKind.i64.wrap (↑i + 1) = ((i + 1 : Nat) : Int) := wr (by omega) (by omega)
      refine And.intro (by simp only [List.length_append, List.length_cons, List.length_nil, rC_len] at *; simp [ebRec, roomB]; omega) ?_
      conv => whnf
      repeat' first | ((with_reducible refine W.region ?_); conv => whnf)
      refine ⟨(i + 1, (h sti x).1, done ++ [(h sti x).2]), [.var 59 ((sC x).map .d)], ⟨hlt, by simp [hdl], by simp only; rw [hmap]; simp⟩, by simp only; omega, ⟨.same _, .of_eq ?_, .same _, .same _, .of_eq (by rw [← e3]; rfl), trivial⟩, ?_, by simp⟩
      · dsimp only
        rw [rC_app]
        rfl
      · dsimp only
        simp only [rC_app, List.length_append]
        rfl
    · rw [drop_end hge] at hmap
      simp only [mapL, List.append_nil] at hmap
      repeat' first | (with_reducible refine W.seq ?_) | ((with_reducible refine W.region ?_); conv => whnf) | ((with_reducible refine W.cond ?_); conv => whnf) | ((with_reducible refine W.exit ?_); conv => whnf) | ((refine condM_intro (fun hc => ?_) (fun hc => ?_)) <;> (try simp only [decide_eq_true_eq, decide_eq_false_iff_not, beq_iff_eq, bne_iff_ne, beq_eq_false_iff_ne, bne_eq_false_iff_eq, ne_eq, Bool.not_eq_true', Bool.not_eq_false'] at hc) <;> (first | (exfalso; omega) | (conv => whnf)))
      rw [hmap]
      exact ⟨(), trivial, ⟨.same _, trivial⟩, rfl⟩
  rintro _ _
  repeat' first | (with_reducible refine W.seq ?_) | ((with_reducible refine W.region ?_); conv => whnf)
  refine W.retd 4 _ (.own _ _ _) ?_
  obtain ⟨b1, b2, b3, b4⟩ := F.ok (mapL h st l).1 6 (by omega)
  refine finH [glo, o1 (mapL h st l).1, o2 (mapL h st l).1, o3 (mapL h st l).1, o4 (mapL h st l).1, M5 by_ cap] [_] (.inr rfl) rfl rfl (by simp) ?_ (by simp [OkIn, Fr.get]) ⟨rfl, rfl⟩
  intro o ho
  simp only [List.mem_cons, List.not_mem_nil, or_false] at ho
  rcases ho with rfl | rfl | rfl | rfl | rfl | rfl
  · trivial
  · exact b1
  · exact b2
  · exact b3
  · exact b4
  · have := okCap cap hcap (n := 6) (by omega)
    simpa [ObjOk, OkIn] using this
omit hby hok in
theorem eachV_spec (st : σ) (l : List Vr) (h : σ → Vr → σ × Vr) (g2 : FuncId) (first cap2 : List FV) (h1 : allL (· < 6) first) (h2 : allL (· < 6) cap2)
    (hcall : ∀ x ∈ l, ∀ st, RetM o1 o2 o3 o4 by_ cap g2 (first ++ [.d (.agg (sV x))] ++ cap2) st (.agg (sV (h st x).2)) (h st x).1) :
    RetM o1 o2 o3 o4 by_ cap 99 [.d (.sl 98 (rV l)), .clo g2 first cap2] st (.sl 98 (rV (mapL h st l).2)) (mapL h st l).1 := by
  have hroomB : roomB = 140737488355328 := rfl; refine ac_of ok99 rfl rfl ?_
  repeat' first | (with_reducible refine W.seq ?_) | ((with_reducible refine W.region ?_); conv => whnf) | (with_reducible refine W.block ?_) | (intro hlen; simp only [rT_len, rE_len, rF_len, rC_len, rV_len, rP_len, rS_len, rR_len, rTT_len, rW_len] at hlen ⊢; conv => whnf) | ((refine And.intro rfl ?_); conv => whnf)
  refine W.seed 5 98 rfl ?_
  have hmapl : ∀ (st' : σ) (i : Nat) (x : Vr), l[i]? = some x → mapL h st' (l.drop i) = ((mapL h (h st' x).1 (l.drop (i + 1))).1, (h st' x).2 :: (mapL h (h st' x).1 (l.drop (i + 1))).2) := by
    intro st' i x hx
    rw [drop_at hx]; simp only [mapL]
  have hl1 : (mapL h st l).2.length = l.length := mapL_len h st l
  refine W.cutB (σ := Unit) (fun _ => [(5, .own 98 (rV (mapL h st l).2) 6)]) (fun _ => glo :: o1 (mapL h st l).1 :: o2 (mapL h st l).1 :: o3 (mapL h st l).1 :: o4 (mapL h st l).1 :: M5 by_ cap :: [.buf 98 (rV (mapL h st l).2).length]) (fun _ => True) ?_ ?_
  · refine W.loopJ (σ := Nat × σ × List Vr) (fun x => [(1, .clo g2 first cap2), (5, .own 98 (rV x.2.2) 6), (8, .d (.sl 98 (rV l))), (9, .d (.int .i64 l.length)), (10, .d (.int .i64 x.1))])
      (fun x => glo :: o1 x.2.1 :: o2 x.2.1 :: o3 x.2.1 :: o4 x.2.1 :: M5 by_ cap :: [.buf 98 (rV x.2.2).length])
      (fun x => x.1 ≤ l.length ∧ x.2.2.length = x.1 ∧ mapL h st l = ((mapL h x.2.1 (l.drop x.1)).1, x.2.2 ++ (mapL h x.2.1 (l.drop x.1)).2)) (fun x => l.length - x.1) (0, st, [])
      ⟨Nat.zero_le _, rfl, by simp⟩ ⟨.same _, .same _, .same _, .same _, .same _, trivial⟩ rfl ?_ ?_
    · rintro ⟨i, sti, done⟩ _
      obtain ⟨b1, b2, b3, b4⟩ := F.ok sti 7 (by omega)
      refine ⟨?_, ?_⟩
      · have k1 := allL_ok (k := 7) (fun l hl => by omega) h1
        have k2 := allL_ok (k := 7) (fun l hl => by omega) h2
        simp [OkIn]
        exact ⟨k1, k2⟩
      · intro o ho
        simp only [List.mem_cons, List.not_mem_nil, or_false] at ho
        rcases ho with rfl | rfl | rfl | rfl | rfl | rfl | rfl
        · trivial
        · exact b1
        · exact b2
        · exact b3
        · exact b4
        · have := okCap cap hcap (n := 7) (by omega)
          simpa [ObjOk, OkIn] using this
        · simp [ObjOk]
    rintro ⟨i, sti, done⟩ ⟨hi, hdl, hmap⟩
    dsimp only at hi hdl hmap ⊢
    rcases Nat.lt_or_ge i l.length with hlt | hge
    · obtain ⟨x, hx⟩ := at_lt hlt
      have hrx := rV_some hx
      rw [hmapl sti i x hx] at hmap
      repeat' first | (with_reducible refine W.seq ?_) | ((with_reducible refine W.region ?_); conv => whnf) | ((with_reducible refine W.cond ?_); conv => whnf) | (with_reducible refine W.block ?_) | ((with_reducible refine W.skip ?_); conv => whnf) | ((refine condM_intro (fun hc => ?_) (fun hc => ?_)) <;> (try simp only [decide_eq_true_eq, decide_eq_false_iff_not, beq_iff_eq, bne_iff_ne, beq_eq_false_iff_ne, bne_eq_false_iff_eq, ne_eq, Bool.not_eq_true', Bool.not_eq_false'] at hc) <;> (first | (exfalso; omega) | (conv => whnf))) | ((refine fun row hrow => ?_); revert row; (apply row_same); (focus assumption); conv => whnf) | ((refine And.intro rfl ?_); conv => whnf) | ((refine And.intro ?_ ?_); (focus (first | omega | (simp only [rT_len, rE_len, rF_len, rC_len, rV_len, rP_len, rS_len, rR_len, rTT_len, rW_len, List.length_map, List.length_replicate] at *; omega) | exact (byteAt_lt _ _).1 | exact (byteAt_lt _ _).2 | (simp [ebStr, ebTxts, ebU8, ebExpr, ebStmt, ebVar, ebParam, ebField, ebRec, ebRoutine, ebPair, roomB]; done))); conv => whnf)
      simp only [forceL_eq]
      refine AC.useM (rest := [_, _]) F by_ cap hcap (hcall x (List.mem_of_getElem? hx) sti) ?_ ?_
      · have ha : ∀ (p : Nat → Prop) (xs ys : List FV), allL p xs → allL p ys → allL p (xs ++ ys) := by
          intro p xs ys h1 h2
          induction xs with
          | nil => exact h2
          | cons z r ih => simp only [List.cons_append, allL] at h1 ⊢; exact ⟨h1.1, ih h1.2⟩
        exact ha _ _ _ (ha _ _ _ h1 (by simp [allL, FV.all, ev, Fr.get, FV.arg, FV.data, FV.cellD])) h2
      conv => whnf
      repeat' first | ((refine And.intro rfl ?_); conv => whnf) | ((refine And.intro ?_ ?_); (focus (first | omega | (simp only [rT_len, rE_len, rF_len, rC_len, rV_len, rP_len, rS_len, rR_len, rTT_len, rW_len, List.length_map, List.length_replicate] at *; omega) | exact (byteAt_lt _ _).1 | exact (byteAt_lt _ _).2 | (simp [ebStr, ebTxts, ebU8, ebExpr, ebStmt, ebVar, ebParam, ebField, ebRec, ebRoutine, ebPair, roomB]; done))); conv => whnf)
      have e3 : IntKind.i64.wrap (↑i + 1) = ((i + 1 : Nat) : Int) := wr (by omega) (by omega)
      refine And.intro (by simp only [List.length_append, List.length_cons, List.length_nil, rV_len] at *; simp [ebVar, roomB]; omega) ?_
      conv => whnf
      repeat' first | ((with_reducible refine W.region ?_); conv => whnf)
      refine ⟨(i + 1, (h sti x).1, done ++ [(h sti x).2]), [.var 98 ((sV x).map .d)], ⟨hlt, by simp [hdl], by simp only; rw [hmap]; simp⟩, by simp only; omega, ⟨.same _, .of_eq ?_, .same _, .same _, .of_eq (by rw [← e3]; rfl), trivial⟩, ?_, by simp⟩
      · dsimp only
        rw [rV_app]
        rfl
      · dsimp only
        simp only [rV_app, List.length_append]
        rfl
    · rw [drop_end hge] at hmap
      simp only [mapL, List.append_nil] at hmap
      repeat' first | (with_reducible refine W.seq ?_) | ((with_reducible refine W.region ?_); conv => whnf) | ((with_reducible refine W.cond ?_); conv => whnf) | ((with_reducible refine W.exit ?_); conv => whnf) | ((refine condM_intro (fun hc => ?_) (fun hc => ?_)) <;> (try simp only [decide_eq_true_eq, decide_eq_false_iff_not, beq_iff_eq, bne_iff_ne, beq_eq_false_iff_ne, bne_eq_false_iff_eq, ne_eq, Bool.not_eq_true', Bool.not_eq_false'] at hc) <;> (first | (exfalso; omega) | (conv => whnf)))
      rw [hmap]
      exact ⟨(), trivial, ⟨.same _, trivial⟩, rfl⟩
  rintro _ _
  repeat' first | (with_reducible refine W.seq ?_) | ((with_reducible refine W.region ?_); conv => whnf)
  refine W.retd 4 _ (.own _ _ _) ?_
  obtain ⟨b1, b2, b3, b4⟩ := F.ok (mapL h st l).1 6 (by omega)
  refine finH [glo, o1 (mapL h st l).1, o2 (mapL h st l).1, o3 (mapL h st l).1, o4 (mapL h st l).1, M5 by_ cap] [_] (.inr rfl) rfl rfl (by simp) ?_ (by simp [OkIn, Fr.get]) ⟨rfl, rfl⟩
  intro o ho
  simp only [List.mem_cons, List.not_mem_nil, or_false] at ho
  rcases ho with rfl | rfl | rfl | rfl | rfl | rfl
  · trivial
  · exact b1
  · exact b2
  · exact b3
  · exact b4
  · have := okCap cap hcap (n := 6) (by omega)
    simpa [ObjOk, OkIn] using this
omit hby hok in
theorem eachP_spec (st : σ) (l : List Pm) (h : σ → Pm → σ × Pm) (g2 : FuncId) (first cap2 : List FV) (h1 : allL (· < 6) first) (h2 : allL (· < 6) cap2)
    (hcall : ∀ x ∈ l, ∀ st, RetM o1 o2 o3 o4 by_ cap g2 (first ++ [.d (.agg (sP x))] ++ cap2) st (.agg (sP (h st x).2)) (h st x).1) :
    RetM o1 o2 o3 o4 by_ cap 142 [.d (.sl 145 (rP l)), .clo g2 first cap2] st (.sl 145 (rP (mapL h st l).2)) (mapL h st l).1 := by
  have hroomB : roomB = 140737488355328 := rfl; refine ac_of ok142 rfl rfl ?_
  repeat' first | (with_reducible refine W.seq ?_) | ((with_reducible refine W.region ?_); conv => whnf) | (with_reducible refine W.block ?_) | (intro hlen; simp only [rT_len, rE_len, rF_len, rC_len, rV_len, rP_len, rS_len, rR_len, rTT_len, rW_len] at hlen ⊢; conv => whnf) | ((refine And.intro rfl ?_); conv => whnf)
  refine W.seed 5 145 rfl ?_
  have hmapl : ∀ (st' : σ) (i : Nat) (x : Pm), l[i]? = some x → mapL h st' (l.drop i) = ((mapL h (h st' x).1 (l.drop (i + 1))).1, (h st' x).2 :: (mapL h (h st' x).1 (l.drop (i + 1))).2) := by
    intro st' i x hx
    rw [drop_at hx]; simp only [mapL]
  have hl1 : (mapL h st l).2.length = l.length := mapL_len h st l
  refine W.cutB (σ := Unit) (fun _ => [(5, .own 145 (rP (mapL h st l).2) 6)]) (fun _ => glo :: o1 (mapL h st l).1 :: o2 (mapL h st l).1 :: o3 (mapL h st l).1 :: o4 (mapL h st l).1 :: M5 by_ cap :: [.buf 145 (rP (mapL h st l).2).length]) (fun _ => True) ?_ ?_
  · refine W.loopJ (σ := Nat × σ × List Pm) (fun x => [(1, .clo g2 first cap2), (5, .own 145 (rP x.2.2) 6), (8, .d (.sl 145 (rP l))), (9, .d (.int .i64 l.length)), (10, .d (.int .i64 x.1))])
      (fun x => glo :: o1 x.2.1 :: o2 x.2.1 :: o3 x.2.1 :: o4 x.2.1 :: M5 by_ cap :: [.buf 145 (rP x.2.2).length])
      (fun x => x.1 ≤ l.length ∧ x.2.2.length = x.1 ∧ mapL h st l = ((mapL h x.2.1 (l.drop x.1)).1, x.2.2 ++ (mapL h x.2.1 (l.drop x.1)).2)) (fun x => l.length - x.1) (0, st, [])
      ⟨Nat.zero_le _, rfl, by simp⟩ ⟨.same _, .same _, .same _, .same _, .same _, trivial⟩ rfl ?_ ?_
    · rintro ⟨i, sti, done⟩ _
      obtain ⟨b1, b2, b3, b4⟩ := F.ok sti 7 (by omega)
      refine ⟨?_, ?_⟩
      · have k1 := allL_ok (k := 7) (fun l hl => by omega) h1
        have k2 := allL_ok (k := 7) (fun l hl => by omega) h2
        simp [OkIn]
        exact ⟨k1, k2⟩
      · intro o ho
        simp only [List.mem_cons, List.not_mem_nil, or_false] at ho
        rcases ho with rfl | rfl | rfl | rfl | rfl | rfl | rfl
        · trivial
        · exact b1
        · exact b2
        · exact b3
        · exact b4
        · have := okCap cap hcap (n := 7) (by omega)
          simpa [ObjOk, OkIn] using this
        · simp [ObjOk]
    rintro ⟨i, sti, done⟩ ⟨hi, hdl, hmap⟩
    dsimp only at hi hdl hmap ⊢
    rcases Nat.lt_or_ge i l.length with hlt | hge
    · obtain ⟨x, hx⟩ := at_lt hlt
      have hrx := rP_some hx
      rw [hmapl sti i x hx] at hmap
      repeat' first | (with_reducible refine W.seq ?_) | ((with_reducible refine W.region ?_); conv => whnf) | ((with_reducible refine W.cond ?_); conv => whnf) | (with_reducible refine W.block ?_) | ((with_reducible refine W.skip ?_); conv => whnf) | ((refine condM_intro (fun hc => ?_) (fun hc => ?_)) <;> (try simp only [decide_eq_true_eq, decide_eq_false_iff_not, beq_iff_eq, bne_iff_ne, beq_eq_false_iff_ne, bne_eq_false_iff_eq, ne_eq, Bool.not_eq_true', Bool.not_eq_false'] at hc) <;> (first | (exfalso; omega) | (conv => whnf))) | ((refine fun row hrow => ?_); revert row; (apply row_same); (focus assumption); conv => whnf) | ((refine And.intro rfl ?_); conv => whnf) | ((refine And.intro ?_ ?_); (focus (first | omega | (simp only [rT_len, rE_len, rF_len, rC_len, rV_len, rP_len, rS_len, rR_len, rTT_len, rW_len, List.length_map, List.length_replicate] at *; omega) | exact (byteAt_lt _ _).1 | exact (byteAt_lt _ _).2 | (simp [ebStr, ebTxts, ebU8, ebExpr, ebStmt, ebVar, ebParam, ebField, ebRec, ebRoutine, ebPair, roomB]; done))); conv => whnf)
      simp only [forceL_eq]
      refine AC.useM (rest := [_, _]) F by_ cap hcap (hcall x (List.mem_of_getElem? hx) sti) ?_ ?_
      · have ha : ∀ (p : Nat → Prop) (xs ys : List FV), allL p xs → allL p ys → allL p (xs ++ ys) := by
          intro p xs ys h1 h2
          induction xs with
          | nil => exact h2
          | cons z r ih => simp only [List.cons_append, allL] at h1 ⊢; exact ⟨h1.1, ih h1.2⟩
        exact ha _ _ _ (ha _ _ _ h1 (by simp [allL, FV.all, ev, Fr.get, FV.arg, FV.data, FV.cellD])) h2
      conv => whnf
      repeat' first | ((refine And.intro rfl ?_); conv => whnf) | ((refine And.intro ?_ ?_); (focus (first | omega | (simp only [rT_len, rE_len, rF_len, rC_len, rV_len, rP_len, rS_len, rR_len, rTT_len, rW_len, List.length_map, List.length_replicate] at *; omega) | exact (byteAt_lt _ _).1 | exact (byteAt_lt _ _).2 | (simp [ebStr, ebTxts, ebU8, ebExpr, ebStmt, ebVar, ebParam, ebField, ebRec, ebRoutine, ebPair, roomB]; done))); conv => whnf)
      have e3 : IntKind.i64.wrap (↑i + 1) = ((i + 1 : Nat) : Int) := wr (by omega) (by omega)
      refine And.intro (by simp only [List.length_append, List.length_cons, List.length_nil, rP_len] at *; simp [ebParam, roomB]; omega) ?_
      conv => whnf
      repeat' first | ((with_reducible refine W.region ?_); conv => whnf)
      refine ⟨(i + 1, (h sti x).1, done ++ [(h sti x).2]), [.var 145 ((sP x).map .d)], ⟨hlt, by simp [hdl], by simp only; rw [hmap]; simp⟩, by simp only; omega, ⟨.same _, .of_eq ?_, .same _, .same _, .of_eq (by rw [← e3]; rfl), trivial⟩, ?_, by simp⟩
      · dsimp only
        rw [rP_app]
        rfl
      · dsimp only
        simp only [rP_app, List.length_append]
        rfl
    · rw [drop_end hge] at hmap
      simp only [mapL, List.append_nil] at hmap
      repeat' first | (with_reducible refine W.seq ?_) | ((with_reducible refine W.region ?_); conv => whnf) | ((with_reducible refine W.cond ?_); conv => whnf) | ((with_reducible refine W.exit ?_); conv => whnf) | ((refine condM_intro (fun hc => ?_) (fun hc => ?_)) <;> (try simp only [decide_eq_true_eq, decide_eq_false_iff_not, beq_iff_eq, bne_iff_ne, beq_eq_false_iff_ne, bne_eq_false_iff_eq, ne_eq, Bool.not_eq_true', Bool.not_eq_false'] at hc) <;> (first | (exfalso; omega) | (conv => whnf)))
      rw [hmap]
      exact ⟨(), trivial, ⟨.same _, trivial⟩, rfl⟩
  rintro _ _
  repeat' first | (with_reducible refine W.seq ?_) | ((with_reducible refine W.region ?_); conv => whnf)
  refine W.retd 4 _ (.own _ _ _) ?_
  obtain ⟨b1, b2, b3, b4⟩ := F.ok (mapL h st l).1 6 (by omega)
  refine finH [glo, o1 (mapL h st l).1, o2 (mapL h st l).1, o3 (mapL h st l).1, o4 (mapL h st l).1, M5 by_ cap] [_] (.inr rfl) rfl rfl (by simp) ?_ (by simp [OkIn, Fr.get]) ⟨rfl, rfl⟩
  intro o ho
  simp only [List.mem_cons, List.not_mem_nil, or_false] at ho
  rcases ho with rfl | rfl | rfl | rfl | rfl | rfl
  · trivial
  · exact b1
  · exact b2
  · exact b3
  · exact b4
  · have := okCap cap hcap (n := 6) (by omega)
    simpa [ObjOk, OkIn] using this
omit hby hok in
theorem eachS_spec (st : σ) (l : List Stm) (h : σ → Stm → σ × Stm) (g2 : FuncId) (first cap2 : List FV) (h1 : allL (· < 6) first) (h2 : allL (· < 6) cap2)
    (hcall : ∀ x ∈ l, ∀ st, RetM o1 o2 o3 o4 by_ cap g2 (first ++ [.d (.agg (sS x))] ++ cap2) st (.agg (sS (h st x).2)) (h st x).1) :
    RetM o1 o2 o3 o4 by_ cap 103 [.d (.sl 107 (rS l)), .clo g2 first cap2] st (.sl 107 (rS (mapL h st l).2)) (mapL h st l).1 := by
  have hroomB : roomB = 140737488355328 := rfl; refine ac_of ok103 rfl rfl ?_
  repeat' first | (with_reducible refine W.seq ?_) | ((with_reducible refine W.region ?_); conv => whnf) | (with_reducible refine W.block ?_) | (intro hlen; simp only [rT_len, rE_len, rF_len, rC_len, rV_len, rP_len, rS_len, rR_len, rTT_len, rW_len] at hlen ⊢; conv => whnf) | ((refine And.intro rfl ?_); conv => whnf)
  refine W.seed 5 107 rfl ?_
  have hmapl : ∀ (st' : σ) (i : Nat) (x : Stm), l[i]? = some x → mapL h st' (l.drop i) = ((mapL h (h st' x).1 (l.drop (i + 1))).1, (h st' x).2 :: (mapL h (h st' x).1 (l.drop (i + 1))).2) := by
    intro st' i x hx
    rw [drop_at hx]; simp only [mapL]
  have hl1 : (mapL h st l).2.length = l.length := mapL_len h st l
  refine W.cutB (σ := Unit) (fun _ => [(5, .own 107 (rS (mapL h st l).2) 6)]) (fun _ => glo :: o1 (mapL h st l).1 :: o2 (mapL h st l).1 :: o3 (mapL h st l).1 :: o4 (mapL h st l).1 :: M5 by_ cap :: [.buf 107 (rS (mapL h st l).2).length]) (fun _ => True) ?_ ?_
  · refine W.loopJ (σ := Nat × σ × List Stm) (fun x => [(1, .clo g2 first cap2), (5, .own 107 (rS x.2.2) 6), (8, .d (.sl 107 (rS l))), (9, .d (.int .i64 l.length)), (10, .d (.int .i64 x.1))])
      (fun x => glo :: o1 x.2.1 :: o2 x.2.1 :: o3 x.2.1 :: o4 x.2.1 :: M5 by_ cap :: [.buf 107 (rS x.2.2).length])
      (fun x => x.1 ≤ l.length ∧ x.2.2.length = x.1 ∧ mapL h st l = ((mapL h x.2.1 (l.drop x.1)).1, x.2.2 ++ (mapL h x.2.1 (l.drop x.1)).2)) (fun x => l.length - x.1) (0, st, [])
      ⟨Nat.zero_le _, rfl, by simp⟩ ⟨.same _, .same _, .same _, .same _, .same _, trivial⟩ rfl ?_ ?_
    · rintro ⟨i, sti, done⟩ _
      obtain ⟨b1, b2, b3, b4⟩ := F.ok sti 7 (by omega)
      refine ⟨?_, ?_⟩
      · have k1 := allL_ok (k := 7) (fun l hl => by omega) h1
        have k2 := allL_ok (k := 7) (fun l hl => by omega) h2
        simp [OkIn]
        exact ⟨k1, k2⟩
      · intro o ho
        simp only [List.mem_cons, List.not_mem_nil, or_false] at ho
        rcases ho with rfl | rfl | rfl | rfl | rfl | rfl | rfl
        · trivial
        · exact b1
        · exact b2
        · exact b3
        · exact b4
        · have := okCap cap hcap (n := 7) (by omega)
          simpa [ObjOk, OkIn] using this
        · simp [ObjOk]
    rintro ⟨i, sti, done⟩ ⟨hi, hdl, hmap⟩
    dsimp only at hi hdl hmap ⊢
    rcases Nat.lt_or_ge i l.length with hlt | hge
    · obtain ⟨x, hx⟩ := at_lt hlt
      have hrx := rS_some hx
      rw [hmapl sti i x hx] at hmap
      repeat' first | (with_reducible refine W.seq ?_) | ((with_reducible refine W.region ?_); conv => whnf) | ((with_reducible refine W.cond ?_); conv => whnf) | (with_reducible refine W.block ?_) | ((with_reducible refine W.skip ?_); conv => whnf) | ((refine condM_intro (fun hc => ?_) (fun hc => ?_)) <;> (try simp only [decide_eq_true_eq, decide_eq_false_iff_not, beq_iff_eq, bne_iff_ne, beq_eq_false_iff_ne, bne_eq_false_iff_eq, ne_eq, Bool.not_eq_true', Bool.not_eq_false'] at hc) <;> (first | (exfalso; omega) | (conv => whnf))) | ((refine fun row hrow => ?_); revert row; (apply row_same); (focus assumption); conv => whnf) | ((refine And.intro rfl ?_); conv => whnf) | ((refine And.intro ?_ ?_); (focus (first | omega | (simp only [rT_len, rE_len, rF_len, rC_len, rV_len, rP_len, rS_len, rR_len, rTT_len, rW_len, List.length_map, List.length_replicate] at *; omega) | exact (byteAt_lt _ _).1 | exact (byteAt_lt _ _).2 | (simp [ebStr, ebTxts, ebU8, ebExpr, ebStmt, ebVar, ebParam, ebField, ebRec, ebRoutine, ebPair, roomB]; done))); conv => whnf)
      simp only [forceL_eq]
      refine AC.useM (rest := [_, _]) F by_ cap hcap (hcall x (List.mem_of_getElem? hx) sti) ?_ ?_
      · have ha : ∀ (p : Nat → Prop) (xs ys : List FV), allL p xs → allL p ys → allL p (xs ++ ys) := by
          intro p xs ys h1 h2
          induction xs with
          | nil => exact h2
          | cons z r ih => simp only [List.cons_append, allL] at h1 ⊢; exact ⟨h1.1, ih h1.2⟩
        exact ha _ _ _ (ha _ _ _ h1 (by simp [allL, FV.all, ev, Fr.get, FV.arg, FV.data, FV.cellD])) h2
      conv => whnf
      repeat' first | ((refine And.intro rfl ?_); conv => whnf) | ((refine And.intro ?_ ?_); (focus (first | omega | (simp only [rT_len, rE_len, rF_len, rC_len, rV_len, rP_len, rS_len, rR_len, rTT_len, rW_len, List.length_map, List.length_replicate] at *; omega) | exact (byteAt_lt _ _).1 | exact (byteAt_lt _ _).2 | (simp [ebStr, ebTxts, ebU8, ebExpr, ebStmt, ebVar, ebParam, ebField, ebRec, ebRoutine, ebPair, roomB]; done))); conv => whnf)
      have e3 : IntKind.i64.wrap (↑i + 1) = ((i + 1 : Nat) : Int) := wr (by omega) (by omega)
      refine And.intro (by simp only [List.length_append, List.length_cons, List.length_nil, rS_len] at *; simp [ebStmt, roomB]; omega) ?_
      conv => whnf
      repeat' first | ((with_reducible refine W.region ?_); conv => whnf)
      refine ⟨(i + 1, (h sti x).1, done ++ [(h sti x).2]), [.var 107 ((sS x).map .d)], ⟨hlt, by simp [hdl], by simp only; rw [hmap]; simp⟩, by simp only; omega, ⟨.same _, .of_eq ?_, .same _, .same _, .of_eq (by rw [← e3]; rfl), trivial⟩, ?_, by simp⟩
      · dsimp only
        rw [rS_app]
        rfl
      · dsimp only
        simp only [rS_app, List.length_append]
        rfl
    · rw [drop_end hge] at hmap
      simp only [mapL, List.append_nil] at hmap
      repeat' first | (with_reducible refine W.seq ?_) | ((with_reducible refine W.region ?_); conv => whnf) | ((with_reducible refine W.cond ?_); conv => whnf) | ((with_reducible refine W.exit ?_); conv => whnf) | ((refine condM_intro (fun hc => ?_) (fun hc => ?_)) <;> (try simp only [decide_eq_true_eq, decide_eq_false_iff_not, beq_iff_eq, bne_iff_ne, beq_eq_false_iff_ne, bne_eq_false_iff_eq, ne_eq, Bool.not_eq_true', Bool.not_eq_false'] at hc) <;> (first | (exfalso; omega) | (conv => whnf)))
      rw [hmap]
      exact ⟨(), trivial, ⟨.same _, trivial⟩, rfl⟩
  rintro _ _
  repeat' first | (with_reducible refine W.seq ?_) | ((with_reducible refine W.region ?_); conv => whnf)
  refine W.retd 4 _ (.own _ _ _) ?_
  obtain ⟨b1, b2, b3, b4⟩ := F.ok (mapL h st l).1 6 (by omega)
  refine finH [glo, o1 (mapL h st l).1, o2 (mapL h st l).1, o3 (mapL h st l).1, o4 (mapL h st l).1, M5 by_ cap] [_] (.inr rfl) rfl rfl (by simp) ?_ (by simp [OkIn, Fr.get]) ⟨rfl, rfl⟩
  intro o ho
  simp only [List.mem_cons, List.not_mem_nil, or_false] at ho
  rcases ho with rfl | rfl | rfl | rfl | rfl | rfl
  · trivial
  · exact b1
  · exact b2
  · exact b3
  · exact b4
  · have := okCap cap hcap (n := 6) (by omega)
    simpa [ObjOk, OkIn] using this
omit hby hok in
theorem eachR_spec (st : σ) (l : List Rtn) (h : σ → Rtn → σ × Rtn) (g2 : FuncId) (first cap2 : List FV) (h1 : allL (· < 6) first) (h2 : allL (· < 6) cap2)
    (hcall : ∀ x ∈ l, ∀ st, RetM o1 o2 o3 o4 by_ cap g2 (first ++ [.d (.agg (sR x))] ++ cap2) st (.agg (sR (h st x).2)) (h st x).1) :
    RetM o1 o2 o3 o4 by_ cap 101 [.d (.sl 103 (rR l)), .clo g2 first cap2] st (.sl 103 (rR (mapL h st l).2)) (mapL h st l).1 := by
  have hroomB : roomB = 140737488355328 := rfl; refine ac_of ok101 rfl rfl ?_
  repeat' first | (with_reducible refine W.seq ?_) | ((with_reducible refine W.region ?_); conv => whnf) | (with_reducible refine W.block ?_) | (intro hlen; simp only [rT_len, rE_len, rF_len, rC_len, rV_len, rP_len, rS_len, rR_len, rTT_len, rW_len] at hlen ⊢; conv => whnf) | ((refine And.intro rfl ?_); conv => whnf)
  refine W.seed 5 103 rfl ?_
  have hmapl : ∀ (st' : σ) (i : Nat) (x : Rtn), l[i]? = some x → mapL h st' (l.drop i) = ((mapL h (h st' x).1 (l.drop (i + 1))).1, (h st' x).2 :: (mapL h (h st' x).1 (l.drop (i + 1))).2) := by
    intro st' i x hx
    rw [drop_at hx]; simp only [mapL]
  have hl1 : (mapL h st l).2.length = l.length := mapL_len h st l
  refine W.cutB (σ := Unit) (fun _ => [(5, .own 103 (rR (mapL h st l).2) 6)]) (fun _ => glo :: o1 (mapL h st l).1 :: o2 (mapL h st l).1 :: o3 (mapL h st l).1 :: o4 (mapL h st l).1 :: M5 by_ cap :: [.buf 103 (rR (mapL h st l).2).length]) (fun _ => True) ?_ ?_
  · refine W.loopJ (σ := Nat × σ × List Rtn) (fun x => [(1, .clo g2 first cap2), (5, .own 103 (rR x.2.2) 6), (8, .d (.sl 103 (rR l))), (9, .d (.int .i64 l.length)), (10, .d (.int .i64 x.1))])
      (fun x => glo :: o1 x.2.1 :: o2 x.2.1 :: o3 x.2.1 :: o4 x.2.1 :: M5 by_ cap :: [.buf 103 (rR x.2.2).length])
      (fun x => x.1 ≤ l.length ∧ x.2.2.length = x.1 ∧ mapL h st l = ((mapL h x.2.1 (l.drop x.1)).1, x.2.2 ++ (mapL h x.2.1 (l.drop x.1)).2)) (fun x => l.length - x.1) (0, st, [])
      ⟨Nat.zero_le _, rfl, by simp⟩ ⟨.same _, .same _, .same _, .same _, .same _, trivial⟩ rfl ?_ ?_
    · rintro ⟨i, sti, done⟩ _
      obtain ⟨b1, b2, b3, b4⟩ := F.ok sti 7 (by omega)
      refine ⟨?_, ?_⟩
      · have k1 := allL_ok (k := 7) (fun l hl => by omega) h1
        have k2 := allL_ok (k := 7) (fun l hl => by omega) h2
        simp [OkIn]
        exact ⟨k1, k2⟩
      · intro o ho
        simp only [List.mem_cons, List.not_mem_nil, or_false] at ho
        rcases ho with rfl | rfl | rfl | rfl | rfl | rfl | rfl
        · trivial
        · exact b1
        · exact b2
        · exact b3
        · exact b4
        · have := okCap cap hcap (n := 7) (by omega)
          simpa [ObjOk, OkIn] using this
        · simp [ObjOk]
    rintro ⟨i, sti, done⟩ ⟨hi, hdl, hmap⟩
    dsimp only at hi hdl hmap ⊢
    rcases Nat.lt_or_ge i l.length with hlt | hge
    · obtain ⟨x, hx⟩ := at_lt hlt
      have hrx := rR_some hx
      rw [hmapl sti i x hx] at hmap
      repeat' first | (with_reducible refine W.seq ?_) | ((with_reducible refine W.region ?_); conv => whnf) | ((with_reducible refine W.cond ?_); conv => whnf) | (with_reducible refine W.block ?_) | ((with_reducible refine W.skip ?_); conv => whnf) | ((refine condM_intro (fun hc => ?_) (fun hc => ?_)) <;> (try simp only [decide_eq_true_eq, decide_eq_false_iff_not, beq_iff_eq, bne_iff_ne, beq_eq_false_iff_ne, bne_eq_false_iff_eq, ne_eq, Bool.not_eq_true', Bool.not_eq_false'] at hc) <;> (first | (exfalso; omega) | (conv => whnf))) | ((refine fun row hrow => ?_); revert row; (apply row_same); (focus assumption); conv => whnf) | ((refine And.intro rfl ?_); conv => whnf) | ((refine And.intro ?_ ?_); (focus (first | omega | (simp only [rT_len, rE_len, rF_len, rC_len, rV_len, rP_len, rS_len, rR_len, rTT_len, rW_len, List.length_map, List.length_replicate] at *; omega) | exact (byteAt_lt _ _).1 | exact (byteAt_lt _ _).2 | (simp [ebStr, ebTxts, ebU8, ebExpr, ebStmt, ebVar, ebParam, ebField, ebRec, ebRoutine, ebPair, roomB]; done))); conv => whnf)
      simp only [forceL_eq]
      refine AC.useM (rest := [_, _]) F by_ cap hcap (hcall x (List.mem_of_getElem? hx) sti) ?_ ?_
      · have ha : ∀ (p : Nat → Prop) (xs ys : List FV), allL p xs → allL p ys → allL p (xs ++ ys) := by
          intro p xs ys h1 h2
          induction xs with
          | nil => exact h2
          | cons z r ih => simp only [List.cons_append, allL] at h1 ⊢; exact ⟨h1.1, ih h1.2⟩
        exact ha _ _ _ (ha _ _ _ h1 (by simp [allL, FV.all, ev, Fr.get, FV.arg, FV.data, FV.cellD])) h2
      conv => whnf
      repeat' first | ((refine And.intro rfl ?_); conv => whnf) | ((refine And.intro ?_ ?_); (focus (first | omega | (simp only [rT_len, rE_len, rF_len, rC_len, rV_len, rP_len, rS_len, rR_len, rTT_len, rW_len, List.length_map, List.length_replicate] at *; omega) | exact (byteAt_lt _ _).1 | exact (byteAt_lt _ _).2 | (simp [ebStr, ebTxts, ebU8, ebExpr, ebStmt, ebVar, ebParam, ebField, ebRec, ebRoutine, ebPair, roomB]; done))); conv => whnf)
      have e3 : IntKind.i64.wrap (↑i + 1) = ((i + 1 : Nat) : Int) := wr (by omega) (by omega)
      refine And.intro (by simp only [List.length_append, List.length_cons, List.length_nil, rR_len] at *; simp [ebRoutine, roomB]; omega) ?_
      conv => whnf
      repeat' first | ((with_reducible refine W.region ?_); conv => whnf)
      refine ⟨(i + 1, (h sti x).1, done ++ [(h sti x).2]), [.var 103 ((sR x).map .d)], ⟨hlt, by simp [hdl], by simp only; rw [hmap]; simp⟩, by simp only; omega, ⟨.same _, .of_eq ?_, .same _, .same _, .of_eq (by rw [← e3]; rfl), trivial⟩, ?_, by simp⟩
      · dsimp only
        rw [rR_app]
        rfl
      · dsimp only
        simp only [rR_app, List.length_append]
        rfl
    · rw [drop_end hge] at hmap
      simp only [mapL, List.append_nil] at hmap
      repeat' first | (with_reducible refine W.seq ?_) | ((with_reducible refine W.region ?_); conv => whnf) | ((with_reducible refine W.cond ?_); conv => whnf) | ((with_reducible refine W.exit ?_); conv => whnf) | ((refine condM_intro (fun hc => ?_) (fun hc => ?_)) <;> (try simp only [decide_eq_true_eq, decide_eq_false_iff_not, beq_iff_eq, bne_iff_ne, beq_eq_false_iff_ne, bne_eq_false_iff_eq, ne_eq, Bool.not_eq_true', Bool.not_eq_false'] at hc) <;> (first | (exfalso; omega) | (conv => whnf)))
      rw [hmap]
      exact ⟨(), trivial, ⟨.same _, trivial⟩, rfl⟩
  rintro _ _
  repeat' first | (with_reducible refine W.seq ?_) | ((with_reducible refine W.region ?_); conv => whnf)
  refine W.retd 4 _ (.own _ _ _) ?_
  obtain ⟨b1, b2, b3, b4⟩ := F.ok (mapL h st l).1 6 (by omega)
  refine finH [glo, o1 (mapL h st l).1, o2 (mapL h st l).1, o3 (mapL h st l).1, o4 (mapL h st l).1, M5 by_ cap] [_] (.inr rfl) rfl rfl (by simp) ?_ (by simp [OkIn, Fr.get]) ⟨rfl, rfl⟩
  intro o ho
  simp only [List.mem_cons, List.not_mem_nil, or_false] at ho
  rcases ho with rfl | rfl | rfl | rfl | rfl | rfl
  · trivial
  · exact b1
  · exact b2
  · exact b3
  · exact b4
  · have := okCap cap hcap (n := 6) (by omega)
    simpa [ObjOk, OkIn] using this
end
end Go.Pg
set_option maxRecDepth 100000
set_option linter.all false
namespace Go.Pg
open Go.Proofs
section
variable {σ : Type}
section
variable (f : σ → Txt → σ × Txt)
mutual
def mpE : σ → Expr → σ × Expr
  | st, ⟨op, n, name, field, l⟩ =>
    let a := mapText f st name
    let b := mapText f a.1 field
    let c := mpEs b.1 l
    (c.1, ⟨op, n, a.2, b.2, c.2⟩)
def mpEs : σ → List Expr → σ × List Expr
  | st, [] => (st, [])
  | st, x :: l =>
    let r := mpE st x
    let q := mpEs r.1 l
    (q.1, r.2 :: q.2)
end
theorem mpEs_eq : ∀ (st : σ) (l : List Expr), mpEs f st l = mapL (mpE f) st l
  | st, [] => by simp [mpEs, mapL]
  | st, x :: l => by simp [mpEs, mapL, mpEs_eq _ l]
def mpY (st : σ) (t : Ty) : σ × Ty :=
  let a := mapText f st t.name
  (a.1, { t with name := a.2 })
def mpV (st : σ) (v : Vr) : σ × Vr :=
  let a := mapText f st v.name
  let b := mpY f a.1 v.t
  (b.1, { v with name := a.2, t := b.2 })
def mpP (st : σ) (v : Pm) : σ × Pm :=
  let a := mapText f st v.name
  let b := mpY f a.1 v.t
  (b.1, { v with name := a.2, t := b.2 })
def mpF (st : σ) (v : Fld) : σ × Fld :=
  let a := mapText f st v.name
  (a.1, { v with name := a.2 })
def mpC (st : σ) (v : Rc) : σ × Rc :=
  let a := mapText f st v.name
  let b := mapL (mpF f) a.1 v.fields
  (b.1, { v with name := a.2, fields := b.2 })
mutual
def mpS : σ → Stm → σ × Stm
  | st, ⟨before, trail, op, name, p, e, down, more, body, els, fin, fin2⟩ =>
    let a := mapText f st name
    let b := mpE f a.1 p
    let c := mapL (mpE f) b.1 e
    let d := mpSs c.1 body
    let g := mpSs d.1 els
    (g.1, ⟨before, trail, op, a.2, b.2, c.2, down, more, d.2, g.2, fin, fin2⟩)
def mpSs : σ → List Stm → σ × List Stm
  | st, [] => (st, [])
  | st, x :: l =>
    let r := mpS st x
    let q := mpSs r.1 l
    (q.1, r.2 :: q.2)
end
theorem mpSs_eq : ∀ (st : σ) (l : List Stm), mpSs f st l = mapL (mpS f) st l
  | st, [] => by simp [mpSs, mapL]
  | st, x :: l => by simp [mpSs, mapL, mpSs_eq _ l]
mutual
def mpR : σ → Rtn → σ × Rtn
  | st, ⟨before, trail, name, result, params, vars, inner, body, fin⟩ =>
    let a := mapText f st name
    let b := mapL (mpP f) a.1 params
    let c := mapL (mpV f) b.1 vars
    let d := mpRs c.1 inner
    let e := mapL (mpS f) d.1 body
    (e.1, ⟨before, trail, a.2, result, b.2, c.2, d.2, e.2, fin⟩)
def mpRs : σ → List Rtn → σ × List Rtn
  | st, [] => (st, [])
  | st, x :: l =>
    let r := mpR st x
    let q := mpRs r.1 l
    (q.1, r.2 :: q.2)
end
theorem mpRs_eq : ∀ (st : σ) (l : List Rtn), mpRs f st l = mapL (mpR f) st l
  | st, [] => by simp [mpRs, mapL]
  | st, x :: l => by simp [mpRs, mapL, mpRs_eq _ l]
def mpG (st : σ) (p : Pgm) : σ × Pgm :=
  let a := mapText f st p.name
  let b := mapL (mpC f) a.1 p.recs
  let c := mapL (mpV f) b.1 p.vars
  let d := mapL (mpR f) c.1 p.routines
  let e := mapL (mpS f) d.1 p.body
  (e.1, { p with name := a.2, recs := b.2, vars := c.2, routines := d.2, body := e.2 })
end
/- All texts in the place of a name, in the walk's order. -/
mutual
def nE : Expr → List Txt
  | ⟨_, _, name, field, l⟩ => name :: field :: nEs l
def nEs : List Expr → List Txt
  | [] => []
  | x :: l => nE x ++ nEs l
end
theorem nEs_eq : ∀ l : List Expr, nEs l = l.flatMap nE
  | [] => by simp [nEs]
  | x :: l => by simp [nEs, nEs_eq l]
def nV (v : Vr) : List Txt := [v.name, v.t.name]
def nP (v : Pm) : List Txt := [v.name, v.t.name]
def nF (v : Fld) : List Txt := [v.name]
def nC (v : Rc) : List Txt := v.name :: v.fields.flatMap nF
mutual
def nS : Stm → List Txt
  | ⟨_, _, _, name, p, e, _, _, body, els, _, _⟩ => name :: (nE p ++ (e.flatMap nE ++ (nSs body ++ nSs els)))
def nSs : List Stm → List Txt
  | [] => []
  | x :: l => nS x ++ nSs l
end
theorem nSs_eq : ∀ l : List Stm, nSs l = l.flatMap nS
  | [] => by simp [nSs]
  | x :: l => by simp [nSs, nSs_eq l]
mutual
def nR : Rtn → List Txt
  | ⟨_, _, name, _, params, vars, inner, body, _⟩ => name :: (params.flatMap nP ++ (vars.flatMap nV ++ (nRs inner ++ body.flatMap nS)))
def nRs : List Rtn → List Txt
  | [] => []
  | x :: l => nR x ++ nRs l
end
theorem nRs_eq : ∀ l : List Rtn, nRs l = l.flatMap nR
  | [] => by simp [nRs]
  | x :: l => by simp [nRs, nRs_eq l]
def nG (p : Pgm) : List Txt := p.name :: (p.recs.flatMap nC ++ (p.vars.flatMap nV ++ (p.routines.flatMap nR ++ p.body.flatMap nS)))
theorem clone_spec (l : List Txt) : Ret Tryz.prog 96 [.d (aT l)] (aT l) := by
  have hroomB : roomB = 140737488355328 := rfl; refine ac_of ok96 rfl rfl ?_
  refine W.rowLen 0 rfl (fun hlen => ?_)
  have hlen : l.length * 16 ≤ roomB := by simpa [rT_len, ebStr] using hlen
  repeat' first | (with_reducible refine W.seq ?_) | ((with_reducible refine W.region ?_); conv => whnf) | ((with_reducible refine W.cond ?_); conv => whnf) | ((with_reducible refine W.skip ?_); conv => whnf) | ((refine W.retd 2 _ (.nil _) ?_); conv => whnf) | (refine finD (.inr rfl) rfl rfl ⟨?_, rfl⟩) | ((refine condM_intro (fun hc => ?_) (fun hc => ?_)) <;> (try simp only [decide_eq_true_eq, decide_eq_false_iff_not, beq_iff_eq, bne_iff_ne, beq_eq_false_iff_ne, bne_eq_false_iff_eq, ne_eq, Bool.not_eq_true', Bool.not_eq_false'] at hc) <;> (first | (exfalso; omega) | (conv => whnf))) | (intro _; conv => whnf) | ((refine And.intro rfl ?_); conv => whnf) | ((refine And.intro ?_ ?_); (focus (first | omega | (simp only [rT_len, rE_len, rF_len, rC_len, rV_len, rP_len, rS_len, rR_len, rTT_len, rW_len, List.length_map, List.length_replicate] at *; omega) | exact (byteAt_lt _ _).1 | exact (byteAt_lt _ _).2 | (simp [ebStr, ebTxts, ebU8, ebExpr, ebStmt, ebVar, ebParam, ebField, ebRec, ebRoutine, ebPair, roomB]; done))); conv => whnf)
  · rename_i b h1
    have : rT l = [] := h1 (by cases b <;> simp_all [negB])
    simp [aT, this]
  · refine ⟨by simp [rT_len]; exact hlen, ?_⟩
    conv => whnf
    skip
    refine W.retd 2 _ (.own _ _ _) ?_
    exact finD (.inr rfl) rfl rfl ⟨rfl, rfl⟩
/-- A walk: what it remembers, what it calls for each part. -/
structure Walk (o1 o2 o3 o4 : σ → AObj) (f : σ → Txt → σ × Txt) (by_ : FuncId) (cap : List FV) (ok : Txt → Prop) : Prop where
  fam : Fam o1 o2 o3 o4
  hcap : allL (· < 5) cap
  parts : ∀ st s, ok s → RetS o1 o2 o3 o4 95 [.agg [.clo by_ [] cap], .d (.str s)] st (.str (mapText f st s).2) (mapText f st s).1
variable {o1 o2 o3 o4 : σ → AObj} {f : σ → Txt → σ × Txt} {by_ : FuncId} {cap : List FV} {ok : Txt → Prop}
theorem Walk.recv (h : Walk o1 o2 o3 o4 f by_ cap ok) : allL (· < 5) [FV.agg [.clo by_ [] cap]] := by
  simp only [allL, FV.all, true_and, and_true]
  exact h.hcap
theorem Walk.cap6 (h : Walk o1 o2 o3 o4 f by_ cap ok) : allL (· < 6) cap := by
  have := renL_all (p := (· < 5)) (q := (· < 6)) (ρ := id) (fun l hl => (show l < 6 by omega)) (l := cap) h.hcap
  rwa [renL_id] at this
theorem Walk.recv6 (h : Walk o1 o2 o3 o4 f by_ cap ok) : allL (· < 6) [FV.agg [.clo by_ [] cap]] := by
  simp only [allL, FV.all, true_and, and_true]
  exact h.cap6
theorem RetS.toM (F : Fam o1 o2 o3 o4) {g : FuncId} {args : List FV} {st st' : σ} {x : AV} (h : RetS o1 o2 o3 o4 g args st x st') (inA : allL (· < 5) args) : RetM o1 o2 o3 o4 by_ cap g args st x st' :=
  AC.useS (rest := [_]) F h inA ⟨rfl, rfl⟩
theorem finM (hw : Walk o1 o2 o3 o4 f by_ cap ok) {st st' : σ} {x : AV} {fr : Fr} {hp : AHeap} {rs : List RRes} {e : AExit} {junk : AHeap} (he : e = .normal ∨ e = .ret) (hh : hp = glo :: o1 st' :: o2 st' :: o3 st' :: o4 st' :: M5 by_ cap :: junk) (h : resultOf fr hp rs = some (.d x)) :
    retQ [glo, o1 st, o2 st, o3 st, o4 st, M5 by_ cap] rs (fun r g => r = .d x ∧ g = [glo, o1 st', o2 st', o3 st', o4 st', M5 by_ cap]) e fr hp := by
  obtain ⟨b1, b2, b3, b4⟩ := hw.fam.ok st' 6 (by omega)
  refine finH [glo, o1 st', o2 st', o3 st', o4 st', M5 by_ cap] junk he hh h (by simp) ?_ (by simp [OkIn]) ⟨rfl, rfl⟩
  intro o ho
  simp only [List.mem_cons, List.not_mem_nil, or_false] at ho
  rcases ho with rfl | rfl | rfl | rfl | rfl | rfl
  · trivial
  · exact b1
  · exact b2
  · exact b3
  · exact b4
  · have := okCap cap hw.hcap (n := 6) (by omega)
    simpa [ObjOk, OkIn] using this
theorem usePart (hw : Walk o1 o2 o3 o4 f by_ cap ok) {st : σ} {s : Txt} {rest : AHeap} {Q : FV → AHeap → Prop} (hs : ok s)
    (hq : Q (.d (.str (mapText f st s).2)) (glo :: o1 (mapText f st s).1 :: o2 (mapText f st s).1 :: o3 (mapText f st s).1 :: o4 (mapText f st s).1 :: rest)) :
    AC Tryz.prog 95 [.agg [.clo by_ [] cap], .d (.str s)] (glo :: o1 st :: o2 st :: o3 st :: o4 st :: rest) Q :=
  AC.useS hw.fam (hw.parts st s hs) ⟨hw.recv.1, trivial, trivial⟩ hq
theorem useEachE (hw : Walk o1 o2 o3 o4 f by_ cap ok) {st : σ} {l : List Expr} {h : σ → Expr → σ × Expr} {g2 : FuncId} {first cap2 : List FV} (h1 : allL (· < 6) first) (h2 : allL (· < 6) cap2)
    (hcall : ∀ x ∈ l, ∀ st, RetM o1 o2 o3 o4 by_ cap g2 (first ++ [.d (.agg (sE x))] ++ cap2) st (.agg (sE (h st x).2)) (h st x).1) {rest : AHeap} {Q : FV → AHeap → Prop}
    (hq : Q (.d (.sl 44 (rE (mapL h st l).2))) (glo :: o1 (mapL h st l).1 :: o2 (mapL h st l).1 :: o3 (mapL h st l).1 :: o4 (mapL h st l).1 :: M5 by_ cap :: rest)) :
    AC Tryz.prog 145 [.d (.sl 44 (rE l)), .clo g2 first cap2] (glo :: o1 st :: o2 st :: o3 st :: o4 st :: M5 by_ cap :: rest) Q :=
  AC.useM hw.fam by_ cap hw.hcap (eachE_spec hw.fam by_ cap hw.hcap st l h g2 first cap2 h1 h2 hcall) ⟨trivial, ⟨h1, h2⟩, trivial⟩ hq
theorem useEachF (hw : Walk o1 o2 o3 o4 f by_ cap ok) {st : σ} {l : List Fld} {h : σ → Fld → σ × Fld} {g2 : FuncId} {first cap2 : List FV} (h1 : allL (· < 6) first) (h2 : allL (· < 6) cap2)
    (hcall : ∀ x ∈ l, ∀ st, RetM o1 o2 o3 o4 by_ cap g2 (first ++ [.d (.agg (sF x))] ++ cap2) st (.agg (sF (h st x).2)) (h st x).1) {rest : AHeap} {Q : FV → AHeap → Prop}
    (hq : Q (.d (.sl 69 (rF (mapL h st l).2))) (glo :: o1 (mapL h st l).1 :: o2 (mapL h st l).1 :: o3 (mapL h st l).1 :: o4 (mapL h st l).1 :: M5 by_ cap :: rest)) :
    AC Tryz.prog 139 [.d (.sl 69 (rF l)), .clo g2 first cap2] (glo :: o1 st :: o2 st :: o3 st :: o4 st :: M5 by_ cap :: rest) Q :=
  AC.useM hw.fam by_ cap hw.hcap (eachF_spec hw.fam by_ cap hw.hcap st l h g2 first cap2 h1 h2 hcall) ⟨trivial, ⟨h1, h2⟩, trivial⟩ hq
theorem useEachC (hw : Walk o1 o2 o3 o4 f by_ cap ok) {st : σ} {l : List Rc} {h : σ → Rc → σ × Rc} {g2 : FuncId} {first cap2 : List FV} (h1 : allL (· < 6) first) (h2 : allL (· < 6) cap2)
    (hcall : ∀ x ∈ l, ∀ st, RetM o1 o2 o3 o4 by_ cap g2 (first ++ [.d (.agg (sC x))] ++ cap2) st (.agg (sC (h st x).2)) (h st x).1) {rest : AHeap} {Q : FV → AHeap → Prop}
    (hq : Q (.d (.sl 59 (rC (mapL h st l).2))) (glo :: o1 (mapL h st l).1 :: o2 (mapL h st l).1 :: o3 (mapL h st l).1 :: o4 (mapL h st l).1 :: M5 by_ cap :: rest)) :
    AC Tryz.prog 97 [.d (.sl 59 (rC l)), .clo g2 first cap2] (glo :: o1 st :: o2 st :: o3 st :: o4 st :: M5 by_ cap :: rest) Q :=
  AC.useM hw.fam by_ cap hw.hcap (eachC_spec hw.fam by_ cap hw.hcap st l h g2 first cap2 h1 h2 hcall) ⟨trivial, ⟨h1, h2⟩, trivial⟩ hq
theorem useEachV (hw : Walk o1 o2 o3 o4 f by_ cap ok) {st : σ} {l : List Vr} {h : σ → Vr → σ × Vr} {g2 : FuncId} {first cap2 : List FV} (h1 : allL (· < 6) first) (h2 : allL (· < 6) cap2)
    (hcall : ∀ x ∈ l, ∀ st, RetM o1 o2 o3 o4 by_ cap g2 (first ++ [.d (.agg (sV x))] ++ cap2) st (.agg (sV (h st x).2)) (h st x).1) {rest : AHeap} {Q : FV → AHeap → Prop}
    (hq : Q (.d (.sl 98 (rV (mapL h st l).2))) (glo :: o1 (mapL h st l).1 :: o2 (mapL h st l).1 :: o3 (mapL h st l).1 :: o4 (mapL h st l).1 :: M5 by_ cap :: rest)) :
    AC Tryz.prog 99 [.d (.sl 98 (rV l)), .clo g2 first cap2] (glo :: o1 st :: o2 st :: o3 st :: o4 st :: M5 by_ cap :: rest) Q :=
  AC.useM hw.fam by_ cap hw.hcap (eachV_spec hw.fam by_ cap hw.hcap st l h g2 first cap2 h1 h2 hcall) ⟨trivial, ⟨h1, h2⟩, trivial⟩ hq
theorem useEachP (hw : Walk o1 o2 o3 o4 f by_ cap ok) {st : σ} {l : List Pm} {h : σ → Pm → σ × Pm} {g2 : FuncId} {first cap2 : List FV} (h1 : allL (· < 6) first) (h2 : allL (· < 6) cap2)
    (hcall : ∀ x ∈ l, ∀ st, RetM o1 o2 o3 o4 by_ cap g2 (first ++ [.d (.agg (sP x))] ++ cap2) st (.agg (sP (h st x).2)) (h st x).1) {rest : AHeap} {Q : FV → AHeap → Prop}
    (hq : Q (.d (.sl 145 (rP (mapL h st l).2))) (glo :: o1 (mapL h st l).1 :: o2 (mapL h st l).1 :: o3 (mapL h st l).1 :: o4 (mapL h st l).1 :: M5 by_ cap :: rest)) :
    AC Tryz.prog 142 [.d (.sl 145 (rP l)), .clo g2 first cap2] (glo :: o1 st :: o2 st :: o3 st :: o4 st :: M5 by_ cap :: rest) Q :=
  AC.useM hw.fam by_ cap hw.hcap (eachP_spec hw.fam by_ cap hw.hcap st l h g2 first cap2 h1 h2 hcall) ⟨trivial, ⟨h1, h2⟩, trivial⟩ hq
theorem useEachS (hw : Walk o1 o2 o3 o4 f by_ cap ok) {st : σ} {l : List Stm} {h : σ → Stm → σ × Stm} {g2 : FuncId} {first cap2 : List FV} (h1 : allL (· < 6) first) (h2 : allL (· < 6) cap2)
    (hcall : ∀ x ∈ l, ∀ st, RetM o1 o2 o3 o4 by_ cap g2 (first ++ [.d (.agg (sS x))] ++ cap2) st (.agg (sS (h st x).2)) (h st x).1) {rest : AHeap} {Q : FV → AHeap → Prop}
    (hq : Q (.d (.sl 107 (rS (mapL h st l).2))) (glo :: o1 (mapL h st l).1 :: o2 (mapL h st l).1 :: o3 (mapL h st l).1 :: o4 (mapL h st l).1 :: M5 by_ cap :: rest)) :
    AC Tryz.prog 103 [.d (.sl 107 (rS l)), .clo g2 first cap2] (glo :: o1 st :: o2 st :: o3 st :: o4 st :: M5 by_ cap :: rest) Q :=
  AC.useM hw.fam by_ cap hw.hcap (eachS_spec hw.fam by_ cap hw.hcap st l h g2 first cap2 h1 h2 hcall) ⟨trivial, ⟨h1, h2⟩, trivial⟩ hq
theorem useEachR (hw : Walk o1 o2 o3 o4 f by_ cap ok) {st : σ} {l : List Rtn} {h : σ → Rtn → σ × Rtn} {g2 : FuncId} {first cap2 : List FV} (h1 : allL (· < 6) first) (h2 : allL (· < 6) cap2)
    (hcall : ∀ x ∈ l, ∀ st, RetM o1 o2 o3 o4 by_ cap g2 (first ++ [.d (.agg (sR x))] ++ cap2) st (.agg (sR (h st x).2)) (h st x).1) {rest : AHeap} {Q : FV → AHeap → Prop}
    (hq : Q (.d (.sl 103 (rR (mapL h st l).2))) (glo :: o1 (mapL h st l).1 :: o2 (mapL h st l).1 :: o3 (mapL h st l).1 :: o4 (mapL h st l).1 :: M5 by_ cap :: rest)) :
    AC Tryz.prog 101 [.d (.sl 103 (rR l)), .clo g2 first cap2] (glo :: o1 st :: o2 st :: o3 st :: o4 st :: M5 by_ cap :: rest) Q :=
  AC.useM hw.fam by_ cap hw.hcap (eachR_spec hw.fam by_ cap hw.hcap st l h g2 first cap2 h1 h2 hcall) ⟨trivial, ⟨h1, h2⟩, trivial⟩ hq
theorem mexpr_ind (hw : Walk o1 o2 o3 o4 f by_ cap ok) : ∀ (n : Nat) (e : Expr) (st : σ), SizeOf.sizeOf e ≤ n → (∀ s ∈ nE e, ok s) →
    RetS o1 o2 o3 o4 144 [.agg [.clo by_ [] cap], .d (.agg (sE e))] st (.agg (sE (mpE f st e).2)) (mpE f st e).1
  | 0, e, st, h, _ => by cases e; simp at h
  | n + 1, e, st, h, hok => by
    have h1 : ok e.name := hok _ (by cases e; simp [nE])
    have h2 : ok e.field := hok _ (by cases e; simp [nE])
    have h3 : ∀ x ∈ e.l, ∀ s ∈ nE x, ok s := fun x hx s hs => hok _ (by cases e; simp only [nE, nEs_eq, List.mem_cons, List.mem_flatMap]; exact .inr (.inr ⟨x, hx, hs⟩))
    have he : mpE f st e = ((mapL (mpE f) (mapText f (mapText f st e.name).1 e.field).1 e.l).1, ⟨e.op, e.n, (mapText f st e.name).2, (mapText f (mapText f st e.name).1 e.field).2, (mapL (mpE f) (mapText f (mapText f st e.name).1 e.field).1 e.l).2⟩) := by
      cases e; simp [mpE, mpEs_eq]
    rw [he]
    have hroomB : roomB = 140737488355328 := rfl; refine ac_of ok144 rfl rfl ?_
    repeat' first | (with_reducible refine W.seq ?_) | ((with_reducible refine W.region ?_); conv => whnf) | (((refine usePart hw h1 ?_)); conv => whnf) | (((refine usePart hw h2 ?_)); conv => whnf) | (((refine useEachE (rest := [_, _]) (cap2 := []) hw hw.recv6 trivial (fun x hx st => (mexpr_ind hw n x st (size_lE hx h) (h3 x hx)).toM hw.fam ⟨hw.recv.1, trivial, trivial⟩) ?_)); conv => whnf) | ((with_reducible refine W.ret ?_); conv => whnf)
    exact finS hw.fam (.inr rfl) rfl rfl
theorem mexpr_spec (hw : Walk o1 o2 o3 o4 f by_ cap ok) (e : Expr) (st : σ) (h : ∀ s ∈ nE e, ok s) : RetS o1 o2 o3 o4 144 [.agg [.clo by_ [] cap], .d (.agg (sE e))] st (.agg (sE (mpE f st e).2)) (mpE f st e).1 :=
  mexpr_ind hw _ e st (Nat.le_refl _) h
theorem mmarks_spec (hw : Walk o1 o2 o3 o4 f by_ cap ok) (a b : List Txt) (st : σ) : RetS o1 o2 o3 o4 138 [.agg [.clo by_ [] cap], .d (.agg [aT a, aT b])] st (.agg [aT a, aT b]) st := by
  have hroomB : roomB = 140737488355328 := rfl; refine ac_of ok138 rfl rfl ?_
  repeat' first | (with_reducible refine W.seq ?_) | ((with_reducible refine W.region ?_); conv => whnf) | ((refine AC.use (clone_spec _) ?_ rfl ?_); (focus (simp only [allL, FV.all, and_self]; done)); conv => whnf) | ((with_reducible refine W.ret ?_); conv => whnf) | (refine finD (.inr rfl) rfl rfl ⟨?_, rfl⟩) | (with_reducible rfl)
  all_goals exact finS hw.fam (.inr rfl) rfl rfl
theorem useMarks (hw : Walk o1 o2 o3 o4 f by_ cap ok) {a b : List Txt} {st : σ} {rest : AHeap} {Q : FV → AHeap → Prop} (hq : Q (.d (.agg [aT a, aT b])) (glo :: o1 st :: o2 st :: o3 st :: o4 st :: rest)) :
    AC Tryz.prog 138 [.agg [.clo by_ [] cap], .d (.agg [aT a, aT b])] (glo :: o1 st :: o2 st :: o3 st :: o4 st :: rest) Q :=
  AC.useS hw.fam (mmarks_spec hw a b st) ⟨hw.recv.1, trivial, trivial⟩ hq
theorem mtyp_spec (hw : Walk o1 o2 o3 o4 f by_ cap ok) (t : Ty) (st : σ) (h : ok t.name) : RetS o1 o2 o3 o4 141 [.agg [.clo by_ [] cap], .d (.agg (sY t))] st (.agg (sY (mpY f st t).2)) (mpY f st t).1 := by
  have hroomB : roomB = 140737488355328 := rfl; refine ac_of ok141 rfl rfl ?_
  repeat' first | (with_reducible refine W.seq ?_) | ((with_reducible refine W.region ?_); conv => whnf) | (((refine usePart hw h ?_)); conv => whnf) | ((with_reducible refine W.ret ?_); conv => whnf)
  all_goals exact finS hw.fam (.inr rfl) rfl rfl
theorem useTyp (hw : Walk o1 o2 o3 o4 f by_ cap ok) {t : Ty} {st : σ} {rest : AHeap} {Q : FV → AHeap → Prop} (h : ok t.name)
    (hq : Q (.d (.agg (sY (mpY f st t).2))) (glo :: o1 (mpY f st t).1 :: o2 (mpY f st t).1 :: o3 (mpY f st t).1 :: o4 (mpY f st t).1 :: rest)) :
    AC Tryz.prog 141 [.agg [.clo by_ [] cap], .d (.agg (sY t))] (glo :: o1 st :: o2 st :: o3 st :: o4 st :: rest) Q :=
  AC.useS hw.fam (mtyp_spec hw t st h) ⟨hw.recv.1, trivial, trivial⟩ hq
theorem useTypN (hw : Walk o1 o2 o3 o4 f by_ cap ok) {k z : Int} {nm : Txt} {st : σ} {rest : AHeap} {Q : FV → AHeap → Prop} (h : ok nm)
    (hq : Q (.d (.agg [.int .i64 k, .int .i64 z, .str (mapText f st nm).2])) (glo :: o1 (mapText f st nm).1 :: o2 (mapText f st nm).1 :: o3 (mapText f st nm).1 :: o4 (mapText f st nm).1 :: rest)) :
    AC Tryz.prog 141 [.agg [.clo by_ [] cap], .d (.agg [.int .i64 k, .int .i64 z, .str nm])] (glo :: o1 st :: o2 st :: o3 st :: o4 st :: rest) Q :=
  useTyp (t := ⟨k, z, nm⟩) hw h hq
theorem mvar_spec (hw : Walk o1 o2 o3 o4 f by_ cap ok) (v : Vr) (st : σ) (h : ∀ s ∈ nV v, ok s) : RetS o1 o2 o3 o4 100 [.agg [.clo by_ [] cap], .d (.agg (sV v))] st (.agg (sV (mpV f st v).2)) (mpV f st v).1 := by
  have h1 : ok v.name := h _ (by simp [nV])
  have h2 : ok v.t.name := h _ (by simp [nV])
  have hroomB : roomB = 140737488355328 := rfl; refine ac_of ok100 rfl rfl ?_
  repeat' first | (with_reducible refine W.seq ?_) | ((with_reducible refine W.region ?_); conv => whnf) | (((refine useMarks hw ?_)); conv => whnf) | (((refine usePart hw h1 ?_)); conv => whnf) | (((refine useTypN hw h2 ?_)); conv => whnf) | ((with_reducible refine W.ret ?_); conv => whnf)
  all_goals exact finS hw.fam (.inr rfl) rfl rfl
theorem mparam_spec (hw : Walk o1 o2 o3 o4 f by_ cap ok) (v : Pm) (st : σ) (h : ∀ s ∈ nP v, ok s) : RetM o1 o2 o3 o4 by_ cap 143 [.d (.agg (sP v)), .vp 5 0] st (.agg (sP (mpP f st v).2)) (mpP f st v).1 := by
  have h1 : ok v.name := h _ (by simp [nP])
  have h2 : ok v.t.name := h _ (by simp [nP])
  have hroomB : roomB = 140737488355328 := rfl; refine ac_of ok143 rfl rfl ?_
  repeat' first | (with_reducible refine W.seq ?_) | ((with_reducible refine W.region ?_); conv => whnf) | (((refine usePart hw h1 ?_)); conv => whnf) | (((refine useTypN hw h2 ?_)); conv => whnf) | ((with_reducible refine W.ret ?_); conv => whnf)
  all_goals exact finM hw (.inr rfl) rfl rfl
theorem mfield_spec (hw : Walk o1 o2 o3 o4 f by_ cap ok) (v : Fld) (st : σ) (h : ∀ s ∈ nF v, ok s) : RetM o1 o2 o3 o4 by_ cap 140 [.d (.agg (sF v)), .vp 5 0] st (.agg (sF (mpF f st v).2)) (mpF f st v).1 := by
  have h1 : ok v.name := h _ (by simp [nF])
  have hroomB : roomB = 140737488355328 := rfl; refine ac_of ok140 rfl rfl ?_
  repeat' first | (with_reducible refine W.seq ?_) | ((with_reducible refine W.region ?_); conv => whnf) | (((refine useMarks hw ?_)); conv => whnf) | (((refine usePart hw h1 ?_)); conv => whnf) | ((with_reducible refine W.ret ?_); conv => whnf)
  all_goals exact finM hw (.inr rfl) rfl rfl
theorem mrec_spec (hw : Walk o1 o2 o3 o4 f by_ cap ok) (v : Rc) (st : σ) (h : ∀ s ∈ nC v, ok s) : RetS o1 o2 o3 o4 98 [.agg [.clo by_ [] cap], .d (.agg (sC v))] st (.agg (sC (mpC f st v).2)) (mpC f st v).1 := by
  have h1 : ok v.name := h _ (by simp [nC])
  have h2 : ∀ x ∈ v.fields, ∀ s ∈ nF x, ok s := fun x hx s hs => h _ (by simp only [nC, List.mem_cons, List.mem_flatMap]; exact .inr ⟨x, hx, hs⟩)
  have hroomB : roomB = 140737488355328 := rfl; refine ac_of ok98 rfl rfl ?_
  repeat' first | (with_reducible refine W.seq ?_) | ((with_reducible refine W.region ?_); conv => whnf) | ((refine AC.use (clone_spec _) ?_ rfl ?_); (focus (simp only [allL, FV.all, and_self]; done)); conv => whnf) | (((refine useMarks hw ?_)); conv => whnf) | (((refine usePart hw h1 ?_)); conv => whnf) | (((refine useEachF (rest := [_, _]) hw trivial (first := []) (cap2 := [.vp 5 0]) (by simp [allL, FV.all]) (fun x hx st => mfield_spec hw x st (h2 x hx)) ?_)); conv => whnf) | ((with_reducible refine W.ret ?_); conv => whnf)
  all_goals exact finS hw.fam (.inr rfl) rfl rfl
theorem mstmt_ind (hw : Walk o1 o2 o3 o4 f by_ cap ok) : ∀ (n : Nat) (e : Stm) (st : σ), SizeOf.sizeOf e ≤ n → (∀ s ∈ nS e, ok s) →
    RetS o1 o2 o3 o4 104 [.agg [.clo by_ [] cap], .d (.agg (sS e))] st (.agg (sS (mpS f st e).2)) (mpS f st e).1
  | 0, e, st, h, _ => by cases e; simp at h
  | n + 1, e, st, h, hok => by
    have h1 : ok e.name := hok _ (by cases e; simp [nS])
    have h2 : ∀ s ∈ nE e.p, ok s := fun s hs => hok _ (by cases e; simp only [nS, List.mem_cons, List.mem_append]; exact .inr (.inl hs))
    have h3 : ∀ x ∈ e.e, ∀ s ∈ nE x, ok s := fun x hx s hs => hok _ (by cases e; simp only [nS, List.mem_cons, List.mem_append, List.mem_flatMap]; exact .inr (.inr (.inl ⟨x, hx, hs⟩)))
    have h4 : ∀ x ∈ e.body, ∀ s ∈ nS x, ok s := fun x hx s hs => hok _ (by cases e; simp only [nS, nSs_eq, List.mem_cons, List.mem_append, List.mem_flatMap]; exact .inr (.inr (.inr (.inl ⟨x, hx, hs⟩))))
    have h5 : ∀ x ∈ e.els, ∀ s ∈ nS x, ok s := fun x hx s hs => hok _ (by cases e; simp only [nS, nSs_eq, List.mem_cons, List.mem_append, List.mem_flatMap]; exact .inr (.inr (.inr (.inr ⟨x, hx, hs⟩))))
    have he : mpS f st e = (let a := mapText f st e.name
      let b := mpE f a.1 e.p
      let c := mapL (mpE f) b.1 e.e
      let d := mapL (mpS f) c.1 e.body
      let g := mapL (mpS f) d.1 e.els
      (g.1, { e with name := a.2, p := b.2, e := c.2, body := d.2, els := g.2 })) := by
      cases e; simp [mpS, mpSs_eq]
    rw [he]
    have hroomB : roomB = 140737488355328 := rfl; refine ac_of ok104 rfl rfl ?_
    repeat' first | (with_reducible refine W.seq ?_) | ((with_reducible refine W.region ?_); conv => whnf) | ((with_reducible refine W.regions2 ?_ ?_) <;> (conv => whnf)) | ((refine AC.use (clone_spec _) ?_ rfl ?_); (focus (simp only [allL, FV.all, and_self]; done)); conv => whnf) | (((refine useMarks hw ?_)); conv => whnf) | (((refine usePart hw h1 ?_)); conv => whnf) | (((refine AC.useS hw.fam (mexpr_spec hw e.p _ h2) ⟨hw.recv.1, trivial, trivial⟩ ?_)); conv => whnf) | (((refine useEachE (rest := [_, _]) (cap2 := []) hw hw.recv6 trivial (fun x hx st => (mexpr_spec hw x st (h3 x hx)).toM hw.fam ⟨hw.recv.1, trivial, trivial⟩) ?_)); conv => whnf) | (((refine useEachS (l := e.body) (rest := [_, _]) (cap2 := []) hw hw.recv6 trivial (fun x hx st => (mstmt_ind hw n x st (size_bS hx h) (h4 x hx)).toM hw.fam ⟨hw.recv.1, trivial, trivial⟩) ?_)); conv => whnf) | (((refine useEachS (l := e.els) (rest := [_, _]) (cap2 := []) hw hw.recv6 trivial (fun x hx st => (mstmt_ind hw n x st (size_eS hx h) (h5 x hx)).toM hw.fam ⟨hw.recv.1, trivial, trivial⟩) ?_)); conv => whnf) | ((with_reducible refine W.ret ?_); conv => whnf)
    all_goals exact finS hw.fam (.inr rfl) rfl rfl
theorem mstmt_spec (hw : Walk o1 o2 o3 o4 f by_ cap ok) (e : Stm) (st : σ) (h : ∀ s ∈ nS e, ok s) : RetS o1 o2 o3 o4 104 [.agg [.clo by_ [] cap], .d (.agg (sS e))] st (.agg (sS (mpS f st e).2)) (mpS f st e).1 :=
  mstmt_ind hw _ e st (Nat.le_refl _) h
theorem mrtn_ind (hw : Walk o1 o2 o3 o4 f by_ cap ok) : ∀ (n : Nat) (e : Rtn) (st : σ), SizeOf.sizeOf e ≤ n → (∀ s ∈ nR e, ok s) →
    RetS o1 o2 o3 o4 102 [.agg [.clo by_ [] cap], .d (.agg (sR e))] st (.agg (sR (mpR f st e).2)) (mpR f st e).1
  | 0, e, st, h, _ => by cases e; simp at h
  | n + 1, e, st, h, hok => by
    have h1 : ok e.name := hok _ (by cases e; simp [nR])
    have h2 : ∀ x ∈ e.params, ∀ s ∈ nP x, ok s := fun x hx s hs => hok _ (by cases e; simp only [nR, List.mem_cons, List.mem_append, List.mem_flatMap]; exact .inr (.inl ⟨x, hx, hs⟩))
    have h3 : ∀ x ∈ e.vars, ∀ s ∈ nV x, ok s := fun x hx s hs => hok _ (by cases e; simp only [nR, List.mem_cons, List.mem_append, List.mem_flatMap]; exact .inr (.inr (.inl ⟨x, hx, hs⟩)))
    have h4 : ∀ x ∈ e.inner, ∀ s ∈ nR x, ok s := fun x hx s hs => hok _ (by cases e; simp only [nR, nRs_eq, List.mem_cons, List.mem_append, List.mem_flatMap]; exact .inr (.inr (.inr (.inl ⟨x, hx, hs⟩))))
    have h5 : ∀ x ∈ e.body, ∀ s ∈ nS x, ok s := fun x hx s hs => hok _ (by cases e; simp only [nR, nRs_eq, List.mem_cons, List.mem_append, List.mem_flatMap]; exact .inr (.inr (.inr (.inr ⟨x, hx, hs⟩))))
    have he : mpR f st e = (let a := mapText f st e.name
      let b := mapL (mpP f) a.1 e.params
      let c := mapL (mpV f) b.1 e.vars
      let d := mapL (mpR f) c.1 e.inner
      let g := mapL (mpS f) d.1 e.body
      (g.1, { e with name := a.2, params := b.2, vars := c.2, inner := d.2, body := g.2 })) := by
      cases e; simp [mpR, mpRs_eq]
    rw [he]
    have hroomB : roomB = 140737488355328 := rfl; refine ac_of ok102 rfl rfl ?_
    repeat' first | (with_reducible refine W.seq ?_) | ((with_reducible refine W.region ?_); conv => whnf) | ((refine AC.use (clone_spec _) ?_ rfl ?_); (focus (simp only [allL, FV.all, and_self]; done)); conv => whnf) | (((refine useMarks hw ?_)); conv => whnf) | (((refine usePart hw h1 ?_)); conv => whnf) | (((refine useEachP (rest := [_, _]) hw trivial (first := []) (cap2 := [.vp 5 0]) (by simp [allL, FV.all]) (fun x hx st => mparam_spec hw x st (h2 x hx)) ?_)); conv => whnf) | (((refine useEachV (rest := [_, _]) (cap2 := []) hw hw.recv6 trivial (fun x hx st => (mvar_spec hw x st (h3 x hx)).toM hw.fam ⟨hw.recv.1, trivial, trivial⟩) ?_)); conv => whnf) | (((refine useEachR (rest := [_, _]) (cap2 := []) hw hw.recv6 trivial (fun x hx st => (mrtn_ind hw n x st (size_iR hx h) (h4 x hx)).toM hw.fam ⟨hw.recv.1, trivial, trivial⟩) ?_)); conv => whnf) | (((refine useEachS (rest := [_, _]) (cap2 := []) hw hw.recv6 trivial (fun x hx st => (mstmt_spec hw x st (h5 x hx)).toM hw.fam ⟨hw.recv.1, trivial, trivial⟩) ?_)); conv => whnf) | ((with_reducible refine W.ret ?_); conv => whnf)
    all_goals exact finS hw.fam (.inr rfl) rfl rfl
theorem mrtn_spec (hw : Walk o1 o2 o3 o4 f by_ cap ok) (e : Rtn) (st : σ) (h : ∀ s ∈ nR e, ok s) : RetS o1 o2 o3 o4 102 [.agg [.clo by_ [] cap], .d (.agg (sR e))] st (.agg (sR (mpR f st e).2)) (mpR f st e).1 :=
  mrtn_ind hw _ e st (Nat.le_refl _) h
section
variable {P : Program} {N : Nat} {mt : List Nat} {Q : AExit → Fr → AHeap → Prop} {fr : Fr} {hp : AHeap}
def andL {α : Type} (q : α → Prop) : List α → Prop
  | [] => True
  | x :: l => q x ∧ andL q l
theorem andL_mem {α : Type} {q : α → Prop} : ∀ {l : List α}, andL q l → ∀ x ∈ l, q x
  | [], _, x, hx => by simp at hx
  | y :: l, h, x, hx => by
    rcases List.mem_cons.1 hx with rfl | hx
    · exact h.1
    · exact andL_mem h.2 x hx
/-- Orders, however many. -/
theorem W.regionsC {os : List (List ROper)} (h : andL (fun rs => vcW P (Q .normal) rs fr hp) os) : W P mt N (.regions os) Q fr hp := ⟨.regions fun rs hrs => vcW_ok _ _ _ (andL_mem h rs hrs)⟩
end
theorem mprog_spec (hw : Walk o1 o2 o3 o4 f by_ cap ok) (e : Pgm) (st : σ) (hok : ∀ s ∈ nG e, ok s) :
    RetS o1 o2 o3 o4 39 [.agg [.clo by_ [] cap], .d (.agg (sG e))] st (.agg (sG (mpG f st e).2)) (mpG f st e).1 := by
  have h1 : ok e.name := hok _ (by simp [nG])
  have h2 : ∀ x ∈ e.recs, ∀ s ∈ nC x, ok s := fun x hx s hs => hok _ (by simp only [nG, List.mem_cons, List.mem_append, List.mem_flatMap]; exact .inr (.inl ⟨x, hx, hs⟩))
  have h3 : ∀ x ∈ e.vars, ∀ s ∈ nV x, ok s := fun x hx s hs => hok _ (by simp only [nG, List.mem_cons, List.mem_append, List.mem_flatMap]; exact .inr (.inr (.inl ⟨x, hx, hs⟩)))
  have h4 : ∀ x ∈ e.routines, ∀ s ∈ nR x, ok s := fun x hx s hs => hok _ (by simp only [nG, List.mem_cons, List.mem_append, List.mem_flatMap]; exact .inr (.inr (.inr (.inl ⟨x, hx, hs⟩))))
  have h5 : ∀ x ∈ e.body, ∀ s ∈ nS x, ok s := fun x hx s hs => hok _ (by simp only [nG, List.mem_cons, List.mem_append, List.mem_flatMap]; exact .inr (.inr (.inr (.inr ⟨x, hx, hs⟩))))
  have hroomB : roomB = 140737488355328 := rfl; refine ac_of ok39 rfl rfl ?_
  repeat' first | (with_reducible refine W.seq ?_) | ((with_reducible refine W.region ?_); conv => whnf) | (((refine usePart hw h1 ?_)); conv => whnf)
  generalize hn1 : mapText f st e.name = n1 at *
  have hm : mpG f st e = (let b := mapL (mpC f) n1.1 e.recs
    let c := mapL (mpV f) b.1 e.vars
    let d := mapL (mpR f) c.1 e.routines
    let g := mapL (mpS f) d.1 e.body
    (g.1, { e with name := n1.2, recs := b.2, vars := c.2, routines := d.2, body := g.2 })) := by simp only [mpG, hn1]
  rw [hm]
  refine W.cutN (σ := Unit) (fun _ => [(2, .vp 5 0), (3, .vp 6 0), (4, .vp 7 0)]) (fun _ => glo :: o1 n1.1 :: o2 n1.1 :: o3 n1.1 :: o4 n1.1 :: M5 by_ cap ::
    [.var 28 [.d (.str n1.2), .d (aT e.before), .d (aT e.mid), .d (aT e.after), .d (.sl tRec (rC e.recs)), .d (.sl tVar (rV e.vars)), .d (.sl tRoutine (rR e.routines)), .d (.sl tStmt (rS e.body)), .d (aT e.fin)],
     .var 28 [.d (.str []), .nil 9, .nil 9, .nil 9, .nil tRec, .nil tVar, .nil tRoutine, .nil tStmt, .nil 9]]) (fun _ => True) ?_ ?_
  · refine W.regionsC ?_
    conv => whnf
    repeat' (first | (refine And.intro ?_ ?_) | exact trivial)
    all_goals conv => whnf
    all_goals (
      repeat' first | ((refine AC.use (clone_spec _) ?_ rfl ?_); (focus (simp only [allL, FV.all, and_self]; done)); conv => whnf)
      exact ⟨(), trivial, ⟨.same _, .same _, .same _, trivial⟩, rfl⟩)
  rintro _ _
  repeat' first | (with_reducible refine W.seq ?_) | ((with_reducible refine W.region ?_); conv => whnf) | (((refine useEachC (rest := [_, _]) (cap2 := []) hw hw.recv6 trivial (fun x hx st => (mrec_spec hw x st (h2 x hx)).toM hw.fam ⟨hw.recv.1, trivial, trivial⟩) ?_)); conv => whnf) | (((refine useEachV (rest := [_, _]) (cap2 := []) hw hw.recv6 trivial (fun x hx st => (mvar_spec hw x st (h3 x hx)).toM hw.fam ⟨hw.recv.1, trivial, trivial⟩) ?_)); conv => whnf) | (((refine useEachR (rest := [_, _]) (cap2 := []) hw hw.recv6 trivial (fun x hx st => (mrtn_spec hw x st (h4 x hx)).toM hw.fam ⟨hw.recv.1, trivial, trivial⟩) ?_)); conv => whnf) | (((refine useEachS (rest := [_, _]) (cap2 := []) hw hw.recv6 trivial (fun x hx st => (mstmt_spec hw x st (h5 x hx)).toM hw.fam ⟨hw.recv.1, trivial, trivial⟩) ?_)); conv => whnf) | ((with_reducible refine W.ret ?_); conv => whnf)
  all_goals exact finS hw.fam (.inr rfl) rfl rfl
end
end Go.Pg
