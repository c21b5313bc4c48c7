/- Part C2 of the proof: the laws and contracts that the last text joins. Own work; no condition of its own. -/
import Derived.Test.YtfdkncmlnfenjaaGreatDoorC1
set_option linter.all false
set_option maxRecDepth 100000
set_option linter.all false
namespace Go.Pg
open Go.Proofs
/-- Is it the same? -/
noncomputable def same {α : Type} (a b : α) : Bool := @decide (a = b) (Classical.propDecidable _)
theorem same_iff {α : Type} {a b : α} : same a b = true ↔ a = b := by simp [same]
theorem same_niff {α : Type} {a b : α} : same a b = false ↔ a ≠ b := by simp [same]
theorem same_ne {α : Type} {a b : α} (h : a ≠ b) : same a b = false := by simp [same, h]
theorem same_rfl {α : Type} (a : α) : same a a = true := by simp [same]
theorem same_cons {α : Type} (a b : α) (l m : List α) : same (a :: l) (b :: m) = (same a b && same l m) := by
  rw [Bool.eq_iff_iff]
  simp [same]
theorem same_nil {α : Type} : same ([] : List α) [] = true := by simp [same]
theorem eqT1_spec (l m : List Txt) : Ret Tryz.prog 54 [.d (aT l), .d (aT m)] (.bool (same l m)) := by
  have hroomB : roomB = 140737488355328 := rfl; refine ac_of ok54 rfl rfl ?_
  repeat' first | (with_reducible refine W.seq ?_) | ((with_reducible refine W.region ?_); conv => whnf) | ((with_reducible refine W.cond ?_); conv => whnf) | (with_reducible refine W.block ?_) | ((with_reducible refine W.skip ?_); conv => whnf) | ((with_reducible refine W.ret ?_); conv => whnf) | (refine finD (.inr rfl) rfl rfl ⟨?_, rfl⟩) | ((refine condM_intro (fun hc => ?_) (fun hc => ?_)) <;> (try simp only [decide_eq_true_eq, decide_eq_false_iff_not, beq_iff_eq, bne_iff_ne, beq_eq_false_iff_ne, bne_eq_false_iff_eq, ne_eq, Bool.not_eq_true', Bool.not_eq_false'] at hc) <;> (first | (exfalso; omega) | (conv => whnf))) | (intro hlen; simp only [rT_len, rE_len, rF_len, rC_len, rV_len, rP_len, rS_len, rR_len, rTT_len, rW_len] at hlen ⊢; conv => whnf) | ((refine And.intro rfl ?_); conv => whnf)
  · rw [same_ne]; intro h; subst h; omega
  refine W.loop (σ := Nat) (fun i => [(0, .d (aT l)), (1, .d (aT m)), (12, .d (.int .i64 l.length)), (13, .d (.int .i64 i))]) (fun _ => gl) (fun i => i ≤ l.length ∧ same (l.drop i) (m.drop i) = same l m) (fun i => l.length - i) 0 ⟨Nat.zero_le _, by simp⟩ ⟨.same _, .same _, .same _, .same _, trivial⟩ rfl ?_
  rintro i ⟨hi, hall⟩
  repeat' first | (with_reducible refine W.seq ?_) | ((with_reducible refine W.region ?_); conv => whnf) | ((with_reducible refine W.cond ?_); conv => whnf) | (with_reducible refine W.block ?_) | ((with_reducible refine W.skip ?_); conv => whnf) | ((with_reducible refine W.exit ?_); conv => whnf) | ((with_reducible refine W.ret ?_); conv => whnf) | (refine finD (.inr rfl) rfl rfl ⟨?_, rfl⟩) | ((refine condM_intro (fun hc => ?_) (fun hc => ?_)) <;> (try simp only [decide_eq_true_eq, decide_eq_false_iff_not, beq_iff_eq, bne_iff_ne, beq_eq_false_iff_ne, bne_eq_false_iff_eq, ne_eq, Bool.not_eq_true', Bool.not_eq_false'] at hc) <;> (first | (exfalso; omega) | (conv => whnf))) | (intro row hrow; (first | (obtain rfl := spaceCells_at hrow) | (obtain ⟨x, hx, rfl⟩ := rE_at hrow) | (obtain ⟨x, hx, rfl⟩ := map_at hrow) | (obtain ⟨x, hx, rfl⟩ := rS_at hrow) | (obtain ⟨x, hx, rfl⟩ := rR_at hrow)); conv => whnf) | ((refine And.intro rfl ?_); conv => whnf) | ((refine And.intro ?_ ?_); (focus (first | omega | (simp only [rT_len, rE_len, rF_len, rC_len, rV_len, rP_len, rS_len, rR_len, rTT_len, rW_len, List.length_map, List.length_replicate] at *; omega) | exact (byteAt_lt _ _).1 | exact (byteAt_lt _ _).2 | (simp [ebStr, ebTxts, ebU8, ebExpr, ebStmt, ebVar, ebParam, ebField, ebRec, ebRoutine, ebPair, roomB]; done))); conv => whnf)
  · rename_i x1 hx1 hrow1
    simp only [Int.toNat_natCast] at hx hx1
    rw [drop_at hx, drop_at hx1, same_cons, same_ne hc, Bool.false_and] at hall
    rw [hall]
  · rename_i x1 hx1 hrow1
    simp only [Int.toNat_natCast] at hx hx1
    subst hc
    rw [drop_at hx, drop_at hx1, same_cons, same_rfl, Bool.true_and] at hall
    refine ⟨i + 1, ⟨by omega, hall⟩, by omega, ?_, rfl⟩
    (repeat' (first | exact trivial | exact SlotLe.same _ | exact SlotLe.own _ _ _ | exact SlotLe.nil _ | exact SlotLe.any _ | (apply And.intro) | (refine SlotLe.of_eq ?_; rw [wr (by omega) (by omega)]; rfl) | (refine SlotLe.of_eq ?_; rw [wr (by omega) (by omega)]; congr 2; omega)))
  · rw [drop_end (by omega), drop_end (by omega), same_nil] at hall
    rw [hall]
theorem rsame_spec (l m : List Txt) : Ret Tryz.prog 12 [.d (aT l), .d (aT m)] (.bool (same l m)) := by
  have hroomB : roomB = 140737488355328 := rfl; refine ac_of ok12 rfl rfl ?_
  repeat' first | (with_reducible refine W.seq ?_) | ((with_reducible refine W.region ?_); conv => whnf) | ((with_reducible refine W.cond ?_); conv => whnf) | (with_reducible refine W.block ?_) | ((with_reducible refine W.skip ?_); conv => whnf) | ((with_reducible refine W.ret ?_); conv => whnf) | (refine finD (.inr rfl) rfl rfl ⟨?_, rfl⟩) | ((refine condM_intro (fun hc => ?_) (fun hc => ?_)) <;> (try simp only [decide_eq_true_eq, decide_eq_false_iff_not, beq_iff_eq, bne_iff_ne, beq_eq_false_iff_ne, bne_eq_false_iff_eq, ne_eq, Bool.not_eq_true', Bool.not_eq_false'] at hc) <;> (first | (exfalso; omega) | (conv => whnf))) | (intro hlen; simp only [rT_len, rE_len, rF_len, rC_len, rV_len, rP_len, rS_len, rR_len, rTT_len, rW_len] at hlen ⊢; conv => whnf) | ((refine And.intro rfl ?_); conv => whnf)
  · rw [same_ne]; intro h; subst h; omega
  refine W.loop (σ := Nat) (fun i => [(0, .d (aT l)), (1, .d (aT m)), (5, .d (.int .i64 i))]) (fun _ => gl) (fun i => i ≤ l.length ∧ same (l.drop i) (m.drop i) = same l m) (fun i => l.length - i) 0 ⟨Nat.zero_le _, by simp⟩ ⟨.same _, .same _, .same _, trivial⟩ rfl ?_
  rintro i ⟨hi, hall⟩
  repeat' first | (with_reducible refine W.seq ?_) | ((with_reducible refine W.region ?_); conv => whnf) | ((with_reducible refine W.cond ?_); conv => whnf) | (with_reducible refine W.block ?_) | ((with_reducible refine W.skip ?_); conv => whnf) | ((with_reducible refine W.exit ?_); conv => whnf) | ((with_reducible refine W.ret ?_); conv => whnf) | (refine finD (.inr rfl) rfl rfl ⟨?_, rfl⟩) | ((refine condM_intro (fun hc => ?_) (fun hc => ?_)) <;> (try simp only [decide_eq_true_eq, decide_eq_false_iff_not, beq_iff_eq, bne_iff_ne, beq_eq_false_iff_ne, bne_eq_false_iff_eq, ne_eq, Bool.not_eq_true', Bool.not_eq_false'] at hc) <;> (first | (exfalso; omega) | (conv => whnf))) | (intro row hrow; (first | (obtain rfl := spaceCells_at hrow) | (obtain ⟨x, hx, rfl⟩ := rE_at hrow) | (obtain ⟨x, hx, rfl⟩ := map_at hrow) | (obtain ⟨x, hx, rfl⟩ := rS_at hrow) | (obtain ⟨x, hx, rfl⟩ := rR_at hrow)); conv => whnf) | (intro hlen; simp only [rT_len, rE_len, rF_len, rC_len, rV_len, rP_len, rS_len, rR_len, rTT_len, rW_len] at hlen ⊢; conv => whnf) | ((refine And.intro rfl ?_); conv => whnf) | ((refine And.intro ?_ ?_); (focus (first | omega | (simp only [rT_len, rE_len, rF_len, rC_len, rV_len, rP_len, rS_len, rR_len, rTT_len, rW_len, List.length_map, List.length_replicate] at *; omega) | exact (byteAt_lt _ _).1 | exact (byteAt_lt _ _).2 | (simp [ebStr, ebTxts, ebU8, ebExpr, ebStmt, ebVar, ebParam, ebField, ebRec, ebRoutine, ebPair, roomB]; done))); conv => whnf)
  · rename_i x1 hx1 hrow1
    simp only [Int.toNat_natCast] at hx hx1
    rw [drop_at hx, drop_at hx1, same_cons, same_ne hc, Bool.false_and] at hall
    rw [hall]
  · rename_i x1 hx1 hrow1
    simp only [Int.toNat_natCast] at hx hx1
    subst hc
    rw [drop_at hx, drop_at hx1, same_cons, same_rfl, Bool.true_and] at hall
    refine ⟨i + 1, ⟨by omega, hall⟩, by omega, ?_, rfl⟩
    (repeat' (first | exact trivial | exact SlotLe.same _ | exact SlotLe.own _ _ _ | exact SlotLe.nil _ | exact SlotLe.any _ | (apply And.intro) | (refine SlotLe.of_eq ?_; rw [wr (by omega) (by omega)]; rfl) | (refine SlotLe.of_eq ?_; rw [wr (by omega) (by omega)]; congr 2; omega)))
  · rw [drop_end (by omega), drop_end (by omega), same_nil] at hall
    rw [hall]
theorem eqfE (l m : List Expr) (g : FuncId) (hg : ∀ x ∈ l, ∀ y, Ret Tryz.prog g [.d (.agg (sE x)), .d (.agg (sE y))] (.bool (same x y))) : Ret Tryz.prog 63 [.d (.sl 44 (rE l)), .d (.sl 44 (rE m)), .clo g [] []] (.bool (same l m)) := by
  have hroomB : roomB = 140737488355328 := rfl; refine ac_of ok63 rfl rfl ?_
  repeat' first | (with_reducible refine W.seq ?_) | ((with_reducible refine W.region ?_); conv => whnf) | ((with_reducible refine W.cond ?_); conv => whnf) | (with_reducible refine W.block ?_) | ((with_reducible refine W.skip ?_); conv => whnf) | ((with_reducible refine W.ret ?_); conv => whnf) | (refine finD (.inr rfl) rfl rfl ⟨?_, rfl⟩) | ((refine condM_intro (fun hc => ?_) (fun hc => ?_)) <;> (try simp only [decide_eq_true_eq, decide_eq_false_iff_not, beq_iff_eq, bne_iff_ne, beq_eq_false_iff_ne, bne_eq_false_iff_eq, ne_eq, Bool.not_eq_true', Bool.not_eq_false'] at hc) <;> (first | (exfalso; omega) | (conv => whnf))) | (intro hlen; simp only [rT_len, rE_len, rF_len, rC_len, rV_len, rP_len, rS_len, rR_len, rTT_len, rW_len] at hlen ⊢; conv => whnf) | ((refine And.intro rfl ?_); conv => whnf)
  · rw [same_ne]; intro h; subst h; omega
  refine W.loopJ (σ := Nat) (fun i => [(0, .d (.sl 44 (rE l))), (1, .d (.sl 44 (rE m))), (2, .clo g [] []), (15, .d (.sl 44 (rE l))), (16, .d (.int .i64 l.length)), (17, .d (.int .i64 i))]) (fun _ => gl) (fun i => i ≤ l.length ∧ same (l.drop i) (m.drop i) = same l m) (fun i => l.length - i) 0 ⟨Nat.zero_le _, by simp⟩ ⟨.same _, .same _, .same _, .same _, .same _, .same _, trivial⟩ rfl (fun i _ => ⟨by simp [OkIn], by simp [ObjOk]⟩) ?_
  rintro i ⟨hi, hall⟩
  repeat' first | (with_reducible refine W.seq ?_) | ((with_reducible refine W.region ?_); conv => whnf) | ((with_reducible refine W.cond ?_); conv => whnf) | (with_reducible refine W.block ?_) | ((with_reducible refine W.skip ?_); conv => whnf) | ((with_reducible refine W.exit ?_); conv => whnf) | ((with_reducible refine W.ret ?_); conv => whnf) | (refine finD (.inr rfl) rfl rfl ⟨?_, rfl⟩) | ((refine condM_intro (fun hc => ?_) (fun hc => ?_)) <;> (try simp only [decide_eq_true_eq, decide_eq_false_iff_not, beq_iff_eq, bne_iff_ne, beq_eq_false_iff_ne, bne_eq_false_iff_eq, ne_eq, Bool.not_eq_true', Bool.not_eq_false'] at hc) <;> (first | (exfalso; omega) | (conv => whnf))) | (intro row hrow; (first | (obtain rfl := spaceCells_at hrow) | (obtain ⟨x, hx, rfl⟩ := rE_at hrow) | (obtain ⟨x, hx, rfl⟩ := map_at hrow) | (obtain ⟨x, hx, rfl⟩ := rS_at hrow) | (obtain ⟨x, hx, rfl⟩ := rR_at hrow)); conv => whnf) | ((refine And.intro rfl ?_); conv => whnf) | ((refine And.intro ?_ ?_); (focus (first | omega | (simp only [rT_len, rE_len, rF_len, rC_len, rV_len, rP_len, rS_len, rR_len, rTT_len, rW_len, List.length_map, List.length_replicate] at *; omega) | exact (byteAt_lt _ _).1 | exact (byteAt_lt _ _).2 | (simp [ebStr, ebTxts, ebU8, ebExpr, ebStmt, ebVar, ebParam, ebField, ebRec, ebRoutine, ebPair, roomB]; done))); conv => whnf)
  · rename_i x1 hx1 hrow1
    simp only [Int.toNat_natCast] at hx hx1
    refine AC.use (hg x1 (List.mem_of_getElem? hx1) x) (by simp [allL, FV.all]) rfl ?_
    conv => whnf
    rw [drop_at hx, drop_at hx1, same_cons] at hall
    repeat' first | (with_reducible refine W.seq ?_) | ((with_reducible refine W.region ?_); conv => whnf) | ((with_reducible refine W.cond ?_); conv => whnf) | ((with_reducible refine W.skip ?_); conv => whnf) | ((with_reducible refine W.ret ?_); conv => whnf) | (refine finD (.inr rfl) rfl rfl ⟨?_, rfl⟩) | ((refine condM_intro (fun hc => ?_) (fun hc => ?_)) <;> (try simp only [decide_eq_true_eq, decide_eq_false_iff_not, beq_iff_eq, bne_iff_ne, beq_eq_false_iff_ne, bne_eq_false_iff_eq, ne_eq, Bool.not_eq_true', Bool.not_eq_false'] at hc) <;> (first | (exfalso; omega) | (conv => whnf)))
    · rw [hc, Bool.false_and] at hall
      rw [hall]
    · rw [hc, Bool.true_and] at hall
      refine ⟨i + 1, [_, _], ⟨by omega, hall⟩, by omega, ?_, rfl, Nat.le_refl _⟩
      (repeat' (first | exact trivial | exact SlotLe.same _ | exact SlotLe.own _ _ _ | exact SlotLe.nil _ | exact SlotLe.any _ | (apply And.intro) | (refine SlotLe.of_eq ?_; rw [wr (by omega) (by omega)]; rfl) | (refine SlotLe.of_eq ?_; rw [wr (by omega) (by omega)]; congr 2; omega)))
  · rw [drop_end (by omega), drop_end (by omega), same_nil] at hall
    rw [hall]
theorem eqfS (l m : List Stm) (g : FuncId) (hg : ∀ x ∈ l, ∀ y, Ret Tryz.prog g [.d (.agg (sS x)), .d (.agg (sS y))] (.bool (same x y))) : Ret Tryz.prog 61 [.d (.sl 107 (rS l)), .d (.sl 107 (rS m)), .clo g [] []] (.bool (same l m)) := by
  have hroomB : roomB = 140737488355328 := rfl; refine ac_of ok61 rfl rfl ?_
  repeat' first | (with_reducible refine W.seq ?_) | ((with_reducible refine W.region ?_); conv => whnf) | ((with_reducible refine W.cond ?_); conv => whnf) | (with_reducible refine W.block ?_) | ((with_reducible refine W.skip ?_); conv => whnf) | ((with_reducible refine W.ret ?_); conv => whnf) | (refine finD (.inr rfl) rfl rfl ⟨?_, rfl⟩) | ((refine condM_intro (fun hc => ?_) (fun hc => ?_)) <;> (try simp only [decide_eq_true_eq, decide_eq_false_iff_not, beq_iff_eq, bne_iff_ne, beq_eq_false_iff_ne, bne_eq_false_iff_eq, ne_eq, Bool.not_eq_true', Bool.not_eq_false'] at hc) <;> (first | (exfalso; omega) | (conv => whnf))) | (intro hlen; simp only [rT_len, rE_len, rF_len, rC_len, rV_len, rP_len, rS_len, rR_len, rTT_len, rW_len] at hlen ⊢; conv => whnf) | ((refine And.intro rfl ?_); conv => whnf)
  · rw [same_ne]; intro h; subst h; omega
  refine W.loopJ (σ := Nat) (fun i => [(0, .d (.sl 107 (rS l))), (1, .d (.sl 107 (rS m))), (2, .clo g [] []), (15, .d (.sl 107 (rS l))), (16, .d (.int .i64 l.length)), (17, .d (.int .i64 i))]) (fun _ => gl) (fun i => i ≤ l.length ∧ same (l.drop i) (m.drop i) = same l m) (fun i => l.length - i) 0 ⟨Nat.zero_le _, by simp⟩ ⟨.same _, .same _, .same _, .same _, .same _, .same _, trivial⟩ rfl (fun i _ => ⟨by simp [OkIn], by simp [ObjOk]⟩) ?_
  rintro i ⟨hi, hall⟩
  repeat' first | (with_reducible refine W.seq ?_) | ((with_reducible refine W.region ?_); conv => whnf) | ((with_reducible refine W.cond ?_); conv => whnf) | (with_reducible refine W.block ?_) | ((with_reducible refine W.skip ?_); conv => whnf) | ((with_reducible refine W.exit ?_); conv => whnf) | ((with_reducible refine W.ret ?_); conv => whnf) | (refine finD (.inr rfl) rfl rfl ⟨?_, rfl⟩) | ((refine condM_intro (fun hc => ?_) (fun hc => ?_)) <;> (try simp only [decide_eq_true_eq, decide_eq_false_iff_not, beq_iff_eq, bne_iff_ne, beq_eq_false_iff_ne, bne_eq_false_iff_eq, ne_eq, Bool.not_eq_true', Bool.not_eq_false'] at hc) <;> (first | (exfalso; omega) | (conv => whnf))) | (intro row hrow; (first | (obtain rfl := spaceCells_at hrow) | (obtain ⟨x, hx, rfl⟩ := rE_at hrow) | (obtain ⟨x, hx, rfl⟩ := map_at hrow) | (obtain ⟨x, hx, rfl⟩ := rS_at hrow) | (obtain ⟨x, hx, rfl⟩ := rR_at hrow)); conv => whnf) | ((refine And.intro rfl ?_); conv => whnf) | ((refine And.intro ?_ ?_); (focus (first | omega | (simp only [rT_len, rE_len, rF_len, rC_len, rV_len, rP_len, rS_len, rR_len, rTT_len, rW_len, List.length_map, List.length_replicate] at *; omega) | exact (byteAt_lt _ _).1 | exact (byteAt_lt _ _).2 | (simp [ebStr, ebTxts, ebU8, ebExpr, ebStmt, ebVar, ebParam, ebField, ebRec, ebRoutine, ebPair, roomB]; done))); conv => whnf)
  · rename_i x1 hx1 hrow1
    simp only [Int.toNat_natCast] at hx hx1
    refine AC.use (hg x1 (List.mem_of_getElem? hx1) x) (by simp [allL, FV.all]) rfl ?_
    conv => whnf
    rw [drop_at hx, drop_at hx1, same_cons] at hall
    repeat' first | (with_reducible refine W.seq ?_) | ((with_reducible refine W.region ?_); conv => whnf) | ((with_reducible refine W.cond ?_); conv => whnf) | ((with_reducible refine W.skip ?_); conv => whnf) | ((with_reducible refine W.ret ?_); conv => whnf) | (refine finD (.inr rfl) rfl rfl ⟨?_, rfl⟩) | ((refine condM_intro (fun hc => ?_) (fun hc => ?_)) <;> (try simp only [decide_eq_true_eq, decide_eq_false_iff_not, beq_iff_eq, bne_iff_ne, beq_eq_false_iff_ne, bne_eq_false_iff_eq, ne_eq, Bool.not_eq_true', Bool.not_eq_false'] at hc) <;> (first | (exfalso; omega) | (conv => whnf)))
    · rw [hc, Bool.false_and] at hall
      rw [hall]
    · rw [hc, Bool.true_and] at hall
      refine ⟨i + 1, [_, _], ⟨by omega, hall⟩, by omega, ?_, rfl, Nat.le_refl _⟩
      (repeat' (first | exact trivial | exact SlotLe.same _ | exact SlotLe.own _ _ _ | exact SlotLe.nil _ | exact SlotLe.any _ | (apply And.intro) | (refine SlotLe.of_eq ?_; rw [wr (by omega) (by omega)]; rfl) | (refine SlotLe.of_eq ?_; rw [wr (by omega) (by omega)]; congr 2; omega)))
  · rw [drop_end (by omega), drop_end (by omega), same_nil] at hall
    rw [hall]
theorem eqfR (l m : List Rtn) (g : FuncId) (hg : ∀ x ∈ l, ∀ y, Ret Tryz.prog g [.d (.agg (sR x)), .d (.agg (sR y))] (.bool (same x y))) : Ret Tryz.prog 59 [.d (.sl 103 (rR l)), .d (.sl 103 (rR m)), .clo g [] []] (.bool (same l m)) := by
  have hroomB : roomB = 140737488355328 := rfl; refine ac_of ok59 rfl rfl ?_
  repeat' first | (with_reducible refine W.seq ?_) | ((with_reducible refine W.region ?_); conv => whnf) | ((with_reducible refine W.cond ?_); conv => whnf) | (with_reducible refine W.block ?_) | ((with_reducible refine W.skip ?_); conv => whnf) | ((with_reducible refine W.ret ?_); conv => whnf) | (refine finD (.inr rfl) rfl rfl ⟨?_, rfl⟩) | ((refine condM_intro (fun hc => ?_) (fun hc => ?_)) <;> (try simp only [decide_eq_true_eq, decide_eq_false_iff_not, beq_iff_eq, bne_iff_ne, beq_eq_false_iff_ne, bne_eq_false_iff_eq, ne_eq, Bool.not_eq_true', Bool.not_eq_false'] at hc) <;> (first | (exfalso; omega) | (conv => whnf))) | (intro hlen; simp only [rT_len, rE_len, rF_len, rC_len, rV_len, rP_len, rS_len, rR_len, rTT_len, rW_len] at hlen ⊢; conv => whnf) | ((refine And.intro rfl ?_); conv => whnf)
  · rw [same_ne]; intro h; subst h; omega
  refine W.loopJ (σ := Nat) (fun i => [(0, .d (.sl 103 (rR l))), (1, .d (.sl 103 (rR m))), (2, .clo g [] []), (15, .d (.sl 103 (rR l))), (16, .d (.int .i64 l.length)), (17, .d (.int .i64 i))]) (fun _ => gl) (fun i => i ≤ l.length ∧ same (l.drop i) (m.drop i) = same l m) (fun i => l.length - i) 0 ⟨Nat.zero_le _, by simp⟩ ⟨.same _, .same _, .same _, .same _, .same _, .same _, trivial⟩ rfl (fun i _ => ⟨by simp [OkIn], by simp [ObjOk]⟩) ?_
  rintro i ⟨hi, hall⟩
  repeat' first | (with_reducible refine W.seq ?_) | ((with_reducible refine W.region ?_); conv => whnf) | ((with_reducible refine W.cond ?_); conv => whnf) | (with_reducible refine W.block ?_) | ((with_reducible refine W.skip ?_); conv => whnf) | ((with_reducible refine W.exit ?_); conv => whnf) | ((with_reducible refine W.ret ?_); conv => whnf) | (refine finD (.inr rfl) rfl rfl ⟨?_, rfl⟩) | ((refine condM_intro (fun hc => ?_) (fun hc => ?_)) <;> (try simp only [decide_eq_true_eq, decide_eq_false_iff_not, beq_iff_eq, bne_iff_ne, beq_eq_false_iff_ne, bne_eq_false_iff_eq, ne_eq, Bool.not_eq_true', Bool.not_eq_false'] at hc) <;> (first | (exfalso; omega) | (conv => whnf))) | (intro row hrow; (first | (obtain rfl := spaceCells_at hrow) | (obtain ⟨x, hx, rfl⟩ := rE_at hrow) | (obtain ⟨x, hx, rfl⟩ := map_at hrow) | (obtain ⟨x, hx, rfl⟩ := rS_at hrow) | (obtain ⟨x, hx, rfl⟩ := rR_at hrow)); conv => whnf) | ((refine And.intro rfl ?_); conv => whnf) | ((refine And.intro ?_ ?_); (focus (first | omega | (simp only [rT_len, rE_len, rF_len, rC_len, rV_len, rP_len, rS_len, rR_len, rTT_len, rW_len, List.length_map, List.length_replicate] at *; omega) | exact (byteAt_lt _ _).1 | exact (byteAt_lt _ _).2 | (simp [ebStr, ebTxts, ebU8, ebExpr, ebStmt, ebVar, ebParam, ebField, ebRec, ebRoutine, ebPair, roomB]; done))); conv => whnf)
  · rename_i x1 hx1 hrow1
    simp only [Int.toNat_natCast] at hx hx1
    refine AC.use (hg x1 (List.mem_of_getElem? hx1) x) (by simp [allL, FV.all]) rfl ?_
    conv => whnf
    rw [drop_at hx, drop_at hx1, same_cons] at hall
    repeat' first | (with_reducible refine W.seq ?_) | ((with_reducible refine W.region ?_); conv => whnf) | ((with_reducible refine W.cond ?_); conv => whnf) | ((with_reducible refine W.skip ?_); conv => whnf) | ((with_reducible refine W.ret ?_); conv => whnf) | (refine finD (.inr rfl) rfl rfl ⟨?_, rfl⟩) | ((refine condM_intro (fun hc => ?_) (fun hc => ?_)) <;> (try simp only [decide_eq_true_eq, decide_eq_false_iff_not, beq_iff_eq, bne_iff_ne, beq_eq_false_iff_ne, bne_eq_false_iff_eq, ne_eq, Bool.not_eq_true', Bool.not_eq_false'] at hc) <;> (first | (exfalso; omega) | (conv => whnf)))
    · rw [hc, Bool.false_and] at hall
      rw [hall]
    · rw [hc, Bool.true_and] at hall
      refine ⟨i + 1, [_, _], ⟨by omega, hall⟩, by omega, ?_, rfl, Nat.le_refl _⟩
      (repeat' (first | exact trivial | exact SlotLe.same _ | exact SlotLe.own _ _ _ | exact SlotLe.nil _ | exact SlotLe.any _ | (apply And.intro) | (refine SlotLe.of_eq ?_; rw [wr (by omega) (by omega)]; rfl) | (refine SlotLe.of_eq ?_; rw [wr (by omega) (by omega)]; congr 2; omega)))
  · rw [drop_end (by omega), drop_end (by omega), same_nil] at hall
    rw [hall]
theorem eqfV (l m : List Vr) (g : FuncId) (hg : ∀ x ∈ l, ∀ y, Ret Tryz.prog g [.d (.agg (sV x)), .d (.agg (sV y))] (.bool (same x y))) : Ret Tryz.prog 57 [.d (.sl 98 (rV l)), .d (.sl 98 (rV m)), .clo g [] []] (.bool (same l m)) := by
  have hroomB : roomB = 140737488355328 := rfl; refine ac_of ok57 rfl rfl ?_
  repeat' first | (with_reducible refine W.seq ?_) | ((with_reducible refine W.region ?_); conv => whnf) | ((with_reducible refine W.cond ?_); conv => whnf) | (with_reducible refine W.block ?_) | ((with_reducible refine W.skip ?_); conv => whnf) | ((with_reducible refine W.ret ?_); conv => whnf) | (refine finD (.inr rfl) rfl rfl ⟨?_, rfl⟩) | ((refine condM_intro (fun hc => ?_) (fun hc => ?_)) <;> (try simp only [decide_eq_true_eq, decide_eq_false_iff_not, beq_iff_eq, bne_iff_ne, beq_eq_false_iff_ne, bne_eq_false_iff_eq, ne_eq, Bool.not_eq_true', Bool.not_eq_false'] at hc) <;> (first | (exfalso; omega) | (conv => whnf))) | (intro hlen; simp only [rT_len, rE_len, rF_len, rC_len, rV_len, rP_len, rS_len, rR_len, rTT_len, rW_len] at hlen ⊢; conv => whnf) | ((refine And.intro rfl ?_); conv => whnf)
  · rw [same_ne]; intro h; subst h; omega
  refine W.loopJ (σ := Nat) (fun i => [(0, .d (.sl 98 (rV l))), (1, .d (.sl 98 (rV m))), (2, .clo g [] []), (15, .d (.sl 98 (rV l))), (16, .d (.int .i64 l.length)), (17, .d (.int .i64 i))]) (fun _ => gl) (fun i => i ≤ l.length ∧ same (l.drop i) (m.drop i) = same l m) (fun i => l.length - i) 0 ⟨Nat.zero_le _, by simp⟩ ⟨.same _, .same _, .same _, .same _, .same _, .same _, trivial⟩ rfl (fun i _ => ⟨by simp [OkIn], by simp [ObjOk]⟩) ?_
  rintro i ⟨hi, hall⟩
  repeat' first | (with_reducible refine W.seq ?_) | ((with_reducible refine W.region ?_); conv => whnf) | ((with_reducible refine W.cond ?_); conv => whnf) | (with_reducible refine W.block ?_) | ((with_reducible refine W.skip ?_); conv => whnf) | ((with_reducible refine W.exit ?_); conv => whnf) | ((with_reducible refine W.ret ?_); conv => whnf) | (refine finD (.inr rfl) rfl rfl ⟨?_, rfl⟩) | ((refine condM_intro (fun hc => ?_) (fun hc => ?_)) <;> (try simp only [decide_eq_true_eq, decide_eq_false_iff_not, beq_iff_eq, bne_iff_ne, beq_eq_false_iff_ne, bne_eq_false_iff_eq, ne_eq, Bool.not_eq_true', Bool.not_eq_false'] at hc) <;> (first | (exfalso; omega) | (conv => whnf))) | (intro row hrow; (first | (obtain rfl := spaceCells_at hrow) | (obtain ⟨x, hx, rfl⟩ := rE_at hrow) | (obtain ⟨x, hx, rfl⟩ := map_at hrow) | (obtain ⟨x, hx, rfl⟩ := rS_at hrow) | (obtain ⟨x, hx, rfl⟩ := rR_at hrow)); conv => whnf) | ((refine And.intro rfl ?_); conv => whnf) | ((refine And.intro ?_ ?_); (focus (first | omega | (simp only [rT_len, rE_len, rF_len, rC_len, rV_len, rP_len, rS_len, rR_len, rTT_len, rW_len, List.length_map, List.length_replicate] at *; omega) | exact (byteAt_lt _ _).1 | exact (byteAt_lt _ _).2 | (simp [ebStr, ebTxts, ebU8, ebExpr, ebStmt, ebVar, ebParam, ebField, ebRec, ebRoutine, ebPair, roomB]; done))); conv => whnf)
  · rename_i x1 hx1 hrow1
    simp only [Int.toNat_natCast] at hx hx1
    refine AC.use (hg x1 (List.mem_of_getElem? hx1) x) (by simp [allL, FV.all]) rfl ?_
    conv => whnf
    rw [drop_at hx, drop_at hx1, same_cons] at hall
    repeat' first | (with_reducible refine W.seq ?_) | ((with_reducible refine W.region ?_); conv => whnf) | ((with_reducible refine W.cond ?_); conv => whnf) | ((with_reducible refine W.skip ?_); conv => whnf) | ((with_reducible refine W.ret ?_); conv => whnf) | (refine finD (.inr rfl) rfl rfl ⟨?_, rfl⟩) | ((refine condM_intro (fun hc => ?_) (fun hc => ?_)) <;> (try simp only [decide_eq_true_eq, decide_eq_false_iff_not, beq_iff_eq, bne_iff_ne, beq_eq_false_iff_ne, bne_eq_false_iff_eq, ne_eq, Bool.not_eq_true', Bool.not_eq_false'] at hc) <;> (first | (exfalso; omega) | (conv => whnf)))
    · rw [hc, Bool.false_and] at hall
      rw [hall]
    · rw [hc, Bool.true_and] at hall
      refine ⟨i + 1, [_, _], ⟨by omega, hall⟩, by omega, ?_, rfl, Nat.le_refl _⟩
      (repeat' (first | exact trivial | exact SlotLe.same _ | exact SlotLe.own _ _ _ | exact SlotLe.nil _ | exact SlotLe.any _ | (apply And.intro) | (refine SlotLe.of_eq ?_; rw [wr (by omega) (by omega)]; rfl) | (refine SlotLe.of_eq ?_; rw [wr (by omega) (by omega)]; congr 2; omega)))
  · rw [drop_end (by omega), drop_end (by omega), same_nil] at hall
    rw [hall]
theorem eqfF (l m : List Fld) (g : FuncId) (hg : ∀ x ∈ l, ∀ y, Ret Tryz.prog g [.d (.agg (sF x)), .d (.agg (sF y))] (.bool (same x y))) : Ret Tryz.prog 110 [.d (.sl 69 (rF l)), .d (.sl 69 (rF m)), .clo g [] []] (.bool (same l m)) := by
  have hroomB : roomB = 140737488355328 := rfl; refine ac_of ok110 rfl rfl ?_
  repeat' first | (with_reducible refine W.seq ?_) | ((with_reducible refine W.region ?_); conv => whnf) | ((with_reducible refine W.cond ?_); conv => whnf) | (with_reducible refine W.block ?_) | ((with_reducible refine W.skip ?_); conv => whnf) | ((with_reducible refine W.ret ?_); conv => whnf) | (refine finD (.inr rfl) rfl rfl ⟨?_, rfl⟩) | ((refine condM_intro (fun hc => ?_) (fun hc => ?_)) <;> (try simp only [decide_eq_true_eq, decide_eq_false_iff_not, beq_iff_eq, bne_iff_ne, beq_eq_false_iff_ne, bne_eq_false_iff_eq, ne_eq, Bool.not_eq_true', Bool.not_eq_false'] at hc) <;> (first | (exfalso; omega) | (conv => whnf))) | (intro hlen; simp only [rT_len, rE_len, rF_len, rC_len, rV_len, rP_len, rS_len, rR_len, rTT_len, rW_len] at hlen ⊢; conv => whnf) | ((refine And.intro rfl ?_); conv => whnf)
  · rw [same_ne]; intro h; subst h; omega
  refine W.loopJ (σ := Nat) (fun i => [(0, .d (.sl 69 (rF l))), (1, .d (.sl 69 (rF m))), (2, .clo g [] []), (15, .d (.sl 69 (rF l))), (16, .d (.int .i64 l.length)), (17, .d (.int .i64 i))]) (fun _ => gl) (fun i => i ≤ l.length ∧ same (l.drop i) (m.drop i) = same l m) (fun i => l.length - i) 0 ⟨Nat.zero_le _, by simp⟩ ⟨.same _, .same _, .same _, .same _, .same _, .same _, trivial⟩ rfl (fun i _ => ⟨by simp [OkIn], by simp [ObjOk]⟩) ?_
  rintro i ⟨hi, hall⟩
  repeat' first | (with_reducible refine W.seq ?_) | ((with_reducible refine W.region ?_); conv => whnf) | ((with_reducible refine W.cond ?_); conv => whnf) | (with_reducible refine W.block ?_) | ((with_reducible refine W.skip ?_); conv => whnf) | ((with_reducible refine W.exit ?_); conv => whnf) | ((with_reducible refine W.ret ?_); conv => whnf) | (refine finD (.inr rfl) rfl rfl ⟨?_, rfl⟩) | ((refine condM_intro (fun hc => ?_) (fun hc => ?_)) <;> (try simp only [decide_eq_true_eq, decide_eq_false_iff_not, beq_iff_eq, bne_iff_ne, beq_eq_false_iff_ne, bne_eq_false_iff_eq, ne_eq, Bool.not_eq_true', Bool.not_eq_false'] at hc) <;> (first | (exfalso; omega) | (conv => whnf))) | (intro row hrow; (first | (obtain rfl := spaceCells_at hrow) | (obtain ⟨x, hx, rfl⟩ := rE_at hrow) | (obtain ⟨x, hx, rfl⟩ := map_at hrow) | (obtain ⟨x, hx, rfl⟩ := rS_at hrow) | (obtain ⟨x, hx, rfl⟩ := rR_at hrow)); conv => whnf) | ((refine And.intro rfl ?_); conv => whnf) | ((refine And.intro ?_ ?_); (focus (first | omega | (simp only [rT_len, rE_len, rF_len, rC_len, rV_len, rP_len, rS_len, rR_len, rTT_len, rW_len, List.length_map, List.length_replicate] at *; omega) | exact (byteAt_lt _ _).1 | exact (byteAt_lt _ _).2 | (simp [ebStr, ebTxts, ebU8, ebExpr, ebStmt, ebVar, ebParam, ebField, ebRec, ebRoutine, ebPair, roomB]; done))); conv => whnf)
  · rename_i x1 hx1 hrow1
    simp only [Int.toNat_natCast] at hx hx1
    refine AC.use (hg x1 (List.mem_of_getElem? hx1) x) (by simp [allL, FV.all]) rfl ?_
    conv => whnf
    rw [drop_at hx, drop_at hx1, same_cons] at hall
    repeat' first | (with_reducible refine W.seq ?_) | ((with_reducible refine W.region ?_); conv => whnf) | ((with_reducible refine W.cond ?_); conv => whnf) | ((with_reducible refine W.skip ?_); conv => whnf) | ((with_reducible refine W.ret ?_); conv => whnf) | (refine finD (.inr rfl) rfl rfl ⟨?_, rfl⟩) | ((refine condM_intro (fun hc => ?_) (fun hc => ?_)) <;> (try simp only [decide_eq_true_eq, decide_eq_false_iff_not, beq_iff_eq, bne_iff_ne, beq_eq_false_iff_ne, bne_eq_false_iff_eq, ne_eq, Bool.not_eq_true', Bool.not_eq_false'] at hc) <;> (first | (exfalso; omega) | (conv => whnf)))
    · rw [hc, Bool.false_and] at hall
      rw [hall]
    · rw [hc, Bool.true_and] at hall
      refine ⟨i + 1, [_, _], ⟨by omega, hall⟩, by omega, ?_, rfl, Nat.le_refl _⟩
      (repeat' (first | exact trivial | exact SlotLe.same _ | exact SlotLe.own _ _ _ | exact SlotLe.nil _ | exact SlotLe.any _ | (apply And.intro) | (refine SlotLe.of_eq ?_; rw [wr (by omega) (by omega)]; rfl) | (refine SlotLe.of_eq ?_; rw [wr (by omega) (by omega)]; congr 2; omega)))
  · rw [drop_end (by omega), drop_end (by omega), same_nil] at hall
    rw [hall]
theorem eqfC (l m : List Rc) (g : FuncId) (hg : ∀ x ∈ l, ∀ y, Ret Tryz.prog g [.d (.agg (sC x)), .d (.agg (sC y))] (.bool (same x y))) : Ret Tryz.prog 55 [.d (.sl 59 (rC l)), .d (.sl 59 (rC m)), .clo g [] []] (.bool (same l m)) := by
  have hroomB : roomB = 140737488355328 := rfl; refine ac_of ok55 rfl rfl ?_
  repeat' first | (with_reducible refine W.seq ?_) | ((with_reducible refine W.region ?_); conv => whnf) | ((with_reducible refine W.cond ?_); conv => whnf) | (with_reducible refine W.block ?_) | ((with_reducible refine W.skip ?_); conv => whnf) | ((with_reducible refine W.ret ?_); conv => whnf) | (refine finD (.inr rfl) rfl rfl ⟨?_, rfl⟩) | ((refine condM_intro (fun hc => ?_) (fun hc => ?_)) <;> (try simp only [decide_eq_true_eq, decide_eq_false_iff_not, beq_iff_eq, bne_iff_ne, beq_eq_false_iff_ne, bne_eq_false_iff_eq, ne_eq, Bool.not_eq_true', Bool.not_eq_false'] at hc) <;> (first | (exfalso; omega) | (conv => whnf))) | (intro hlen; simp only [rT_len, rE_len, rF_len, rC_len, rV_len, rP_len, rS_len, rR_len, rTT_len, rW_len] at hlen ⊢; conv => whnf) | ((refine And.intro rfl ?_); conv => whnf)
  · rw [same_ne]; intro h; subst h; omega
  refine W.loopJ (σ := Nat) (fun i => [(0, .d (.sl 59 (rC l))), (1, .d (.sl 59 (rC m))), (2, .clo g [] []), (15, .d (.sl 59 (rC l))), (16, .d (.int .i64 l.length)), (17, .d (.int .i64 i))]) (fun _ => gl) (fun i => i ≤ l.length ∧ same (l.drop i) (m.drop i) = same l m) (fun i => l.length - i) 0 ⟨Nat.zero_le _, by simp⟩ ⟨.same _, .same _, .same _, .same _, .same _, .same _, trivial⟩ rfl (fun i _ => ⟨by simp [OkIn], by simp [ObjOk]⟩) ?_
  rintro i ⟨hi, hall⟩
  repeat' first | (with_reducible refine W.seq ?_) | ((with_reducible refine W.region ?_); conv => whnf) | ((with_reducible refine W.cond ?_); conv => whnf) | (with_reducible refine W.block ?_) | ((with_reducible refine W.skip ?_); conv => whnf) | ((with_reducible refine W.exit ?_); conv => whnf) | ((with_reducible refine W.ret ?_); conv => whnf) | (refine finD (.inr rfl) rfl rfl ⟨?_, rfl⟩) | ((refine condM_intro (fun hc => ?_) (fun hc => ?_)) <;> (try simp only [decide_eq_true_eq, decide_eq_false_iff_not, beq_iff_eq, bne_iff_ne, beq_eq_false_iff_ne, bne_eq_false_iff_eq, ne_eq, Bool.not_eq_true', Bool.not_eq_false'] at hc) <;> (first | (exfalso; omega) | (conv => whnf))) | (intro row hrow; (first | (obtain rfl := spaceCells_at hrow) | (obtain ⟨x, hx, rfl⟩ := rE_at hrow) | (obtain ⟨x, hx, rfl⟩ := map_at hrow) | (obtain ⟨x, hx, rfl⟩ := rS_at hrow) | (obtain ⟨x, hx, rfl⟩ := rR_at hrow)); conv => whnf) | ((refine And.intro rfl ?_); conv => whnf) | ((refine And.intro ?_ ?_); (focus (first | omega | (simp only [rT_len, rE_len, rF_len, rC_len, rV_len, rP_len, rS_len, rR_len, rTT_len, rW_len, List.length_map, List.length_replicate] at *; omega) | exact (byteAt_lt _ _).1 | exact (byteAt_lt _ _).2 | (simp [ebStr, ebTxts, ebU8, ebExpr, ebStmt, ebVar, ebParam, ebField, ebRec, ebRoutine, ebPair, roomB]; done))); conv => whnf)
  · rename_i x1 hx1 hrow1
    simp only [Int.toNat_natCast] at hx hx1
    refine AC.use (hg x1 (List.mem_of_getElem? hx1) x) (by simp [allL, FV.all]) rfl ?_
    conv => whnf
    rw [drop_at hx, drop_at hx1, same_cons] at hall
    repeat' first | (with_reducible refine W.seq ?_) | ((with_reducible refine W.region ?_); conv => whnf) | ((with_reducible refine W.cond ?_); conv => whnf) | ((with_reducible refine W.skip ?_); conv => whnf) | ((with_reducible refine W.ret ?_); conv => whnf) | (refine finD (.inr rfl) rfl rfl ⟨?_, rfl⟩) | ((refine condM_intro (fun hc => ?_) (fun hc => ?_)) <;> (try simp only [decide_eq_true_eq, decide_eq_false_iff_not, beq_iff_eq, bne_iff_ne, beq_eq_false_iff_ne, bne_eq_false_iff_eq, ne_eq, Bool.not_eq_true', Bool.not_eq_false'] at hc) <;> (first | (exfalso; omega) | (conv => whnf)))
    · rw [hc, Bool.false_and] at hall
      rw [hall]
    · rw [hc, Bool.true_and] at hall
      refine ⟨i + 1, [_, _], ⟨by omega, hall⟩, by omega, ?_, rfl, Nat.le_refl _⟩
      (repeat' (first | exact trivial | exact SlotLe.same _ | exact SlotLe.own _ _ _ | exact SlotLe.nil _ | exact SlotLe.any _ | (apply And.intro) | (refine SlotLe.of_eq ?_; rw [wr (by omega) (by omega)]; rfl) | (refine SlotLe.of_eq ?_; rw [wr (by omega) (by omega)]; congr 2; omega)))
  · rw [drop_end (by omega), drop_end (by omega), same_nil] at hall
    rw [hall]
end Go.Pg
set_option maxRecDepth 100000
set_option linter.all false
namespace Go.Pg
open Go.Proofs
theorem size_lE {e x : Expr} {n : Nat} (h : x ∈ e.l) (hn : SizeOf.sizeOf e ≤ n + 1) : SizeOf.sizeOf x ≤ n := by
  have := List.sizeOf_lt_of_mem h
  cases e; simp only [Expr.mk.sizeOf_spec] at *; omega
theorem size_bS {e x : Stm} {n : Nat} (h : x ∈ e.body) (hn : SizeOf.sizeOf e ≤ n + 1) : SizeOf.sizeOf x ≤ n := by
  have := List.sizeOf_lt_of_mem h
  cases e; simp only [Stm.mk.sizeOf_spec] at *; omega
theorem size_eS {e x : Stm} {n : Nat} (h : x ∈ e.els) (hn : SizeOf.sizeOf e ≤ n + 1) : SizeOf.sizeOf x ≤ n := by
  have := List.sizeOf_lt_of_mem h
  cases e; simp only [Stm.mk.sizeOf_spec] at *; omega
theorem size_iR {e x : Rtn} {n : Nat} (h : x ∈ e.inner) (hn : SizeOf.sizeOf e ≤ n + 1) : SizeOf.sizeOf x ≤ n := by
  have := List.sizeOf_lt_of_mem h
  cases e; simp only [Rtn.mk.sizeOf_spec] at *; omega
theorem sameE_ind : ∀ (n : Nat) (e f : Expr), SizeOf.sizeOf e ≤ n → Ret Tryz.prog 21 [.d (.agg (sE e)), .d (.agg (sE f))] (.bool (same e f))
  | 0, e, f, h => by cases e; simp at h
  | n + 1, e, f, h => by
    have hroomB : roomB = 140737488355328 := rfl; refine ac_of ok21 rfl rfl ?_
    repeat' first | (with_reducible refine W.seq ?_) | ((with_reducible refine W.region ?_); conv => whnf) | ((refine AC.use (eqfE e.l f.l _ (fun x hx y => sameE_ind n x y (size_lE hx h))) ?_ rfl ?_); (focus (simp only [allL, FV.all, and_self]; done)); conv => whnf) | ((with_reducible refine W.ret ?_); conv => whnf) | (refine finD (.inr rfl) rfl rfl ⟨?_, rfl⟩) | ((refine condM_intro (fun hc => ?_) (fun hc => ?_)) <;> (try simp only [decide_eq_true_eq, decide_eq_false_iff_not, beq_iff_eq, bne_iff_ne, beq_eq_false_iff_ne, bne_eq_false_iff_eq, ne_eq, Bool.not_eq_true', Bool.not_eq_false'] at hc) <;> (first | (exfalso; omega) | (conv => whnf)))
    all_goals try (refine congrArg (fun b => FV.d (AV.bool b)) ?_; rw [Bool.eq_iff_iff]; cases e; cases f; simp_all [same_iff, same_niff, negB])
theorem sameE_spec (e f : Expr) : Ret Tryz.prog 21 [.d (.agg (sE e)), .d (.agg (sE f))] (.bool (same e f)) := sameE_ind _ e f (Nat.le_refl _)
theorem marks_spec (a b c d : List Txt) : Ret Tryz.prog 109 [.d (.agg [aT a, aT b]), .d (.agg [aT c, aT d])] (.bool (same a c && same b d)) := by
  have hroomB : roomB = 140737488355328 := rfl; refine ac_of ok109 rfl rfl ?_
  repeat' first | (with_reducible refine W.seq ?_) | ((with_reducible refine W.region ?_); conv => whnf) | ((refine AC.use (eqT1_spec _ _) ?_ rfl ?_); (focus (simp only [allL, FV.all, and_self]; done)); conv => whnf) | ((with_reducible refine W.ret ?_); conv => whnf) | (refine finD (.inr rfl) rfl rfl ⟨?_, rfl⟩) | ((refine condM_intro (fun hc => ?_) (fun hc => ?_)) <;> (try simp only [decide_eq_true_eq, decide_eq_false_iff_not, beq_iff_eq, bne_iff_ne, beq_eq_false_iff_ne, bne_eq_false_iff_eq, ne_eq, Bool.not_eq_true', Bool.not_eq_false'] at hc) <;> (first | (exfalso; omega) | (conv => whnf)))
  all_goals (refine congrArg (fun b => FV.d (AV.bool b)) ?_; simp_all)
theorem sameV_spec (e f : Vr) : Ret Tryz.prog 58 [.d (.agg (sV e)), .d (.agg (sV f))] (.bool (same e f)) := by
  have hroomB : roomB = 140737488355328 := rfl; refine ac_of ok58 rfl rfl ?_
  repeat' first | (with_reducible refine W.seq ?_) | ((with_reducible refine W.region ?_); conv => whnf) | ((refine AC.use (marks_spec _ _ _ _) ?_ rfl ?_); (focus (simp only [allL, FV.all, and_self]; done)); conv => whnf) | ((with_reducible refine W.ret ?_); conv => whnf) | (refine finD (.inr rfl) rfl rfl ⟨?_, rfl⟩) | ((refine condM_intro (fun hc => ?_) (fun hc => ?_)) <;> (try simp only [decide_eq_true_eq, decide_eq_false_iff_not, beq_iff_eq, bne_iff_ne, beq_eq_false_iff_ne, bne_eq_false_iff_eq, ne_eq, Bool.not_eq_true', Bool.not_eq_false'] at hc) <;> (first | (exfalso; omega) | (conv => whnf)))
  all_goals try (refine congrArg (fun b => FV.d (AV.bool b)) ?_; rw [Bool.eq_iff_iff]; obtain ⟨e1, e2, e3, e4, e5, e6⟩ := e; obtain ⟨f1, f2, f3, f4, f5, f6⟩ := f; simp_all [same_iff, same_niff, negB])
theorem sameF_spec (e f : Fld) : Ret Tryz.prog 111 [.d (.agg (sF e)), .d (.agg (sF f))] (.bool (same e f)) := by
  have hroomB : roomB = 140737488355328 := rfl; refine ac_of ok111 rfl rfl ?_
  repeat' first | (with_reducible refine W.seq ?_) | ((with_reducible refine W.region ?_); conv => whnf) | ((refine AC.use (marks_spec _ _ _ _) ?_ rfl ?_); (focus (simp only [allL, FV.all, and_self]; done)); conv => whnf) | ((with_reducible refine W.ret ?_); conv => whnf) | (refine finD (.inr rfl) rfl rfl ⟨?_, rfl⟩) | ((refine condM_intro (fun hc => ?_) (fun hc => ?_)) <;> (try simp only [decide_eq_true_eq, decide_eq_false_iff_not, beq_iff_eq, bne_iff_ne, beq_eq_false_iff_ne, bne_eq_false_iff_eq, ne_eq, Bool.not_eq_true', Bool.not_eq_false'] at hc) <;> (first | (exfalso; omega) | (conv => whnf)))
  all_goals try (refine congrArg (fun b => FV.d (AV.bool b)) ?_; rw [Bool.eq_iff_iff]; cases e; cases f; simp_all [same_iff, same_niff, negB])
theorem sameC_spec (e f : Rc) : Ret Tryz.prog 56 [.d (.agg (sC e)), .d (.agg (sC f))] (.bool (same e f)) := by
  have hroomB : roomB = 140737488355328 := rfl; refine ac_of ok56 rfl rfl ?_
  repeat' first | (with_reducible refine W.seq ?_) | ((with_reducible refine W.region ?_); conv => whnf) | ((refine AC.use (marks_spec _ _ _ _) ?_ rfl ?_); (focus (simp only [allL, FV.all, and_self]; done)); conv => whnf) | ((refine AC.use (eqT1_spec _ _) ?_ rfl ?_); (focus (simp only [allL, FV.all, and_self]; done)); conv => whnf) | ((refine AC.use (eqfF e.fields f.fields _ (fun x _ y => sameF_spec x y)) ?_ rfl ?_); (focus (simp only [allL, FV.all, and_self]; done)); conv => whnf) | ((with_reducible refine W.ret ?_); conv => whnf) | (refine finD (.inr rfl) rfl rfl ⟨?_, rfl⟩) | ((refine condM_intro (fun hc => ?_) (fun hc => ?_)) <;> (try simp only [decide_eq_true_eq, decide_eq_false_iff_not, beq_iff_eq, bne_iff_ne, beq_eq_false_iff_ne, bne_eq_false_iff_eq, ne_eq, Bool.not_eq_true', Bool.not_eq_false'] at hc) <;> (first | (exfalso; omega) | (conv => whnf)))
  all_goals try (refine congrArg (fun b => FV.d (AV.bool b)) ?_; rw [Bool.eq_iff_iff]; cases e; cases f; simp_all [same_iff, same_niff, negB])
theorem eqP_spec (l m : List Pm) : Ret Tryz.prog 112 [.d (.sl 145 (rP l)), .d (.sl 145 (rP m))] (.bool (same l m)) := by
  have hroomB : roomB = 140737488355328 := rfl; refine ac_of ok112 rfl rfl ?_
  repeat' first | (with_reducible refine W.seq ?_) | ((with_reducible refine W.region ?_); conv => whnf) | ((with_reducible refine W.cond ?_); conv => whnf) | (with_reducible refine W.block ?_) | ((with_reducible refine W.skip ?_); conv => whnf) | ((with_reducible refine W.ret ?_); conv => whnf) | (refine finD (.inr rfl) rfl rfl ⟨?_, rfl⟩) | ((refine condM_intro (fun hc => ?_) (fun hc => ?_)) <;> (try simp only [decide_eq_true_eq, decide_eq_false_iff_not, beq_iff_eq, bne_iff_ne, beq_eq_false_iff_ne, bne_eq_false_iff_eq, ne_eq, Bool.not_eq_true', Bool.not_eq_false'] at hc) <;> (first | (exfalso; omega) | (conv => whnf))) | (intro hlen; simp only [rT_len, rE_len, rF_len, rC_len, rV_len, rP_len, rS_len, rR_len, rTT_len, rW_len] at hlen ⊢; conv => whnf) | ((refine And.intro rfl ?_); conv => whnf)
  · rw [same_ne]; intro h; subst h; omega
  refine W.loop (σ := Nat) (fun i => [(0, .d (.sl 145 (rP l))), (1, .d (.sl 145 (rP m))), (12, .d (.int .i64 l.length)), (13, .d (.int .i64 i))]) (fun _ => gl) (fun i => i ≤ l.length ∧ same (l.drop i) (m.drop i) = same l m) (fun i => l.length - i) 0 ⟨Nat.zero_le _, by simp⟩ ⟨.same _, .same _, .same _, .same _, trivial⟩ rfl ?_
  rintro i ⟨hi, hall⟩
  repeat' first | (with_reducible refine W.seq ?_) | ((with_reducible refine W.region ?_); conv => whnf) | ((with_reducible refine W.cond ?_); conv => whnf) | (with_reducible refine W.block ?_) | ((with_reducible refine W.skip ?_); conv => whnf) | ((with_reducible refine W.exit ?_); conv => whnf) | ((with_reducible refine W.ret ?_); conv => whnf) | (refine finD (.inr rfl) rfl rfl ⟨?_, rfl⟩) | ((refine condM_intro (fun hc => ?_) (fun hc => ?_)) <;> (try simp only [decide_eq_true_eq, decide_eq_false_iff_not, beq_iff_eq, bne_iff_ne, beq_eq_false_iff_ne, bne_eq_false_iff_eq, ne_eq, Bool.not_eq_true', Bool.not_eq_false'] at hc) <;> (first | (exfalso; omega) | (conv => whnf))) | (intro row hrow; (first | (obtain rfl := spaceCells_at hrow) | (obtain ⟨x, hx, rfl⟩ := rE_at hrow) | (obtain ⟨x, hx, rfl⟩ := map_at hrow) | (obtain ⟨x, hx, rfl⟩ := rS_at hrow) | (obtain ⟨x, hx, rfl⟩ := rR_at hrow)); conv => whnf) | ((refine And.intro rfl ?_); conv => whnf) | ((refine And.intro ?_ ?_); (focus (first | omega | (simp only [rT_len, rE_len, rF_len, rC_len, rV_len, rP_len, rS_len, rR_len, rTT_len, rW_len, List.length_map, List.length_replicate] at *; omega) | exact (byteAt_lt _ _).1 | exact (byteAt_lt _ _).2 | (simp [ebStr, ebTxts, ebU8, ebExpr, ebStmt, ebVar, ebParam, ebField, ebRec, ebRoutine, ebPair, roomB]; done))); conv => whnf)
  · rename_i x1 hx1 hrow1
    simp only [Int.toNat_natCast] at hx hx1
    have hne : x1 ≠ x := by
      rintro rfl
      simp [negB] at hc
    rw [drop_at hx, drop_at hx1, same_cons, same_ne hne, Bool.false_and] at hall
    rw [hall]
  · rename_i x1 hx1 hrow1
    simp only [Int.toNat_natCast] at hx hx1
    have he : x1 = x := by
      obtain ⟨a1, ⟨a2, a3, a4⟩, a5⟩ := x1
      obtain ⟨b1, ⟨b2, b3, b4⟩, b5⟩ := x
      simp [negB] at hc
      simp [hc]
    subst he
    rw [drop_at hx, drop_at hx1, same_cons, same_rfl, Bool.true_and] at hall
    refine ⟨i + 1, ⟨by omega, hall⟩, by omega, ?_, rfl⟩
    (repeat' (first | exact trivial | exact SlotLe.same _ | exact SlotLe.own _ _ _ | exact SlotLe.nil _ | exact SlotLe.any _ | (apply And.intro) | (refine SlotLe.of_eq ?_; rw [wr (by omega) (by omega)]; rfl) | (refine SlotLe.of_eq ?_; rw [wr (by omega) (by omega)]; congr 2; omega)))
  · rw [drop_end (by omega), drop_end (by omega), same_nil] at hall
    rw [hall]
theorem sameS_ind : ∀ (n : Nat) (e f : Stm), SizeOf.sizeOf e ≤ n → Ret Tryz.prog 62 [.d (.agg (sS e)), .d (.agg (sS f))] (.bool (same e f))
  | 0, e, f, h => by cases e; simp at h
  | n + 1, e, f, h => by
    have hroomB : roomB = 140737488355328 := rfl; refine ac_of ok62 rfl rfl ?_
    repeat' first | (with_reducible refine W.seq ?_) | ((with_reducible refine W.region ?_); conv => whnf) | ((refine AC.use (marks_spec _ _ _ _) ?_ rfl ?_); (focus (simp only [allL, FV.all, and_self]; done)); conv => whnf) | ((refine AC.use (eqT1_spec _ _) ?_ rfl ?_); (focus (simp only [allL, FV.all, and_self]; done)); conv => whnf) | ((refine AC.use (sameE_spec _ _) ?_ rfl ?_); (focus (simp only [allL, FV.all, and_self]; done)); conv => whnf) | ((refine AC.use (eqfE e.e f.e _ (fun x hx y => sameE_spec x y)) ?_ rfl ?_); (focus (simp only [allL, FV.all, and_self]; done)); conv => whnf) | ((refine AC.use (eqfS e.body f.body _ (fun x hx y => sameS_ind n x y (size_bS hx h))) ?_ rfl ?_); (focus (simp only [allL, FV.all, and_self]; done)); conv => whnf) | ((refine AC.use (eqfS e.els f.els _ (fun x hx y => sameS_ind n x y (size_eS hx h))) ?_ rfl ?_); (focus (simp only [allL, FV.all, and_self]; done)); conv => whnf) | ((with_reducible refine W.ret ?_); conv => whnf) | (refine finD (.inr rfl) rfl rfl ⟨?_, rfl⟩) | ((refine condM_intro (fun hc => ?_) (fun hc => ?_)) <;> (try simp only [decide_eq_true_eq, decide_eq_false_iff_not, beq_iff_eq, bne_iff_ne, beq_eq_false_iff_ne, bne_eq_false_iff_eq, ne_eq, Bool.not_eq_true', Bool.not_eq_false'] at hc) <;> (first | (exfalso; omega) | (conv => whnf)))
    all_goals try (refine congrArg (fun b => FV.d (AV.bool b)) ?_; rw [Bool.eq_iff_iff]; cases e; cases f; simp_all [same_iff, same_niff, negB])
theorem sameS_spec (e f : Stm) : Ret Tryz.prog 62 [.d (.agg (sS e)), .d (.agg (sS f))] (.bool (same e f)) := sameS_ind _ e f (Nat.le_refl _)
theorem sameR_ind : ∀ (n : Nat) (e f : Rtn), SizeOf.sizeOf e ≤ n → Ret Tryz.prog 60 [.d (.agg (sR e)), .d (.agg (sR f))] (.bool (same e f))
  | 0, e, f, h => by cases e; simp at h
  | n + 1, e, f, h => by
    have hroomB : roomB = 140737488355328 := rfl; refine ac_of ok60 rfl rfl ?_
    repeat' first | (with_reducible refine W.seq ?_) | ((with_reducible refine W.region ?_); conv => whnf) | ((refine AC.use (marks_spec _ _ _ _) ?_ rfl ?_); (focus (simp only [allL, FV.all, and_self]; done)); conv => whnf) | ((refine AC.use (eqT1_spec _ _) ?_ rfl ?_); (focus (simp only [allL, FV.all, and_self]; done)); conv => whnf) | ((refine AC.use (eqP_spec _ _) ?_ rfl ?_); (focus (simp only [allL, FV.all, and_self]; done)); conv => whnf) | ((refine AC.use (eqfV e.vars f.vars _ (fun x hx y => sameV_spec x y)) ?_ rfl ?_); (focus (simp only [allL, FV.all, and_self]; done)); conv => whnf) | ((refine AC.use (eqfS e.body f.body _ (fun x hx y => sameS_spec x y)) ?_ rfl ?_); (focus (simp only [allL, FV.all, and_self]; done)); conv => whnf) | ((refine AC.use (eqfR e.inner f.inner _ (fun x hx y => sameR_ind n x y (size_iR hx h))) ?_ rfl ?_); (focus (simp only [allL, FV.all, and_self]; done)); conv => whnf) | ((with_reducible refine W.ret ?_); conv => whnf) | (refine finD (.inr rfl) rfl rfl ⟨?_, rfl⟩) | ((refine condM_intro (fun hc => ?_) (fun hc => ?_)) <;> (try simp only [decide_eq_true_eq, decide_eq_false_iff_not, beq_iff_eq, bne_iff_ne, beq_eq_false_iff_ne, bne_eq_false_iff_eq, ne_eq, Bool.not_eq_true', Bool.not_eq_false'] at hc) <;> (first | (exfalso; omega) | (conv => whnf)))
    all_goals try (refine congrArg (fun b => FV.d (AV.bool b)) ?_; rw [Bool.eq_iff_iff]; cases e; cases f; simp_all [same_iff, same_niff, negB])
theorem sameR_spec (e f : Rtn) : Ret Tryz.prog 60 [.d (.agg (sR e)), .d (.agg (sR f))] (.bool (same e f)) := sameR_ind _ e f (Nat.le_refl _)
theorem sameG_spec (e f : Pgm) : Ret Tryz.prog 20 [.d (.agg (sG e)), .d (.agg (sG f))] (.bool (same e f)) := by
  have hroomB : roomB = 140737488355328 := rfl; refine ac_of ok20 rfl rfl ?_
  repeat' first | (with_reducible refine W.seq ?_) | ((with_reducible refine W.region ?_); conv => whnf) | ((refine AC.use (eqT1_spec _ _) ?_ rfl ?_); (focus (simp only [allL, FV.all, and_self]; done)); conv => whnf) | ((refine AC.use (eqfC e.recs f.recs _ (fun x hx y => sameC_spec x y)) ?_ rfl ?_); (focus (simp only [allL, FV.all, and_self]; done)); conv => whnf) | ((refine AC.use (eqfV e.vars f.vars _ (fun x hx y => sameV_spec x y)) ?_ rfl ?_); (focus (simp only [allL, FV.all, and_self]; done)); conv => whnf) | ((refine AC.use (eqfS e.body f.body _ (fun x hx y => sameS_spec x y)) ?_ rfl ?_); (focus (simp only [allL, FV.all, and_self]; done)); conv => whnf) | ((refine AC.use (eqfR e.routines f.routines _ (fun x hx y => sameR_spec x y)) ?_ rfl ?_); (focus (simp only [allL, FV.all, and_self]; done)); conv => whnf) | ((with_reducible refine W.ret ?_); conv => whnf) | (refine finD (.inr rfl) rfl rfl ⟨?_, rfl⟩) | ((refine condM_intro (fun hc => ?_) (fun hc => ?_)) <;> (try simp only [decide_eq_true_eq, decide_eq_false_iff_not, beq_iff_eq, bne_iff_ne, beq_eq_false_iff_ne, bne_eq_false_iff_eq, ne_eq, Bool.not_eq_true', Bool.not_eq_false'] at hc) <;> (first | (exfalso; omega) | (conv => whnf)))
  all_goals try (refine congrArg (fun b => FV.d (AV.bool b)) ?_; rw [Bool.eq_iff_iff]; cases e; cases f; simp_all [same_iff, same_niff, negB])
end Go.Pg
set_option maxRecDepth 100000
set_option linter.all false
namespace Go.Pg
open Go.Proofs
theorem size_at {α : Type} [SizeOf α] {l : List α} {i : Nat} {x : α} {n : Nat} (hx : l[i]? = some x) (h : SizeOf.sizeOf l ≤ n + 1) : SizeOf.sizeOf x ≤ n := by
  have := List.sizeOf_lt_of_mem (List.mem_of_getElem? hx)
  omega
theorem size_bodyAt {l : List Stm} {i : Nat} {x : Stm} {n : Nat} (hx : l[i]? = some x) (h : SizeOf.sizeOf l ≤ n + 1) : SizeOf.sizeOf x.body ≤ n ∧ SizeOf.sizeOf x.els ≤ n := by
  have := size_at hx h
  cases x; simp only [Stm.mk.sizeOf_spec] at *; omega
theorem size_innerAt {l : List Rtn} {i : Nat} {x : Rtn} {n : Nat} (hx : l[i]? = some x) (h : SizeOf.sizeOf l ≤ n + 1) : SizeOf.sizeOf x.inner ≤ n := by
  have := size_at hx h
  cases x; simp only [Rtn.mk.sizeOf_spec] at *; omega
theorem rsameE_ind : ∀ (n : Nat), (∀ (e f : Expr), SizeOf.sizeOf e ≤ n → Ret Tryz.prog 22 [.d (.agg (sE e)), .d (.agg (sE f))] (.bool (same e f))) ∧
    (∀ l m : List Expr, SizeOf.sizeOf l ≤ n → Ret Tryz.prog 64 [.d (aE l), .d (aE m)] (.bool (same l m)))
  | 0 => ⟨fun e f h => by cases e; simp at h, fun l m h => by cases l <;> simp at h⟩
  | n + 1 => by
    have ih := rsameE_ind n
    refine ⟨fun e f h => ?_, fun l m h => ?_⟩
    · have hl : SizeOf.sizeOf e.l ≤ n := by cases e; simp only [Expr.mk.sizeOf_spec] at *; omega
      have hroomB : roomB = 140737488355328 := rfl; refine ac_of ok22 rfl rfl ?_
      repeat' first | (with_reducible refine W.seq ?_) | ((with_reducible refine W.region ?_); conv => whnf) | ((refine AC.use (ih.2 e.l f.l hl) ?_ rfl ?_); (focus (simp only [allL, FV.all, and_self]; done)); conv => whnf) | ((with_reducible refine W.ret ?_); conv => whnf) | (refine finD (.inr rfl) rfl rfl ⟨?_, rfl⟩) | ((refine condM_intro (fun hc => ?_) (fun hc => ?_)) <;> (try simp only [decide_eq_true_eq, decide_eq_false_iff_not, beq_iff_eq, bne_iff_ne, beq_eq_false_iff_ne, bne_eq_false_iff_eq, ne_eq, Bool.not_eq_true', Bool.not_eq_false'] at hc) <;> (first | (exfalso; omega) | (conv => whnf)))
      all_goals try (refine congrArg (fun b => FV.d (AV.bool b)) ?_; rw [Bool.eq_iff_iff]; cases e; cases f; simp_all [same_iff, same_niff, negB])
    · have hroomB : roomB = 140737488355328 := rfl; refine ac_of ok64 rfl rfl ?_
      repeat' first | (with_reducible refine W.seq ?_) | ((with_reducible refine W.region ?_); conv => whnf) | ((with_reducible refine W.cond ?_); conv => whnf) | (with_reducible refine W.block ?_) | ((with_reducible refine W.skip ?_); conv => whnf) | ((with_reducible refine W.ret ?_); conv => whnf) | (refine finD (.inr rfl) rfl rfl ⟨?_, rfl⟩) | ((refine condM_intro (fun hc => ?_) (fun hc => ?_)) <;> (try simp only [decide_eq_true_eq, decide_eq_false_iff_not, beq_iff_eq, bne_iff_ne, beq_eq_false_iff_ne, bne_eq_false_iff_eq, ne_eq, Bool.not_eq_true', Bool.not_eq_false'] at hc) <;> (first | (exfalso; omega) | (conv => whnf))) | (intro hlen; simp only [rT_len, rE_len, rF_len, rC_len, rV_len, rP_len, rS_len, rR_len, rTT_len, rW_len] at hlen ⊢; conv => whnf) | ((refine And.intro rfl ?_); conv => whnf)
      · rw [same_ne]; intro h; subst h; omega
      refine W.loop (σ := Nat) (fun i => [(0, .d (aE l)), (1, .d (aE m)), (5, .d (.int .i64 i))]) (fun _ => gl) (fun i => i ≤ l.length ∧ same (l.drop i) (m.drop i) = same l m) (fun i => l.length - i) 0 ⟨Nat.zero_le _, by simp⟩ ⟨.same _, .same _, .same _, trivial⟩ rfl ?_
      rintro i ⟨hi, hall⟩
      repeat' first | (with_reducible refine W.seq ?_) | ((with_reducible refine W.region ?_); conv => whnf) | ((with_reducible refine W.cond ?_); conv => whnf) | (with_reducible refine W.block ?_) | ((with_reducible refine W.skip ?_); conv => whnf) | ((with_reducible refine W.exit ?_); conv => whnf) | ((refine AC.use (ih.1 _ _ (size_at (by assumption) h)) ?_ rfl ?_); (focus (simp only [allL, FV.all, and_self]; done)); conv => whnf) | ((with_reducible refine W.ret ?_); conv => whnf) | (refine finD (.inr rfl) rfl rfl ⟨?_, rfl⟩) | ((refine condM_intro (fun hc => ?_) (fun hc => ?_)) <;> (try simp only [decide_eq_true_eq, decide_eq_false_iff_not, beq_iff_eq, bne_iff_ne, beq_eq_false_iff_ne, bne_eq_false_iff_eq, ne_eq, Bool.not_eq_true', Bool.not_eq_false'] at hc) <;> (first | (exfalso; omega) | (conv => whnf))) | (intro row hrow; (first | (obtain rfl := spaceCells_at hrow) | (obtain ⟨x, hx, rfl⟩ := rE_at hrow) | (obtain ⟨x, hx, rfl⟩ := map_at hrow) | (obtain ⟨x, hx, rfl⟩ := rS_at hrow) | (obtain ⟨x, hx, rfl⟩ := rR_at hrow)); conv => whnf) | (intro hlen; simp only [rT_len, rE_len, rF_len, rC_len, rV_len, rP_len, rS_len, rR_len, rTT_len, rW_len] at hlen ⊢; conv => whnf) | ((refine And.intro rfl ?_); conv => whnf) | ((refine And.intro ?_ ?_); (focus (first | omega | (simp only [rT_len, rE_len, rF_len, rC_len, rV_len, rP_len, rS_len, rR_len, rTT_len, rW_len, List.length_map, List.length_replicate] at *; omega) | exact (byteAt_lt _ _).1 | exact (byteAt_lt _ _).2 | (simp [ebStr, ebTxts, ebU8, ebExpr, ebStmt, ebVar, ebParam, ebField, ebRec, ebRoutine, ebPair, roomB]; done))); conv => whnf)
      · clear ih; (rename_i x1 hx1 hrow1; simp only [Int.toNat_natCast] at hx hx1; have hne : x1 ≠ x := (by rintro rfl; clear hx hx1 hall; simp_all [same_rfl, negB]); rw [drop_at hx, drop_at hx1, same_cons, same_ne hne, Bool.false_and] at hall; rw [hall])
      · clear ih; (rename_i x1 hx1 hrow1; simp only [Int.toNat_natCast] at hx hx1; have he : x1 = x := (by clear hx hx1 hall; cases x1; cases x; simp_all [same_iff, negB]); subst he; rw [drop_at hx, drop_at hx1, same_cons, same_rfl, Bool.true_and] at hall; first | refine ⟨i + 1, ⟨by omega, hall⟩, by omega, ?_, rfl⟩ | refine ⟨i + 1, [_, _], ⟨by omega, hall⟩, by omega, ?_, rfl, Nat.le_refl _⟩); (repeat' (first | exact trivial | exact SlotLe.same _ | exact SlotLe.own _ _ _ | exact SlotLe.nil _ | exact SlotLe.any _ | (apply And.intro) | (refine SlotLe.of_eq ?_; rw [wr (by omega) (by omega)]; rfl) | (refine SlotLe.of_eq ?_; rw [wr (by omega) (by omega)]; congr 2; omega)))
      · (rw [drop_end (by omega), drop_end (by omega), same_nil] at hall; rw [hall])
theorem rsameE_spec (e f : Expr) : Ret Tryz.prog 22 [.d (.agg (sE e)), .d (.agg (sE f))] (.bool (same e f)) := (rsameE_ind _).1 e f (Nat.le_refl _)
theorem rsameEs_spec (l m : List Expr) : Ret Tryz.prog 64 [.d (aE l), .d (aE m)] (.bool (same l m)) := (rsameE_ind _).2 l m (Nat.le_refl _)
theorem rmarks_spec (a b c d : List Txt) : Ret Tryz.prog 47 [.d (.agg [aT a, aT b]), .d (.agg [aT c, aT d])] (.bool (same a c && same b d)) := by
  have hroomB : roomB = 140737488355328 := rfl; refine ac_of ok47 rfl rfl ?_
  repeat' first | (with_reducible refine W.seq ?_) | ((with_reducible refine W.region ?_); conv => whnf) | ((refine AC.use (rsame_spec _ _) ?_ rfl ?_); (focus (simp only [allL, FV.all, and_self]; done)); conv => whnf) | ((with_reducible refine W.ret ?_); conv => whnf) | (refine finD (.inr rfl) rfl rfl ⟨?_, rfl⟩) | ((refine condM_intro (fun hc => ?_) (fun hc => ?_)) <;> (try simp only [decide_eq_true_eq, decide_eq_false_iff_not, beq_iff_eq, bne_iff_ne, beq_eq_false_iff_ne, bne_eq_false_iff_eq, ne_eq, Bool.not_eq_true', Bool.not_eq_false'] at hc) <;> (first | (exfalso; omega) | (conv => whnf)))
  all_goals (refine congrArg (fun b => FV.d (AV.bool b)) ?_; simp_all)
theorem rsameV_spec (l m : List Vr) : Ret Tryz.prog 48 [.d (.sl 98 (rV l)), .d (.sl 98 (rV m))] (.bool (same l m)) := by
  have hroomB : roomB = 140737488355328 := rfl; refine ac_of ok48 rfl rfl ?_
  repeat' first | (with_reducible refine W.seq ?_) | ((with_reducible refine W.region ?_); conv => whnf) | ((with_reducible refine W.cond ?_); conv => whnf) | (with_reducible refine W.block ?_) | ((with_reducible refine W.skip ?_); conv => whnf) | ((with_reducible refine W.ret ?_); conv => whnf) | (refine finD (.inr rfl) rfl rfl ⟨?_, rfl⟩) | ((refine condM_intro (fun hc => ?_) (fun hc => ?_)) <;> (try simp only [decide_eq_true_eq, decide_eq_false_iff_not, beq_iff_eq, bne_iff_ne, beq_eq_false_iff_ne, bne_eq_false_iff_eq, ne_eq, Bool.not_eq_true', Bool.not_eq_false'] at hc) <;> (first | (exfalso; omega) | (conv => whnf))) | (intro hlen; simp only [rT_len, rE_len, rF_len, rC_len, rV_len, rP_len, rS_len, rR_len, rTT_len, rW_len] at hlen ⊢; conv => whnf) | ((refine And.intro rfl ?_); conv => whnf)
  · rw [same_ne]; intro h; subst h; omega
  refine W.loop (σ := Nat) (fun i => [(0, .d (.sl 98 (rV l))), (1, .d (.sl 98 (rV m))), (5, .d (.int .i64 i))]) (fun _ => gl) (fun i => i ≤ l.length ∧ same (l.drop i) (m.drop i) = same l m) (fun i => l.length - i) 0 ⟨Nat.zero_le _, by simp⟩ ⟨.same _, .same _, .same _, trivial⟩ rfl ?_
  rintro i ⟨hi, hall⟩
  rcases Nat.lt_or_ge i l.length with hlt | hge
  · obtain ⟨x, hx⟩ := at_lt hlt
    obtain ⟨y, hy⟩ := at_lt (l := m) (i := i) (by omega)
    have hrx := rV_some hx
    have hry := rV_some hy
    rw [drop_at hx, drop_at hy, same_cons] at hall
    repeat' first | (with_reducible refine W.seq ?_) | ((with_reducible refine W.region ?_); conv => whnf) | ((with_reducible refine W.cond ?_); conv => whnf) | (with_reducible refine W.block ?_) | ((with_reducible refine W.skip ?_); conv => whnf) | ((refine AC.use (rmarks_spec _ _ _ _) ?_ rfl ?_); (focus (simp only [allL, FV.all, and_self]; done)); conv => whnf) | ((with_reducible refine W.ret ?_); conv => whnf) | (refine finD (.inr rfl) rfl rfl ⟨?_, rfl⟩) | ((refine condM_intro (fun hc => ?_) (fun hc => ?_)) <;> (try simp only [decide_eq_true_eq, decide_eq_false_iff_not, beq_iff_eq, bne_iff_ne, beq_eq_false_iff_ne, bne_eq_false_iff_eq, ne_eq, Bool.not_eq_true', Bool.not_eq_false'] at hc) <;> (first | (exfalso; omega) | (conv => whnf))) | ((refine fun row hrow => ?_); revert row; (apply row_same); (focus assumption); conv => whnf) | (intro hlen; simp only [rT_len, rE_len, rF_len, rC_len, rV_len, rP_len, rS_len, rR_len, rTT_len, rW_len] at hlen ⊢; conv => whnf) | ((refine And.intro rfl ?_); conv => whnf) | ((refine And.intro ?_ ?_); (focus (first | omega | (simp only [rT_len, rE_len, rF_len, rC_len, rV_len, rP_len, rS_len, rR_len, rTT_len, rW_len, List.length_map, List.length_replicate] at *; omega) | exact (byteAt_lt _ _).1 | exact (byteAt_lt _ _).2 | (simp [ebStr, ebTxts, ebU8, ebExpr, ebStmt, ebVar, ebParam, ebField, ebRec, ebRoutine, ebPair, roomB]; done))); conv => whnf)
    all_goals (first
      | ((first | refine ⟨i + 1, ⟨by omega, ?_⟩, by omega, ?_, rfl⟩ | refine ⟨i + 1, [_, _], ⟨by omega, ?_⟩, by omega, ?_, rfl, Nat.le_refl _⟩); focus (rw [← hall]; have he : x = y := (by clear hx hy hrx hry hall ; obtain ⟨a1, a2, a3, a4, a5, a6⟩ := x; obtain ⟨b1, b2, b3, b4, b5, b6⟩ := y; simp_all [same_iff, negB]); subst he; rw [same_rfl, Bool.true_and]))
      | (have hne : x ≠ y := (by rintro rfl; clear hx hy hrx hry hall ; simp_all [same_rfl, negB]); rw [same_ne hne, Bool.false_and] at hall; rw [hall]))
    (repeat' (first | exact trivial | exact SlotLe.same _ | exact SlotLe.own _ _ _ | exact SlotLe.nil _ | exact SlotLe.any _ | (apply And.intro) | (refine SlotLe.of_eq ?_; rw [wr (by omega) (by omega)]; rfl) | (refine SlotLe.of_eq ?_; rw [wr (by omega) (by omega)]; congr 2; omega)))
  · rw [drop_end hge, drop_end (by omega), same_nil] at hall
    repeat' first | (with_reducible refine W.seq ?_) | ((with_reducible refine W.region ?_); conv => whnf) | ((with_reducible refine W.cond ?_); conv => whnf) | ((with_reducible refine W.exit ?_); conv => whnf) | ((with_reducible refine W.ret ?_); conv => whnf) | (refine finD (.inr rfl) rfl rfl ⟨?_, rfl⟩) | ((refine condM_intro (fun hc => ?_) (fun hc => ?_)) <;> (try simp only [decide_eq_true_eq, decide_eq_false_iff_not, beq_iff_eq, bne_iff_ne, beq_eq_false_iff_ne, bne_eq_false_iff_eq, ne_eq, Bool.not_eq_true', Bool.not_eq_false'] at hc) <;> (first | (exfalso; omega) | (conv => whnf))) | (intro hlen; simp only [rT_len, rE_len, rF_len, rC_len, rV_len, rP_len, rS_len, rR_len, rTT_len, rW_len] at hlen ⊢; conv => whnf) | ((refine And.intro rfl ?_); conv => whnf)
    rw [hall]
theorem rsameS_ind : ∀ (n : Nat) (l m : List Stm), SizeOf.sizeOf l ≤ n → Ret Tryz.prog 50 [.d (.sl 107 (rS l)), .d (.sl 107 (rS m))] (.bool (same l m))
  | 0, l, m, h => by cases l <;> simp at h
  | n + 1, l, m, h => by
    have ih := rsameS_ind n
    have hroomB : roomB = 140737488355328 := rfl; refine ac_of ok50 rfl rfl ?_
    repeat' first | (with_reducible refine W.seq ?_) | ((with_reducible refine W.region ?_); conv => whnf) | ((with_reducible refine W.cond ?_); conv => whnf) | (with_reducible refine W.block ?_) | ((with_reducible refine W.skip ?_); conv => whnf) | ((with_reducible refine W.ret ?_); conv => whnf) | (refine finD (.inr rfl) rfl rfl ⟨?_, rfl⟩) | ((refine condM_intro (fun hc => ?_) (fun hc => ?_)) <;> (try simp only [decide_eq_true_eq, decide_eq_false_iff_not, beq_iff_eq, bne_iff_ne, beq_eq_false_iff_ne, bne_eq_false_iff_eq, ne_eq, Bool.not_eq_true', Bool.not_eq_false'] at hc) <;> (first | (exfalso; omega) | (conv => whnf))) | (intro hlen; simp only [rT_len, rE_len, rF_len, rC_len, rV_len, rP_len, rS_len, rR_len, rTT_len, rW_len] at hlen ⊢; conv => whnf) | ((refine And.intro rfl ?_); conv => whnf)
    · rw [same_ne]; intro h; subst h; omega
    refine W.loopJ (σ := Nat) (fun i => [(0, .d (.sl 107 (rS l))), (1, .d (.sl 107 (rS m))), (5, .d (.int .i64 i))]) (fun _ => gl) (fun i => i ≤ l.length ∧ same (l.drop i) (m.drop i) = same l m) (fun i => l.length - i) 0 ⟨Nat.zero_le _, by simp⟩ ⟨.same _, .same _, .same _, trivial⟩ rfl (fun i _ => ⟨by simp [OkIn], by simp [ObjOk]⟩) ?_
    rintro i ⟨hi, hall⟩
    rcases Nat.lt_or_ge i l.length with hlt | hge
    · obtain ⟨x, hx⟩ := at_lt hlt
      obtain ⟨y, hy⟩ := at_lt (l := m) (i := i) (by omega)
      have hrx := rS_some hx
      have hry := rS_some hy
      rw [drop_at hx, drop_at hy, same_cons] at hall
      repeat' first | (with_reducible refine W.seq ?_) | ((with_reducible refine W.region ?_); conv => whnf) | ((with_reducible refine W.cond ?_); conv => whnf) | (with_reducible refine W.block ?_) | ((with_reducible refine W.skip ?_); conv => whnf) | ((with_reducible refine W.regions2 ?_ ?_) <;> (conv => whnf)) | ((refine AC.use (rmarks_spec _ _ _ _) ?_ rfl ?_); (focus (simp only [allL, FV.all, and_self]; done)); conv => whnf) | ((refine AC.use (rsame_spec _ _) ?_ rfl ?_); (focus (simp only [allL, FV.all, and_self]; done)); conv => whnf) | ((refine AC.use (rsameE_spec _ _) ?_ rfl ?_); (focus (simp only [allL, FV.all, and_self]; done)); conv => whnf) | ((refine AC.use (rsameEs_spec _ _) ?_ rfl ?_); (focus (simp only [allL, FV.all, and_self]; done)); conv => whnf) | ((refine AC.use (ih _ _ (size_bodyAt (by assumption) h).1) ?_ rfl ?_); (focus (simp only [allL, FV.all, and_self]; done)); conv => whnf) | ((refine AC.use (ih _ _ (size_bodyAt (by assumption) h).2) ?_ rfl ?_); (focus (simp only [allL, FV.all, and_self]; done)); conv => whnf) | ((with_reducible refine W.ret ?_); conv => whnf) | (refine finD (.inr rfl) rfl rfl ⟨?_, rfl⟩) | ((refine condM_intro (fun hc => ?_) (fun hc => ?_)) <;> (try simp only [decide_eq_true_eq, decide_eq_false_iff_not, beq_iff_eq, bne_iff_ne, beq_eq_false_iff_ne, bne_eq_false_iff_eq, ne_eq, Bool.not_eq_true', Bool.not_eq_false'] at hc) <;> (first | (exfalso; omega) | (conv => whnf))) | ((refine fun row hrow => ?_); revert row; (apply row_same); (focus assumption); conv => whnf) | (intro hlen; simp only [rT_len, rE_len, rF_len, rC_len, rV_len, rP_len, rS_len, rR_len, rTT_len, rW_len] at hlen ⊢; conv => whnf) | ((refine And.intro rfl ?_); conv => whnf) | ((refine And.intro ?_ ?_); (focus (first | omega | (simp only [rT_len, rE_len, rF_len, rC_len, rV_len, rP_len, rS_len, rR_len, rTT_len, rW_len, List.length_map, List.length_replicate] at *; omega) | exact (byteAt_lt _ _).1 | exact (byteAt_lt _ _).2 | (simp [ebStr, ebTxts, ebU8, ebExpr, ebStmt, ebVar, ebParam, ebField, ebRec, ebRoutine, ebPair, roomB]; done))); conv => whnf)
      all_goals (first
        | ((first | refine ⟨i + 1, ⟨by omega, ?_⟩, by omega, ?_, rfl⟩ | refine ⟨i + 1, [_, _], ⟨by omega, ?_⟩, by omega, ?_, rfl, Nat.le_refl _⟩); focus (rw [← hall]; have he : x = y := (by clear hx hy hrx hry hall ih h; cases x; cases y; simp_all [same_iff, negB]); subst he; rw [same_rfl, Bool.true_and]))
        | (have hne : x ≠ y := (by rintro rfl; clear hx hy hrx hry hall ih h; simp_all [same_rfl, negB]); rw [same_ne hne, Bool.false_and] at hall; rw [hall]))
      (repeat' (first | exact trivial | exact SlotLe.same _ | exact SlotLe.own _ _ _ | exact SlotLe.nil _ | exact SlotLe.any _ | (apply And.intro) | (refine SlotLe.of_eq ?_; rw [wr (by omega) (by omega)]; rfl) | (refine SlotLe.of_eq ?_; rw [wr (by omega) (by omega)]; congr 2; omega)))
    · rw [drop_end hge, drop_end (by omega), same_nil] at hall
      repeat' first | (with_reducible refine W.seq ?_) | ((with_reducible refine W.region ?_); conv => whnf) | ((with_reducible refine W.cond ?_); conv => whnf) | ((with_reducible refine W.exit ?_); conv => whnf) | ((with_reducible refine W.ret ?_); conv => whnf) | (refine finD (.inr rfl) rfl rfl ⟨?_, rfl⟩) | ((refine condM_intro (fun hc => ?_) (fun hc => ?_)) <;> (try simp only [decide_eq_true_eq, decide_eq_false_iff_not, beq_iff_eq, bne_iff_ne, beq_eq_false_iff_ne, bne_eq_false_iff_eq, ne_eq, Bool.not_eq_true', Bool.not_eq_false'] at hc) <;> (first | (exfalso; omega) | (conv => whnf))) | (intro hlen; simp only [rT_len, rE_len, rF_len, rC_len, rV_len, rP_len, rS_len, rR_len, rTT_len, rW_len] at hlen ⊢; conv => whnf) | ((refine And.intro rfl ?_); conv => whnf)
      rw [hall]
theorem rsameS_spec (l m : List Stm) : Ret Tryz.prog 50 [.d (.sl 107 (rS l)), .d (.sl 107 (rS m))] (.bool (same l m)) := rsameS_ind _ l m (Nat.le_refl _)
theorem rsameR_ind : ∀ (n : Nat) (l m : List Rtn), SizeOf.sizeOf l ≤ n → Ret Tryz.prog 49 [.d (.sl 103 (rR l)), .d (.sl 103 (rR m))] (.bool (same l m))
  | 0, l, m, h => by cases l <;> simp at h
  | n + 1, l, m, h => by
    have ih := rsameR_ind n
    have hroomB : roomB = 140737488355328 := rfl; refine ac_of ok49 rfl rfl ?_
    repeat' first | (with_reducible refine W.seq ?_) | ((with_reducible refine W.region ?_); conv => whnf) | ((with_reducible refine W.cond ?_); conv => whnf) | (with_reducible refine W.block ?_) | ((with_reducible refine W.skip ?_); conv => whnf) | ((with_reducible refine W.ret ?_); conv => whnf) | (refine finD (.inr rfl) rfl rfl ⟨?_, rfl⟩) | ((refine condM_intro (fun hc => ?_) (fun hc => ?_)) <;> (try simp only [decide_eq_true_eq, decide_eq_false_iff_not, beq_iff_eq, bne_iff_ne, beq_eq_false_iff_ne, bne_eq_false_iff_eq, ne_eq, Bool.not_eq_true', Bool.not_eq_false'] at hc) <;> (first | (exfalso; omega) | (conv => whnf))) | (intro hlen; simp only [rT_len, rE_len, rF_len, rC_len, rV_len, rP_len, rS_len, rR_len, rTT_len, rW_len] at hlen ⊢; conv => whnf) | ((refine And.intro rfl ?_); conv => whnf)
    · rw [same_ne]; intro h; subst h; omega
    refine W.loopJ (σ := Nat) (fun i => [(0, .d (.sl 103 (rR l))), (1, .d (.sl 103 (rR m))), (5, .d (.int .i64 i))]) (fun _ => gl) (fun i => i ≤ l.length ∧ same (l.drop i) (m.drop i) = same l m) (fun i => l.length - i) 0 ⟨Nat.zero_le _, by simp⟩ ⟨.same _, .same _, .same _, trivial⟩ rfl (fun i _ => ⟨by simp [OkIn], by simp [ObjOk]⟩) ?_
    rintro i ⟨hi, hall⟩
    rcases Nat.lt_or_ge i l.length with hlt | hge
    · obtain ⟨x, hx⟩ := at_lt hlt
      obtain ⟨y, hy⟩ := at_lt (l := m) (i := i) (by omega)
      have hrx := rR_some hx
      have hry := rR_some hy
      rw [drop_at hx, drop_at hy, same_cons] at hall
      repeat' first | (with_reducible refine W.seq ?_) | ((with_reducible refine W.region ?_); conv => whnf) | ((with_reducible refine W.cond ?_); conv => whnf) | (with_reducible refine W.block ?_) | ((with_reducible refine W.skip ?_); conv => whnf) | ((with_reducible refine W.regions2 ?_ ?_) <;> (conv => whnf)) | ((refine AC.use (rmarks_spec _ _ _ _) ?_ rfl ?_); (focus (simp only [allL, FV.all, and_self]; done)); conv => whnf) | ((refine AC.use (rsame_spec _ _) ?_ rfl ?_); (focus (simp only [allL, FV.all, and_self]; done)); conv => whnf) | ((with_reducible refine W.ret ?_); conv => whnf) | (refine finD (.inr rfl) rfl rfl ⟨?_, rfl⟩) | ((refine condM_intro (fun hc => ?_) (fun hc => ?_)) <;> (try simp only [decide_eq_true_eq, decide_eq_false_iff_not, beq_iff_eq, bne_iff_ne, beq_eq_false_iff_ne, bne_eq_false_iff_eq, ne_eq, Bool.not_eq_true', Bool.not_eq_false'] at hc) <;> (first | (exfalso; omega) | (conv => whnf))) | ((refine fun row hrow => ?_); revert row; (apply row_same); (focus assumption); conv => whnf) | (intro hlen; simp only [rT_len, rE_len, rF_len, rC_len, rV_len, rP_len, rS_len, rR_len, rTT_len, rW_len] at hlen ⊢; conv => whnf) | ((refine And.intro rfl ?_); conv => whnf) | ((refine And.intro ?_ ?_); (focus (first | omega | (simp only [rT_len, rE_len, rF_len, rC_len, rV_len, rP_len, rS_len, rR_len, rTT_len, rW_len, List.length_map, List.length_replicate] at *; omega) | exact (byteAt_lt _ _).1 | exact (byteAt_lt _ _).2 | (simp [ebStr, ebTxts, ebU8, ebExpr, ebStmt, ebVar, ebParam, ebField, ebRec, ebRoutine, ebPair, roomB]; done))); conv => whnf)
      iterate 5 (focus (have hne : x ≠ y := (by rintro rfl; clear hx hy hrx hry hall ih h; simp_all [same_rfl, negB]); rw [same_ne hne, Bool.false_and] at hall; rw [hall]))
      · have hpl : x.params.length = y.params.length := by omega
        refine W.cutB (σ := Unit) (fun _ => [(0, .d (.sl 103 (rR l))), (1, .d (.sl 103 (rR m))), (5, .d (.int .i64 i)), (6, .vp 1 0), (7, .vp 2 0)]) (fun _ => gl ++ [.var 103 ((sR x).map .d), .var 103 ((sR y).map .d)]) (fun _ => x.params = y.params) ?_ ?_
        · refine W.loop (σ := Nat) (fun k => [(0, .d (.sl 103 (rR l))), (1, .d (.sl 103 (rR m))), (5, .d (.int .i64 i)), (6, .vp 1 0), (7, .vp 2 0), (8, .d (.int .i64 k))]) (fun _ => gl ++ [.var 103 ((sR x).map .d), .var 103 ((sR y).map .d)])
            (fun k => k ≤ x.params.length ∧ same (x.params.drop k) (y.params.drop k) = same x.params y.params) (fun k => x.params.length - k) 0 ⟨Nat.zero_le _, by simp⟩ ⟨.same _, .same _, .same _, .same _, .same _, .same _, trivial⟩ rfl ?_
          rintro k ⟨hk, hpar⟩
          rcases Nat.lt_or_ge k x.params.length with hltk | hgek
          · obtain ⟨p, hp⟩ := at_lt hltk
            obtain ⟨q, hq⟩ := at_lt (l := y.params) (i := k) (by omega)
            have hrp := rP_some hp
            have hrq := rP_some hq
            rw [drop_at hp, drop_at hq, same_cons] at hpar
            repeat' first | (with_reducible refine W.seq ?_) | ((with_reducible refine W.region ?_); conv => whnf) | ((with_reducible refine W.cond ?_); conv => whnf) | (with_reducible refine W.block ?_) | ((with_reducible refine W.skip ?_); conv => whnf) | ((with_reducible refine W.ret ?_); conv => whnf) | (refine finD (.inr rfl) rfl rfl ⟨?_, rfl⟩) | ((refine condM_intro (fun hc => ?_) (fun hc => ?_)) <;> (try simp only [decide_eq_true_eq, decide_eq_false_iff_not, beq_iff_eq, bne_iff_ne, beq_eq_false_iff_ne, bne_eq_false_iff_eq, ne_eq, Bool.not_eq_true', Bool.not_eq_false'] at hc) <;> (first | (exfalso; omega) | (conv => whnf))) | ((refine fun row hrow => ?_); revert row; (apply row_same); (focus assumption); conv => whnf) | (intro hlen; simp only [rT_len, rE_len, rF_len, rC_len, rV_len, rP_len, rS_len, rR_len, rTT_len, rW_len] at hlen ⊢; conv => whnf) | ((refine And.intro rfl ?_); conv => whnf) | ((refine And.intro ?_ ?_); (focus (first | omega | (simp only [rT_len, rE_len, rF_len, rC_len, rV_len, rP_len, rS_len, rR_len, rTT_len, rW_len, List.length_map, List.length_replicate] at *; omega) | exact (byteAt_lt _ _).1 | exact (byteAt_lt _ _).2 | (simp [ebStr, ebTxts, ebU8, ebExpr, ebStmt, ebVar, ebParam, ebField, ebRec, ebRoutine, ebPair, roomB]; done))); conv => whnf)
            · have hne : p ≠ q := by
                rintro rfl
                simp [negB] at hc
              rw [same_ne hne, Bool.false_and] at hpar
              have hne : x ≠ y := by
                rintro rfl
                rw [same_rfl] at hpar; cases hpar
              rw [same_ne hne, Bool.false_and] at hall; rw [hall]
            · have he : p = q := by
                obtain ⟨a1, ⟨a2, a3, a4⟩, a5⟩ := p
                obtain ⟨b1, ⟨b2, b3, b4⟩, b5⟩ := q
                simp [negB] at hc
                simp [hc]
              subst he
              rw [same_rfl, Bool.true_and] at hpar
              refine ⟨k + 1, ⟨by omega, hpar⟩, by omega, ?_, rfl⟩
              (repeat' (first | exact trivial | exact SlotLe.same _ | exact SlotLe.own _ _ _ | exact SlotLe.nil _ | exact SlotLe.any _ | (apply And.intro) | (refine SlotLe.of_eq ?_; rw [wr (by omega) (by omega)]; rfl) | (refine SlotLe.of_eq ?_; rw [wr (by omega) (by omega)]; congr 2; omega)))
          · rw [drop_end hgek, drop_end (by omega), same_nil] at hpar
            repeat' first | (with_reducible refine W.seq ?_) | ((with_reducible refine W.region ?_); conv => whnf) | ((with_reducible refine W.cond ?_); conv => whnf) | ((with_reducible refine W.exit ?_); conv => whnf) | ((refine condM_intro (fun hc => ?_) (fun hc => ?_)) <;> (try simp only [decide_eq_true_eq, decide_eq_false_iff_not, beq_iff_eq, bne_iff_ne, beq_eq_false_iff_ne, bne_eq_false_iff_eq, ne_eq, Bool.not_eq_true', Bool.not_eq_false'] at hc) <;> (first | (exfalso; omega) | (conv => whnf))) | (intro hlen; simp only [rT_len, rE_len, rF_len, rC_len, rV_len, rP_len, rS_len, rR_len, rTT_len, rW_len] at hlen ⊢; conv => whnf) | ((refine And.intro rfl ?_); conv => whnf)
            exact ⟨(), same_iff.1 hpar.symm, ⟨.same _, .same _, .same _, .same _, .same _, trivial⟩, rfl⟩
        rintro _ hpar
        repeat' first | (with_reducible refine W.seq ?_) | ((with_reducible refine W.region ?_); conv => whnf) | ((with_reducible refine W.cond ?_); conv => whnf) | ((with_reducible refine W.skip ?_); conv => whnf) | ((refine AC.use (rsameV_spec _ _) ?_ rfl ?_); (focus (simp only [allL, FV.all, and_self]; done)); conv => whnf) | ((refine AC.use (rsameS_spec _ _) ?_ rfl ?_); (focus (simp only [allL, FV.all, and_self]; done)); conv => whnf) | ((refine AC.use (ih _ _ (size_innerAt (by assumption) h)) ?_ rfl ?_); (focus (simp only [allL, FV.all, and_self]; done)); conv => whnf) | ((with_reducible refine W.ret ?_); conv => whnf) | (refine finD (.inr rfl) rfl rfl ⟨?_, rfl⟩) | ((refine condM_intro (fun hc => ?_) (fun hc => ?_)) <;> (try simp only [decide_eq_true_eq, decide_eq_false_iff_not, beq_iff_eq, bne_iff_ne, beq_eq_false_iff_ne, bne_eq_false_iff_eq, ne_eq, Bool.not_eq_true', Bool.not_eq_false'] at hc) <;> (first | (exfalso; omega) | (conv => whnf)))
        all_goals (first
          | ((first | refine ⟨i + 1, ⟨by omega, ?_⟩, by omega, ?_, rfl⟩ | refine ⟨i + 1, [_, _], ⟨by omega, ?_⟩, by omega, ?_, rfl, Nat.le_refl _⟩); focus (rw [← hall]; have he : x = y := (by clear hx hy hrx hry hall ih h; cases x; cases y; simp_all [same_iff, negB]); subst he; rw [same_rfl, Bool.true_and]))
          | (have hne : x ≠ y := (by rintro rfl; clear hx hy hrx hry hall ih h; simp_all [same_rfl, negB]); rw [same_ne hne, Bool.false_and] at hall; rw [hall]))
        (repeat' (first | exact trivial | exact SlotLe.same _ | exact SlotLe.own _ _ _ | exact SlotLe.nil _ | exact SlotLe.any _ | (apply And.intro) | (refine SlotLe.of_eq ?_; rw [wr (by omega) (by omega)]; rfl) | (refine SlotLe.of_eq ?_; rw [wr (by omega) (by omega)]; congr 2; omega)))
      iterate 5 (focus (have hne : x ≠ y := (by rintro rfl; clear hx hy hrx hry hall ih h; simp_all [same_rfl, negB]); rw [same_ne hne, Bool.false_and] at hall; rw [hall]))
      · have hpl : x.params.length = y.params.length := by omega
        refine W.cutB (σ := Unit) (fun _ => [(0, .d (.sl 103 (rR l))), (1, .d (.sl 103 (rR m))), (5, .d (.int .i64 i)), (6, .vp 2 0), (7, .vp 1 0)]) (fun _ => gl ++ [.var 103 ((sR y).map .d), .var 103 ((sR x).map .d)]) (fun _ => x.params = y.params) ?_ ?_
        · refine W.loop (σ := Nat) (fun k => [(0, .d (.sl 103 (rR l))), (1, .d (.sl 103 (rR m))), (5, .d (.int .i64 i)), (6, .vp 2 0), (7, .vp 1 0), (8, .d (.int .i64 k))]) (fun _ => gl ++ [.var 103 ((sR y).map .d), .var 103 ((sR x).map .d)])
            (fun k => k ≤ x.params.length ∧ same (x.params.drop k) (y.params.drop k) = same x.params y.params) (fun k => x.params.length - k) 0 ⟨Nat.zero_le _, by simp⟩ ⟨.same _, .same _, .same _, .same _, .same _, .same _, trivial⟩ rfl ?_
          rintro k ⟨hk, hpar⟩
          rcases Nat.lt_or_ge k x.params.length with hltk | hgek
          · obtain ⟨p, hp⟩ := at_lt hltk
            obtain ⟨q, hq⟩ := at_lt (l := y.params) (i := k) (by omega)
            have hrp := rP_some hp
            have hrq := rP_some hq
            rw [drop_at hp, drop_at hq, same_cons] at hpar
            repeat' first | (with_reducible refine W.seq ?_) | ((with_reducible refine W.region ?_); conv => whnf) | ((with_reducible refine W.cond ?_); conv => whnf) | (with_reducible refine W.block ?_) | ((with_reducible refine W.skip ?_); conv => whnf) | ((with_reducible refine W.ret ?_); conv => whnf) | (refine finD (.inr rfl) rfl rfl ⟨?_, rfl⟩) | ((refine condM_intro (fun hc => ?_) (fun hc => ?_)) <;> (try simp only [decide_eq_true_eq, decide_eq_false_iff_not, beq_iff_eq, bne_iff_ne, beq_eq_false_iff_ne, bne_eq_false_iff_eq, ne_eq, Bool.not_eq_true', Bool.not_eq_false'] at hc) <;> (first | (exfalso; omega) | (conv => whnf))) | ((refine fun row hrow => ?_); revert row; (apply row_same); (focus assumption); conv => whnf) | (intro hlen; simp only [rT_len, rE_len, rF_len, rC_len, rV_len, rP_len, rS_len, rR_len, rTT_len, rW_len] at hlen ⊢; conv => whnf) | ((refine And.intro rfl ?_); conv => whnf) | ((refine And.intro ?_ ?_); (focus (first | omega | (simp only [rT_len, rE_len, rF_len, rC_len, rV_len, rP_len, rS_len, rR_len, rTT_len, rW_len, List.length_map, List.length_replicate] at *; omega) | exact (byteAt_lt _ _).1 | exact (byteAt_lt _ _).2 | (simp [ebStr, ebTxts, ebU8, ebExpr, ebStmt, ebVar, ebParam, ebField, ebRec, ebRoutine, ebPair, roomB]; done))); conv => whnf)
            · have hne : p ≠ q := by
                rintro rfl
                simp [negB] at hc
              rw [same_ne hne, Bool.false_and] at hpar
              have hne : x ≠ y := by
                rintro rfl
                rw [same_rfl] at hpar; cases hpar
              rw [same_ne hne, Bool.false_and] at hall; rw [hall]
            · have he : p = q := by
                obtain ⟨a1, ⟨a2, a3, a4⟩, a5⟩ := p
                obtain ⟨b1, ⟨b2, b3, b4⟩, b5⟩ := q
                simp [negB] at hc
                simp [hc]
              subst he
              rw [same_rfl, Bool.true_and] at hpar
              refine ⟨k + 1, ⟨by omega, hpar⟩, by omega, ?_, rfl⟩
              (repeat' (first | exact trivial | exact SlotLe.same _ | exact SlotLe.own _ _ _ | exact SlotLe.nil _ | exact SlotLe.any _ | (apply And.intro) | (refine SlotLe.of_eq ?_; rw [wr (by omega) (by omega)]; rfl) | (refine SlotLe.of_eq ?_; rw [wr (by omega) (by omega)]; congr 2; omega)))
          · rw [drop_end hgek, drop_end (by omega), same_nil] at hpar
            repeat' first | (with_reducible refine W.seq ?_) | ((with_reducible refine W.region ?_); conv => whnf) | ((with_reducible refine W.cond ?_); conv => whnf) | ((with_reducible refine W.exit ?_); conv => whnf) | ((refine condM_intro (fun hc => ?_) (fun hc => ?_)) <;> (try simp only [decide_eq_true_eq, decide_eq_false_iff_not, beq_iff_eq, bne_iff_ne, beq_eq_false_iff_ne, bne_eq_false_iff_eq, ne_eq, Bool.not_eq_true', Bool.not_eq_false'] at hc) <;> (first | (exfalso; omega) | (conv => whnf))) | (intro hlen; simp only [rT_len, rE_len, rF_len, rC_len, rV_len, rP_len, rS_len, rR_len, rTT_len, rW_len] at hlen ⊢; conv => whnf) | ((refine And.intro rfl ?_); conv => whnf)
            exact ⟨(), same_iff.1 hpar.symm, ⟨.same _, .same _, .same _, .same _, .same _, trivial⟩, rfl⟩
        rintro _ hpar
        repeat' first | (with_reducible refine W.seq ?_) | ((with_reducible refine W.region ?_); conv => whnf) | ((with_reducible refine W.cond ?_); conv => whnf) | ((with_reducible refine W.skip ?_); conv => whnf) | ((refine AC.use (rsameV_spec _ _) ?_ rfl ?_); (focus (simp only [allL, FV.all, and_self]; done)); conv => whnf) | ((refine AC.use (rsameS_spec _ _) ?_ rfl ?_); (focus (simp only [allL, FV.all, and_self]; done)); conv => whnf) | ((refine AC.use (ih _ _ (size_innerAt (by assumption) h)) ?_ rfl ?_); (focus (simp only [allL, FV.all, and_self]; done)); conv => whnf) | ((with_reducible refine W.ret ?_); conv => whnf) | (refine finD (.inr rfl) rfl rfl ⟨?_, rfl⟩) | ((refine condM_intro (fun hc => ?_) (fun hc => ?_)) <;> (try simp only [decide_eq_true_eq, decide_eq_false_iff_not, beq_iff_eq, bne_iff_ne, beq_eq_false_iff_ne, bne_eq_false_iff_eq, ne_eq, Bool.not_eq_true', Bool.not_eq_false'] at hc) <;> (first | (exfalso; omega) | (conv => whnf)))
        all_goals (first
          | ((first | refine ⟨i + 1, ⟨by omega, ?_⟩, by omega, ?_, rfl⟩ | refine ⟨i + 1, [_, _], ⟨by omega, ?_⟩, by omega, ?_, rfl, Nat.le_refl _⟩); focus (rw [← hall]; have he : x = y := (by clear hx hy hrx hry hall ih h; cases x; cases y; simp_all [same_iff, negB]); subst he; rw [same_rfl, Bool.true_and]))
          | (have hne : x ≠ y := (by rintro rfl; clear hx hy hrx hry hall ih h; simp_all [same_rfl, negB]); rw [same_ne hne, Bool.false_and] at hall; rw [hall]))
        (repeat' (first | exact trivial | exact SlotLe.same _ | exact SlotLe.own _ _ _ | exact SlotLe.nil _ | exact SlotLe.any _ | (apply And.intro) | (refine SlotLe.of_eq ?_; rw [wr (by omega) (by omega)]; rfl) | (refine SlotLe.of_eq ?_; rw [wr (by omega) (by omega)]; congr 2; omega)))
    · rw [drop_end hge, drop_end (by omega), same_nil] at hall
      repeat' first | (with_reducible refine W.seq ?_) | ((with_reducible refine W.region ?_); conv => whnf) | ((with_reducible refine W.cond ?_); conv => whnf) | ((with_reducible refine W.exit ?_); conv => whnf) | ((with_reducible refine W.ret ?_); conv => whnf) | (refine finD (.inr rfl) rfl rfl ⟨?_, rfl⟩) | ((refine condM_intro (fun hc => ?_) (fun hc => ?_)) <;> (try simp only [decide_eq_true_eq, decide_eq_false_iff_not, beq_iff_eq, bne_iff_ne, beq_eq_false_iff_ne, bne_eq_false_iff_eq, ne_eq, Bool.not_eq_true', Bool.not_eq_false'] at hc) <;> (first | (exfalso; omega) | (conv => whnf))) | (intro hlen; simp only [rT_len, rE_len, rF_len, rC_len, rV_len, rP_len, rS_len, rR_len, rTT_len, rW_len] at hlen ⊢; conv => whnf) | ((refine And.intro rfl ?_); conv => whnf)
      rw [hall]
theorem rsameR_spec (l m : List Rtn) : Ret Tryz.prog 49 [.d (.sl 103 (rR l)), .d (.sl 103 (rR m))] (.bool (same l m)) := rsameR_ind _ l m (Nat.le_refl _)
theorem rsameG_spec (e f : Pgm) : Ret Tryz.prog 17 [.d (.agg (sG e)), .d (.agg (sG f))] (.bool (same e f)) := by
  have hroomB : roomB = 140737488355328 := rfl; refine ac_of ok17 rfl rfl ?_
  repeat' first | (with_reducible refine W.seq ?_) | ((with_reducible refine W.region ?_); conv => whnf) | ((with_reducible refine W.cond ?_); conv => whnf) | (with_reducible refine W.block ?_) | ((with_reducible refine W.skip ?_); conv => whnf) | ((refine AC.use (rsame_spec _ _) ?_ rfl ?_); (focus (simp only [allL, FV.all, and_self]; done)); conv => whnf) | ((with_reducible refine W.ret ?_); conv => whnf) | (refine finD (.inr rfl) rfl rfl ⟨?_, rfl⟩) | ((refine condM_intro (fun hc => ?_) (fun hc => ?_)) <;> (try simp only [decide_eq_true_eq, decide_eq_false_iff_not, beq_iff_eq, bne_iff_ne, beq_eq_false_iff_ne, bne_eq_false_iff_eq, ne_eq, Bool.not_eq_true', Bool.not_eq_false'] at hc) <;> (first | (exfalso; omega) | (conv => whnf))) | (intro hlen; simp only [rT_len, rE_len, rF_len, rC_len, rV_len, rP_len, rS_len, rR_len, rTT_len, rW_len] at hlen ⊢; conv => whnf) | ((refine And.intro rfl ?_); conv => whnf)
  iterate 6 (focus (rw [same_ne]; rintro rfl; simp_all [same_rfl]))
  have hrl : e.recs.length = f.recs.length := by omega
  refine W.cutB (σ := Unit) (fun _ => [(2, .cp (sG e)), (3, .cp (sG f))]) (fun _ => gl) (fun _ => e.recs = f.recs) ?_ ?_
  · refine W.loopJ (σ := Nat) (fun i => [(2, .cp (sG e)), (3, .cp (sG f)), (5, .d (.int .i64 i))]) (fun _ => gl) (fun i => i ≤ e.recs.length ∧ same (e.recs.drop i) (f.recs.drop i) = same e.recs f.recs) (fun i => e.recs.length - i) 0 ⟨Nat.zero_le _, by simp⟩ ⟨.same _, .same _, .same _, trivial⟩ rfl (fun i _ => ⟨by simp [OkIn], by simp [ObjOk]⟩) ?_
    rintro i ⟨hi, hall⟩
    rcases Nat.lt_or_ge i e.recs.length with hlt | hge
    · obtain ⟨x, hx⟩ := at_lt hlt
      obtain ⟨y, hy⟩ := at_lt (l := f.recs) (i := i) (by omega)
      have hrx := rC_some hx
      have hry := rC_some hy
      rw [drop_at hx, drop_at hy, same_cons] at hall
      repeat' first | (with_reducible refine W.seq ?_) | ((with_reducible refine W.region ?_); conv => whnf) | ((with_reducible refine W.cond ?_); conv => whnf) | (with_reducible refine W.block ?_) | ((with_reducible refine W.skip ?_); conv => whnf) | ((with_reducible refine W.regions2 ?_ ?_) <;> (conv => whnf)) | ((refine AC.use (rmarks_spec _ _ _ _) ?_ rfl ?_); (focus (simp only [allL, FV.all, and_self]; done)); conv => whnf) | ((refine AC.use (rsame_spec _ _) ?_ rfl ?_); (focus (simp only [allL, FV.all, and_self]; done)); conv => whnf) | ((with_reducible refine W.ret ?_); conv => whnf) | (refine finD (.inr rfl) rfl rfl ⟨?_, rfl⟩) | ((refine condM_intro (fun hc => ?_) (fun hc => ?_)) <;> (try simp only [decide_eq_true_eq, decide_eq_false_iff_not, beq_iff_eq, bne_iff_ne, beq_eq_false_iff_ne, bne_eq_false_iff_eq, ne_eq, Bool.not_eq_true', Bool.not_eq_false'] at hc) <;> (first | (exfalso; omega) | (conv => whnf))) | ((refine fun row hrow => ?_); revert row; (apply row_same); (focus assumption); conv => whnf) | (intro hlen; simp only [rT_len, rE_len, rF_len, rC_len, rV_len, rP_len, rS_len, rR_len, rTT_len, rW_len] at hlen ⊢; conv => whnf) | ((refine And.intro rfl ?_); conv => whnf) | ((refine And.intro ?_ ?_); (focus (first | omega | (simp only [rT_len, rE_len, rF_len, rC_len, rV_len, rP_len, rS_len, rR_len, rTT_len, rW_len, List.length_map, List.length_replicate] at *; omega) | exact (byteAt_lt _ _).1 | exact (byteAt_lt _ _).2 | (simp [ebStr, ebTxts, ebU8, ebExpr, ebStmt, ebVar, ebParam, ebField, ebRec, ebRoutine, ebPair, roomB]; done))); conv => whnf)
      iterate 4 (focus (have hne : x ≠ y := (by rintro rfl; clear hx hy hrx hry hall; simp_all [same_rfl, negB]); rw [same_ne hne, Bool.false_and] at hall; have hne : e ≠ f := (by rintro rfl; rw [same_rfl] at hall; cases hall); rw [same_ne hne]))
      · have hpl : x.fields.length = y.fields.length := by omega
        refine W.cutX (σ := Unit) (fun _ => [(2, .cp (sG e)), (3, .cp (sG f)), (5, .d (.int .i64 i)), (6, .vp 1 0), (7, .vp 2 0)]) (fun _ => gl ++ [.var 59 ((sC x).map .d), .var 59 ((sC y).map .d)]) (fun _ => x.fields = y.fields) ?_ ?_
        · refine W.loop (σ := Nat) (fun k => [(2, .cp (sG e)), (3, .cp (sG f)), (5, .d (.int .i64 i)), (6, .vp 1 0), (7, .vp 2 0), (8, .d (.int .i64 k))]) (fun _ => gl ++ [.var 59 ((sC x).map .d), .var 59 ((sC y).map .d)])
            (fun k => k ≤ x.fields.length ∧ same (x.fields.drop k) (y.fields.drop k) = same x.fields y.fields) (fun k => x.fields.length - k) 0 ⟨Nat.zero_le _, by simp⟩ ⟨.same _, .same _, .same _, .same _, .same _, .same _, trivial⟩ rfl ?_
          rintro k ⟨hk, hpar⟩
          rcases Nat.lt_or_ge k x.fields.length with hltk | hgek
          · obtain ⟨p, hp⟩ := at_lt hltk
            obtain ⟨q, hq⟩ := at_lt (l := y.fields) (i := k) (by omega)
            have hrp := rF_some hp
            have hrq := rF_some hq
            rw [drop_at hp, drop_at hq, same_cons] at hpar
            repeat' first | (with_reducible refine W.seq ?_) | ((with_reducible refine W.region ?_); conv => whnf) | ((with_reducible refine W.cond ?_); conv => whnf) | (with_reducible refine W.block ?_) | ((with_reducible refine W.skip ?_); conv => whnf) | ((refine AC.use (rmarks_spec _ _ _ _) ?_ rfl ?_); (focus (simp only [allL, FV.all, and_self]; done)); conv => whnf) | ((with_reducible refine W.ret ?_); conv => whnf) | (refine finD (.inr rfl) rfl rfl ⟨?_, rfl⟩) | ((refine condM_intro (fun hc => ?_) (fun hc => ?_)) <;> (try simp only [decide_eq_true_eq, decide_eq_false_iff_not, beq_iff_eq, bne_iff_ne, beq_eq_false_iff_ne, bne_eq_false_iff_eq, ne_eq, Bool.not_eq_true', Bool.not_eq_false'] at hc) <;> (first | (exfalso; omega) | (conv => whnf))) | ((refine fun row hrow => ?_); revert row; (apply row_same); (focus assumption); conv => whnf) | (intro hlen; simp only [rT_len, rE_len, rF_len, rC_len, rV_len, rP_len, rS_len, rR_len, rTT_len, rW_len] at hlen ⊢; conv => whnf) | ((refine And.intro rfl ?_); conv => whnf) | ((refine And.intro ?_ ?_); (focus (first | omega | (simp only [rT_len, rE_len, rF_len, rC_len, rV_len, rP_len, rS_len, rR_len, rTT_len, rW_len, List.length_map, List.length_replicate] at *; omega) | exact (byteAt_lt _ _).1 | exact (byteAt_lt _ _).2 | (simp [ebStr, ebTxts, ebU8, ebExpr, ebStmt, ebVar, ebParam, ebField, ebRec, ebRoutine, ebPair, roomB]; done))); conv => whnf)
            all_goals (first
              | (refine ⟨k + 1, ⟨by omega, ?_⟩, by omega, ?_, rfl⟩; focus (rw [← hpar]; have he : p = q := (by clear hp hq hrp hrq hpar hrx hry hx hy hall; cases p; cases q; simp_all [same_iff, negB]); subst he; rw [same_rfl, Bool.true_and]))
              | (have hne : p ≠ q := (by rintro rfl; clear hp hq hrp hrq hpar hrx hry hx hy hall; simp_all [same_rfl, negB]); rw [same_ne hne, Bool.false_and] at hpar; have hne : x ≠ y := (by rintro rfl; rw [same_rfl] at hpar; cases hpar); rw [same_ne hne, Bool.false_and] at hall; have hne : e ≠ f := (by rintro rfl; rw [same_rfl] at hall; cases hall); rw [same_ne hne]))
            (repeat' (first | exact trivial | exact SlotLe.same _ | exact SlotLe.own _ _ _ | exact SlotLe.nil _ | exact SlotLe.any _ | (apply And.intro) | (refine SlotLe.of_eq ?_; rw [wr (by omega) (by omega)]; rfl) | (refine SlotLe.of_eq ?_; rw [wr (by omega) (by omega)]; congr 2; omega)))
          · rw [drop_end hgek, drop_end (by omega), same_nil] at hpar
            repeat' first | (with_reducible refine W.seq ?_) | ((with_reducible refine W.region ?_); conv => whnf) | ((with_reducible refine W.cond ?_); conv => whnf) | ((with_reducible refine W.exit ?_); conv => whnf) | ((refine condM_intro (fun hc => ?_) (fun hc => ?_)) <;> (try simp only [decide_eq_true_eq, decide_eq_false_iff_not, beq_iff_eq, bne_iff_ne, beq_eq_false_iff_ne, bne_eq_false_iff_eq, ne_eq, Bool.not_eq_true', Bool.not_eq_false'] at hc) <;> (first | (exfalso; omega) | (conv => whnf))) | (intro hlen; simp only [rT_len, rE_len, rF_len, rC_len, rV_len, rP_len, rS_len, rR_len, rTT_len, rW_len] at hlen ⊢; conv => whnf) | ((refine And.intro rfl ?_); conv => whnf)
            exact ⟨(), same_iff.1 hpar.symm, ⟨.same _, .same _, .same _, .same _, .same _, trivial⟩, rfl⟩
        rintro _ fr' hpar hle
        refine W.le hle ?_
        repeat' first | ((with_reducible refine W.region ?_); conv => whnf)
        ((first | refine ⟨i + 1, ⟨by omega, ?_⟩, by omega, ?_, rfl⟩ | refine ⟨i + 1, [_, _], ⟨by omega, ?_⟩, by omega, ?_, rfl, Nat.le_refl _⟩); focus (rw [← hall]; have he : x = y := (by clear hx hy hrx hry hall ; cases x; cases y; simp_all [same_iff, negB]); subst he; rw [same_rfl, Bool.true_and]))
        (repeat' (first | exact trivial | exact SlotLe.same _ | exact SlotLe.own _ _ _ | exact SlotLe.nil _ | exact SlotLe.any _ | (apply And.intro) | (refine SlotLe.of_eq ?_; rw [wr (by omega) (by omega)]; rfl) | (refine SlotLe.of_eq ?_; rw [wr (by omega) (by omega)]; congr 2; omega)))
      iterate 4 (focus (have hne : x ≠ y := (by rintro rfl; clear hx hy hrx hry hall; simp_all [same_rfl, negB]); rw [same_ne hne, Bool.false_and] at hall; have hne : e ≠ f := (by rintro rfl; rw [same_rfl] at hall; cases hall); rw [same_ne hne]))
      · have hpl : x.fields.length = y.fields.length := by omega
        refine W.cutX (σ := Unit) (fun _ => [(2, .cp (sG e)), (3, .cp (sG f)), (5, .d (.int .i64 i)), (6, .vp 2 0), (7, .vp 1 0)]) (fun _ => gl ++ [.var 59 ((sC y).map .d), .var 59 ((sC x).map .d)]) (fun _ => x.fields = y.fields) ?_ ?_
        · refine W.loop (σ := Nat) (fun k => [(2, .cp (sG e)), (3, .cp (sG f)), (5, .d (.int .i64 i)), (6, .vp 2 0), (7, .vp 1 0), (8, .d (.int .i64 k))]) (fun _ => gl ++ [.var 59 ((sC y).map .d), .var 59 ((sC x).map .d)])
            (fun k => k ≤ x.fields.length ∧ same (x.fields.drop k) (y.fields.drop k) = same x.fields y.fields) (fun k => x.fields.length - k) 0 ⟨Nat.zero_le _, by simp⟩ ⟨.same _, .same _, .same _, .same _, .same _, .same _, trivial⟩ rfl ?_
          rintro k ⟨hk, hpar⟩
          rcases Nat.lt_or_ge k x.fields.length with hltk | hgek
          · obtain ⟨p, hp⟩ := at_lt hltk
            obtain ⟨q, hq⟩ := at_lt (l := y.fields) (i := k) (by omega)
            have hrp := rF_some hp
            have hrq := rF_some hq
            rw [drop_at hp, drop_at hq, same_cons] at hpar
            repeat' first | (with_reducible refine W.seq ?_) | ((with_reducible refine W.region ?_); conv => whnf) | ((with_reducible refine W.cond ?_); conv => whnf) | (with_reducible refine W.block ?_) | ((with_reducible refine W.skip ?_); conv => whnf) | ((refine AC.use (rmarks_spec _ _ _ _) ?_ rfl ?_); (focus (simp only [allL, FV.all, and_self]; done)); conv => whnf) | ((with_reducible refine W.ret ?_); conv => whnf) | (refine finD (.inr rfl) rfl rfl ⟨?_, rfl⟩) | ((refine condM_intro (fun hc => ?_) (fun hc => ?_)) <;> (try simp only [decide_eq_true_eq, decide_eq_false_iff_not, beq_iff_eq, bne_iff_ne, beq_eq_false_iff_ne, bne_eq_false_iff_eq, ne_eq, Bool.not_eq_true', Bool.not_eq_false'] at hc) <;> (first | (exfalso; omega) | (conv => whnf))) | ((refine fun row hrow => ?_); revert row; (apply row_same); (focus assumption); conv => whnf) | (intro hlen; simp only [rT_len, rE_len, rF_len, rC_len, rV_len, rP_len, rS_len, rR_len, rTT_len, rW_len] at hlen ⊢; conv => whnf) | ((refine And.intro rfl ?_); conv => whnf) | ((refine And.intro ?_ ?_); (focus (first | omega | (simp only [rT_len, rE_len, rF_len, rC_len, rV_len, rP_len, rS_len, rR_len, rTT_len, rW_len, List.length_map, List.length_replicate] at *; omega) | exact (byteAt_lt _ _).1 | exact (byteAt_lt _ _).2 | (simp [ebStr, ebTxts, ebU8, ebExpr, ebStmt, ebVar, ebParam, ebField, ebRec, ebRoutine, ebPair, roomB]; done))); conv => whnf)
            all_goals (first
              | (refine ⟨k + 1, ⟨by omega, ?_⟩, by omega, ?_, rfl⟩; focus (rw [← hpar]; have he : p = q := (by clear hp hq hrp hrq hpar hrx hry hx hy hall; cases p; cases q; simp_all [same_iff, negB]); subst he; rw [same_rfl, Bool.true_and]))
              | (have hne : p ≠ q := (by rintro rfl; clear hp hq hrp hrq hpar hrx hry hx hy hall; simp_all [same_rfl, negB]); rw [same_ne hne, Bool.false_and] at hpar; have hne : x ≠ y := (by rintro rfl; rw [same_rfl] at hpar; cases hpar); rw [same_ne hne, Bool.false_and] at hall; have hne : e ≠ f := (by rintro rfl; rw [same_rfl] at hall; cases hall); rw [same_ne hne]))
            (repeat' (first | exact trivial | exact SlotLe.same _ | exact SlotLe.own _ _ _ | exact SlotLe.nil _ | exact SlotLe.any _ | (apply And.intro) | (refine SlotLe.of_eq ?_; rw [wr (by omega) (by omega)]; rfl) | (refine SlotLe.of_eq ?_; rw [wr (by omega) (by omega)]; congr 2; omega)))
          · rw [drop_end hgek, drop_end (by omega), same_nil] at hpar
            repeat' first | (with_reducible refine W.seq ?_) | ((with_reducible refine W.region ?_); conv => whnf) | ((with_reducible refine W.cond ?_); conv => whnf) | ((with_reducible refine W.exit ?_); conv => whnf) | ((refine condM_intro (fun hc => ?_) (fun hc => ?_)) <;> (try simp only [decide_eq_true_eq, decide_eq_false_iff_not, beq_iff_eq, bne_iff_ne, beq_eq_false_iff_ne, bne_eq_false_iff_eq, ne_eq, Bool.not_eq_true', Bool.not_eq_false'] at hc) <;> (first | (exfalso; omega) | (conv => whnf))) | (intro hlen; simp only [rT_len, rE_len, rF_len, rC_len, rV_len, rP_len, rS_len, rR_len, rTT_len, rW_len] at hlen ⊢; conv => whnf) | ((refine And.intro rfl ?_); conv => whnf)
            exact ⟨(), same_iff.1 hpar.symm, ⟨.same _, .same _, .same _, .same _, .same _, trivial⟩, rfl⟩
        rintro _ fr' hpar hle
        refine W.le hle ?_
        repeat' first | ((with_reducible refine W.region ?_); conv => whnf)
        ((first | refine ⟨i + 1, ⟨by omega, ?_⟩, by omega, ?_, rfl⟩ | refine ⟨i + 1, [_, _], ⟨by omega, ?_⟩, by omega, ?_, rfl, Nat.le_refl _⟩); focus (rw [← hall]; have he : x = y := (by clear hx hy hrx hry hall ; cases x; cases y; simp_all [same_iff, negB]); subst he; rw [same_rfl, Bool.true_and]))
        (repeat' (first | exact trivial | exact SlotLe.same _ | exact SlotLe.own _ _ _ | exact SlotLe.nil _ | exact SlotLe.any _ | (apply And.intro) | (refine SlotLe.of_eq ?_; rw [wr (by omega) (by omega)]; rfl) | (refine SlotLe.of_eq ?_; rw [wr (by omega) (by omega)]; congr 2; omega)))
    · rw [drop_end hge, drop_end (by omega), same_nil] at hall
      repeat' first | (with_reducible refine W.seq ?_) | ((with_reducible refine W.region ?_); conv => whnf) | ((with_reducible refine W.cond ?_); conv => whnf) | ((with_reducible refine W.exit ?_); conv => whnf) | ((refine condM_intro (fun hc => ?_) (fun hc => ?_)) <;> (try simp only [decide_eq_true_eq, decide_eq_false_iff_not, beq_iff_eq, bne_iff_ne, beq_eq_false_iff_ne, bne_eq_false_iff_eq, ne_eq, Bool.not_eq_true', Bool.not_eq_false'] at hc) <;> (first | (exfalso; omega) | (conv => whnf))) | (intro hlen; simp only [rT_len, rE_len, rF_len, rC_len, rV_len, rP_len, rS_len, rR_len, rTT_len, rW_len] at hlen ⊢; conv => whnf) | ((refine And.intro rfl ?_); conv => whnf)
      exact ⟨(), same_iff.1 hall.symm, ⟨.same _, .same _, trivial⟩, rfl⟩
  rintro _ hrec
  repeat' first | (with_reducible refine W.seq ?_) | ((with_reducible refine W.region ?_); conv => whnf) | ((refine AC.use (rsameV_spec _ _) ?_ rfl ?_); (focus (simp only [allL, FV.all, and_self]; done)); conv => whnf) | ((refine AC.use (rsameR_spec _ _) ?_ rfl ?_); (focus (simp only [allL, FV.all, and_self]; done)); conv => whnf) | ((refine AC.use (rsameS_spec _ _) ?_ rfl ?_); (focus (simp only [allL, FV.all, and_self]; done)); conv => whnf) | ((with_reducible refine W.ret ?_); conv => whnf) | (refine finD (.inr rfl) rfl rfl ⟨?_, rfl⟩) | ((refine condM_intro (fun hc => ?_) (fun hc => ?_)) <;> (try simp only [decide_eq_true_eq, decide_eq_false_iff_not, beq_iff_eq, bne_iff_ne, beq_eq_false_iff_ne, bne_eq_false_iff_eq, ne_eq, Bool.not_eq_true', Bool.not_eq_false'] at hc) <;> (first | (exfalso; omega) | (conv => whnf)))
  all_goals (refine congrArg (fun b => FV.d (AV.bool b)) ?_; rw [Bool.eq_iff_iff]; cases e; cases f; simp_all [same_iff, same_niff, negB])
end Go.Pg
