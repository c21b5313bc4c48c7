/- TreeSame holds: for every two programs and two expressions handed in, the law of package pantographlaw07 answers true and each argument reads behind the call as it read before. Its conditions are the row's own: the listed library tables hold what the library's text lays. -/
import Derived.Test.YtfdkncmlnfenjaaGreatDoorS
import Derived.Test.YtfdkncmlnfenjaaGreatDoorC4
import Derived.Test.YtfdkncmlnfenjaaGreatDoorCards
import Derived.Test.YtfdkncmlnfenjaaGreatDoorTie
import Derived.SevenTiedAt
import Derived.OpenShut
set_option linter.all false
set_option linter.unusedVariables false
set_option maxRecDepth 100000
namespace Go.Pg
open Go.Proofs Go.Proofs.YtfdkncmlnfenjaaGreatDoor Go.ChangeShapes Go.RowKit
theorem same_rows : ∀ t ∈ Tryz.f7.params.toList, Program.readableRec Tryz.prog t = true ∧ t < (Tryz.prog).types.size := by
  rw [Tryz.params7]
  intro t ht
  simp only [List.mem_cons, List.not_mem_nil, or_false] at ht
  have : t = 28 ∨ t = 44 := by simpa using ht
  rcases this with rfl | rfl
  · exact ⟨by kernel_rfl, of_decide_eq_true (by kernel_rfl)⟩
  · exact ⟨by kernel_rfl, of_decide_eq_true (by kernel_rfl)⟩
theorem same_contract (H : Type) (enc : TypeId × Value → H) (W : World) (base : Nat) (args : Array Value) (ds gs : List (DataW H)) (before : List MemPlace)
    (hval : ∀ (j : Nat) t v, Tryz.f7.params[j]? = some t → args[j]? = some v → Value.okWide Tryz.prog W .any base t v)
    (hW : DataW.Whole enc Tryz.prog Tryz.f7.params.toList Rows.treeSameSpec.vars false W args.toList ds gs before)
    (hsz : (DataW.weightsEach Tryz.prog (Tryz.f7.params.toList ++ []) (ds ++ gs)).all (· ≤ reachBytes) = true) (hL : laidMetH Tryz.prog Rows.treeSameRow.laid W) :
    Calls Tryz.prog 7 args W fun e W' => ∃ v, e = .returned v ∧ Rows.treeSameSpec.post enc Tryz.prog Tryz.f7 false true false false W args v W' := by
  have hW0 := hW
  obtain ⟨p, q, hA0, hV, rfl, hz, hn⟩ := hW
  have hA : DataW.TrodAll enc Tryz.prog W 0 (fun _ => true) true Tryz.f7.params.toList args.toList ds p := hA0
  obtain ⟨rfl, rfl⟩ := trodVars_none hV
  rw [Tryz.params7] at hA hval hsz
  have hA1 := hA
  obtain ⟨v1, vs1, d1, ds1, p1, q1, hargs, rfl, rfl, h1, hA1⟩ := trodAll_cons hA1
  obtain ⟨v2, vs2, d2, ds2, p2, q2, rfl, rfl, rfl, h2, hA1⟩ := trodAll_cons hA1
  obtain ⟨v3, vs3, d3, ds3, p3, q3, rfl, rfl, rfl, h3, hA1⟩ := trodAll_cons hA1
  obtain ⟨v4, vs4, d4, ds4, p4, q4, rfl, rfl, rfl, h4, hA1⟩ := trodAll_cons hA1
  obtain ⟨rfl, rfl, rfl⟩ := trodAll_nil hA1
  obtain rfl : args = #[v1, v2, v3, v4] := by cases args; simp_all
  have hw := fun n hn => of_decide_eq_true (List.all_eq_true.1 hsz n hn)
  simp only [List.append_nil, List.cons_append, List.nil_append, DataW.weightsEach, List.mem_append] at hw
  obtain ⟨a, ha⟩ := open_G (hval 0 _ v1 rfl rfl) h1 fun n hn => hw n (.inl hn)
  obtain ⟨b, hb⟩ := open_G (hval 1 _ v2 rfl rfl) h2 fun n hn => hw n (.inr (.inl hn))
  obtain ⟨c, hc⟩ := open_E (hval 2 _ v3 rfl rfl) h3 fun n hn => hw n (.inr (.inr (.inl hn)))
  obtain ⟨d, hd⟩ := open_E (hval 3 _ v4 rfl rfl) h4 fun n hn => hw n (.inr (.inr (.inr (by simpa [DataW.weightsEach] using hn))))
  refine ((same_law a b c d).calls (start_rel (space_tab (by rfl) hL)) rfl ?_).mono ?_
  · intro i hi hx
    match i, hi with
    | 0, _ => exact ha
    | 1, _ => exact hb
    | 2, _ => exact hc
    | 3, _ => exact hd
  · rintro e W' ⟨rfl, hB⟩
    exact ⟨_, rfl, law_post (tb := 4) laid_out uBool rfl rfl same_rows hW0 rfl hB⟩
theorem same_reads (os : Os) {H : Type} (enc : TypeId × Value → H) :
    (DataW.whole enc Tryz.prog ((laidWorld os).forCall (fun _ _ => 0) ⟨#[], #[zeroG, zeroG, zeroE, zeroE], []⟩).memory Tryz.f7.params.toList Rows.treeSameSpec.vars false #[zeroG, zeroG, zeroE, zeroE].toList 8).map (fun x => (x.1, x.2.1)) =
      some ([.agg [.lit (.string []), .nil, .nil, .nil, .nil, .nil, .nil, .nil, .nil], .agg [.lit (.string []), .nil, .nil, .nil, .nil, .nil, .nil, .nil, .nil], .agg [.lit (.int .i64 0), .lit (.int .i64 0), .lit (.string []), .lit (.string []), .nil], .agg [.lit (.int .i64 0), .lit (.int .i64 0), .lit (.string []), .lit (.string []), .nil]], []) := by kernel_rfl
theorem same_witness (os : Os) {H : Type} (enc : TypeId × Value → H) :
    (OpenSpec.ofChange Rows.treeSameSpec).preRow enc Tryz.prog Tryz.f7 Rows.treeSameRow.domain false Rows.treeSameRow.laid ((laidWorld os).forCall (fun _ _ => 0) ⟨#[], #[zeroG, zeroG, zeroE, zeroE], []⟩).memory #[zeroG, zeroG, zeroE, zeroE] := by
  obtain ⟨⟨x1, x2, x3⟩, hx, hx1⟩ := Option.map_eq_some_iff.1 (same_reads os enc)
  simp only [Prod.mk.injEq] at hx1
  obtain ⟨rfl, rfl⟩ := hx1
  exact OpenSpec.preRow_of_cond 8 hx (by kernel_rfl) (fun k hk => by cases hk) (by kernel_rfl) (laid_met os _)
theorem same_lifted (os : Os) (started : os.Started) (H : Type) (enc : TypeId × Value → H) (F : Stop.Interp) :
    ReturnsInHanded {} Tryz.checked os 7 .any ((OpenSpec.ofChange Rows.treeSameSpec).preRow enc Tryz.prog Tryz.f7 Rows.treeSameRow.domain false Rows.treeSameRow.laid) (((OpenSpec.ofChange Rows.treeSameSpec).at F).post enc Tryz.prog Tryz.f7 false true false false) := by
  refine returnsInHanded_of_row (C := Tryz.checked) (s := OpenSpec.ofChange Rows.treeSameSpec) own started (by kernel_rfl) Tryz.func7
    (witness_row_atRef (enc := enc) (C := Tryz.checked) false (laidWorld os) #[zeroG, zeroG, zeroE, zeroE] rfl (by kernel_rfl) (by kernel_rfl) (by kernel_rfl) (same_witness os enc)) ?_
  intro W base args ds gs before hval hW _ _ hsz hL _ _
  exact same_contract H enc W base args ds gs before hval hW hsz hL
theorem same_said : Rows.TreeSameSaid :=
  OpenClaim.holds_of_cond 7 Tryz.f7 rfl rfl rfl rfl rfl rfl rfl ⟨rfl, rfl, rfl, rfl, rfl⟩ rfl rfl rfl rfl rfl (by kernel_rfl) Tryz.func7 (by kernel_rfl)
    (of_decide_eq_true (by kernel_rfl)) (by unfold Func.isWrapper; first | (rw [if_pos (by decide +kernel)]; kernel_rfl) | (rw [if_neg (by decide +kernel)]; exact ⟨rfl, rfl⟩))
    (fun os started H enc _ F => by rw [OpenClaim.pre_eq_preRow]; exact same_lifted os started H enc F)
theorem same_plain (f : FuncId) (fn : Func) (hf : Tryz.pinned.checked.prog.funcNamed "pantograph/pantographlaw07.TreeSame" = some f) (hfn : Tryz.pinned.checked.prog.funcs[f]? = some fn) :
    false = Tryz.pinned.checked.prog.looks [] ∧ ∀ (j : Nat) t, fn.params[j]? = some t → Tryz.pinned.checked.prog.wantsStandIn t = false := by
  obtain rfl : f = 7 := Option.some.inj ((show Program.funcNamed Tryz.prog "pantograph/pantographlaw07.TreeSame" = some 7 by kernel_rfl).symm.trans hf) |>.symm
  obtain rfl : fn = Tryz.f7 := (Option.some.inj (Tryz.func7.symm.trans hfn)).symm
  refine ⟨by kernel_rfl, fun j t ht => ?_⟩
  rw [Tryz.params7] at ht
  have : t = 28 ∨ t = 44 := by simpa using Array.mem_of_getElem? ht
  rcases this with rfl | rfl
  · exact (show Program.wantsStandIn Tryz.prog 28 = false by kernel_rfl)
  · exact (show Program.wantsStandIn Tryz.prog 44 = false by kernel_rfl)
theorem same_card : Rows.TreeSameCardSaid :=
  Claim7.holds_tied_plain_at .later [] _ _ _ _ same_said (fun _ h => by cases h) (by kernel_rfl) (fun _ h => by cases h) treeSame_row_tie rfl ⟨rfl, rfl⟩ (by kernel_rfl) rfl same_plain (by kernel_rfl)
end Go.Pg
namespace Go.Proofs.YtfdkncmlnfenjaaGreatDoor
theorem treeSame_card_holds : Rows.TreeSameCardSaid := Go.Pg.same_card
end Go.Proofs.YtfdkncmlnfenjaaGreatDoor
