/- TreeAlike holds: for every three programs handed in, the law of package pantographlaw07 answers true and each argument reads behind the call as it read before. Its conditions are the row's own: the listed library tables hold what the library's text lays. -/
import Derived.Test.YtfdkncmlnfenjaaGreatDoorS
import Derived.Test.YtfdkncmlnfenjaaGreatDoorC4
import Derived.Test.YtfdkncmlnfenjaaGreatDoorCards
import Derived.Test.YtfdkncmlnfenjaaGreatDoorTie
import Derived.SevenTiedAt
import Derived.OpenShut
set_option linter.all false
set_option linter.unusedVariables false
set_option maxRecDepth 100000
namespace Go.Pg
open Go.Proofs Go.Proofs.YtfdkncmlnfenjaaGreatDoor Go.ChangeShapes Go.RowKit
theorem alike_rows : ∀ t ∈ Tryz.f8.params.toList, Program.readableRec Tryz.prog t = true ∧ t < (Tryz.prog).types.size := by
  rw [Tryz.params8]
  intro t ht
  simp only [List.mem_cons, List.not_mem_nil, or_false] at ht
  have : t = 28 := by simpa using ht
  subst this
  exact ⟨by kernel_rfl, of_decide_eq_true (by kernel_rfl)⟩
theorem alike_contract (H : Type) (enc : TypeId × Value → H) (W : World) (base : Nat) (args : Array Value) (ds gs : List (DataW H)) (before : List MemPlace)
    (hval : ∀ (j : Nat) t v, Tryz.f8.params[j]? = some t → args[j]? = some v → Value.okWide Tryz.prog W .any base t v)
    (hW : DataW.Whole enc Tryz.prog Tryz.f8.params.toList Rows.treeAlikeSpec.vars false W args.toList ds gs before)
    (hsz : (DataW.weightsEach Tryz.prog (Tryz.f8.params.toList ++ []) (ds ++ gs)).all (· ≤ reachBytes) = true) (hL : laidMetH Tryz.prog Rows.treeAlikeRow.laid W) :
    Calls Tryz.prog 8 args W fun e W' => ∃ v, e = .returned v ∧ Rows.treeAlikeSpec.post enc Tryz.prog Tryz.f8 false true false false W args v W' := by
  have hW0 := hW
  obtain ⟨p, q, hA0, hV, rfl, hz, hn⟩ := hW
  have hA : DataW.TrodAll enc Tryz.prog W 0 (fun _ => true) true Tryz.f8.params.toList args.toList ds p := hA0
  obtain ⟨rfl, rfl⟩ := trodVars_none hV
  rw [Tryz.params8] at hA hval hsz
  obtain ⟨v1, v2, v3, d1, d2, d3, p1, p2, p3, rfl, rfl, rfl, h1, h2, h3⟩ := trodAll_three hA
  have hw := fun n hn => of_decide_eq_true (List.all_eq_true.1 hsz n hn)
  simp only [List.append_nil, List.cons_append, List.nil_append, DataW.weightsEach, List.mem_append] at hw
  obtain ⟨a, ha⟩ := open_G (hval 0 _ v1 rfl rfl) h1 fun n hn => hw n (.inl hn)
  obtain ⟨b, hb⟩ := open_G (hval 1 _ v2 rfl rfl) h2 fun n hn => hw n (.inr (.inl hn))
  obtain ⟨c, hc⟩ := open_G (hval 2 _ v3 rfl rfl) h3 fun n hn => hw n (.inr (.inr (by simpa [DataW.weightsEach] using hn)))
  refine ((alike_law a b c).calls (start_rel (space_tab (by rfl) hL)) rfl ?_).mono ?_
  · intro i hi hx
    match i, hi with
    | 0, _ => exact ha
    | 1, _ => exact hb
    | 2, _ => exact hc
  · rintro e W' ⟨rfl, hB⟩
    exact ⟨_, rfl, law_post (tb := 4) laid_out uBool rfl rfl alike_rows hW0 rfl hB⟩
theorem alike_reads (os : Os) {H : Type} (enc : TypeId × Value → H) :
    (DataW.whole enc Tryz.prog ((laidWorld os).forCall (fun _ _ => 0) ⟨#[], #[zeroG, zeroG, zeroG], []⟩).memory Tryz.f8.params.toList Rows.treeAlikeSpec.vars false #[zeroG, zeroG, zeroG].toList 8).map (fun x => (x.1, x.2.1)) =
      some ([.agg [.lit (.string []), .nil, .nil, .nil, .nil, .nil, .nil, .nil, .nil], .agg [.lit (.string []), .nil, .nil, .nil, .nil, .nil, .nil, .nil, .nil], .agg [.lit (.string []), .nil, .nil, .nil, .nil, .nil, .nil, .nil, .nil]], []) := by kernel_rfl
theorem alike_witness (os : Os) {H : Type} (enc : TypeId × Value → H) :
    (OpenSpec.ofChange Rows.treeAlikeSpec).preRow enc Tryz.prog Tryz.f8 Rows.treeAlikeRow.domain false Rows.treeAlikeRow.laid ((laidWorld os).forCall (fun _ _ => 0) ⟨#[], #[zeroG, zeroG, zeroG], []⟩).memory #[zeroG, zeroG, zeroG] := by
  obtain ⟨⟨x1, x2, x3⟩, hx, hx1⟩ := Option.map_eq_some_iff.1 (alike_reads os enc)
  simp only [Prod.mk.injEq] at hx1
  obtain ⟨rfl, rfl⟩ := hx1
  exact OpenSpec.preRow_of_cond 8 hx (by kernel_rfl) (fun k hk => by cases hk) (by kernel_rfl) (laid_met os _)
theorem alike_lifted (os : Os) (started : os.Started) (H : Type) (enc : TypeId × Value → H) (F : Stop.Interp) :
    ReturnsInHanded {} Tryz.checked os 8 .any ((OpenSpec.ofChange Rows.treeAlikeSpec).preRow enc Tryz.prog Tryz.f8 Rows.treeAlikeRow.domain false Rows.treeAlikeRow.laid) (((OpenSpec.ofChange Rows.treeAlikeSpec).at F).post enc Tryz.prog Tryz.f8 false true false false) := by
  refine returnsInHanded_of_row (C := Tryz.checked) (s := OpenSpec.ofChange Rows.treeAlikeSpec) own started (by kernel_rfl) Tryz.func8
    (witness_row_atRef (enc := enc) (C := Tryz.checked) false (laidWorld os) #[zeroG, zeroG, zeroG] rfl (by kernel_rfl) (by kernel_rfl) (by kernel_rfl) (alike_witness os enc)) ?_
  intro W base args ds gs before hval hW _ _ hsz hL _ _
  exact alike_contract H enc W base args ds gs before hval hW hsz hL
theorem alike_said : Rows.TreeAlikeSaid :=
  OpenClaim.holds_of_cond 8 Tryz.f8 rfl rfl rfl rfl rfl rfl rfl ⟨rfl, rfl, rfl, rfl, rfl⟩ rfl rfl rfl rfl rfl (by kernel_rfl) Tryz.func8 (by kernel_rfl)
    (of_decide_eq_true (by kernel_rfl)) (by unfold Func.isWrapper; first | (rw [if_pos (by decide +kernel)]; kernel_rfl) | (rw [if_neg (by decide +kernel)]; exact ⟨rfl, rfl⟩))
    (fun os started H enc _ F => by rw [OpenClaim.pre_eq_preRow]; exact alike_lifted os started H enc F)
theorem alike_plain (f : FuncId) (fn : Func) (hf : Tryz.pinned.checked.prog.funcNamed "pantograph/pantographlaw07.TreeAlike" = some f) (hfn : Tryz.pinned.checked.prog.funcs[f]? = some fn) :
    false = Tryz.pinned.checked.prog.looks [] ∧ ∀ (j : Nat) t, fn.params[j]? = some t → Tryz.pinned.checked.prog.wantsStandIn t = false := by
  obtain rfl : f = 8 := Option.some.inj ((show Program.funcNamed Tryz.prog "pantograph/pantographlaw07.TreeAlike" = some 8 by kernel_rfl).symm.trans hf) |>.symm
  obtain rfl : fn = Tryz.f8 := (Option.some.inj (Tryz.func8.symm.trans hfn)).symm
  refine ⟨by kernel_rfl, fun j t ht => ?_⟩
  rw [Tryz.params8] at ht
  have : t = 28 := by simpa using Array.mem_of_getElem? ht
  subst this
  exact (show Program.wantsStandIn Tryz.prog 28 = false by kernel_rfl)
theorem alike_card : Rows.TreeAlikeCardSaid :=
  Claim7.holds_tied_plain_at .later [] _ _ _ _ alike_said (fun _ h => by cases h) (by kernel_rfl) (fun _ h => by cases h) treeAlike_row_tie rfl ⟨rfl, rfl⟩ (by kernel_rfl) rfl alike_plain (by kernel_rfl)
end Go.Pg
namespace Go.Proofs.YtfdkncmlnfenjaaGreatDoor
theorem treeAlike_card_holds : Rows.TreeAlikeCardSaid := Go.Pg.alike_card
end Go.Proofs.YtfdkncmlnfenjaaGreatDoor
