/- Part F2 of the proof: the laws and contracts that the last text joins. Own work; no condition of its own. -/
import Derived.Test.YtfdkncmlnfenjaaGreatDoorF1
import Derived.Laws.StructEq
import Derived.Laws.MakeOwn
import Derived.Laws.RangeString
import Derived.Laws.BytesString
import Derived.Laws.Externs
import Derived.KernelRfl
import Derived.Lib.Bytealg
import Derived.Laws.Cells
import Derived.Lib.AppendStr
import Derived.Lib.UnsafeStr
import Derived.Lib.MakeNoZero
import Derived.Lib.Builder
import Derived.LaidEqlPtr
import Derived.Laws.Pointers
set_option linter.all false
set_option linter.unusedVariables false
namespace Go.Pg
/-- A plain cell's kind. -/
def plainCell (d : TypeDesc) : Option Kd :=
  match d with
  | .int _ => some .i
  | .bool => some .b
  | .string => some .s
  | _ => none
def eqFlds (P : Program) (sub : TypeId → Option (List Kd)) : List Field → Nat → Option (List Kd)
  | [], _ => some []
  | f :: fs, k =>
    if f.offset = k ∧ f.name ≠ "_" then
      match sub f.type, P.info? f.type with
      | some ks, some i => if i.size = ks.length then (eqFlds P sub fs (k + ks.length)).map fun r => ks ++ r else none
      | _, _ => none
    else none
/-- A struct whose parts are plain and lie one behind the other: its cells' kinds. -/
def eqTree (P : Program) : Nat → TypeId → Option (List Kd)
  | 0, _ => none
  | n + 1, t => match P.underlying t with
    | some (.struct fs) => if P.stoodInHeld t = false then eqFlds P (eqTree P n) fs.toList 0 else none
    | some d => (plainCell d).map fun k => [k]
    | none => none
theorem eqL_cons {k : Kd} {ks : List Kd} {x y : AV} {xs ys : List AV} {r : Bool} : eqL (k :: ks) (x :: xs) (y :: ys) = some r ↔ ∃ a b, eqA k x y = some a ∧ eqL ks xs ys = some b ∧ r = (a && b) := by
  simp only [eqL]
  constructor
  · intro h
    split at h
    · rename_i a ha
      obtain ⟨b, h1, h2⟩ := Option.map_eq_some_iff.1 h
      exact ⟨a, b, ha, h1, h2.symm⟩
    · cases h
  · rintro ⟨a, b, h1, h2, rfl⟩
    simp [h1, h2]
theorem eqL_length : ∀ {ks : List Kd} {xs ys : List AV} {r : Bool}, eqL ks xs ys = some r → xs.length = ks.length ∧ ys.length = ks.length
  | [], [], [], _, _ => ⟨rfl, rfl⟩
  | [], [], y :: ys, r, h => by simp [eqL] at h
  | [], x :: xs, ys, r, h => by simp [eqL] at h
  | k :: ks, [], ys, r, h => by simp [eqL] at h
  | k :: ks, x :: xs, [], r, h => by simp [eqL] at h
  | k :: ks, x :: xs, y :: ys, r, h => by
    obtain ⟨a, b, h1, h2, h3⟩ := eqL_cons.1 h
    have := eqL_length h2
    simp [this]
theorem eqL_append : ∀ {ks ms : List Kd} {xs ys : List AV} {r : Bool}, eqL (ks ++ ms) xs ys = some r → ∃ a b, eqL ks (xs.take ks.length) (ys.take ks.length) = some a ∧ eqL ms (xs.drop ks.length) (ys.drop ks.length) = some b ∧ r = (a && b)
  | [], ms, xs, ys, r, h => ⟨true, r, by simp [eqL], by simpa using h, by simp⟩
  | k :: ks, ms, [], ys, r, h => by simp [eqL] at h
  | k :: ks, ms, x :: xs, [], r, h => by simp [eqL] at h
  | k :: ks, ms, x :: xs, y :: ys, r, h => by
    obtain ⟨a, b, h1, h2, h3⟩ := eqL_cons.1 h
    obtain ⟨a', b', h4, h5, h6⟩ := eqL_append h2
    refine ⟨a && a', b', ?_, by simpa using h5, by rw [h3, h6, Bool.and_assoc]⟩
    simp only [List.length_cons, List.take_succ_cons]
    exact eqL_cons.2 ⟨a, a', h1, h4, rfl⟩
section
variable {P : Program}
/-- Cells read as these. -/
def CellsA (P : Program) (w : World) (H : Nat → Nat) (xs : List AV) (vs : Array Value) : Prop :=
  vs.size = xs.length ∧ ∀ i (h1 : i < xs.length) (h2 : i < vs.size), RepA P w H xs[i] vs[i]
theorem CellsA.extract {w : World} {H : Nat → Nat} {xs : List AV} {vs : Array Value} (h : CellsA P w H xs vs) (k m : Nat) : CellsA P w H ((xs.drop k).take m) (vs.extract k (k + m)) := by
  obtain ⟨h1, h2⟩ := h
  refine ⟨by simp [h1]; omega, fun i h3 h4 => ?_⟩
  simp at h3 h4
  have := h2 (k + i) (by omega) (by omega)
  simpa using this
theorem eqPlain {e : TypeDesc} {k : Kd} {t : TypeId} {w : World} {H : Nat → Nat} {x y : AV} {u v : Value} {r : Bool} (ht : P.underlying t = some e) (he : plainCell e = some k) (hk : eqA k x y = some r) (hx : RepA P w H x u) (hy : RepA P w H y v) (d : Nat) :
    (Op.equalIn (d + 1) t u v).run P w = .ok r w := by
  cases e <;> simp only [plainCell] at he <;> try (cases he; done)
  all_goals (injection he with he; subst he)
  all_goals (cases hx <;> cases hy <;> simp only [eqA] at hk <;> try (cases hk; done))
  · injection hk with hk; subst hk
    simp [Op.equalIn, run_underlying ht]
  · rename_i k a k' b
    split at hk
    · rename_i hk2
      have hk2 := of_decide_eq_true hk2
      subst hk2
      injection hk with hk; subst hk
      simp [Op.equalIn, run_underlying ht]
    · cases hk
  · rename_i a _ b _
    injection hk with hk; subst hk
    simp [Op.equalIn, run_underlying ht, beq_toListBytes, ByteArray.toList_mk]
/-- A type's values, compared. -/
def EqOK (P : Program) (d : Nat) (t : TypeId) (ks : List Kd) : Prop :=
  ∀ (w : World) (H : Nat → Nat) (xs ys : List AV) (us vs : Array Value) (r : Bool), CellsA P w H xs us → CellsA P w H ys vs → eqL ks xs ys = some r →
    (∃ fs, P.underlying t = some (.struct fs) ∧ (Op.equalIn d t (.agg us) (.agg vs)).run P w = .ok r w) ∨
    (∃ e k, P.underlying t = some e ∧ plainCell e = some k ∧ ks = [k] ∧ ∀ (h1 : 0 < us.size) (h2 : 0 < vs.size), (Op.equalIn d t us[0] vs[0]).run P w = .ok r w)
theorem eqFlds_ok {d : Nat} {sub : TypeId → Option (List Kd)} (hsub : ∀ t ks, sub t = some ks → EqOK P d t ks) : ∀ (fs : List Field) (k : Nat) (ks : List Kd) (w : World) (H : Nat → Nat) (xs ys : List AV) (us vs : Array Value) (r : Bool), eqFlds P sub fs k = some ks →
    CellsA P w H xs us → CellsA P w H ys vs → eqL ks (xs.drop k) (ys.drop k) = some r → (Op.eqFields d us vs fs).run P w = .ok r w
  | [], k, ks, w, H, xs, ys, us, vs, r, h, hx, hy, he => by
    simp [eqFlds] at h
    subst h
    obtain ⟨l1, l2⟩ := eqL_length he
    simp only [List.length_nil] at l1 l2
    rw [List.eq_nil_of_length_eq_zero l1, List.eq_nil_of_length_eq_zero l2] at he
    simp [eqL] at he
    subst he
    rfl
  | f :: fs, k, ks, w, H, xs, ys, us, vs, r, h, hx, hy, he => by
    simp only [eqFlds] at h
    split at h
    · rename_i hc
      obtain ⟨hoff, hname⟩ := hc
      split at h
      · rename_i ks1 i h1 h3
        split at h
        · rename_i hi
          obtain ⟨rs, h4, h5⟩ := Option.map_eq_some_iff.1 h
          subst h5
          obtain ⟨a, b, e1, e2, e3⟩ := eqL_append he
          obtain ⟨l1, l2⟩ := eqL_length e1
          rw [List.drop_drop, List.drop_drop] at e2
          have hrest := eqFlds_ok hsub fs (k + ks1.length) rs w H xs ys us vs b h4 hx hy e2
          have hsz : (sizeOf f.type).run P w = .ok ks1.length w := by simp [sizeOf, typeInfo, h3, hi]
          have hpart : ∀ (zs : List AV) (ws : Array Value), CellsA P w H zs ws → ∀ d0, P.underlying f.type = some d0 → isAggB d0 = true → (part f.type ws f.offset).run P w = .ok (.agg (ws.extract k (k + ks1.length))) w := by
            intro zs ws hz d0 hd0 hag
            simp [part, run_isAgg hd0, hag, hsz, hoff]
          simp only [Op.eqFields, hname, ne_eq, not_false_eq_true, if_true]
          rcases hsub f.type ks1 h1 w H _ _ _ _ a (hx.extract k ks1.length) (hy.extract k ks1.length) e1 with ⟨ff, hf1, hf2⟩ | ⟨e, kd, hf1, hf2, hf3, hf4⟩
          · have p1 := hpart xs us hx _ hf1 rfl
            have p2 := hpart ys vs hy _ hf1 rfl
            simp only [Sem.run_bind, p1, Result.andThen_ok, p2, hf2]
            cases a <;> simp [e3, hrest]
          · subst hf3
            simp only [List.length_take, List.length_drop, List.length_singleton] at l1 l2
            have hu : k < us.size := by rw [hx.1]; omega
            have hv : k < vs.size := by rw [hy.1]; omega
            have hag : isAggB e = false := by cases e <;> simp [plainCell] at hf2 <;> rfl
            have p1 : (part f.type us f.offset).run P w = .ok us[k] w := by simp [part, run_isAgg hf1, hag, hoff, hu]
            have p2 : (part f.type vs f.offset).run P w = .ok vs[k] w := by simp [part, run_isAgg hf1, hag, hoff, hv]
            have q := hf4 (by simp; omega) (by simp; omega)
            simp only [Array.getElem_extract, Nat.add_zero] at q
            simp only [Sem.run_bind, p1, Result.andThen_ok, p2, q]
            cases a <;> simp [e3, hrest]
        · cases h
      · cases h
    · cases h
theorem eqTree_ok : ∀ (n d : Nat) (t : TypeId) (ks : List Kd), eqTree P n t = some ks → n ≤ d → EqOK P d t ks
  | 0, d, t, ks, h, _ => by simp [eqTree] at h
  | n + 1, 0, t, ks, h, hd => by omega
  | n + 1, d + 1, t, ks, h, hd => by
    intro w H xs ys us vs r hx hy he
    have hh := h
    simp only [eqTree] at h
    split at h
    · rename_i fs ht
      split at h
      · rename_i hs
        have hfo : P.fieldsOf t = fs := by simp [Program.fieldsOf, ht]
        refine .inl ⟨fs, ht, ?_⟩
        rw [run_equalIn_struct w d t us vs (by rw [hfo]; exact ht) hs, hfo]
        exact eqFlds_ok (fun t ks h => eqTree_ok n d t ks h (by omega)) fs.toList 0 ks w H xs ys us vs r h hx hy (by simpa using he)
      · cases h
    · rename_i e hne ht
      obtain ⟨k, hk, rfl⟩ := Option.map_eq_some_iff.1 h
      refine .inr ⟨e, k, ht, hk, rfl, fun h1 h2 => ?_⟩
      obtain ⟨l1, l2⟩ := eqL_length he
      obtain ⟨x, rfl⟩ := List.length_eq_one_iff.1 l1
      obtain ⟨y, rfl⟩ := List.length_eq_one_iff.1 l2
      obtain ⟨a, b, k1, k2, k3⟩ := eqL_cons.1 he
      simp [eqL] at k2
      subst k2
      have r1 := hx.2 0 (by simp) h1
      have r2 := hy.2 0 (by simp) h2
      simp only [List.getElem_cons_zero] at r1 r2
      simp at k3
      subst k3
      exact eqPlain ht hk k1 r1 r2 d
    · cases h
end
end Go.Pg
set_option linter.unusedVariables false
namespace Go.Pg
section
variable {P : Program} {N : Nat} {s : St} {fr : Fr} {hp : AHeap} {a : Act} {o : Oper} {next : Act → World → Prop} {Q : Exit → Act → World → Prop}
variable {K : FV → AHeap → Prop} (hr : Rel P N s fr hp a) (hK : Gives P N s fr hp a o K next)
include hr hK
omit hr hK in
theorem allD_cells {cs : List FV} {xs : List AV} (h : allD cs = some xs) : cs = xs.map .d := by
  induction cs generalizing xs with
  | nil => simp [allD] at h; subst h; rfl
  | cons c cs ih =>
    cases c <;> simp only [allD] at h <;> try (cases h; done)
    obtain ⟨ys, h1, h2⟩ := Option.map_eq_some_iff.1 h
    subst h2
    simp [ih h1]
omit hK in
theorem agg_eval {x : Operand} {x' : Arg} {cs : List FV} {xs : List AV} (hx : ArgOK P x x') (hc : (ev fr x').aggC = some cs) (hd : allD cs = some xs) : ∃ vs, a.eval x = .agg vs ∧ CellsA P s.w s.H xs vs := by
  have h1 := hx N s fr hp a hr
  have := allD_cells hd
  subst this
  unfold FV.aggC at hc
  split at hc
  · rename_i ys he
    rw [he] at h1
    injection hc with hc
    have : ys = xs := (List.map_inj_right (fun _ _ h => by injection h)).1 hc
    subst this
    generalize a.eval x = v at h1
    cases h1 with
    | d _ _ h1 => cases h1 with
      | agg _ vs k1 k2 k3 => exact ⟨vs, rfl, k1, k3⟩
  · rename_i ys he
    rw [he] at h1
    injection hc with hc
    subst hc
    generalize a.eval x = v at h1
    cases h1 with
    | agg _ vs k1 k2 k3 => exact ⟨vs, rfl, by simpa using k1, fun i h1 h2 => by
        have := k3 i (by simpa using h1) h2
        simp only [List.getElem_map] at this
        cases this; assumption⟩
  · cases hc
theorem ok_eqAgg {op : BinOp} {t u : TypeId} {x y : Operand} {x' y' : Arg} {ks : List Kd} {neg : Bool} (ho : o.op = .binOp op t x y u) (hop : op = if neg then .neq else .eql) (hx : ArgOK P x x') (hy : ArgOK P y y')
    {n : Nat} (hn : n ≤ 10000) (ht : eqTree P n t = some ks) (hs : ∃ fs, P.underlying t = some (.struct fs)) (hg : P.eqGuardType P.depth t = false) (h : rop P (.pr (.eqAgg ks neg) [x', y']) fr hp K) : o.wp P a s.w next Q := by
  simp only [rop, List.map_cons, List.map_nil, prV] at h
  split at h
  · rename_i v hv
    split at hv
    · rename_i xs ys hxs hys
      split at hv
      · rename_i l m hl hm
        obtain ⟨r, hr1, hr2⟩ := Option.map_eq_some_iff.1 hv
        obtain ⟨us, hu, cu⟩ := agg_eval hr hx hxs hl
        obtain ⟨vs, hv', cv⟩ := agg_eval hr hy hys hm
        have heq : (Op.equalIn 10000 t (.agg us) (.agg vs)).run P s.w = .ok r s.w := by
          rcases eqTree_ok n 10000 t ks ht hn s.w s.H l m us vs r cu cv hr1 with ⟨_, _, h⟩ | ⟨e, k, h1, h2, _⟩
          · exact h
          · obtain ⟨fs, hs⟩ := hs
            rw [hs] at h1; injection h1 with h1; subst h1
            simp [plainCell] at h2
        subst hr2
        have hgd : (eqGuard op t x y (.agg us) (.agg vs)).run P s.w = .ok () s.w := run_eqGuard_agg s.w op t x y us vs hg
        cases neg with
        | true =>
          simp only [if_true] at hop
          subst hop
          exact wp_value (v := .bool (!r)) (w' := s.w) (by simp only [execOp, ho, hu, hv', Sem.run_bind, hgd, Result.andThen_ok, run_neq_struct, heq]; rfl) (hK _ _ s hp (.d _ _ (.bool _)) hr (.refl _ _) h)
        | false =>
          simp only [Bool.false_eq_true, if_false] at hop
          subst hop
          exact wp_value (v := .bool r) (w' := s.w) (by simp only [execOp, ho, hu, hv', Sem.run_bind, hgd, Result.andThen_ok, run_eql_struct, heq]; rfl) (hK _ _ s hp (.d _ _ (.bool _)) hr (.refl _ _) h)
      · cases hv
    · cases hv
  · exact h.elim
theorem ok_nilEq {op : BinOp} {t u e : TypeId} {x c : Operand} {x' : Arg} {neg : Bool} (ho : o.op = .binOp op t x c u) (hop : op = if neg then .neq else .eql) (hx : ArgOK P x x') (hc : c = .const (.slice none 0 0)) (ht : P.underlying t = some (.slice e))
    (h : rop P (.ef (.nilEq neg) [x']) fr hp K) : o.wp P a s.w next Q := by
  have h1 := hx N s fr hp a hr
  simp only [rop, List.map_cons, List.map_nil, efP] at h
  have hcv : a.eval c = .slice none 0 0 := by rw [hc]; rfl
  have run : ∀ A n k, a.eval x = .slice A n k → (execOp a.eval o).run P s.w = .ok (.value (.bool (negB neg A.isNone))) s.w := by
    intro A n k hv
    have hg : (eqGuard op t x c (.slice A n k) (.slice none 0 0)).run P s.w = .ok () s.w := eqGuard_ok (by simp) (by simp)
    have heq : ∀ w : World, (Op.equal t (.slice A n k) (.slice none 0 0)).run P w = .ok A.isNone w := fun w => by
      have : ∀ d, (Op.equalIn (d + 1) t (.slice A n k) (.slice none 0 0)).run P w = .ok A.isNone w := fun d => by
        cases A <;> simp [Op.equalIn, run_underlying ht]
      exact this 9999
    cases neg with
    | true => simp only [if_true] at hop; subst hop; simp [execOp, ho, hv, hcv, hg, binOp, heq, negB]
    | false => simp only [Bool.false_eq_true, if_false] at hop; subst hop; simp [execOp, ho, hv, hcv, hg, binOp, heq, negB]
  have fin : ∀ rows, RepA P s.w s.H (.sl e rows) (a.eval x) ∨ (∃ e', RepA P s.w s.H (.sl e' rows) (a.eval x)) → (∀ b : Bool, (b = true → rows = []) → K (.d (.bool (negB neg b))) hp) → o.wp P a s.w next Q := by
    intro rows hA h
    have key : ∀ e', RepA P s.w s.H (.sl e' rows) (a.eval x) → o.wp P a s.w next Q := by
      intro e' hA
      generalize hv : a.eval x = v at hA
      cases hA with
      | sl0 _ A c => exact wp_value (run A 0 c hv) (hK _ _ s hp (.d _ _ (.bool _)) hr (.refl _ _) (h A.isNone fun _ => rfl))
      | sl _ _ b off n c => exact wp_value (run _ n c hv) (hK _ _ s hp (.d _ _ (.bool _)) hr (.refl _ _) (h false fun e => by cases e))
    rcases hA with hA | ⟨e', hA⟩
    · exact key e hA
    · exact key e' hA
  split at h
  · rename_i e1 he
    rw [he] at h1
    generalize hv : a.eval x = v at h1
    cases h1
    have := run none 0 0 hv
    exact wp_value this (hK _ _ s hp (.d _ _ (.bool _)) hr (.refl _ _) h)
  · rename_i e1 rows he
    rw [he] at h1
    exact fin rows (.inr ⟨e1, h1.ofD⟩) h
  · rename_i e1 rows l he
    rw [he] at h1
    refine fin rows (.inr ⟨e1, ?_⟩) h
    generalize a.eval x = v at h1
    cases h1; assumption
  · exact h.elim
theorem ok_mkMap {t : TypeId} (ho : o.op = .makeMap t none) (h : rop P (.ef .mkMap []) fr hp K) : o.wp P a s.w next Q := by
  simp only [rop, List.map_nil, efP] at h
  have hstep := Step.push hr.heap (.map #[] 0) 0 (.map [])
  have hg : (s.push hp (.map #[] 0) 0).w.heap[s.w.heap.size]? = some (.map #[] 0) := heap_alloc_new s.w _
  have hrel := hr.heap.push (.map #[] 0) 0 (.map []) ⟨s.w.heap.size, #[], 0, by simp [St.push], hg, by simp [St.push], rfl, fun i hi => by simp at hi⟩
  exact wp_value (v := .map (some s.w.heap.size)) (w' := (s.push hp (.map #[] 0) 0).w) (by simp [execOp, ho, Instr.makeMap, St.push]) (hK _ _ _ _ (.map _ _ (.map []) (by simp) rfl (by simp [St.push])) (hr.step hstep hrel) hstep h)
omit hr hK in
theorem ba_inj {x y : List UInt8} : ((ByteArray.mk x.toArray) == (ByteArray.mk y.toArray)) = (x == y) := by
  rw [beq_toListBytes, ByteArray.toList_mk, ByteArray.toList_mk]
omit hr hK in
/-- A text looked for in a map's entries. -/
theorem findNow_ok {hp : AHeap} {key : List UInt8} : ∀ {es : List (List UInt8 × FV)} {ms : List MapEntry} (j : Nat), ms.length = es.length → (∀ i (h1 : i < es.length) (h2 : i < ms.length), ms[i].key = .string ⟨es[i].1.toArray⟩ ∧ RepF P s hp es[i].2 ms[i].val) →
    (∀ v, es.lookup key = some v → ∃ i u, Instr.findNow .string (.string ⟨key.toArray⟩) ms j = some (some (j + i, u)) ∧ ∃ h : i < es.length, es[i].2 = v ∧ RepF P s hp v u ∧ es[i].1 = key ∧ ∀ k (h2 : k < i), (es[k]'(by omega)).1 ≠ key) ∧
    (es.lookup key = none → Instr.findNow .string (.string ⟨key.toArray⟩) ms j = some none ∧ ∀ k (h2 : k < es.length), (es[k]).1 ≠ key) := by
  intro es
  induction es with
  | nil =>
    intro ms j hl _
    have : ms = [] := List.eq_nil_of_length_eq_zero hl
    subst this
    exact ⟨fun v h => by simp at h, fun _ => ⟨rfl, fun k h => by simp at h⟩⟩
  | cons e es ih =>
    intro ms j hl hm
    cases ms with
    | nil => simp at hl
    | cons m ms =>
      obtain ⟨h1, h2⟩ := hm 0 (by simp) (by simp)
      simp only [List.getElem_cons_zero] at h1 h2
      obtain ⟨i1, i2⟩ := ih (ms := ms) (j + 1) (by simpa using hl) (fun i k1 k2 => by have := hm (i + 1) (by simpa using k1) (by simpa using k2); simpa using this)
      have hnow : Instr.findNow .string (.string ⟨key.toArray⟩) (m :: ms) j = if (key == e.1) = true then some (some (j, m.val)) else Instr.findNow .string (.string ⟨key.toArray⟩) ms (j + 1) := by
        simp only [Instr.findNow, h1, Instr.sameNow, ba_inj]
        cases hb : key == e.1 <;> simp
      rw [hnow]
      obtain ⟨ek, ev'⟩ := e
      simp only at hnow h1 h2
      by_cases hk : key = ek
      · subst hk
        simp only [List.lookup, beq_self_eq_true, if_true]
        refine ⟨fun v h => ?_, fun h => by cases h⟩
        injection h with h; subst h
        exact ⟨0, m.val, by simp, by simp, rfl, h2, rfl, fun k hk => by omega⟩
      · have hb : (key == ek) = false := by simpa using hk
        simp only [List.lookup, hb]
        refine ⟨fun v h => ?_, fun h => ?_⟩
        · obtain ⟨i, u, k1, k2, k3, k4, k5, k6⟩ := i1 v h
          refine ⟨i + 1, u, by simp only [Bool.false_eq_true, if_false, k1]; simp; omega, by simpa using k2, by simpa using k3, k4, by simpa using k5, fun k hk2 => ?_⟩
          cases k with
          | zero => exact fun e => hk e.symm
          | succ k => simpa using k6 k (by omega)
        · obtain ⟨k1, k2⟩ := i2 h
          refine ⟨by simpa using k1, fun k hk2 => ?_⟩
          cases k with
          | zero => exact fun e => hk e.symm
          | succ k => simpa using k2 k (by simpa using hk2)
omit hK in
theorem str_eval {x : Operand} {x' : Arg} {l : List UInt8} (hx : ArgOK P x x') (he : ev fr x' = .d (.str l)) : a.eval x = .string ⟨l.toArray⟩ ∧ l.length ≤ 9223372036854775807 := by
  have h1 := hx N s fr hp a hr
  rw [he] at h1
  exact h1.str
end
end Go.Pg
set_option linter.unusedVariables false
namespace Go.Pg
section
variable {P : Program} {N : Nat} {s : St} {fr : Fr} {hp : AHeap} {a : Act} {o : Oper} {next : Act → World → Prop} {Q : Exit → Act → World → Prop}
/-- An object that isn't a row of cells, put anew. -/
def St.putObj (s : St) (b : Nat) (ob : Obj) : St := ⟨{ s.w with heap := s.w.heap.setIfInBounds b ob }, s.H, s.π⟩
theorem putObj_other (s : St) (b c : Nat) (ob : Obj) (h : c ≠ b) : (s.putObj b ob).w.heap[c]? = s.w.heap[c]? := by
  simp [St.putObj, Array.getElem?_setIfInBounds_ne (Ne.symm h)]
theorem putObj_same (s : St) (b : Nat) (ob : Obj) (h : b < s.w.heap.size) : (s.putObj b ob).w.heap[b]? = some ob := by
  simp [St.putObj, h]
theorem Step.putObj (hr : RelH P s hp) {l b : Nat} {o0 o1 : AObj} (hl : hp[l]? = some o0) (h0 : o0.isBuf = false) (h1 : o1.isBuf = false) (hb : s.π l = some b) (hH : s.H b = 0) (ob : Obj) : Step s hp (s.putObj b ob) (hp.set l o1) := by
  have hlt := lt_of_get? hl
  refine ⟨rfl, rfl, rfl, by simp [St.putObj], ⟨fun _ => Nat.le_refl _, fun c off v ho hc => ?_⟩, fun c hc hf => ?_, fun l' c hl' hc => .inr ⟨l', by simpa using hl', hc⟩, by simp, fun l' e n hl' => ?_, fun l' o' hl' ho => ?_⟩
  · have hne : c ≠ b := by rintro rfl; rw [hH] at ho; omega
    have := putObj_other s b c ob hne
    simp only [World.cell?] at hc ⊢
    rw [this]; exact hc
  · have hne : c ≠ b := by rintro rfl; exact hf l hlt hb
    exact ⟨putObj_other s b c ob hne, rfl⟩
  · have hne : l ≠ l' := by rintro rfl; rw [hl] at hl'; injection hl' with hl'; subst hl'; cases h0
    refine ⟨n, by rw [List.getElem?_set_ne hne]; exact hl', Nat.le_refl _, fun _ => ⟨rfl, fun c hc => ⟨putObj_other s b c ob ?_, rfl⟩⟩⟩
    rintro rfl
    exact hne (hr.inj l l' c hlt (lt_of_get? hl') hb hc)
  · by_cases e : l = l'
    · subst e
      exact ⟨⟨o1, by simp [hlt], h1⟩, rfl⟩
    · exact ⟨⟨o', by rw [List.getElem?_set_ne e]; exact hl', ho⟩, rfl⟩
theorem RelH.putObj (hr : RelH P s hp) {l b : Nat} {o0 o1 : AObj} (hl : hp[l]? = some o0) (h0 : o0.isBuf = false) (h1 : o1.isBuf = false) (hb : s.π l = some b) (hH : s.H b = 0) (ob : Obj) (ho : ObjRep P (s.putObj b ob) (hp.set l o1) l o1) : RelH P (s.putObj b ob) (hp.set l o1) := by
  have hst := Step.putObj hr hl h0 h1 hb hH ob
  have hlt := lt_of_get? hl
  refine ⟨fun l1 l2 c a1 a2 => hr.inj l1 l2 c (by simpa using a1) (by simpa using a2), fun l' y hl' => ?_, fun c hcc => hr.fresh c (by simpa [St.putObj] using hcc)⟩
  by_cases e : l = l'
  · subst e
    simp [hlt] at hl'
    subst hl'
    exact ho
  · rw [List.getElem?_set_ne e] at hl'
    refine (hr.obj l' y hl').step hst rfl fun c hcc => ?_
    have hne : c ≠ b := by
      rintro rfl
      exact e (hr.inj l l' c hlt (lt_of_get? hl') hb hcc)
    exact ⟨by simpa [St.putObj] using hr.lt (lt_of_get? hl') hcc, fun _ => ⟨putObj_other s b c ob hne, rfl⟩⟩
variable {K : FV → AHeap → Prop} (hr : Rel P N s fr hp a) (hK : Gives P N s fr hp a o K next)
include hr hK
omit hK in
theorem map_eval {x : Operand} {x' : Arg} {l : Nat} {es : List (List UInt8 × FV)} (hx : ArgOK P x x') (he : ev fr x' = .map l) (hl : hp[l]? = some (.map es)) : ∃ b ms clock, a.eval x = .map (some b) ∧ s.π l = some b ∧ s.H b = 0 ∧ s.w.heap[b]? = some (.map ms clock) ∧ ms.size = es.length ∧
    ∀ i (h1 : i < es.length) (h2 : i < ms.size), ms[i].key = .string ⟨es[i].1.toArray⟩ ∧ RepF P s hp es[i].2 ms[i].val := by
  have h1 := hx N s fr hp a hr
  rw [he] at h1
  generalize a.eval x = v at h1
  cases h1 with
  | map l b ob hl' hob hb =>
    obtain ⟨b', ms, c, k1, k2, k3, k4, k5⟩ := hr.heap.obj l _ hl
    rw [hb] at k1; injection k1 with k1; subst k1
    exact ⟨b, ms, c, rfl, hb, k3, k2, k4, k5⟩
omit hr hK in
theorem run_checkKey_str {kt : TypeId} (hk : P.underlying kt = some .string) (em : Bool) (n : Nat) (x : ByteArray) (w : World) : (Instr.checkKey em (n + 1) kt (.string x)).run P w = .ok () w := by
  simp [Instr.checkKey, run_underlying hk]
omit hr hK in
theorem run_findKey_str {kt : TypeId} (hk : P.underlying kt = some .string) {k : Value} {l : List MapEntry} {r : Option (Nat × Value)} (h : Instr.findNow .string k l 0 = some r) (w : World) : (Instr.findKey kt k l).run P w = .ok r w := by
  simp [Instr.findKey, run_underlying hk, h]
theorem ok_look {t kt e : TypeId} {m k : Operand} {m' k' : Arg} {c : Bool} {zero : FV} (ho : o.op = .lookup t m k c) (ht : P.underlying t = some (.map kt e)) (hkt : P.underlying kt = some .string) (hm : ArgOK P m m') (hk : ArgOK P k k')
    (hz : ∃ i z, P.info? e = some i ∧ i.zero = some z ∧ ∀ s hp, RepF P s hp zero z) (h : rop P (.ef (.look zero c) [m', k']) fr hp K) : o.wp P a s.w next Q := by
  obtain ⟨i0, z, hi0, hz0, hzr⟩ := hz
  simp only [rop, List.map_cons, List.map_nil, efP] at h
  split at h
  case h_2 => exact h.elim
  rename_i l key hvs
  injection hvs with e1 e2
  injection e2 with e2 _
  split at h
  · rename_i es hes
    obtain ⟨b, ms, clock, hv, hb, hH, hg, hsz, hent⟩ := map_eval hr hm e1 hes
    obtain ⟨hkv, _⟩ := str_eval hr hk e2
    obtain ⟨f1, f2⟩ := findNow_ok (P := P) (s := s) (hp := hp) (key := key) (es := es) (ms := ms.toList) 0 (by simpa using hsz) (fun i h1 h2 => by simpa using hent i h1 (by simpa using h2))
    have hget : (getObj b).run P s.w = .ok (.map ms clock) s.w := by simp [getObj, Sem.run, hg]
    have hzv : (zeroValue e).run P s.w = .ok z s.w := by simp [zeroValue, typeInfo, hi0, hz0]
    cases hlk : lookupS es key with
    | none =>
      have hf := (f2 hlk).1
      have hfk := run_findKey_str (P := P) hkt hf s.w
      have hrun : (execOp a.eval o).run P s.w = .ok (.value (if c then .tuple #[z, .bool false] else z)) s.w := by
        simp [execOp, ho, hv, hkv, Instr.lookup, run_underlying ht, hget, run_checkKey_str hkt ms.isEmpty 9999, hfk, hzv]
      refine wp_value hrun (hK _ _ s hp ?_ hr (.refl _ _) (h.2 hlk))
      cases c
      · exact hzr s hp
      · refine .tup _ _ rfl fun i h1 h2 => ?_
        match i, h1 with
        | 0, _ => exact hzr s hp
        | 1, _ => exact .d _ _ (.bool false)
    | some v =>
      obtain ⟨i, u, k1, k2, k3, k4, k5, k6⟩ := f1 v hlk
      have hfk := run_findKey_str (P := P) hkt k1 s.w
      have hrun : (execOp a.eval o).run P s.w = .ok (.value (if c then .tuple #[u, .bool true] else u)) s.w := by
        simp [execOp, ho, hv, hkv, Instr.lookup, run_underlying ht, hget, run_checkKey_str hkt ms.isEmpty 9999, hfk]
      refine wp_value hrun (hK _ _ s hp ?_ hr (.refl _ _) (h.1 v hlk))
      cases c
      · exact k4
      · refine .tup _ _ rfl fun i h1 h2 => ?_
        match i, h1 with
        | 0, _ => exact k4
        | 1, _ => exact .d _ _ (.bool true)
  · exact h.elim
end
end Go.Pg
set_option linter.unusedVariables false
namespace Go.Pg
section
variable {P : Program} {N : Nat} {s : St} {fr : Fr} {hp : AHeap} {a : Act} {o : Oper} {next : Act → World → Prop} {Q : Exit → Act → World → Prop}
variable {K : FV → AHeap → Prop} (hr : Rel P N s fr hp a) (hK : Gives P N s fr hp a o K next)
include hr hK
omit hr hK in
theorem mapSet_spec {key : List UInt8} {v : FV} : ∀ (es : List (List UInt8 × FV)),
    (∀ i (h : i < es.length), es[i].1 = key → (∀ k (h2 : k < i), (es[k]'(by omega)).1 ≠ key) → mapSet es key v = es.set i (key, v)) ∧
    ((∀ k (h2 : k < es.length), (es[k]).1 ≠ key) → mapSet es key v = es ++ [(key, v)])
  | [] => ⟨fun i h => by simp at h, fun _ => rfl⟩
  | (k0, v0) :: r => by
    obtain ⟨i1, i2⟩ := mapSet_spec (key := key) (v := v) r
    refine ⟨fun i h h1 h2 => ?_, fun h => ?_⟩
    · cases i with
      | zero => simp at h1; simp [mapSet, h1]
      | succ i =>
        have h0 := h2 0 (by omega)
        simp at h0
        have hb : (k0 == key) = false := by simpa using h0
        simp only [mapSet, hb, Bool.false_eq_true, if_false, List.set_cons_succ]
        rw [i1 i (by simpa using h) (by simpa using h1) (fun k hk => by have := h2 (k + 1) (by omega); simpa using this)]
    · have h0 := h 0 (by simp)
      simp at h0
      have hb : (k0 == key) = false := by simpa using h0
      simp only [mapSet, hb, Bool.false_eq_true, if_false, List.cons_append]
      rw [i2 fun k hk => by have := h (k + 1) (by simpa using hk); simpa using this]
theorem ok_mapUpd {t kt e : TypeId} {m k x : Operand} {m' k' x' : Arg} (ho : o.op = .mapUpdate t m k x) (ht : P.underlying t = some (.map kt e)) (hkt : P.underlying kt = some .string) (hm : ArgOK P m m') (hk : ArgOK P k k') (hx : ArgOK P x x')
    (h : rop P (.ef .mapUpd [m', k', x']) fr hp K) : o.wp P a s.w next Q := by
  simp only [rop, List.map_cons, List.map_nil, efP] at h
  split at h
  case h_2 => exact h.elim
  rename_i l key v hvs
  injection hvs with e1 e2
  injection e2 with e2 e3
  injection e3 with e3 _
  split at h
  · rename_i es hes
    obtain ⟨b, ms, clock, hv, hb, hH, hg, hsz, hent⟩ := map_eval hr hm e1 hes
    obtain ⟨hkv, _⟩ := str_eval hr hk e2
    have hxr := hx N s fr hp a hr
    rw [e3] at hxr
    have hblt : b < s.w.heap.size := (Array.getElem?_eq_some_iff.1 hg).1
    obtain ⟨f1, f2⟩ := findNow_ok (P := P) (s := s) (hp := hp) (key := key) (es := es) (ms := ms.toList) 0 (by simpa using hsz) (fun i h1 h2 => by simpa using hent i h1 (by simpa using h2))
    obtain ⟨m1, m2⟩ := mapSet_spec (key := key) (v := v) es
    have hget : (getObj b).run P s.w = .ok (.map ms clock) s.w := by simp [getObj, Sem.run, hg]
    have hset : ∀ ob, (setObj b ob).run P s.w = .ok () (s.putObj b ob).w := fun ob => by simp [setObj, Sem.run, St.putObj, hg]
    have fin : ∀ (ms' : Array MapEntry) (clock' : Nat), (execOp a.eval o).run P s.w = .ok .skip (s.putObj b (.map ms' clock')).w → ms'.size = (mapSet es key v).length →
        (∀ i (h1 : i < (mapSet es key v).length) (h2 : i < ms'.size), ms'[i].key = .string ⟨(mapSet es key v)[i].1.toArray⟩ ∧ RepF P s hp (mapSet es key v)[i].2 ms'[i].val) → o.wp P a s.w next Q := by
      intro ms' clock' hrun hsz' hent'
      have hstep := Step.putObj hr.heap hes (o1 := .map (mapSet es key v)) rfl rfl hb hH (.map ms' clock')
      have hrel := hr.heap.putObj hes (o1 := .map (mapSet es key v)) rfl rfl hb hH (.map ms' clock') ⟨b, ms', clock', hb, putObj_same s b _ hblt, hH, hsz', fun i h1 h2 => ⟨(hent' i h1 h2).1, (hent' i h1 h2).2.step hstep⟩⟩
      exact wp_none hrun (hK _ _ _ _ (.any _) (hr.step hstep hrel) hstep h)
    cases hlk : es.lookup key with
    | none =>
      obtain ⟨hf, hno⟩ := f2 hlk
      have hfk := run_findKey_str (P := P) hkt hf s.w
      have hms := m2 hno
      refine fin (ms.push { key := .string ⟨key.toArray⟩, val := a.eval x, born := clock }) (clock + 1) ?_ (by rw [hms]; simp [hsz]) (fun i h1 h2 => ?_)
      · simp [execOp, ho, hv, hkv, Instr.mapUpdate, run_underlying ht, hget, run_checkKey_str hkt false 9999, hfk, hset]
      · simp only [hms] at h1 ⊢
        by_cases hi : i < es.length
        · have := hent i hi (by omega)
          simp only [List.getElem_append_left hi, Array.getElem_push_lt (show i < ms.size by omega)]
          exact this
        · have hi2 : i = es.length := by simp at h1; omega
          subst hi2
          simp only [List.getElem_append_right (Nat.le_refl _), Nat.sub_self, List.getElem_cons_zero]
          have : (ms.push { key := .string ⟨key.toArray⟩, val := a.eval x, born := clock : MapEntry })[es.length]'h2 = { key := .string ⟨key.toArray⟩, val := a.eval x, born := clock } := by
            simp only [← hsz, Array.getElem_push_eq]
          rw [this]
          exact ⟨rfl, hxr⟩
    | some v0 =>
      obtain ⟨i, u, k1, k2, k3, k4, k5, k6⟩ := f1 v0 hlk
      rw [Nat.zero_add] at k1
      have hfk := run_findKey_str (P := P) hkt k1 s.w
      have hms := m1 i k2 k5 k6
      have hi : i < ms.size := by omega
      have hkey := (hent i k2 hi).1
      rw [k5] at hkey
      have hstay : (Instr.keyThatStays (.string ⟨key.toArray⟩) (.string ⟨key.toArray⟩)).run P s.w = .ok (.string ⟨key.toArray⟩) s.w := by
        have : Instr.sameBits 10000 (.string ⟨key.toArray⟩) (.string ⟨key.toArray⟩) = true := by
          have : ∀ n, Instr.sameBits n (.string ⟨key.toArray⟩) (.string ⟨key.toArray⟩) = true := fun n => by cases n <;> simp [Instr.sameBits, ba_inj]
          exact this _
        simp [Instr.keyThatStays, this]
      refine fin (ms.modify i fun e => { e with key := .string ⟨key.toArray⟩, val := a.eval x }) clock ?_ (by rw [hms]; simp [hsz]) (fun j h1 h2 => ?_)
      · simp [execOp, ho, hv, hkv, Instr.mapUpdate, run_underlying ht, hget, run_checkKey_str hkt false 9999, hfk, hi, hkey, hstay, hset]
      · simp only [hms] at h1 ⊢
        have hj : j < es.length := by simpa using h1
        have hj2 : j < ms.size := by omega
        rw [Array.getElem_modify]
        by_cases e : i = j
        · subst e
          simp only [if_true, List.getElem_set_self]
          exact ⟨trivial, hxr⟩
        · simp only [e, if_false, List.getElem_set_ne e]
          exact hent j hj (by simpa using h2)
  · exact h.elim
theorem ok_rangeS {t : TypeId} {x : Operand} {x' : Arg} (ho : o.op = .range t x) (ht : P.underlying t = some .string) (hx : ArgOK P x x') (h : rop P (.ef .rangeS [x']) fr hp K) : o.wp P a s.w next Q := by
  simp only [rop, List.map_cons, List.map_nil, efP] at h
  split at h
  case h_2 => exact h.elim
  rename_i str hvs
  injection hvs with e1 _
  obtain ⟨hv, hle⟩ := str_eval hr hx e1
  have hstep := Step.push hr.heap (.stringIter ⟨str.toArray⟩ 0) 0 (.siter str 0)
  have hg : (s.push hp (.stringIter ⟨str.toArray⟩ 0) 0).w.heap[s.w.heap.size]? = some (.stringIter ⟨str.toArray⟩ 0) := heap_alloc_new s.w _
  have hrel := hr.heap.push (.stringIter ⟨str.toArray⟩ 0) 0 (.siter str 0) ⟨s.w.heap.size, by simp [St.push], hg, by simp [St.push], hle⟩
  exact wp_value (v := .pointer (some ⟨s.w.heap.size, 0, none⟩)) (w' := (s.push hp (.stringIter ⟨str.toArray⟩ 0) 0).w) (by simp [execOp, ho, hv, run_range_string _ _ _ ht, World.iter, St.push]) (hK _ _ _ _ (.vp _ _ _ (.siter str 0) (by simp) rfl (by simp [St.push])) (hr.step hstep hrel) hstep h)
theorem ok_nextS {x : Operand} {x' : Arg} (ho : o.op = .next x true) (hx : ArgOK P x x') (h : rop P (.ef .nextS [x']) fr hp K) : o.wp P a s.w next Q := by
  simp only [rop, List.map_cons, List.map_nil, efP] at h
  split at h
  case h_2 => exact h.elim
  rename_i l hvs
  injection hvs with e1 _
  split at h
  · rename_i str pos hl
    have h1 := hx N s fr hp a hr
    rw [e1] at h1
    generalize hv : a.eval x = v at h1
    cases h1 with
    | vp l off b ob hl' hob hb =>
      obtain ⟨b', k1, k2, k3, k4⟩ := hr.heap.obj l _ hl
      rw [hb] at k1; injection k1 with k1; subst k1
      have hblt : b < s.w.heap.size := (Array.getElem?_eq_some_iff.1 k2).1
      have hget : (getObj b).run P s.w = .ok (.stringIter ⟨str.toArray⟩ pos) s.w := by simp [getObj, Sem.run, k2]
      have hset : ∀ ob, (setObj b ob).run P s.w = .ok () (s.putObj b ob).w := fun ob => by simp [setObj, Sem.run, St.putObj, k2]
      have hsz : (ByteArray.mk str.toArray).size = str.length := by simp [ByteArray.size]
      by_cases hp' : pos < str.length
      · have fin : ∀ (w : Nat) (c : Nat), Utf8.decode ⟨str.toArray⟩ pos = (c, w) → K (.tup [.d (.bool true), .d (.int .i64 pos), .d (.int .i32 c)]) (hp.set l (.siter str (pos + w))) → o.wp P a s.w next Q := by
          intro w c hdec hk
          have hstep := Step.putObj hr.heap hl (o1 := .siter str (pos + w)) rfl rfl hb k3 (.stringIter ⟨str.toArray⟩ (pos + w))
          have hrel := hr.heap.putObj hl (o1 := .siter str (pos + w)) rfl rfl hb k3 (.stringIter ⟨str.toArray⟩ (pos + w)) ⟨b, hb, putObj_same s b _ hblt, k3, k4⟩
          refine wp_value (v := .tuple #[.bool true, .int .i64 pos, .int .i32 c]) (w' := (s.putObj b (.stringIter ⟨str.toArray⟩ (pos + w))).w) ?_ (hK _ _ _ _ ?_ (hr.step hstep hrel) hstep hk)
          · simp [execOp, ho, hv, Instr.next, hget, hsz, hp', hdec, hset, goInt]
          · refine .tup _ _ rfl fun i h1 h2 => ?_
            match i, h1 with
            | 0, _ => exact .d _ _ (.bool true)
            | 1, _ => exact .d _ _ (.int _ _)
            | 2, _ => exact .d _ _ (.int _ _)
        have hbyte : ((ByteArray.mk str.toArray)[pos]'(by rw [hsz]; exact hp')).toNat = (str[pos]).toNat := rfl
        have hba : byteAt str pos = ((str[pos]).toNat : Int) := by simp [byteAt, hp']
        by_cases hlow : byteAt str pos < 128
        · have hd := decode_ascii ⟨str.toArray⟩ pos (by rw [hsz]; exact hp') (by rw [hbyte]; omega)
          rw [hbyte] at hd
          have := h.2.1 hp' hlow
          rw [hba] at this
          exact fin 1 _ hd this
        · exact fin _ _ rfl (h.2.2 hp' (by omega) _ _)
      · exact wp_value (v := .tuple #[.bool false]) (w' := s.w) (by simp [execOp, ho, hv, Instr.next, hget, hsz, hp']) (hK _ _ s hp (.tup _ _ rfl fun i h1 h2 => by
          match i, h1 with
          | 0, _ => exact .d _ _ (.bool false)) hr (.refl _ _) (h.1 (by omega)))
  · exact h.elim
theorem ok_mkSl {t e : TypeId} {x y : Operand} {x' y' : Arg} {bytes : Nat} {zero : FV} {ie : TypeInfo} {z : Value} (ho : o.op = .makeSlice t x y) (ht : P.underlying t = some (.slice e)) (hie : P.info? e = some ie) (hz : ie.zero = some z) (hs1 : ie.size = 1) (hb : ie.bytes = bytes) (hb0 : 0 < bytes)
    (hz1 : z.oneCell' = true) (hzr : ∀ s hp, RepF P s hp zero z) (hx : ArgOK P x x') (hy : ArgOK P y y') (h : rop P (.ef (.mkSl e bytes zero) [x', y']) fr hp K) : o.wp P a s.w next Q := by
  simp only [rop, List.map_cons, List.map_nil, efP] at h
  split at h
  case h_2 => exact h.elim
  rename_i kx n ky c hvs
  injection hvs with e1 e2
  injection e2 with e2 _
  obtain ⟨rfl, hn0, hroom, h⟩ := h
  have h1 := hx N s fr hp a hr
  have h2 := hy N s fr hp a hr
  rw [e1] at h1; rw [e2] at h2
  obtain ⟨m, rfl⟩ := Int.eq_ofNat_of_zero_le hn0
  have hmle : m ≤ m * bytes := Nat.le_mul_of_pos_right _ hb0
  have hroom' : m * bytes ≤ roomB := by exact_mod_cast hroom
  have hrb : roomB = 140737488355328 := rfl
  have hbm : (ie.bytes : Int) * (m : Int) ≤ 281474976710656 := by
    rw [hb, Int.mul_comm]
    have : ((m : Int) * (bytes : Int)) = ((m * bytes : Nat) : Int) := by simp
    rw [this]; omega
  have hrun := run_make (P := P) s.w t e ie z ht hie hz kx ky m m (by omega) (Int.le_refl _) hbm (by omega)
  have hzc : z.cells = #[z] := by cases z <;> first | rfl | simp [Value.oneCell'] at hz1
  have hcells : madeCells z.cells ((m : Int).toNat * ie.size) = Array.replicate m z := by
    rw [hs1, hzc]
    apply Array.ext
    · simp [madeCells]
    · intro i h3 h4
      simp [madeCells, Nat.mod_one]
  rw [hcells] at hrun
  have hstep := Step.push hr.heap (.cells (Array.replicate m z) e) 0 (.var e (List.replicate m zero))
  have hg : (s.push hp (.cells (Array.replicate m z) e) 0).w.heap[s.w.heap.size]? = some (.cells (Array.replicate m z) e (0, 0)) := heap_alloc_new s.w _
  have hrel := hr.heap.push (.cells (Array.replicate m z) e) 0 (.var e (List.replicate m zero)) ⟨s.w.heap.size, _, by simp [St.push], hg, by simp [St.push], by simp, fun i hi => by simpa using hz1, fun i hi hj => by simpa using hzr _ _⟩
  have hmx : m ≤ maxLen := by simp only [maxLen]; omega
  have heb : ebytes P e = bytes := by simp [ebytes, hie, hb]
  refine wp_value (v := .slice (some ⟨s.w.heap.size, 0, none⟩) m m) (w' := (s.push hp (.cells (Array.replicate m z) e) 0).w) ?_ (hK _ _ _ _ (.ms e hp.length 0 m _ m (.var e (List.replicate m zero)) (by simp) rfl (by simp [St.push]) (Nat.le_refl _) hmx (by rw [heb]; exact hroom')) (hr.step hstep hrel) hstep (by simpa using h))
  have v1 := h1.int
  have v2 := h2.int
  simp only [execOp, ho, v1, v2, Sem.run_bind, hrun, Result.andThen_ok]
  simp [St.push]
end
end Go.Pg
set_option linter.unusedVariables false
namespace Go.Pg
theorem find_idx {fn : Func} (h : fn.name = "internal/bytealg.IndexByteString") : Extern.find fn = some Extern.BytealgIndexByte.indexByte := by
  have h1 : Extern.allGenericRows.lookup "internal/bytealg.IndexByteString" = none := by kernel_rfl
  have h2 : Extern.allTypedRows.lookup "internal/bytealg.IndexByteString" = none := by kernel_rfl
  have h3 : Extern.allRows.lookup "internal/bytealg.IndexByteString" = some Extern.BytealgIndexByte.indexByte := by kernel_rfl
  simp [Extern.find, h, h1, h2, h3]
theorem next_idx {fn : Func} (h : fn.name = "internal/bytealg.IndexByteString") (h0 : fn.origin = "") : Extern.findNext fn = none := by
  have h1 : Extern.allNextRows.lookup "internal/bytealg.IndexByteString" = none := by kernel_rfl
  have h2 : Extern.allNextRows.lookup "" = none := by kernel_rfl
  simp [Extern.findNext, h, h0, h1, h2]
theorem find_cnt {fn : Func} (h : fn.name = "internal/bytealg.CountString") : Extern.find fn = some Extern.BytealgCount.count := by
  have h1 : Extern.allGenericRows.lookup "internal/bytealg.CountString" = none := by kernel_rfl
  have h2 : Extern.allTypedRows.lookup "internal/bytealg.CountString" = none := by kernel_rfl
  have h3 : Extern.allRows.lookup "internal/bytealg.CountString" = some Extern.BytealgCount.count := by kernel_rfl
  simp [Extern.find, h, h1, h2, h3]
theorem next_cnt {fn : Func} (h : fn.name = "internal/bytealg.CountString") (h0 : fn.origin = "") : Extern.findNext fn = none := by
  have h1 : Extern.allNextRows.lookup "internal/bytealg.CountString" = none := by kernel_rfl
  have h2 : Extern.allNextRows.lookup "" = none := by kernel_rfl
  simp [Extern.findNext, h, h0, h1, h2]
theorem firstIdx_list (l : List UInt8) (c : UInt8) : firstIdx ⟨l.toArray⟩ c = idxB l c := by
  have hsz : (ByteArray.mk l.toArray).size = l.length := by simp [ByteArray.size]
  have hget : ∀ i, i < l.length → (ByteArray.mk l.toArray)[i]! = l[i]! := fun i hi => by
    rw [getElem!_pos (ByteArray.mk l.toArray) i (by rw [hsz]; exact hi), getElem!_pos l i hi]
    rfl
  unfold firstIdx idxB
  rw [hsz]
  by_cases hc : c ∈ l
  · rw [if_pos hc]
    have hlt := List.idxOf_lt_length_of_mem hc
    have hf : (List.range l.length).find? (fun i => (ByteArray.mk l.toArray)[i]! == c) = some (l.idxOf c) := by
      rw [List.find?_range_eq_some]
      refine ⟨?_, by simpa using hlt, fun j hj => ?_⟩
      · rw [hget _ hlt, getElem!_pos l _ hlt]; simp
      · have hj' : j < l.length := by omega
        rw [hget j hj', getElem!_pos l j hj']
        have := List.not_of_lt_findIdx (p := (· == c)) (xs := l) (i := j) hj
        simpa using this
    rw [hf]
  · rw [if_neg hc]
    have hf : (List.range l.length).find? (fun i => (ByteArray.mk l.toArray)[i]! == c) = none := by
      rw [List.find?_eq_none]
      intro i hi
      have hi' : i < l.length := by simpa using hi
      rw [hget i hi', getElem!_pos l i hi']
      intro e
      have : l[i] = c := by simpa using e
      exact hc (this ▸ List.getElem_mem hi')
    rw [hf]
section
variable {P : Program} {N : Nat} {s : St} {fr : Fr} {hp : AHeap} {a : Act} {o : Oper} {next : Act → World → Prop} {Q : Exit → Act → World → Prop}
variable {K : FV → AHeap → Prop} (hr : Rel P N s fr hp a) (hK : Gives P N s fr hp a o K next)
include hr hK
theorem ok_idxS {f : FuncId} {fn : Func} {x y : Operand} {x' y' : Arg} {ts : Array TypeId} (ho : o.op = .call { callee := .value (.func f), args := #[x, y], argTypes := ts }) (hf : P.funcs[f]? = some fn) (hb : fn.body.isNone = true) (hn : fn.name = "internal/bytealg.IndexByteString") (h0 : fn.origin = "")
    (hx : ArgOK P x x') (hy : ArgOK P y y') (h : rop P (.pr .idxS [x', y']) fr hp K) : o.wp P a s.w next Q := by
  simp only [rop, List.map_cons, List.map_nil, prV] at h
  split at h
  · rename_i v hv
    split at hv
    case h_2 => cases hv
    rename_i l c hvs
    injection hvs with e1 e2
    injection e2 with e2 _
    injection hv with hv
    subst hv
    obtain ⟨hxv, _⟩ := str_eval hr hx e1
    have h3 := hy N s fr hp a hr
    rw [e2] at h3
    have hyv := h3.int
    have hrun := run_indexByte_string (P := P) ⟨l.toArray⟩ c s.w
    have hcall := run_callFunc_extern (P := P) hf (by rw [hn]; rfl) hb (next_idx hn h0) (find_idx hn) #[.string ⟨l.toArray⟩, .int .u8 c] s.w
    rw [hrun] at hcall
    refine wp_value (v := .int .i64 (idxB l (UInt8.ofNat c.toNat))) (w' := s.w) ?_ (hK _ _ s hp (.d _ _ (.int _ _)) hr (.refl _ _) h)
    rw [← firstIdx_list]
    simp only [Result.andThen_ok] at hcall
    have hfv : a.eval (.func f) = .func (.func f) #[] #[] := rfl
    have e8 : c.toNat.toUInt8 = UInt8.ofNat c.toNat := rfl
    rw [e8] at hcall
    simp [execOp, ho, resolve, hfv, Deferred.ofValue, invoke, hxv, hyv, hcall]
  · exact h.elim
theorem ok_cntS {f : FuncId} {fn : Func} {x y : Operand} {x' y' : Arg} {ts : Array TypeId} (ho : o.op = .call { callee := .value (.func f), args := #[x, y], argTypes := ts }) (hf : P.funcs[f]? = some fn) (hb : fn.body.isNone = true) (hn : fn.name = "internal/bytealg.CountString") (h0 : fn.origin = "")
    (hx : ArgOK P x x') (hy : ArgOK P y y') (h : rop P (.pr .cntS [x', y']) fr hp K) : o.wp P a s.w next Q := by
  simp only [rop, List.map_cons, List.map_nil, prV] at h
  split at h
  · rename_i v hv
    split at hv
    case h_2 => cases hv
    rename_i l c hvs
    injection hvs with e1 e2
    injection e2 with e2 _
    injection hv with hv
    subst hv
    obtain ⟨hxv, _⟩ := str_eval hr hx e1
    have h3 := hy N s fr hp a hr
    rw [e2] at h3
    have hyv := h3.int
    have hrun := Lib.run_countString (P := P) ⟨l.toArray⟩ c s.w
    have hcall := run_callFunc_extern (P := P) hf (by rw [hn]; rfl) hb (next_cnt hn h0) (find_cnt hn) #[.string ⟨l.toArray⟩, .int .u8 c] s.w
    rw [hrun] at hcall
    refine wp_value (v := .int .i64 (l.count (UInt8.ofNat c.toNat) : Nat)) (w' := s.w) ?_ (hK _ _ s hp (.d _ _ (.int _ _)) hr (.refl _ _) h)
    simp only [Result.andThen_ok] at hcall
    have hfv : a.eval (.func f) = .func (.func f) #[] #[] := rfl
    have e8 : Lib.countByte (ByteArray.mk l.toArray).data.toList c.toNat.toUInt8 = l.count (UInt8.ofNat c.toNat) := rfl
    rw [e8] at hcall
    simp [execOp, ho, resolve, hfv, Deferred.ofValue, invoke, hxv, hyv, hcall]
  · exact h.elim
theorem ok_iaG {t e : TypeId} {g len : Nat} {i : Operand} {i' : Arg} (ho : o.op = .indexAddr t (.global g) i) (ht : P.underlying t = some (.array len e)) (hsz : (P.info? e).map (·.size) = some 1) (hi : ArgOK P i i') (h : rop P (.ef (.iaG g len) [i']) fr hp K) : o.wp P a s.w next Q := by
  obtain ⟨i0, hi0, hs0⟩ := Option.map_eq_some_iff.1 hsz
  simp only [rop, List.map_cons, List.map_nil, efP] at h
  split at h
  case h_2 => exact h.elim
  rename_i k n hvs
  injection hvs with e1 _
  have h1 := hi N s fr hp a hr
  rw [e1] at h1
  have hiv := h1.int
  have glob : ∀ (hp0 : AHeap) (cs : List AV), globOf hp0 g = some cs → ∃ l : Nat, hp0[l]? = some (AObj.glob g cs) := by
    intro hp0
    induction hp0 with
    | nil => intro cs h; simp [globOf] at h
    | cons o r ih =>
      intro cs h
      have rest : globOf r g = some cs → ∃ l : Nat, (o :: r)[l]? = some (AObj.glob g cs) := fun h => by
        obtain ⟨l, hl⟩ := ih cs h
        exact ⟨l + 1, by simpa using hl⟩
      cases o with
      | glob g' cs' =>
        simp only [globOf] at h
        split at h
        · rename_i e; injection h with h; subst h e; exact ⟨0, rfl⟩
        · exact rest h
      | _ => exact rest h
  split at h
  · rename_i cs hcs
    obtain ⟨hlen, hn0, hnl, h⟩ := h
    obtain ⟨l, hl⟩ := glob hp cs hcs
    obtain ⟨hπ, hg, cell, c1, c2, c3, c4⟩ := hr.heap.obj l _ hl
    obtain ⟨m, rfl⟩ := Int.eq_ofNat_of_zero_le hn0
    have hm : m < len := by omega
    have hmc : m < cs.length := by omega
    have hgv : a.eval (.global g) = .pointer (some ⟨g, 0, none⟩) := rfl
    have hmz : ∀ w : World, (sizeOf e).run P w = .ok 1 w := fun w => by simp [sizeOf, typeInfo, hi0, hs0]
    refine wp_value (v := .pointer (some ⟨g, m, none⟩)) (w' := s.w) ?_ (hK _ _ s hp (.cp [cs[m]] g m (fun _ => cell m) ?_ ?_ ?_ ?_) hr (.refl _ _) (h _ (by simp [hmc])))
    · simp [execOp, ho, hgv, hiv, Instr.indexAt, asIntOf, run_underlying ht, Instr.sureAddr, hm, hmz, Addr.add_lit]
    · intro j hj
      have : j = 0 := by simpa using hj
      subst this
      exact c1 m hmc
    · intro j hj
      have : j = 0 := by simpa using hj
      subst this
      exact c2 m hmc
    · intro j hj; exact c3 m hmc
    · intro j hj
      have : j = 0 := by simpa using hj
      subst this
      exact c4 m hmc
  · exact h.elim
theorem ok_bits {op : BinOp} {t u : TypeId} {x y : Operand} {x' y' : Arg} (ho : o.op = .binOp op t x y u) (hop : op = .and ∨ op = .or ∨ op = .xor) (hx : ArgOK P x x') (hy : ArgOK P y y') (h : rop P (.pr (.bits op) [x', y']) fr hp K) : o.wp P a s.w next Q := by
  simp only [rop, List.map_cons, List.map_nil, prV] at h
  split at h
  · rename_i v hv
    split at hv
    case h_2 => cases hv
    rename_i k n k' m hvs
    injection hvs with e1 e2
    injection e2 with e2 _
    split at hv
    · rename_i hk
      have hk := of_decide_eq_true hk
      subst hk
      injection hv with hv
      subst hv
      have h1 := hx N s fr hp a hr
      have h2 := hy N s fr hp a hr
      rw [e1] at h1; rw [e2] at h2
      have v1 := h1.int
      have v2 := h2.int
      have hg : (eqGuard op t x y (.int k n) (.int k m)).run P s.w = .ok () s.w := eqGuard_ok (by simp) (by simp)
      refine wp_value (v := .int k (bitsF op k n m)) (w' := s.w) ?_ (hK _ _ s hp (.d _ _ (.int _ _)) hr (.refl _ _) h)
      rcases hop with rfl | rfl | rfl <;> simp [execOp, ho, v1, v2, hg, binOp, Op.intBits, bitsF]
    · cases hv
  · exact h.elim
theorem ok_notI {t : TypeId} {x : Operand} {x' : Arg} (ho : o.op = .unOp .xor t x) (hx : ArgOK P x x') (h : rop P (.pr .notI [x']) fr hp K) : o.wp P a s.w next Q := by
  simp only [rop, List.map_cons, List.map_nil, prV] at h
  split at h
  · rename_i v hv
    split at hv
    case h_2 => cases hv
    rename_i k n hvs
    injection hvs with e1 _
    injection hv with hv
    subst hv
    have h1 := hx N s fr hp a hr
    rw [e1] at h1
    have v1 := h1.int
    exact wp_value (v := .int k (bitsF .xor k (if k.signed then -1 else k.max) n)) (w' := s.w) (by simp [execOp, ho, v1, Op.unary, Op.intBits, bitsF]) (hK _ _ s hp (.d _ _ (.int _ _)) hr (.refl _ _) h)
  · exact h.elim
end
end Go.Pg
set_option linter.unusedVariables false
namespace Go.Pg
theorem bytesOf_ints : ∀ {rows : List (List AV)} {l : List UInt8}, bytesOf rows = some l → ∃ ns : List Int, rows = ns.map (fun n => [.int .u8 n]) ∧ l = ns.map fun n => UInt8.ofNat n.toNat
  | [], l, h => by simp [bytesOf] at h; exact ⟨[], rfl, by simp [← h]⟩
  | r :: rows, l, h => by
    unfold bytesOf at h
    split at h
    · rename_i e; cases e
    · rename_i n r' e
      injection e with e1 e2
      subst e1 e2
      obtain ⟨m, hm, hl⟩ := Option.map_eq_some_iff.1 h
      obtain ⟨ns, h1, h2⟩ := bytesOf_ints hm
      exact ⟨n :: ns, by simp [h1], by simp [← hl, h2]⟩
    · cases h
theorem foldl_push (ns : List Int) : ∀ (s : ByteArray), ns.foldl (fun r n => r.push (UInt8.ofNat n.toNat)) s = ⟨(s.data.toList ++ ns.map fun n => UInt8.ofNat n.toNat).toArray⟩ := by
  induction ns with
  | nil => intro s; simp
  | cons n ns ih =>
    intro s
    simp only [List.foldl_cons, ih, List.map_cons]
    congr 2
    simp [ByteArray.push]
section
variable {P : Program} {N : Nat} {s : St} {fr : Fr} {hp : AHeap} {a : Act} {o : Oper} {next : Act → World → Prop} {Q : Exit → Act → World → Prop}
variable {K : FV → AHeap → Prop} (hr : Rel P N s fr hp a) (hK : Gives P N s fr hp a o K next)
include hr hK
theorem ok_toStr {t u e : TypeId} {x : Operand} {x' : Arg} (ho : o.op = .convert t u x) (ht : P.underlying t = some (.slice e)) (he : P.underlying e = some (.int .u8)) (hu : P.underlying u = some .string) (hs : esize P e = 1) (hby : ebytes P e = 1) (hx : ArgOK P x x')
    (h : rop P (.pr (.toStr e) [x']) fr hp K) : o.wp P a s.w next Q := by
  simp only [rop, List.map_cons, List.map_nil, prV] at h
  split at h
  · rename_i v hv
    split at hv
    · rename_i e' rows hrows
      split at hv
      · rename_i hee
        have hee := of_decide_eq_true hee
        subst hee
        obtain ⟨l, hl, rfl⟩ := Option.map_eq_some_iff.1 hv
        have hA := rowsOf_eval hr hx hrows
        obtain ⟨ns, hn1, hn2⟩ := bytesOf_ints hl
        have hbound : l.length ≤ 9223372036854775807 := by
          have := (rows_bound hA).1
          rw [hby] at this
          have e1 : rows.length = l.length := by rw [hn1, hn2]; simp
          simp only [roomB] at this
          omega
        have run : ∀ r, (Conv.bytesToString (a.eval x)).run P s.w = .ok r s.w → (∃ A n c, a.eval x = .slice A n c) → (execOp a.eval o).run P s.w = .ok (.value r) s.w := by
          rintro r hr ⟨A, n, c, hv⟩
          rw [hv] at hr
          have := run_convert_bytes_string s.w t u e' A n c ht he hu
          simp only [execOp, ho, hv, Sem.run_bind, this, hr, Result.andThen_ok]
          rfl
        refine wp_value (v := .string ⟨l.toArray⟩) (w' := s.w) ?_ (hK _ _ s hp (.d _ _ (.str l hbound)) hr (.refl _ _) h)
        generalize hv : a.eval x = v at hA run
        cases hA with
        | sl0 _ A c =>
          have : ns = [] := by cases ns with | nil => rfl | cons n r => simp at hn1
          subst this
          subst hn2
          refine run _ ?_ ⟨A, 0, c, rfl⟩
          cases A with
          | none => simp [Conv.bytesToString]; rfl
          | some A =>
            have := run_bytesToString (P := P) s.w A 0 c [] (by simpa using run_loadCells (P := P) s.w A 0 (fun _ => undef) (fun j hj => by omega))
            rw [this]; rfl
        | sl _ _ b off n c cell k1 k2 k3 k4 k5 k6 k7 k8 k9 =>
          refine run _ ?_ ⟨_, n, c, rfl⟩
          have hnn : ns.length = n := by rw [← k1, hn1]; simp
          have hc : ∀ j, j < n → s.w.cell? (Addr.add ⟨b, off, none⟩ j) = some (.int .u8 (ns.getD j 0)) := by
            intro j hj
            have hj1 : j < rows.length := by omega
            have hrow : rows[j] = [.int .u8 (ns[j]'(by omega))] := by simp [hn1]
            have r1 := k6 j hj1 0 (by rw [hrow]; simp)
            have r2 := k9 j hj1 0 (by rw [hrow]; simp)
            simp only [hrow, List.getElem_cons_zero] at r2
            rw [hs, Nat.mul_one, Nat.add_zero] at r1
            have r3 : cell j 0 = .int .u8 (ns[j]'(by omega)) := by generalize cell j 0 = z at r2; cases r2; rfl
            rw [r3] at r1
            simp only [Addr.add_lit]
            rw [r1]
            simp [show j < ns.length by omega]
          have hld := run_loadCells (P := P) s.w ⟨b, off, none⟩ n (fun j => .int .u8 (ns.getD j 0)) hc
          have hmap : ((List.range n).map fun j => Value.int .u8 (ns.getD j 0)) = ns.map (Value.int .u8) := by
            apply List.ext_getElem
            · simp [hnn]
            · intro i h1 h2
              simp at h1 h2
              simp [h2]
          rw [hmap] at hld
          have := run_bytesToString (P := P) s.w ⟨b, off, none⟩ n c ns hld
          rw [this, foldl_push, hn2]
          rfl
      · cases hv
    · cases hv
  · exact h.elim
end
end Go.Pg
set_option linter.unusedVariables false
namespace Go.Pg
theorem strCells_rows {P : Program} {w : World} {H : Nat → Nat} (str : List UInt8) : RowsL P w H 1 (str.map byteRow) (Lib.strCells ⟨str.toArray⟩) := by
  refine ⟨by simp [Lib.strCells_length, ByteArray.size], fun i hi => ?_⟩
  have hi' : i < str.length := by simpa using hi
  refine ⟨by simp [byteRow], fun j hj => ?_⟩
  have hj0 : j = 0 := by simp [byteRow] at hj; omega
  subst hj0
  refine ⟨.int .u8 str[i].toNat, ?_, rfl, ?_⟩
  · simp [Lib.strCells, hi']
  · simp [byteRow]; exact .int _ _
section
variable {P : Program} {N : Nat} {s : St} {fr : Fr} {hp : AHeap} {a : Act} {o : Oper} {next : Act → World → Prop} {Q : Exit → Act → World → Prop}
variable {K : FV → AHeap → Prop} (hr : Rel P N s fr hp a) (hK : Gives P N s fr hp a o K next)
include hr hK
theorem app_core {x : Operand} {x' : Arg} {e : TypeId} {sz bytes : Nat} {z : Value} {news : List (List AV)} {L : List Value} (hx : ArgOK P x x') (hes : esize P e = sz) (heb : ebytes P e = bytes) (hzs : z.cells.size = sz) (hs0 : 0 < sz) (hb0 : 0 < bytes)
    (hL : RowsL P s.w s.H sz news L) (hm : 0 < news.length)
    (hNil : a.eval x = .slice none 0 0 → news.length * bytes ≤ roomB → (execOp a.eval o).run P s.w = .ok (.value (.slice (some ⟨s.w.heap.size, 0, none⟩) news.length (grownCap s.w news.length 0 e))) (s.w.drew.alloc (.cells (L.toArray ++ Builtin.zeroCells z.cells (grownCap s.w news.length 0 e - news.length)) e)))
    (hRoom : ∀ (g n cap : Nat) (cur : Array Value), a.eval x = .slice (some ⟨g, 0, none⟩) n cap → s.w.heap[g]? = some (.cells cur e (0, 0)) → n + news.length ≤ cap → n * sz + L.length ≤ cur.size →
      (execOp a.eval o).run P s.w = .ok (.value (.slice (some ⟨g, 0, none⟩) (n + news.length) cap)) (s.w.setRow g (cur.toList.take (n * sz) ++ L ++ cur.toList.drop (n * sz + L.length)).toArray))
    (hGrow : ∀ (g n cap : Nat) (L0 : List Value), a.eval x = .slice (some ⟨g, 0, none⟩) n cap → L0.length = n * sz → (∀ j u, L0[j]? = some u → s.w.cell? ⟨g, 0 + j, none⟩ = some u) → cap < n + news.length → (n + news.length) * bytes ≤ roomB →
      (execOp a.eval o).run P s.w = .ok (.value (.slice (some ⟨s.w.heap.size, 0, none⟩) (n + news.length) (grownCap s.w (n + news.length) cap e))) (s.w.drew.alloc (.cells (L0.toArray ++ L.toArray ++ Builtin.zeroCells z.cells (grownCap s.w (n + news.length) cap e - (n + news.length))) e)))
    (h : match ev fr x' with
      | .own e1 rows l => e1 = e ∧ hp[l]? = some (.buf e rows.length) ∧ (rows.length + news.length) * bytes ≤ roomB ∧ K (.own e (rows ++ news) l) (hp.set l (.buf e (rows.length + news.length)))
      | .nil e1 => e1 = e ∧ news.length * bytes ≤ roomB ∧ K (.own e news hp.length) (hp ++ [.buf e news.length])
      | _ => False) : o.wp P a s.w next Q := by
  have hbm : ∀ m : Nat, m * bytes ≤ roomB → (m : Int) ≤ 9223372036854775807 ∧ m * bytes ≤ 281474976710656 ∧ m ≤ maxLen := by
    intro m hm
    have : m ≤ m * bytes := Nat.le_mul_of_pos_right _ hb0
    simp only [roomB] at hm
    simp only [maxLen]
    omega
  have h0 := hx N s fr hp a hr
  have hLl : L.length = news.length * sz := hL.1
  split at h
  · rename_i e1 rows l hown
    obtain ⟨rfl, hbuf, hroom, h⟩ := h
    obtain ⟨q1, q2, q3⟩ := hbm _ hroom
    rw [hown] at h0
    generalize hv : a.eval x = v at h0 hNil hRoom hGrow
    cases h0 with
    | own _ _ _ _ n hrep hb hle tip =>
      rw [hbuf] at hb; injection hb with hb; injection hb with _ hb; subst hb
      rcases tip rfl with ⟨t1, rfl, t3⟩ | ⟨g, cap, cur, rfl, t2, t3, t4, t5, t6, t7⟩
      · have hrows : rows = [] := List.eq_nil_of_length_eq_zero t1
        subst hrows
        simp only [List.length_nil, Nat.zero_add, List.nil_append] at h q1 q2 q3 hroom hbuf
        have hrun := hNil rfl hroom
        have hstd := Step.drew s hp
        have hrd := hr.heap.drew
        have hst := Step.regrow hrd hbuf (n' := news.length) hm (.cells (L.toArray ++ Builtin.zeroCells z.cells (grownCap s.w news.length 0 e1 - news.length)) e1) (news.length * sz)
        have hrl := hrd.regrow hbuf (n' := news.length) hm (.cells (L.toArray ++ Builtin.zeroCells z.cells (grownCap s.w news.length 0 e1 - news.length)) e1) (news.length * sz)
        have hge := grownCap_ge s.w news.length 0 e1
        have hcm := grownCap_le_maxLen s.w news.length 0 e1 q3
        have hall := hstd.trans hst
        refine wp_value (hrun) (hK _ _ (s.drew.regrow l _ (news.length * sz)) _ ?_ (hr.step hall hrl) hall h)
        have hblk : (s.drew.regrow l (.cells (L.toArray ++ Builtin.zeroCells z.cells (grownCap s.w news.length 0 e1 - news.length)) e1) (news.length * sz)).w.heap[s.w.heap.size]? = some (.cells (L.toArray ++ Builtin.zeroCells z.cells (grownCap s.w news.length 0 e1 - news.length)) e1 (0, 0)) := heap_alloc_new s.w.drew _
        have hHn : (s.drew.regrow l (.cells (L.toArray ++ Builtin.zeroCells z.cells (grownCap s.w news.length 0 e1 - news.length)) e1) (news.length * sz)).H s.w.heap.size = news.length * sz := by simp [St.regrow, St.drew]
        refine .own e1 news l _ news.length (rep_rowsL hes (hL.mono hall.seal_) rfl hblk ?_ hHn hge hcm (by rw [heb]; exact hroom)) (by simp [lt_of_get? hbuf]) (Nat.le_refl _) fun _ => .inr ⟨s.w.heap.size, _, _, rfl, by simp [St.regrow, St.drew], hblk, hge, hcm, ?_, by rw [hes]; exact hHn⟩
        · have : news.length * sz = L.length := by rw [hLl]
          rw [this]; simp
        · rw [hes]
          simp only [Array.size_append, List.size_toArray, hLl, size_zeroCells, hzs]
          rw [← Nat.add_mul]; congr 1; omega
      · rw [hes] at t6 t7
        obtain ⟨L0, hL0, hL0c⟩ := rowsL_of hes hs0 hrep
        have hL0l : L0.length = rows.length * sz := hL0.1
        have htake : cur.toList.take (rows.length * sz) = L0 := by
          apply List.ext_getElem?
          intro k
          rw [List.getElem?_take]
          split
          · rename_i hk
            have hk2 : k < L0.length := by omega
            have := (hL0c k L0[k] (List.getElem?_eq_getElem hk2)).1
            rw [Nat.zero_add, cell_of_row s.w g k cur e1 (0, 0) t3] at this
            rw [List.getElem?_eq_getElem hk2, ← this]
            simp
          · rename_i hk
            rw [List.getElem?_eq_none (by omega)]
        have happ := hL0.append hL
        have hnew : (rows ++ news).length = rows.length + news.length := List.length_append
        by_cases hfit : rows.length + news.length ≤ cap
        · have hlen : rows.length * sz + L.length ≤ cur.size := by
            rw [hLl, t6, ← Nat.add_mul]; exact Nat.mul_le_mul_right _ hfit
          have hrun := hRoom g rows.length cap cur rfl t3 hfit hlen
          have hvs : (cur.toList.take (rows.length * sz) ++ L ++ cur.toList.drop (rows.length * sz + L.length)).toArray = (cur.toList.take (rows.length * sz) ++ L ++ cur.toList.drop (rows.length * sz + L.length)).toArray := rfl
          generalize hvsd : (cur.toList.take (rows.length * sz) ++ L ++ cur.toList.drop (rows.length * sz + L.length)).toArray = vs at hrun
          have hvsl : vs.toList = L0 ++ L ++ cur.toList.drop (rows.length * sz + L.length) := by rw [← hvsd, htake]
          have hsame : ∀ k v, k < s.H g → cur[k]? = some v → vs[k]? = some v := by
            intro k v hk hc
            rw [t7] at hk
            rw [← Array.getElem?_toList, hvsl, ← htake, List.append_assoc, List.getElem?_append_left (by simp; have := (Array.getElem?_eq_some_iff.1 hc).1; omega), List.getElem?_take, if_pos hk]
            simpa using hc
          have hHle : s.H g ≤ (rows.length + news.length) * sz := by rw [t7]; exact Nat.mul_le_mul_right _ (by omega)
          have hst := Step.extend hr.heap hbuf (n' := rows.length + news.length) (by omega) t2 t3 vs ((rows.length + news.length) * sz) hHle hsame
          have hrl := hr.heap.extend hbuf (n' := rows.length + news.length) (by omega) t2 t3 vs ((rows.length + news.length) * sz) hHle hsame
          refine wp_value (hrun) (hK _ _ (s.extend g vs ((rows.length + news.length) * sz)) _ ?_ (hr.step hst hrl) hst h)
          have hblk : (s.extend g vs ((rows.length + news.length) * sz)).w.heap[g]? = some (.cells vs e1 (0, 0)) := setRow_heap s.w g cur vs e1 (0, 0) t3
          have hHn : (s.extend g vs ((rows.length + news.length) * sz)).H g = (rows.length + news.length) * sz := by simp [St.extend]
          refine .own e1 (rows ++ news) l _ _ (rep_rowsL hes (happ.mono hst.seal_) hnew hblk ?_ hHn hfit t5 (by rw [heb]; exact hroom)) (by simp [lt_of_get? hbuf]) (by omega) fun _ => .inr ⟨g, cap, vs, rfl, t2, hblk, hfit, t5, ?_, by rw [hes]; exact hHn⟩
          · have e3 : (rows.length + news.length) * sz = (L0 ++ L).length := by rw [List.length_append, hL0l, hLl, Nat.add_mul]
            rw [e3, hvsl]; exact List.take_left
          · rw [hes, ← Array.length_toList, hvsl]
            simp only [List.length_append, List.length_drop, Array.length_toList, hL0l, t6]
            rw [t6] at hlen
            omega
        · have hrun := hGrow g rows.length cap L0 rfl hL0l (fun j u hj => (hL0c j u hj).1) (by omega) hroom
          have hstd := Step.drew s hp
          have hrd := hr.heap.drew
          generalize hcells : (L0.toArray ++ L.toArray ++ Builtin.zeroCells z.cells (grownCap s.w (rows.length + news.length) cap e1 - (rows.length + news.length))) = cells at hrun
          have hst := Step.regrow hrd hbuf (n' := rows.length + news.length) (by omega) (.cells cells e1) ((rows.length + news.length) * sz)
          have hrl := hrd.regrow hbuf (n' := rows.length + news.length) (by omega) (.cells cells e1) ((rows.length + news.length) * sz)
          have hge := grownCap_ge s.w (rows.length + news.length) cap e1
          have hcm := grownCap_le_maxLen s.w (rows.length + news.length) cap e1 q3
          have hall := hstd.trans hst
          refine wp_value (hrun) (hK _ _ (s.drew.regrow l (.cells cells e1) ((rows.length + news.length) * sz)) _ ?_ (hr.step hall hrl) hall h)
          have hblk : (s.drew.regrow l (.cells cells e1) ((rows.length + news.length) * sz)).w.heap[s.w.heap.size]? = some (.cells cells e1 (0, 0)) := heap_alloc_new s.w.drew _
          have hHn : (s.drew.regrow l (.cells cells e1) ((rows.length + news.length) * sz)).H s.w.heap.size = (rows.length + news.length) * sz := by simp [St.regrow, St.drew]
          refine .own e1 (rows ++ news) l _ _ (rep_rowsL hes (happ.mono hall.seal_) hnew hblk ?_ hHn hge hcm (by rw [heb]; exact hroom)) (by simp [lt_of_get? hbuf]) (by omega) fun _ => .inr ⟨s.w.heap.size, _, cells, rfl, by simp [St.regrow, St.drew], hblk, hge, hcm, ?_, by rw [hes]; exact hHn⟩
          · have e3 : (rows.length + news.length) * sz = (L0 ++ L).length := by rw [List.length_append, hL0l, hLl, Nat.add_mul]
            rw [e3, ← hcells]; simp only [Array.toList_append]; exact List.take_left
          · rw [hes, ← hcells]
            simp only [Array.size_append, List.size_toArray, hL0l, hLl, size_zeroCells, hzs]
            rw [← Nat.add_mul, ← Nat.add_mul]; congr 1; omega
  · rename_i e1 hown
    obtain ⟨rfl, hroom, h⟩ := h
    obtain ⟨q1, q2, q3⟩ := hbm _ hroom
    rw [hown] at h0
    generalize hv : a.eval x = v at h0 hNil hRoom hGrow
    cases h0
    have hrun := hNil rfl hroom
    have hstd := Step.drew s hp
    have hrd := hr.heap.drew
    generalize hcells : (L.toArray ++ Builtin.zeroCells z.cells (grownCap s.w news.length 0 e1 - news.length)) = cells at hrun
    have hst := Step.push hrd (.cells cells e1) (news.length * sz) (.buf e1 news.length)
    have hrl := hrd.push (.cells cells e1) (news.length * sz) (.buf e1 news.length) (fun b hb => by simp [St.push] at hb ⊢; omega)
    have hge := grownCap_ge s.w news.length 0 e1
    have hcm := grownCap_le_maxLen s.w news.length 0 e1 q3
    have hall := hstd.trans hst
    refine wp_value (hrun) (hK _ _ (s.drew.push hp (.cells cells e1) (news.length * sz)) _ ?_ (hr.step hall hrl) hall h)
    have hblk : (s.drew.push hp (.cells cells e1) (news.length * sz)).w.heap[s.w.heap.size]? = some (.cells cells e1 (0, 0)) := heap_alloc_new s.w.drew _
    have hHn : (s.drew.push hp (.cells cells e1) (news.length * sz)).H s.w.heap.size = news.length * sz := by simp [St.push, St.drew]
    refine .own e1 news hp.length _ news.length (rep_rowsL hes (hL.mono hall.seal_) rfl hblk ?_ hHn hge hcm (by rw [heb]; exact hroom)) (by simp) (Nat.le_refl _) fun _ => .inr ⟨s.w.heap.size, _, cells, rfl, by simp [St.push, St.drew], hblk, hge, hcm, ?_, by rw [hes]; exact hHn⟩
    · have : news.length * sz = L.length := by rw [hLl]
      rw [this, ← hcells]; simp
    · rw [hes, ← hcells]
      simp only [Array.size_append, List.size_toArray, hLl, size_zeroCells, hzs]
      rw [← Nat.add_mul]; congr 1; omega
  · exact h.elim
theorem ok_appS {t u e : TypeId} {ie : TypeInfo} {x y : Operand} {x' y' : Arg} (ho : o.op = .call { callee := .builtin .append, args := #[x, y], argTypes := #[t, u] }) (ht : P.underlying t = some (.slice e)) (hu : P.underlying u = some .string) (hi : P.info? e = some ie) (hz : ie.zero = some (.int .u8 0))
    (hsz : ie.size = 1) (hby : ie.bytes = 1) (hx : ArgOK P x x') (hy : ArgOK P y y') (h : rop P (.ef (.appS e) [x', y']) fr hp K) : o.wp P a s.w next Q := by
  have hes : esize P e = 1 := by simp [esize, hi, hsz]
  have heb : ebytes P e = 1 := by simp [ebytes, hi, hby]
  have hzs : (Value.int .u8 0).cells.size = 1 := rfl
  simp only [rop, List.map_cons, List.map_nil] at h
  have hop : ∀ v w', (Builtin.append_ #[t, u] o.type #[a.eval x, a.eval y]).run P s.w = .ok v w' → (execOp a.eval o).run P s.w = .ok (.value v) w' := by
    intro v w' hrun
    unfold execOp
    simp only [ho, resolve, invoke, builtin, Sem.run_bind, Sem.run_pure, Result.andThen_ok, List.map_toArray, List.map_cons, List.map_nil, hrun]
  obtain ⟨str, hstr⟩ : ∃ str, ev fr y' = .d (.str str) := by
    simp only [efP] at h
    split at h
    · rename_i q; injection q with _ q; injection q with q _; exact ⟨_, q⟩
    · rename_i q; injection q with _ q; injection q with q _; exact ⟨_, q⟩
    · exact h.elim
  obtain ⟨hvy, hsmax⟩ := str_eval hr hy hstr
  rw [hstr] at h
  have hslen : (ByteArray.mk str.toArray).size = str.length := by simp [ByteArray.size]
  have hbm : ∀ m : Nat, m ≤ roomB → (m : Int) ≤ 9223372036854775807 ∧ m * ie.bytes ≤ 281474976710656 ∧ m ≤ maxLen := by
    intro m hm
    simp only [roomB] at hm
    rw [hby]
    simp only [maxLen]
    omega
  have h0 := hx N s fr hp a hr
  have hL : RowsL P s.w s.H 1 (str.map byteRow) (Lib.strCells ⟨str.toArray⟩) := strCells_rows str
  have hLl : (Lib.strCells ⟨str.toArray⟩).length = str.length := by rw [Lib.strCells_length, hslen]
  generalize hLd : Lib.strCells ⟨str.toArray⟩ = L at hL hLl
  simp only [efP] at h
  by_cases hm0 : str.length = 0
  · have hnil : str = [] := List.eq_nil_of_length_eq_zero hm0
    subst hnil
    have hrun0 : ∀ B n cap, n ≤ cap → a.eval x = .slice B n cap → (execOp a.eval o).run P s.w = .ok (.value (.slice B n cap)) s.w := by
      intro B n cap hle hv
      refine hop _ _ ?_
      rw [hv, hvy]
      have hf := Lib.run_firstCells_string (P := P) s.w 1 ⟨([] : List UInt8).toArray⟩
      rw [hLd] at hf
      have hL0 : L = [] := List.eq_nil_of_length_eq_zero hLl
      subst hL0
      simp only [hslen, List.length_nil] at hf
      cases B <;> simp [Builtin.append_, run_underlying ht, run_underlying hu, sizeOf, typeInfo, hi, hsz, Builtin.lenOf, hslen, hle, hf, storeCells]
    split at h
    · rename_i e1 rows l _ hq
      injection hq with hown hq; injection hq with hq _; injection hq with hq; injection hq with hq; subst hq
      obtain ⟨rfl, hbuf, hroom, h⟩ := h
      rw [hown] at h0
      have h0' := h0
      generalize hv : a.eval x = v at h0
      cases h0 with
      | own _ _ _ _ n hrep hb hle tip =>
        obtain ⟨_, B, cap, rfl, hcap⟩ := rows_bound hrep
        have e1 : hp.set l (.buf e1 (rows.length + ([] : List UInt8).length)) = hp := by
          apply List.ext_getElem?
          intro k
          by_cases ck : l = k
          · subst ck; rw [List.getElem?_set_self (lt_of_get? hbuf), hbuf]; rfl
          · rw [List.getElem?_set_ne ck]
        rw [e1, List.map_nil, List.append_nil] at h
        refine wp_value (hrun0 B _ cap hcap hv) (hK _ _ s hp ?_ hr (.refl _ _) h)
        rw [hv] at h0'; exact h0'
    · rename_i e1 _ hq
      injection hq with hown hq; injection hq with hq _; injection hq with hq; injection hq with hq; subst hq
      obtain ⟨rfl, hroom, h⟩ := h
      rw [hown] at h0
      generalize hv : a.eval x = v at h0
      cases h0
      have hst := Step.ghost hr.heap (.buf e1 0)
      refine wp_value (hrun0 none 0 0 (Nat.le_refl _) hv) (hK _ _ (s.ghost hp) _ ?_ (hr.step hst (hr.heap.ghost e1 0)) hst h)
      exact .own e1 [] hp.length _ 0 (.sl0 _ _ _) (by simp) (Nat.le_refl _) fun _ => .inl ⟨rfl, rfl, by simp [St.ghost]⟩
    · exact h.elim
  · have hm : 0 < (str.map byteRow).length := by simp; omega
    have hnl : (str.map byteRow).length = str.length := by simp
    refine app_core hr hK (z := .int .u8 0) (news := str.map byteRow) (L := L) hx hes heb hzs Nat.one_pos Nat.one_pos hL hm ?_ ?_ ?_ ?_
    · intro hv hroom
      obtain ⟨q1, q2, q3⟩ := hbm _ (by simpa using hroom)
      refine hop _ _ ?_
      rw [hv, hvy]
      have := run_append_nil_string (P := P) s.w t u o.type e ie (.int .u8 0) ht hu hi hz ⟨str.toArray⟩ (by omega) (by rw [hslen]; simpa using q1) (by rw [hslen]; simpa using q2)
      have e1 : ((ByteArray.mk str.toArray).data.map fun b => Value.int .u8 b.toNat) = L.toArray := by
        rw [← hLd]; apply Array.ext'; simp [Lib.strCells]
      rw [e1, hslen] at this
      rw [hnl]; exact this
    · intro g n cap cur hv hg hroom hfit
      refine hop _ _ ?_
      rw [hv, hvy]
      have := Lib.run_append_room_string (P := P) s.w t u o.type e ie ht hu hi hsz g n cap cur hg ⟨str.toArray⟩ (by rw [hslen]; omega) (by rw [hslen]; omega)
      rw [hLd, hslen] at this
      rw [hnl, hLl, Nat.mul_one]; exact this
    · intro g n cap L0 hv hL0 hc hg hroom
      obtain ⟨q1, q2, q3⟩ := hbm _ (by simpa using hroom)
      refine hop _ _ ?_
      rw [hv, hvy]
      have := Lib.run_append_grow_string (P := P) s.w t u o.type e ie (.int .u8 0) ht hu hi hz ⟨g, 0, none⟩ n cap L0 (by rw [hL0, hsz]) (fun j v hj => by rw [Addr.add_lit]; exact hc j v hj) ⟨str.toArray⟩ (by rw [hslen]; omega) (by rw [hslen]; simpa using q1) (by rw [hslen]; exact growslice_fits (by omega) (by simp [hby] at q2 ⊢; simp [roomB] at hroom; omega))
      rw [hLd, hslen] at this
      rw [hnl]; exact this
    · split at h
      · rename_i e1 rows l _ hq
        injection hq with hown hq; injection hq with hq _; injection hq with hq; injection hq with hq; subst hq
        rw [hown]
        simpa using h
      · rename_i e1 _ hq
        injection hq with hown hq; injection hq with hq _; injection hq with hq; injection hq with hq; subst hq
        rw [hown]
        simpa using h
      · exact h.elim
end
end Go.Pg
set_option linter.unusedVariables false
namespace Go.Pg
theorem find_noEscape {fn : Func} (h : fn.name = "internal/abi.NoEscape") : Extern.find fn = some Extern.AbiNoEscape.same := by
  have h1 : Extern.allGenericRows.lookup "internal/abi.NoEscape" = none := by kernel_rfl
  have h2 : Extern.allTypedRows.lookup "internal/abi.NoEscape" = none := by kernel_rfl
  have h3 : Extern.allRows.lookup "internal/abi.NoEscape" = some Extern.AbiNoEscape.same := by kernel_rfl
  simp [Extern.find, h, h1, h2, h3]
theorem next_noEscape {fn : Func} (h : fn.name = "internal/abi.NoEscape") (h0 : fn.origin = "") : Extern.findNext fn = none := by
  have h1 : Extern.allNextRows.lookup "internal/abi.NoEscape" = none := by kernel_rfl
  have h2 : Extern.allNextRows.lookup "" = none := by kernel_rfl
  simp [Extern.findNext, h, h0, h1, h2]
theorem find_mnz {fn : Func} (h : fn.name = "internal/bytealg.MakeNoZero") : Extern.find fn = some (Extern.BytealgMakeNoZero.makeNoZero fn.params fn.resultTypes) := by
  have h1 : Extern.allGenericRows.lookup "internal/bytealg.MakeNoZero" = none := by kernel_rfl
  have h2 : Extern.allTypedRows.lookup "internal/bytealg.MakeNoZero" = some Extern.BytealgMakeNoZero.makeNoZero := by kernel_rfl
  simp [Extern.find, h, h1, h2]
theorem next_mnz {fn : Func} (h : fn.name = "internal/bytealg.MakeNoZero") (h0 : fn.origin = "") : Extern.findNext fn = none := by
  have h1 : Extern.allNextRows.lookup "internal/bytealg.MakeNoZero" = none := by kernel_rfl
  have h2 : Extern.allNextRows.lookup "" = none := by kernel_rfl
  simp [Extern.findNext, h, h0, h1, h2]
section
variable {P : Program} {s : St} {hp : AHeap}
/-- A new block that nobody speaks of. -/
def St.extra (s : St) (o : Obj) : St := ⟨s.w.alloc o, fun b => if b = s.w.heap.size then 0 else s.H b, s.π⟩
theorem Step.extra (hr : RelH P s hp) (o : Obj) : Step s hp (s.extra o) hp where
  os := rfl
  tape := rfl
  output := rfl
  size := by simp [St.extra]
  seal_ := ⟨fun b => by
    simp only [St.extra]
    split
    · rename_i h; subst h; rw [hr.fresh _ (Nat.le_refl _)]; exact Nat.zero_le _
    · exact Nat.le_refl _, fun b off v _ hc => cell?_alloc s.w _ hc⟩
  foreign := fun b hb _ => ⟨hao s.w _ b hb, by simp [St.extra, Nat.ne_of_lt hb]⟩
  from_ := fun l b hl hb => .inr ⟨l, hl, hb⟩
  len := Nat.le_refl _
  buf := fun l e n hl => ⟨n, hl, Nat.le_refl _, fun _ => ⟨rfl, fun b hb => by
    have hlt := hr.lt (lt_of_get? hl) hb
    exact ⟨hao s.w _ b hlt, by simp [St.extra, Nat.ne_of_lt hlt]⟩⟩⟩
  obj := fun l o hl ho => ⟨⟨o, hl, ho⟩, rfl⟩
theorem RelH.extra (hr : RelH P s hp) (o : Obj) : RelH P (s.extra o) hp := by
  have hst := Step.extra hr o
  refine ⟨hr.inj, fun l y hl => ?_, fun b hb => ?_⟩
  · refine (hr.obj l y hl).step hst rfl fun b hb => ?_
    have hlt := hr.lt (lt_of_get? hl) hb
    exact ⟨by simp [St.extra]; omega, fun _ => ⟨hao s.w _ b hlt, by simp [St.extra, Nat.ne_of_lt hlt]⟩⟩
  · simp [St.extra] at hb ⊢
    intro _
    exact hr.fresh b (by omega)
/-- Bytes that were handed out as a text: they are frozen. -/
def St.frz (s : St) (g n : Nat) : St := ⟨s.w.freeze ⟨g, 0, none⟩ n, s.H, s.π⟩
theorem frz_other (w : World) (g n b : Nat) (h : b ≠ g) : (w.freeze ⟨g, 0, none⟩ n).heap[b]? = w.heap[b]? := by
  unfold World.freeze
  split
  · rfl
  · simp only [Array.getElem?_modify]; rw [if_neg (fun e => h e.symm)]
theorem frz_size (w : World) (g n : Nat) : (w.freeze ⟨g, 0, none⟩ n).heap.size = w.heap.size := by
  unfold World.freeze
  split
  · rfl
  · simp
theorem frz_cell (w : World) (g n : Nat) (b off : Nat) : (w.freeze ⟨g, 0, none⟩ n).cell? ⟨b, off, none⟩ = w.cell? ⟨b, off, none⟩ := by
  by_cases hb : b = g
  · subst hb
    by_cases hn : n = 0
    · subst hn; rfl
    · simp only [World.cell?, World.freeze, if_neg hn, Array.getElem?_modify, if_true]
      cases hg : w.heap[b]? with
      | none => rfl
      | some ob => cases ob <;> rfl
  · simp only [World.cell?, frz_other w g n b hb]
theorem Step.frz (hr : RelH P s hp) {l g n m : Nat} {e : TypeId} (hl : hp[l]? = some (.buf e m)) (hg : s.π l = some g) : Step s hp (s.frz g n) (hp.set l (.buf e (m + 1))) where
  os := by simp only [St.frz, World.freeze]; split <;> rfl
  tape := by simp only [St.frz, World.freeze]; split <;> rfl
  output := by simp only [St.frz, World.freeze]; split <;> rfl
  size := by simp only [St.frz, frz_size]; exact Nat.le_refl _
  seal_ := ⟨fun b => Nat.le_refl _, fun b off v _ hc => by simp only [St.frz, frz_cell]; exact hc⟩
  foreign := fun b hb hf => ⟨by simp only [St.frz]; exact frz_other _ _ _ _ (fun e => hf l (lt_of_get? hl) (e ▸ hg)), rfl⟩
  from_ := fun k b hk hb => .inr ⟨k, by simpa using hk, hb⟩
  len := by simp
  buf := fun k e' n' hk => by
    by_cases ck : l = k
    · subst ck
      rw [hl] at hk; injection hk with hk; injection hk with h1 h2; subst h1; subst h2
      exact ⟨m + 1, by simp [lt_of_get? hl], by omega, fun h => by omega⟩
    · refine ⟨n', by rw [List.getElem?_set_ne ck]; exact hk, Nat.le_refl _, fun _ => ⟨rfl, fun b hb => ⟨?_, rfl⟩⟩⟩
      simp only [St.frz]
      exact frz_other _ _ _ _ (fun e => ck (hr.inj l k g (lt_of_get? hl) (lt_of_get? hk) hg (e ▸ hb)))
  obj := fun k o hk ho => by
    by_cases ck : l = k
    · subst ck; rw [hl] at hk; injection hk with hk; subst hk; simp [AObj.isBuf] at ho
    · exact ⟨⟨o, by rw [List.getElem?_set_ne ck]; exact hk, ho⟩, rfl⟩
theorem RelH.frz (hr : RelH P s hp) {l g n m : Nat} {e : TypeId} (hl : hp[l]? = some (.buf e m)) (hg : s.π l = some g) : RelH P (s.frz g n) (hp.set l (.buf e (m + 1))) := by
  have hst := Step.frz (n := n) hr hl hg
  refine ⟨fun i j b hi hj h1 h2 => hr.inj i j b (by simpa using hi) (by simpa using hj) h1 h2, fun k y hk => ?_, fun b hb => ?_⟩
  · by_cases ck : l = k
    · subst ck
      rw [List.getElem?_set_self (lt_of_get? hl)] at hk; injection hk with hk; subst hk
      intro b hb
      simp only [St.frz, frz_size]
      exact hr.lt (lt_of_get? hl) hb
    · rw [List.getElem?_set_ne ck] at hk
      refine (hr.obj k y hk).step hst rfl fun b hb => ?_
      have hne : b ≠ g := fun e => ck (hr.inj l k g (lt_of_get? hl) (lt_of_get? hk) hg (e ▸ hb))
      exact ⟨by simp only [St.frz, frz_size]; exact hr.lt (lt_of_get? hk) hb, fun _ => ⟨by simp only [St.frz]; exact frz_other _ _ _ _ hne, rfl⟩⟩
  · simp only [St.frz, frz_size] at hb ⊢
    exact hr.fresh b hb
/-- .. of no block at all. -/
theorem Step.frz0 (hr : RelH P s hp) {l m : Nat} {e : TypeId} (hl : hp[l]? = some (.buf e m)) : Step s hp s (hp.set l (.buf e (m + 1))) where
  os := rfl
  tape := rfl
  output := rfl
  size := Nat.le_refl _
  seal_ := Seal.refl _ _
  foreign := fun _ _ _ => ⟨rfl, rfl⟩
  from_ := fun k b hk hb => .inr ⟨k, by simpa using hk, hb⟩
  len := by simp
  buf := fun k e' n' hk => by
    by_cases ck : l = k
    · subst ck
      rw [hl] at hk; injection hk with hk; injection hk with h1 h2; subst h1; subst h2
      exact ⟨m + 1, by simp [lt_of_get? hl], by omega, fun h => by omega⟩
    · exact ⟨n', by rw [List.getElem?_set_ne ck]; exact hk, Nat.le_refl _, fun _ => ⟨rfl, fun b hb => ⟨rfl, rfl⟩⟩⟩
  obj := fun k o hk ho => by
    by_cases ck : l = k
    · subst ck; rw [hl] at hk; injection hk with hk; subst hk; simp [AObj.isBuf] at ho
    · exact ⟨⟨o, by rw [List.getElem?_set_ne ck]; exact hk, ho⟩, rfl⟩
theorem RelH.frz0 (hr : RelH P s hp) {l m : Nat} {e : TypeId} (hl : hp[l]? = some (.buf e m)) : RelH P s (hp.set l (.buf e (m + 1))) := by
  have hst := Step.frz0 hr hl
  refine ⟨fun i j b hi hj h1 h2 => hr.inj i j b (by simpa using hi) (by simpa using hj) h1 h2, fun k y hk => ?_, hr.fresh⟩
  by_cases ck : l = k
  · subst ck
    rw [List.getElem?_set_self (lt_of_get? hl)] at hk; injection hk with hk; subst hk
    intro b hb
    exact hr.lt (lt_of_get? hl) hb
  · rw [List.getElem?_set_ne ck] at hk
    exact (hr.obj k y hk).step hst rfl fun b hb => ⟨hr.lt (lt_of_get? hk) hb, fun _ => ⟨rfl, rfl⟩⟩
end
section
variable {P : Program} {N : Nat} {s : St} {fr : Fr} {hp : AHeap} {a : Act} {o : Oper} {next : Act → World → Prop} {Q : Exit → Act → World → Prop}
variable {K : FV → AHeap → Prop} (hr : Rel P N s fr hp a) (hK : Gives P N s fr hp a o K next)
include hr hK
theorem ok_ptrEq {neg : Bool} {op : BinOp} {t te u : TypeId} {j : TypeInfo} {x y : Operand} {x' y' : Arg} (ho : o.op = .binOp op t x y u) (hop : op = if neg then .neq else .eql) (ht : P.underlying t = some (.pointer te)) (hj : P.info? te = some j)
    (hx : ArgOK P x x') (hy : ArgOK P y y') (h : rop P (.pr (.ptrEq neg) [x', y']) fr hp K) : o.wp P a s.w next Q := by
  simp only [rop, List.map_cons, List.map_nil, prV] at h
  obtain ⟨b, hb⟩ : ∃ b, ptrSame (ev fr x') (ev fr y') = some b := by
    cases hq : ptrSame (ev fr x') (ev fr y') with
    | none => rw [hq] at h; exact h.elim
    | some b => exact ⟨b, rfl⟩
  rw [hb] at h
  simp only [Option.map_some] at h
  have h1 := hx N s fr hp a hr
  have h2 := hy N s fr hp a hr
  obtain ⟨p, q, hv, hv2, key⟩ : ∃ p q, a.eval x = .pointer p ∧ a.eval y = .pointer q ∧ ∀ d, (Op.equalIn (d + 1) t (.pointer p) (.pointer q)).run P s.w = .ok b s.w := by
    generalize a.eval x = v at h1
    generalize a.eval y = u at h2
    unfold ptrSame at hb
    split at hb
    · rename_i e1 e2; rw [e1] at h1; rw [e2] at h2; injection hb with hb; subst hb
      cases h1; cases h2; exact ⟨_, _, rfl, rfl, fun d => by simp [Op.equalIn, run_underlying ht]⟩
    · rename_i e1 e2; rw [e1] at h1; rw [e2] at h2; injection hb with hb; subst hb
      cases h1; cases h2; exact ⟨_, _, rfl, rfl, fun d => by simp [Op.equalIn, run_underlying ht]⟩
    · rename_i e1 e2; rw [e1] at h1; rw [e2] at h2; injection hb with hb; subst hb
      cases h1; cases h2; exact ⟨_, _, rfl, rfl, fun d => by simp [Op.equalIn, run_underlying ht]⟩
    · rename_i e1 e2; rw [e1] at h1; rw [e2] at h2; injection hb with hb; subst hb
      cases h1; cases h2; exact ⟨_, _, rfl, rfl, fun d => by simp [Op.equalIn, run_underlying ht]⟩
    · rename_i e1 e2; rw [e1] at h1; rw [e2] at h2; injection hb with hb; subst hb
      cases h1; cases h2; exact ⟨_, _, rfl, rfl, fun d => by simp [Op.equalIn, run_underlying ht]⟩
    · rename_i l o l' o' e1 e2
      split at hb
      · rename_i q1 q2
        rw [e1] at h1; rw [e2] at h2; injection hb with hb; subst hb
        have q1 := Nat.eq_of_beq_eq_true q1
        have q2 := Nat.eq_of_beq_eq_true q2
        subst q1; subst q2
        cases h1 with
        | vp _ _ b1 o1 k1 k2 k3 =>
          cases h2 with
          | vp _ _ b2 o2 j1 j2 j3 =>
            rw [k3] at j3; injection j3 with j3; subst j3
            exact ⟨_, _, rfl, rfl, fun d => by simp [Op.equalIn, run_underlying ht, sizeOf, typeInfo, hj, run_sameAddr_same]⟩
      · cases hb
    · cases hb
  have heq : (Op.equal t (.pointer p) (.pointer q)).run P s.w = .ok b s.w := key 9999
  have hg : (eqGuard op t x y (.pointer p) (.pointer q)).run P s.w = .ok () s.w := eqGuard_ok (by simp) (by simp)
  refine wp_value (v := .bool (negB neg b)) (w' := s.w) ?_ (hK _ _ s hp (.d _ _ (.bool _)) hr (.refl _ _) h)
  cases neg with
  | true => simp only [if_true] at hop; subst hop; simp [execOp, ho, hv, hv2, hg, binOp, heq, negB]
  | false => simp only [Bool.false_eq_true, if_false] at hop; subst hop; simp [execOp, ho, hv, hv2, hg, binOp, heq, negB]
theorem ok_shr {t u : TypeId} {x y : Operand} {x' y' : Arg} (ho : o.op = .binOp .shr t x y u) (hx : ArgOK P x x') (hy : ArgOK P y y') (h : rop P (.pr .shr [x', y']) fr hp K) : o.wp P a s.w next Q := by
  simp only [rop, List.map_cons, List.map_nil, prV] at h
  split at h
  · rename_i v hv
    split at hv
    case h_2 => cases hv
    rename_i k n k' m hvs
    injection hvs with e1 e2
    injection e2 with e2 _
    split at hv
    · rename_i hk1 hk2
      have hk1 := of_decide_eq_true hk1
      have hk2 := of_decide_eq_true hk2
      injection hv with hv
      subst hv
      have h1 := hx N s fr hp a hr
      have h2 := hy N s fr hp a hr
      rw [e1] at h1; rw [e2] at h2
      have v1 := h1.int
      have v2 := h2.int
      have hg : (eqGuard .shr t x y (.int k n) (.int k' m)).run P s.w = .ok () s.w := eqGuard_ok (by simp) (by simp)
      refine wp_value (v := .int k (n / 2 ^ m.toNat)) (w' := s.w) ?_ (hK _ _ s hp (.d _ _ (.int _ _)) hr (.refl _ _) h)
      have hs := shift_shr k k' n m hk1 hk2
      simp [execOp, ho, v1, v2, hg, binOp, hs]
    · cases hv
  · exact h.elim
theorem ok_toU {t d te : TypeId} {j : TypeInfo} {x : Operand} {x' : Arg} (ho : o.op = .convert t d x) (ht : P.underlying t = some (.pointer te)) (hd : P.underlying d = some .unsafePointer) (hj : P.info? te = some j) (hj0 : j.size ≠ 0)
    (hx : ArgOK P x x') (h : rop P (.ef .toU [x']) fr hp K) : o.wp P a s.w next Q := by
  simp only [rop, List.map_cons, List.map_nil, efP] at h
  split at h
  case h_2 => exact h.elim
  rename_i l hvs
  injection hvs with e1 _
  split at h
  case h_2 => exact h.elim
  rename_i t0 c0 cs hl
  have h1 := hx N s fr hp a hr
  rw [e1] at h1
  have h1' := h1
  generalize hv : a.eval x = v at h1
  cases h1 with
  | vp _ _ b ob k1 k2 k3 =>
    obtain ⟨b', vs, q1, q2, q3, q4⟩ := hr.heap.obj l _ hl
    rw [k3] at q1; injection q1 with q1; subst q1
    have hsz : vs.size = (c0 :: cs).length := q4.1
    refine wp_value (v := .pointer (some ⟨b, 0, none⟩)) (w' := s.w) ?_ (hK _ _ s hp (by rw [hv] at h1'; exact h1') hr (.refl _ _) h)
    have := Lib.run_to_unsafe (P := P) s.w (src := t) (dst := d) (e := t0) (cells := vs.size) ⟨b, 0, none⟩ ht hd hj hj0 (by simp [World.shape?, q2]) (by simp [hsz])
    simp only [execOp, ho, hv, Sem.run_bind, this, Result.andThen_ok]
    rfl
theorem ok_ofU {t d u : TypeId} {j : TypeInfo} {x : Operand} {x' : Arg} (ho : o.op = .convert t d x) (ht : P.underlying t = some .unsafePointer) (hd : P.underlying d = some (.pointer u)) (hj : P.info? u = some j)
    (hc : 0 < P.cellsOf u) (hlies : liesAt P P.depth u 1 0 u 1 = true) (hx : ArgOK P x x') (h : rop P (.ef (.ofU u (P.cellsOf u)) [x']) fr hp K) : o.wp P a s.w next Q := by
  simp only [rop, List.map_cons, List.map_nil, efP] at h
  split at h
  case h_2 => exact h.elim
  rename_i l hvs
  injection hvs with e1 _
  split at h
  case h_2 => exact h.elim
  rename_i t0 cs hl
  obtain ⟨rfl, hcs, h⟩ := h
  have h1 := hx N s fr hp a hr
  rw [e1] at h1
  have h1' := h1
  generalize hv : a.eval x = v at h1
  cases h1 with
  | vp _ _ b ob k1 k2 k3 =>
    obtain ⟨b', vs, q1, q2, q3, q4⟩ := hr.heap.obj l _ hl
    rw [k3] at q1; injection q1 with q1; subst q1
    have hsz : vs.size = cs.length := q4.1
    refine wp_value (v := .pointer (some ⟨b, 0, none⟩)) (w' := s.w) ?_ (hK _ _ s hp (by rw [hv] at h1'; exact h1') hr (.refl _ _) h)
    have := Lib.run_from_unsafe (P := P) s.w (src := t) (dst := d) (e := t0) (cells := P.cellsOf t0) ⟨b, 0, none⟩ ht hd hj (by simp [World.shape?, q2, hsz, hcs]) (by rw [Nat.div_self hc]; exact hlies)
    simp only [execOp, ho, hv, Sem.run_bind, this, Result.andThen_ok]
    rfl
theorem ok_noEscape {f : FuncId} {fn : Func} {x : Operand} {x' : Arg} {ts : Array TypeId} (ho : o.op = .call { callee := .value (.func f), args := #[x], argTypes := ts }) (hf : P.funcs[f]? = some fn) (hb : fn.body.isNone = true) (hn : fn.name = "internal/abi.NoEscape") (h0 : fn.origin = "")
    (hx : ArgOK P x x') (h : rop P (.pr .idU [x']) fr hp K) : o.wp P a s.w next Q := by
  simp only [rop, List.map_cons, List.map_nil, prV] at h
  have h1 := hx N s fr hp a hr
  have hcall := run_callFunc_extern (P := P) hf (by rw [hn]; rfl) hb (next_noEscape hn h0) (find_noEscape hn) #[a.eval x] s.w
  refine wp_value (v := a.eval x) (w' := s.w) ?_ (hK _ _ s hp h1 hr (.refl _ _) h)
  have hfv : a.eval (.func f) = .func (.func f) #[] #[] := rfl
  have hs : (Extern.AbiNoEscape.same #[a.eval x]).run P s.w = .ok (a.eval x) s.w := rfl
  rw [hs] at hcall
  simp only [Result.andThen_ok] at hcall
  simp [execOp, ho, resolve, hfv, Deferred.ofValue, invoke, hcall]
theorem ok_sliceData {t e : TypeId} {x : Operand} {x' : Arg} (ho : o.op = .call { callee := .builtin .unsafeSliceData, args := #[x], argTypes := #[t] }) (hty : P.underlying o.type = some (.pointer e)) (hx : ArgOK P x x')
    (h : rop P (.ef (.sliceData e) [x']) fr hp K) : o.wp P a s.w next Q := by
  simp only [rop, List.map_cons, List.map_nil, efP] at h
  have hop : ∀ v w', (Builtin.unsafeSliceData_ #[t] o.type #[a.eval x]).run P s.w = .ok v w' → (execOp a.eval o).run P s.w = .ok (.value v) w' := by
    intro v w' hrun
    unfold execOp
    simp only [ho, resolve, invoke, builtin, Sem.run_bind, Sem.run_pure, Result.andThen_ok, List.map_toArray, List.map_cons, List.map_nil, hrun]
  have h1 := hx N s fr hp a hr
  split at h
  · rename_i e1 rows l hvs
    injection hvs with hown _
    obtain ⟨rfl, hbuf, h⟩ := h
    rw [hown] at h1
    generalize hv : a.eval x = v at h1
    cases h1 with
    | own _ _ _ _ n hrep hb hle tip =>
      rw [hbuf] at hb; injection hb with hb; injection hb with _ hb; subst hb
      rcases tip rfl with ⟨t1, rfl, t3⟩ | ⟨g, cap, cur, rfl, t2, t3, t4, t5, t6, t7⟩
      · refine wp_value (hop _ _ (by rw [hv]; exact Lib.run_unsafeSliceData_nil (P := P) s.w _ _ 0 0)) (hK _ _ s hp ?_ hr (.refl _ _) h)
        exact .sd e1 rows l _ none _ hrep hbuf (Nat.le_refl _) (fun hne => absurd (List.eq_nil_of_length_eq_zero t1) hne) fun _ => .inl ⟨t1, rfl, t3⟩
      · by_cases hc : cap = 0
        · subst hc
          have h0 : rows = [] := List.eq_nil_of_length_eq_zero (by omega)
          subst h0
          have hrun := Lib.run_unsafeSliceData_zero (P := P) s.w #[t] o.type e1 hty ⟨g, 0, none⟩ 0 (e1, cur.size) (by simp [World.shape?, t3])
          have hst := Step.extra hr.heap (.view ⟨g, 0, none⟩ e1)
          have hrl := hr.heap.extra (.view ⟨g, 0, none⟩ e1)
          refine wp_value (hop _ _ (by rw [hv]; exact hrun)) (hK _ _ (s.extra (.view ⟨g, 0, none⟩ e1)) hp ?_ (hr.step hst hrl) hst h)
          have hlt : g < s.w.heap.size := (Array.getElem?_eq_some_iff.1 t3).1
          refine .sd e1 [] l (.slice (some ⟨g, 0, none⟩) 0 0) _ 0 (.sl0 _ _ _) hbuf (Nat.le_refl _) (fun hne => absurd rfl hne) fun _ => .inr ⟨g, 0, cur, rfl, t2, ?_, Nat.le_refl _, t5, t6, ?_⟩
          · simp only [St.extra]; rw [hao s.w _ g hlt]; exact t3
          · simp only [St.extra]; rw [if_neg (Nat.ne_of_lt hlt)]; exact t7
        · refine wp_value (hop _ _ (by rw [hv]; exact Lib.run_unsafeSliceData_row (P := P) s.w _ _ ⟨g, 0, none⟩ _ _ hc)) (hK _ _ s hp ?_ hr (.refl _ _) h)
          exact .sd e1 rows l _ _ _ hrep hbuf (Nat.le_refl _) (fun _ => ⟨⟨g, 0, none⟩, _, _, rfl, rfl⟩) fun _ => .inr ⟨g, cap, cur, rfl, t2, t3, t4, t5, t6, t7⟩
  · rename_i e1 hvs
    injection hvs with hown _
    rw [hown] at h1
    generalize hv : a.eval x = v at h1
    cases h1
    exact wp_value (hop _ _ (by rw [hv]; exact Lib.run_unsafeSliceData_nil (P := P) s.w _ _ 0 0)) (hK _ _ s hp .nilp hr (.refl _ _) h)
  · exact h.elim
theorem ok_unsafeStr {pt it e : TypeId} {x y : Operand} {x' y' : Arg} (ho : o.op = .call { callee := .builtin .unsafeString, args := #[x, y], argTypes := #[pt, it] }) (hpt : P.underlying pt = some (.pointer e)) (hc : P.cellsOf e = 1) (he : esize P e = 1)
    (hx : ArgOK P x x') (hy : ArgOK P y y') (h : rop P (.ef (.unsafeStr e) [x', y']) fr hp K) : o.wp P a s.w next Q := by
  simp only [rop, List.map_cons, List.map_nil, efP] at h
  have hop : ∀ v w', (Builtin.unsafeString_ #[pt, it] o.type #[a.eval x, a.eval y]).run P s.w = .ok v w' → (execOp a.eval o).run P s.w = .ok (.value v) w' := by
    intro v w' hrun
    unfold execOp
    simp only [ho, resolve, invoke, builtin, Sem.run_bind, Sem.run_pure, Result.andThen_ok, List.map_toArray, List.map_cons, List.map_nil, hrun]
  have h1 := hx N s fr hp a hr
  have h2 := hy N s fr hp a hr
  split at h
  · rename_i e1 rows l n hvs
    injection hvs with hsd hvs
    injection hvs with hn _
    obtain ⟨rfl, rfl, hbuf, bs, hrows, h⟩ := h
    rw [hsd] at h1
    rw [hn] at h2
    have hyv := h2.int
    have hrl : rows.length = bs.length := by rw [hrows]; simp
    generalize hv : a.eval x = v at h1
    cases h1 with
    | sd _ _ _ v0 p m hrep hb hle hpp tip =>
      rw [hbuf] at hb; injection hb with hb; injection hb with _ hb; subst hb
      by_cases h0 : rows.length = 0
      · have hb0 : bs = [] := List.eq_nil_of_length_eq_zero (by omega)
        subst hb0
        have hrun := Lib.run_unsafeString_none (P := P) s.w pt it o.type p
        have hst := Step.frz0 hr.heap hbuf
        refine wp_value (v := .string ⟨([] : List UInt8).toArray⟩) (w' := s.w) (hop _ _ ?_) (hK _ _ s _ (.d _ _ (.str [] (by simp))) (hr.step hst (hr.heap.frz0 hbuf)) hst h)
        rw [hv, hyv, h0]; exact hrun
      · rcases tip rfl with ⟨t1, _, _⟩ | ⟨g, cap, cur, rfl, t2, t3, t4, t5, t6, t7⟩
        · exact absurd t1 h0
        · obtain ⟨ap, m', c', q1, q2⟩ := hpp (fun e => h0 (by simp [e]))
          injection q1 with q1 _ _
          injection q1 with q1
          subst q1
          subst q2
          have hroom := (rows_bound hrep).1
          have hmax : bs.length ≤ 9223372036854775807 := by
            cases hrep with
            | sl0 => simp at h0
            | sl _ _ _ _ _ _ cell k1 k2 k3 k4 => simp only [maxLen] at k4; omega
          have hcell : ∀ j z, bs[j]? = some z → s.w.cell? ((⟨g, 0, none⟩ : Addr).add j) = some (.int .u8 z.toNat) := by
            intro j z hj
            have hjl := lt_of_get? hj
            cases hrep with
            | sl0 => simp at h0
            | sl _ _ _ _ _ _ cell k1 k2 k3 k4 k5 k6 k7 k8 k9 =>
              have hj1 : j < rows.length := by omega
              have hz : bs[j] = z := by rw [List.getElem?_eq_getElem hjl] at hj; injection hj
              have hrow : rows[j] = [.int .u8 z.toNat] := by simp [hrows, byteRow, hz]
              have r1 := k6 j hj1 0 (by rw [hrow]; simp)
              have r2 := k9 j hj1 0 (by rw [hrow]; simp)
              simp only [hrow, List.getElem_cons_zero] at r2
              rw [he, Nat.mul_one, Nat.add_zero] at r1
              have r3 : cell j 0 = .int .u8 z.toNat := by generalize cell j 0 = zz at r2; cases r2; rfl
              rw [r3] at r1
              rw [Addr.add_lit]; exact r1
          have hrun := Lib.run_unsafeString_row (P := P) s.w pt it o.type e1 hpt hc g cur.size (by simp [World.shape?, t3]) bs (fun e => h0 (by rw [hrl, e]; rfl)) (by rw [t6, he]; omega) hmax hcell
          have hst := Step.frz (n := bs.length) hr.heap hbuf t2
          refine wp_value (v := .string ⟨bs.toArray⟩) (w' := (s.frz g bs.length).w) (hop _ _ ?_) (hK _ _ (s.frz g bs.length) _ (.d _ _ (.str bs hmax)) (hr.step hst (hr.heap.frz hbuf t2)) hst h)
          rw [hv, hyv, hrl]; exact hrun
  · rename_i n hvs
    injection hvs with hsd hvs
    injection hvs with hn _
    obtain ⟨rfl, h⟩ := h
    rw [hsd] at h1
    rw [hn] at h2
    have hyv := h2.int
    generalize hv : a.eval x = v at h1
    cases h1
    have hrun := Lib.run_unsafeString_none (P := P) s.w pt it o.type none
    refine wp_value (v := .string ⟨([] : List UInt8).toArray⟩) (w' := s.w) (hop _ _ ?_) (hK _ _ s _ (.d _ _ (.str [] (by simp))) hr (.refl _ _) h)
    rw [hv, hyv]; exact hrun
  · exact h.elim
theorem ok_mnz {f : FuncId} {fn : Func} {e t : TypeId} {x : Operand} {x' : Arg} {ts : Array TypeId} (ho : o.op = .call { callee := .value (.func f), args := #[x], argTypes := ts }) (hf : P.funcs[f]? = some fn) (hb : fn.body.isNone = true) (hn : fn.name = "internal/bytealg.MakeNoZero") (h0 : fn.origin = "")
    (hrt : fn.resultTypes = #[t]) (ht : P.underlying t = some (.slice e)) (he : esize P e = 1) (heb : ebytes P e = 1) (hx : ArgOK P x x') (h : rop P (.ef (.mnz e) [x']) fr hp K) : o.wp P a s.w next Q := by
  simp only [rop, List.map_cons, List.map_nil, efP] at h
  split at h
  case h_2 => exact h.elim
  rename_i n hvs
  injection hvs with hn2 _
  obtain ⟨h1, h2, h⟩ := h
  have hxr := hx N s fr hp a hr
  rw [hn2] at hxr
  have hxv := hxr.int
  obtain ⟨m, rfl⟩ : ∃ m : Nat, n = m := ⟨n.toNat, by omega⟩
  simp only [Int.toNat_natCast] at h
  have hm : m ≤ 140737488355328 := by simp only [roomB] at h2; omega
  obtain ⟨cs, hrun, hle, hmax⟩ := Lib.run_makeNoZero (P := P) s.w fn.params t e ht m (by omega)
  have hcall := run_callFunc_extern (P := P) hf (by rw [hn]; rfl) hb (next_mnz hn h0) (find_mnz hn) #[.int .i64 m] s.w
  rw [hrt] at hcall
  rw [hrun] at hcall
  simp only [Result.andThen_ok] at hcall
  have hmx := hmax (by simp only [maxLen]; omega)
  have hstd := Step.drew s hp
  have hstd2 := Step.drew s.drew hp
  have hrd := hr.heap.drew.drew
  have hst := Step.push hrd (.cells cs e) 0 (.buf e 0)
  have hrl := hrd.push (.cells cs e) 0 (.buf e 0) (fun b hb => by simp [St.push] at hb ⊢; omega)
  have hall := (hstd.trans hstd2).trans hst
  refine wp_value (v := .slice (some ⟨s.w.heap.size, 0, none⟩) m cs.size) (w' := (s.drew.drew.push hp (.cells cs e) 0).w) ?_ (hK _ _ (s.drew.drew.push hp (.cells cs e) 0) _ ?_ (hr.step hall hrl) hall h)
  · have hfv : a.eval (.func f) = .func (.func f) #[] #[] := rfl
    simp only [execOp, ho, resolve, hfv, Deferred.ofValue, invoke, hxv, hcall, Sem.run_bind, Sem.run_pure, Result.andThen_ok, List.map_toArray, List.map_cons, List.map_nil, Array.empty_append, Array.append_empty]
    first | rfl | (simp [hcall]; rfl) | simp [hcall]
  · refine .raw e hp.length m s.w.heap.size cs.size 0 (by simp) hle hmx (by rw [heb]; simp only [roomB]; omega) fun _ => ⟨cs, by simp [St.push, St.drew], ?_, by rw [he, Nat.mul_one], by simp [St.push, St.drew]⟩
    exact heap_alloc_new s.w.drew.drew _
theorem ok_capN {t e : TypeId} {x : Operand} {x' : Arg} (ho : o.op = .call { callee := .builtin .cap, args := #[x], argTypes := #[t] }) (ht : P.underlying t = some (.slice e)) (hx : ArgOK P x x') (h : rop P (.ef .capN [x']) fr hp K) : o.wp P a s.w next Q := by
  simp only [rop, List.map_cons, List.map_nil, efP] at h
  split at h
  case h_2 => exact h.elim
  rename_i e1 hvs
  injection hvs with hn _
  have h1 := hx N s fr hp a hr
  rw [hn] at h1
  generalize hv : a.eval x = v at h1
  cases h1
  refine wp_value (v := .int .i64 0) (w' := s.w) ?_ (hK _ _ s hp (.d _ _ (.int _ _)) hr (.refl _ _) h)
  simp [execOp, ho, resolve, invoke, builtin, hv, Builtin.cap_, run_underlying ht, goInt]
theorem ok_copyNil {t e : TypeId} {sz : Nat} {x y : Operand} {x' y' : Arg} {u : TypeId} (ho : o.op = .call { callee := .builtin .copy, args := #[x, y], argTypes := #[t, u] }) (ht : P.underlying t = some (.slice e)) (hi : (P.info? e).map (·.size) = some sz) (hx : ArgOK P x x') (hy : ArgOK P y y')
    (h : rop P (.ef .copyNil [x', y']) fr hp K) : o.wp P a s.w next Q := by
  obtain ⟨i0, hi0, hs0⟩ := Option.map_eq_some_iff.1 hi
  simp only [rop, List.map_cons, List.map_nil, efP] at h
  split at h
  case h_2 => exact h.elim
  rename_i e1 rows l e2 hvs
  injection hvs with hown hvs
  injection hvs with hnil _
  have h1 := hx N s fr hp a hr
  have h2 := hy N s fr hp a hr
  rw [hown] at h1
  rw [hnil] at h2
  generalize hv : a.eval x = v at h1
  generalize hv2 : a.eval y = v2 at h2
  cases h2
  cases h1 with
  | own _ _ _ _ n hrep hb hle tip =>
    obtain ⟨_, B, cap, rfl, hcap⟩ := rows_bound hrep
    refine wp_value (v := .int .i64 0) (w' := s.w) ?_ (hK _ _ s hp (.d _ _ (.int _ _)) hr (.refl _ _) h)
    cases B <;> simp [execOp, ho, resolve, invoke, builtin, hv, hv2, Builtin.copy_, run_underlying ht, goInt, sizeOf, typeInfo, hi0, Builtin.lenOf, Builtin.firstCells, storeCells]
end
end Go.Pg
set_option linter.unusedVariables false
namespace Go.Pg
def resArgs (P : Program) : List TypeId → List Operand → Option (List Arg)
  | _, [] => some []
  | ts, x :: xs => match resArg P (ts.headD 0) x, resArgs P ts.tail xs with
    | some y, some ys => some (y :: ys)
    | _, _ => none
theorem resArgs_ok {P : Program} : ∀ {ts : List TypeId} {xs : List Operand} {ys : List Arg}, resArgs P ts xs = some ys → xs.length = ys.length ∧ ∀ i (h1 : i < xs.length) (h2 : i < ys.length), ArgOK P xs[i] ys[i]
  | ts, [], ys, h => by simp [resArgs] at h; subst h; exact ⟨rfl, fun i h1 => by simp at h1⟩
  | ts, x :: xs, ys, h => by
    simp only [resArgs] at h
    split at h
    · rename_i y zs hy hzs
      injection h with h; subst h
      obtain ⟨k1, k2⟩ := resArgs_ok hzs
      refine ⟨by simp [k1], fun i h1 h2 => ?_⟩
      cases i with
      | zero => exact resArg_ok hy
      | succ i => simp only [List.getElem_cons_succ]; exact k2 i (by simpa using h1) (by simpa using h2)
    · cases h
def cellTypes (P : Program) : Nat → TypeId → Option (List TypeId)
  | 0, _ => none
  | n + 1, t => match P.underlying t with
    | some (.struct fs) => fs.toList.foldr (fun f acc => match cellTypes P n f.type, acc with | some a, some b => some (a ++ b) | _, _ => none) (some [])
    | some (.array _ _) => none
    | some _ => some [t]
    | none => none
def zeroFV (P : Program) (t : TypeId) : Option (List FV) :=
  match P.info? t with
  | some i => match i.zero with
    | some z => match cellTypes P 8 t with
      | some ts => if z.cells.toList.length = ts.length ∧ z.cells.toList.all (·.oneCell') = true then some (List.zipWith (fun ty v => (constFV P ty v).getD .any) ts z.cells.toList) else none
      | none => none
    | none => none
  | none => none
theorem zeroFV_ok {P : Program} {t : TypeId} {zs : List FV} (h : zeroFV P t = some zs) : ZeroOK P t zs := by
  unfold zeroFV at h
  split at h
  · rename_i i hi
    split at h
    · rename_i z hz
      split at h
      · rename_i ts hts
        split at h
        · rename_i hc
          injection h with h; subst h
          obtain ⟨h1, h2⟩ := hc
          refine ⟨i, z, hi, hz, fun s hp => ⟨by simp at h1 ⊢; omega, fun j hj => ?_, fun j hj hj2 => ?_⟩⟩
          · have := List.all_eq_true.1 h2 z.cells[j] (by simp)
            exact this
          · simp only [List.getElem_zipWith, Array.getElem_toList]
            cases hcf : constFV P ts[j] z.cells[j] with
            | none => exact .any _
            | some x => exact constFV_ok hcf
        · cases h
      · cases h
    · cases h
  · cases h
def resParts (P : Program) (fs : Array Field) : List (Nat × Operand) → Option (List (Nat × Nat × Arg))
  | [] => some []
  | (i, x) :: r => match fs[i]?, resParts P fs r with
    | some f, some rs => match resArg P f.type x with
      | some y => some ((f.offset, esize P f.type, y) :: rs)
      | none => none
    | _, _ => none
theorem resParts_ok {P : Program} {fs : Array Field} : ∀ {xs : List (Nat × Operand)} {ys : List (Nat × Nat × Arg)}, resParts P fs xs = some ys → xs.length = ys.length ∧
    ∀ i (h1 : i < xs.length) (h2 : i < ys.length), (fs[xs[i].1]?).map (fun f => (f.offset, esize P f.type)) = some (ys[i].1, ys[i].2.1) ∧ ArgOK P xs[i].2 ys[i].2.2
  | [], ys, h => by simp [resParts] at h; subst h; exact ⟨rfl, fun i h1 => by simp at h1⟩
  | (i, x) :: r, ys, h => by
    simp only [resParts] at h
    split at h
    · rename_i f rs hf hrs
      split at h
      · rename_i y hy
        injection h with h; subst h
        obtain ⟨k1, k2⟩ := resParts_ok hrs
        refine ⟨by simp [k1], fun j h1 h2 => ?_⟩
        cases j with
        | zero => simp only [List.getElem_cons_zero, hf, Option.map_some]; exact ⟨trivial, resArg_ok hy⟩
        | succ j => simp only [List.getElem_cons_succ]; exact k2 j (by simpa using h1) (by simpa using h2)
      · cases h
    · cases h
def resOpt (P : Program) : Option Operand → Option (Option Arg)
  | none => some none
  | some x => match resArg P 0 x with
    | some y => some (some y)
    | none => none
theorem resOpt_ok {P : Program} {x : Option Operand} {y : Option Arg} (h : resOpt P x = some y) : OptOK P x y := by
  cases x with
  | none => simp [resOpt] at h; subst h; exact .inl ⟨rfl, rfl⟩
  | some x =>
    simp only [resOpt] at h
    split at h
    · rename_i z hz; injection h with h; subst h; exact .inr ⟨x, z, rfl, rfl, resArg_ok hz⟩
    · cases h
def esz? (P : Program) (t : TypeId) : Option Nat := (P.info? t).map (·.size)
/-- An operation, its types resolved; 'mt': the slots whose variables or rows are one's own. -/
def resOp (P : Program) (mt : List Nat) (o : Oper) : Option ROp :=
  match o.op with
  | .move x => (resArg P o.type x).map .mv
  | .assign x => (resArg P o.type x).map .mv
  | .pick c x y => match resArg P 0 c, resArg P o.type x, resArg P o.type y with
    | some c', some x', some y' => some (.pick c' x' y')
    | _, _, _ => none
  | .box t x => (resArg P t x).map fun y => if o.dst.any mt.contains then .boxM t y else .boxI y
  | .alloc t => (zeroFV P t).map (.alloc t)
  | .build t parts => match P.underlying t, zeroFV P t with
    | some (.struct fs), some zs => if fs.toList.all (fun f => (P.info? f.type).isSome) then (resParts P fs parts.toList).map (.build zs) else none
    | _, _ => none
  | .buildSlice t len parts => match P.underlying t with
    | some (.slice e) => match P.info? e with
      | some ie => if ie.zero.isSome ∧ 0 < ie.size ∧ len * ie.size ≤ 2 ^ 24 ∧ len = parts.size ∧ parts.toList.map (·.1) = List.range parts.size then
          (resArgs P (List.replicate parts.size e) (parts.toList.map (·.2))).map fun ys => if o.dst.any mt.contains then .litO e ie.size ys else .lit e ie.size ys
        else none
      | none => none
    | _ => none
  | .load t x => match P.underlying t, esz? P t, resArg P 0 x with
    | some d, some sz, some y => if isAggB d = true ∨ sz = 1 then some (if o.dst.any mt.contains then .ld (isAggB d) sz y else .ldc (isAggB d) sz y) else none
    | _, _, _ => none
  | .store t x y => match esz? P t, resArg P 0 x, resArg P t y with
    | some sz, some x', some y' => some (.st sz x' y')
    | _, _, _ => none
  | .fieldAddr t x i => match P.underlying t, resArg P 0 x with
    | some (.struct fs), some y => match fs[i]? with
      | some f => if esize P f.type ≠ 0 then some (.fa f.offset y) else none
      | none => none
    | _, _ => none
  | .nilCheck x => (resArg P 0 x).map .nck
  | .indexAddr t x i => match P.underlying t, resArg P t x, resArg P 0 i with
    | some (.slice e), some x', some i' => match esz? P e with
      | some sz => some (.ia e sz x' i')
      | none => none
    | _, _, _ => none
  | .index t x i => match P.underlying t, resArg P 0 x, resArg P 0 i with
    | some .string, some x', some i' => some (.ixs x' i')
    | _, _, _ => none
  | .field t x i => match P.underlying t, resArg P 0 x with
    | some (.struct fs), some y => match fs[i]? with
      | some f => match P.underlying f.type, esz? P f.type with
        | some d, some sz => if isAggB d = true ∨ sz = 1 then some (.fld (isAggB d) f.offset sz y) else none
        | _, _ => none
      | none => none
    | _, _ => none
  | .binOp op t x y _ => match resArg P 0 x, resArg P 0 y with
    | some x', some y' => some (.bin (match P.underlying t with | some .bool => true | _ => false) op x' y')
    | _, _ => none
  | .unOp .not _ x => (resArg P 0 x).map .not
  | .unOp .neg _ x => (resArg P 0 x).map .neg
  | .convert t u x => match P.underlying t, P.underlying u, resArg P 0 x with
    | some (.int _), some (.int k), some y => some (.conv k y)
    | _, _, _ => none
  | .slice t x lo hi none => match P.underlying t, resArg P 0 x, resOpt P lo, resOpt P hi with
    | some .string, some x', some lo', some hi' => some (.slS x' lo' hi')
    | some (.slice e), some x', some lo', some hi' => match esz? P e with
      | some sz => some (.slR e sz x' lo' hi')
      | none => none
    | _, _, _, _ => none
  | .extract x i => (resArg P 0 x).map (.ext i)
  | .makeFunc (.func f) first cap => match resArgs P [] first.toList, resArgs P [] cap.toList with
    | some a, some b => some (.mkf f a b)
    | _, _ => none
  | .call { callee := .builtin .len, args := args, argTypes := ts } => match args.toList, ts[0]? with
    | [x], some t => match P.underlying t, resArg P t x with
      | some .string, some y => some (.lenS y)
      | some (.slice e), some y => some (.lenR e (ebytes P e) y)
      | _, _ => none
    | _, _ => none
  | .call { callee := .builtin .append, args := args, argTypes := ts } => match args.toList, ts.toList with
    | [x, y], [t, t'] => match P.underlying t, resArg P t x, resArg P t y with
      | some (.slice e), some x', some y' => match P.info? e with
        | some ie => match ie.zero with
          | some z => if t' = t ∧ z.cells.size = ie.size ∧ 0 < ie.size ∧ 0 < ie.bytes then some (.app e ie.size ie.bytes x' y') else none
          | none => none
        | none => none
      | _, _, _ => none
    | _, _ => none
  | .call { callee := .builtin .max, args := args, argTypes := ts } => match args.toList with
    | [x, y] => match resArg P 0 x, resArg P 0 y with
      | some x', some y' => some (.max x' y')
      | _, _ => none
    | _ => none
  | .call { callee := .builtin .min, args := args, argTypes := ts } => match args.toList with
    | [x, y] => match resArg P 0 x, resArg P 0 y with
      | some x', some y' => some (.min x' y')
      | _, _ => none
    | _ => none
  | .call { callee := .value (.func f), args := args, argTypes := ts } => (resArgs P ts.toList args.toList).map (.call f)
  | .call { callee := .value (.tmp i), args := args, argTypes := ts } => (resArgs P ts.toList args.toList).map (.callv (.t i))
  | _ => none
section
variable {P : Program} {N : Nat} {s : St} {fr : Fr} {hp : AHeap} {a : Act} {o : Oper} {next : Act → World → Prop} {Q : Exit → Act → World → Prop}
variable {K : FV → AHeap → Prop}
theorem resOp_ok {mt : List Nat} {r : ROp} (hres : resOp P mt o = some r) (hr : Rel P N s fr hp a) (hK : Gives P N s fr hp a o K next) (h : rop P r fr hp K) : o.wp P a s.w next Q := by
  unfold resOp at hres
  split at hres
  · rename_i x ho
    obtain ⟨y, hy, rfl⟩ := Option.map_eq_some_iff.1 hres
    exact ok_mv hr hK (.inl ho) (resArg_ok hy) h
  · rename_i x ho
    obtain ⟨y, hy, rfl⟩ := Option.map_eq_some_iff.1 hres
    exact ok_mv hr hK (.inr ho) (resArg_ok hy) h
  · rename_i c x y ho
    split at hres
    · rename_i c' x' y' hc hx hy
      injection hres with hres; subst hres
      exact ok_pick hr hK ho (resArg_ok hc) (resArg_ok hx) (resArg_ok hy) h
    · cases hres
  · rename_i t x ho
    obtain ⟨y, hy, rfl⟩ := Option.map_eq_some_iff.1 hres
    split at h
    · exact ok_boxM hr hK ho (resArg_ok hy) h
    · exact ok_boxI hr hK ho (resArg_ok hy) h
  · rename_i t ho
    obtain ⟨zs, hz, rfl⟩ := Option.map_eq_some_iff.1 hres
    exact ok_alloc hr hK ho (zeroFV_ok hz) h
  · rename_i t parts ho
    split at hres
    · rename_i fs zs ht hz
      split at hres
      · rename_i hall
        obtain ⟨ys, hys, rfl⟩ := Option.map_eq_some_iff.1 hres
        obtain ⟨k1, k2⟩ := resParts_ok hys
        exact ok_build hr hK (by rw [ho, Array.toArray_toList]) ht (zeroFV_ok hz) (fun f hf => List.all_eq_true.1 hall f hf) k1 k2 h
      · cases hres
    · cases hres
  · rename_i t len parts ho
    split at hres
    · rename_i e ht
      split at hres
      · rename_i ie hie
        split at hres
        · rename_i hc
          obtain ⟨hz, hs0, hsm, hlen, hidx⟩ := hc
          obtain ⟨z, hz⟩ := Option.isSome_iff_exists.1 hz
          obtain ⟨ys, hys, rfl⟩ := Option.map_eq_some_iff.1 hres
          obtain ⟨k1, k2⟩ := resArgs_ok hys
          have hparts : parts = (((parts.toList.map (·.2)).zipIdx 0).map fun x => (x.2, x.1)).toArray := by
            apply Array.toList_inj.1
            simp only [List.toList_toArray]
            apply List.ext_getElem
            · simp
            · intro i h1 h2
              have h1' : i < parts.toList.length := h1
              have h3 : (parts.toList.map (·.1))[i]? = some i := by rw [hidx]; exact List.getElem?_range (by simpa using h1')
              rw [List.getElem?_map, List.getElem?_eq_getElem h1', Option.map_some] at h3
              injection h3 with h3
              rw [List.getElem_map, List.getElem_zipIdx, List.getElem_map]
              exact Prod.ext (by simpa using h3) rfl
          refine ok_lit hr hK ho hparts (by simp [hlen]) ht hie hz rfl hs0 (by simpa [hlen] using hsm) k1 k2 ?_
          split at h
          · exact .inr h
          · exact .inl h
        · cases hres
      · cases hres
    · cases hres
  · rename_i t x ho
    split at hres
    · rename_i d sz y hd hs hy
      split at hres
      · rename_i hc
        injection hres with hres; subst hres
        have h' : rop P (.ld (isAggB d) sz y) fr hp K := by
          split at h
          · exact h
          · simp only [rop] at h ⊢
            split at h
            · rename_i heq; rw [heq]; exact h
            · exact h.elim
        exact ok_ld hr hK ho hd hs (fun e => by rcases hc with hc | hc; (rw [hc] at e; cases e); exact hc) (resArg_ok hy) h'
      · cases hres
    · cases hres
  · rename_i t x y ho
    split at hres
    · rename_i sz x' y' hs hx hy
      injection hres with hres; subst hres
      exact ok_st hr hK ho hs (resArg_ok hx) (resArg_ok hy) h
    · cases hres
  · rename_i t x i ho
    split at hres
    · rename_i fs y ht hy
      split at hres
      · rename_i f hf
        split at hres
        · rename_i hz
          injection hres with hres; subst hres
          exact ok_fa hr hK ho ht hf rfl hz (resArg_ok hy) h
        · cases hres
      · cases hres
    · cases hres
  · rename_i x ho
    obtain ⟨y, hy, rfl⟩ := Option.map_eq_some_iff.1 hres
    exact ok_nck hr hK ho (resArg_ok hy) h
  · rename_i t x i ho
    split at hres
    · rename_i e x' i' ht hx hi
      split at hres
      · rename_i sz hs
        injection hres with hres; subst hres
        exact ok_ia hr hK ho ht hs (resArg_ok hx) (resArg_ok hi) h
      · cases hres
    · cases hres
  · rename_i t x i ho
    split at hres
    · rename_i x' i' ht hx hi
      injection hres with hres; subst hres
      exact ok_ixs hr hK ho ht (resArg_ok hx) (resArg_ok hi) h
    · cases hres
  · rename_i t x i ho
    split at hres
    · rename_i fs y ht hy
      split at hres
      · rename_i f hf
        split at hres
        · rename_i d sz hd hs
          split at hres
          · rename_i hc
            injection hres with hres; subst hres
            exact ok_fld (u := 0) hr hK ho ht hf rfl hd hs (fun e => by rcases hc with hc | hc; (rw [hc] at e; cases e); exact hc) (resArg_ok hy) (by cases isAggB d <;> simp) h
          · cases hres
        · cases hres
      · cases hres
    · cases hres
  · rename_i op t x y u ho
    split at hres
    · rename_i x' y' hx hy
      injection hres with hres; subst hres
      exact ok_bin hr hK ho (resArg_ok hx) (resArg_ok hy) (fun e => by split at e; assumption; cases e) h
    · cases hres
  · rename_i t x ho
    obtain ⟨y, hy, rfl⟩ := Option.map_eq_some_iff.1 hres
    exact ok_not hr hK ho (resArg_ok hy) h
  · rename_i t x ho
    obtain ⟨y, hy, rfl⟩ := Option.map_eq_some_iff.1 hres
    exact ok_neg hr hK ho (resArg_ok hy) h
  · rename_i t u x ho
    split at hres
    · rename_i k0 k y ht hu hy
      injection hres with hres; subst hres
      exact ok_conv hr hK ho ht hu (resArg_ok hy) h
    · cases hres
  · rename_i t x lo hi ho
    split at hres
    · rename_i x' lo' hi' ht hx hlo hhi
      injection hres with hres; subst hres
      exact ok_slS hr hK ho ht (resArg_ok hx) (resOpt_ok hlo) (resOpt_ok hhi) h
    · rename_i e x' lo' hi' ht hx hlo hhi
      split at hres
      · rename_i sz hs
        injection hres with hres; subst hres
        exact ok_slR hr hK ho ht hs (resArg_ok hx) (resOpt_ok hlo) (resOpt_ok hhi) h
      · cases hres
    · cases hres
  · rename_i x i ho
    obtain ⟨y, hy, rfl⟩ := Option.map_eq_some_iff.1 hres
    exact ok_ext hr hK ho (resArg_ok hy) h
  · rename_i f first cap ho
    split at hres
    · rename_i fa ca hfa hca
      injection hres with hres; subst hres
      obtain ⟨k1, k2⟩ := resArgs_ok hfa
      obtain ⟨k3, k4⟩ := resArgs_ok hca
      exact ok_mkf (t := 0) hr hK ho (by simpa using k1.symm) (by simpa using k3.symm) (fun i h1 h2 => by have := k2 i (by simpa using h1) h2; simpa using this) (fun i h1 h2 => by have := k4 i (by simpa using h1) h2; simpa using this) h
    · cases hres
  · rename_i args ts ho
    split at hres
    · rename_i x t hargs hts
      have ho' : o.op = .call { callee := .builtin .len, args := #[x], argTypes := ts } := by rw [ho]; congr 2; exact Array.toList_inj.1 hargs
      split at hres
      · rename_i y ht hy
        injection hres with hres; subst hres
        exact ok_lenS hr hK ho' hts ht (resArg_ok hy) h
      · rename_i e y ht hy
        injection hres with hres; subst hres
        exact ok_lenR hr hK ho' hts ht rfl (resArg_ok hy) h
      · cases hres
    · cases hres
  · rename_i args ts ho
    split at hres
    · rename_i x y t t' hargs hts
      split at hres
      · rename_i e x' y' ht hx hy
        split at hres
        · rename_i ie hie
          split at hres
          · rename_i z hz
            split at hres
            · rename_i hc
              obtain ⟨rfl, h1, h2, h3⟩ := hc
              have ho' : o.op = .call { callee := .builtin .append, args := #[x, y], argTypes := #[t', t'] } := by rw [ho]; congr 2; exact Array.toList_inj.1 hargs; exact Array.toList_inj.1 hts
              injection hres with hres; subst hres
              exact ok_app hr hK ho' ht hie hz rfl rfl h1 h2 h3 (resArg_ok hx) (resArg_ok hy) h
            · cases hres
          · cases hres
        · cases hres
      · cases hres
    · cases hres
  · rename_i args ts ho
    split at hres
    · rename_i x y hargs
      have ho' : o.op = .call { callee := .builtin .max, args := #[x, y], argTypes := ts } := by rw [ho]; congr 2; exact Array.toList_inj.1 hargs
      split at hres
      · rename_i x' y' hx hy
        injection hres with hres; subst hres
        exact ok_max hr hK ho' (resArg_ok hx) (resArg_ok hy) h
      · cases hres
    · cases hres
  · rename_i args ts ho
    split at hres
    · rename_i x y hargs
      have ho' : o.op = .call { callee := .builtin .min, args := #[x, y], argTypes := ts } := by rw [ho]; congr 2; exact Array.toList_inj.1 hargs
      split at hres
      · rename_i x' y' hx hy
        injection hres with hres; subst hres
        exact ok_min hr hK ho' (resArg_ok hx) (resArg_ok hy) h
      · cases hres
    · cases hres
  · rename_i f args ts ho
    obtain ⟨ys, hys, rfl⟩ := Option.map_eq_some_iff.1 hres
    obtain ⟨k1, k2⟩ := resArgs_ok hys
    exact ok_call hr hK (by rw [ho, Array.toArray_toList]) k1 k2 h
  · rename_i i args ts ho
    obtain ⟨ys, hys, rfl⟩ := Option.map_eq_some_iff.1 hres
    obtain ⟨k1, k2⟩ := resArgs_ok hys
    exact ok_callv (fx := .tmp i) (fy := .t i) hr hK (by rw [ho, Array.toArray_toList]) (fun N s fr hp a hr => hr.slot i) k1 k2 h
  · cases hres
end
/-- A map's zero value. -/
def lookZero (P : Program) (e : TypeId) : Option FV :=
  match P.info? e with
  | some i => match i.zero with
    | some (.agg cs) => if cs.size = 0 then some (.d (.agg [])) else none
    | some z => constFV P e z
    | none => none
  | none => none
theorem lookZero_ok {P : Program} {e : TypeId} {zero : FV} (h : lookZero P e = some zero) : ∃ i z, P.info? e = some i ∧ i.zero = some z ∧ ∀ s hp, RepF P s hp zero z := by
  unfold lookZero at h
  split at h
  · rename_i i hi
    split at h
    · rename_i cs hz
      split at h
      · rename_i hc
        injection h with h; subst h
        refine ⟨i, _, hi, hz, fun s hp => .d _ _ (.agg [] cs (by simpa using hc) (fun j hj => by omega) (fun j hj => by simp at hj))⟩
      · cases h
    · rename_i z _ hz
      exact ⟨i, z, hi, hz, fun s hp => constFV_ok h⟩
    · cases h
  · cases h
def isNilSlice : Operand → Bool
  | .const (.slice none 0 0) => true
  | _ => false
theorem isNilSlice_ok {x : Operand} (h : isNilSlice x = true) : x = .const (.slice none 0 0) := by
  unfold isNilSlice at h
  split at h
  · rfl
  · cases h
def resEq (P : Program) (neg : Bool) (t : TypeId) (x y : Operand) : Option ROp :=
  match P.underlying t with
  | some (.struct _) => match eqTree P 6 t, resArg P 0 x, resArg P 0 y with
    | some ks, some x', some y' => if P.eqGuardType P.depth t = false then some (.pr (.eqAgg ks neg) [x', y']) else none
    | _, _, _ => none
  | some (.slice _) => if isNilSlice y = true then (resArg P t x).map fun x' => .ef (.nilEq neg) [x'] else none
  | _ => none
/-- Operations of the later texts. -/
def resX (P : Program) (o : Oper) : Option ROp :=
  match o.op with
  | .binOp .eql t x y _ => resEq P false t x y
  | .binOp .neq t x y _ => resEq P true t x y
  | .binOp .and _ x y _ => match resArg P 0 x, resArg P 0 y with
    | some x', some y' => some (.pr (.bits .and) [x', y'])
    | _, _ => none
  | .binOp .or _ x y _ => match resArg P 0 x, resArg P 0 y with
    | some x', some y' => some (.pr (.bits .or) [x', y'])
    | _, _ => none
  | .binOp .xor _ x y _ => match resArg P 0 x, resArg P 0 y with
    | some x', some y' => some (.pr (.bits .xor) [x', y'])
    | _, _ => none
  | .unOp .xor _ x => (resArg P 0 x).map fun x' => .pr .notI [x']
  | .convert t u x => match P.underlying t, P.underlying u, resArg P t x with
    | some (.slice e), some .string, some x' => match P.underlying e with
      | some (.int .u8) => if esize P e = 1 ∧ ebytes P e = 1 then some (.pr (.toStr e) [x']) else none
      | _ => none
    | _, _, _ => none
  | .makeMap _ none => some (.ef .mkMap [])
  | .lookup t m k c => match P.underlying t with
    | some (.map kt e) => match P.underlying kt, lookZero P e, resArg P t m, resArg P 0 k with
      | some .string, some z, some m', some k' => some (.ef (.look z c) [m', k'])
      | _, _, _, _ => none
    | _ => none
  | .mapUpdate t m k x => match P.underlying t with
    | some (.map kt e) => match P.underlying kt, resArg P t m, resArg P 0 k, resArg P e x with
      | some .string, some m', some k', some x' => some (.ef .mapUpd [m', k', x'])
      | _, _, _, _ => none
    | _ => none
  | .range t x => match P.underlying t, resArg P 0 x with
    | some .string, some x' => some (.ef .rangeS [x'])
    | _, _ => none
  | .next x true => (resArg P 0 x).map fun x' => .ef .nextS [x']
  | .makeSlice t x y => match P.underlying t, resArg P 0 x, resArg P 0 y with
    | some (.slice e), some x', some y' => match P.info? e with
      | some ie => match ie.zero with
        | some z => match constFV P e z with
          | some zf => if ie.size = 1 ∧ 0 < ie.bytes ∧ z.oneCell' = true then some (.ef (.mkSl e ie.bytes zf) [x', y']) else none
          | none => none
        | none => none
      | none => none
    | _, _, _ => none
  | .indexAddr t (.global g) i => match P.underlying t, resArg P 0 i with
    | some (.array len e), some i' => if (P.info? e).map (·.size) = some 1 then some (.ef (.iaG g len) [i']) else none
    | _, _ => none
  | .call { callee := .value (.func f), args := args, argTypes := ts } => match P.funcs[f]? with
    | some fn => if fn.body.isNone = true ∧ fn.origin = "" then match args.toList with
        | [x, y] => match resArg P 0 x, resArg P 0 y with
          | some x', some y' => if fn.name = "internal/bytealg.IndexByteString" then some (.pr .idxS [x', y']) else if fn.name = "internal/bytealg.CountString" then some (.pr .cntS [x', y']) else none
          | _, _ => none
        | _ => none
      else none
    | none => none
  | _ => none
def resPtr (P : Program) (neg : Bool) (t : TypeId) (x y : Operand) : Option ROp :=
  match P.underlying t with
  | some (.pointer te) => match P.info? te, resArg P t x, resArg P t y with
    | some _, some x', some y' => some (.pr (.ptrEq neg) [x', y'])
    | _, _, _ => none
  | _ => none
def isZero8 : Option Value → Bool
  | some (.int .u8 0) => true
  | _ => false
theorem isZero8_ok {z : Option Value} (h : isZero8 z = true) : z = some (.int .u8 0) := by
  unfold isZero8 at h
  split at h
  · rfl
  · cases h
def resBuilt (P : Program) (ty : TypeId) (b : Builtin) (xs : List Operand) (ts : List TypeId) : Option ROp :=
  match b, xs, ts with
  | .append, [x, y], [t, u] => match P.underlying t, P.underlying u with
    | some (.slice e), some .string => match resArg P t x, resArg P u y, P.info? e with
      | some x', some y', some ie => if ie.size = 1 ∧ ie.bytes = 1 ∧ isZero8 ie.zero = true then some (.ef (.appS e) [x', y']) else none
      | _, _, _ => none
    | _, _ => none
  | .unsafeSliceData, [x], [t] => match P.underlying ty, resArg P t x with
    | some (.pointer e), some x' => some (.ef (.sliceData e) [x'])
    | _, _ => none
  | .unsafeString, [x, y], [pt, it] => match P.underlying pt, resArg P pt x, resArg P it y with
    | some (.pointer e), some x', some y' => if P.cellsOf e = 1 ∧ esize P e = 1 then some (.ef (.unsafeStr e) [x', y']) else none
    | _, _, _ => none
  | .cap, [x], [t] => match P.underlying t, resArg P t x with
    | some (.slice _), some x' => some (.ef .capN [x'])
    | _, _ => none
  | .copy, [x, y], [t, u] => match P.underlying t, resArg P t x, resArg P u y with
    | some (.slice e), some x', some y' => match (P.info? e).map (·.size) with
      | some _ => some (.ef .copyNil [x', y'])
      | none => none
    | _, _, _ => none
  | _, _, _ => none
def resExt1 (P : Program) (fn : Func) (x : Operand) : Option ROp :=
  match resArg P 0 x with
  | some x' =>
    if fn.name = "internal/abi.NoEscape" then some (.pr .idU [x'])
    else if fn.name = "internal/bytealg.MakeNoZero" then match fn.resultTypes.toList with
      | [t] => match P.underlying t with
        | some (.slice e) => if esize P e = 1 ∧ ebytes P e = 1 then some (.ef (.mnz e) [x']) else none
        | _ => none
      | _ => none
    else none
  | none => none
def resY (P : Program) (o : Oper) : Option ROp :=
  match o.op with
  | .binOp .eql t x y _ => resPtr P false t x y
  | .binOp .neq t x y _ => resPtr P true t x y
  | .binOp .shr _ x y _ => match resArg P 0 x, resArg P 0 y with
    | some x', some y' => some (.pr .shr [x', y'])
    | _, _ => none
  | .convert t d x => match P.underlying t, P.underlying d, resArg P t x with
    | some (.pointer te), some .unsafePointer, some x' => match P.info? te with
      | some j => if j.size = 0 then none else some (.ef .toU [x'])
      | none => none
    | some .unsafePointer, some (.pointer u), some x' => match P.info? u with
      | some _ => if 0 < P.cellsOf u ∧ liesAt P P.depth u 1 0 u 1 = true then some (.ef (.ofU u (P.cellsOf u)) [x']) else none
      | none => none
    | _, _, _ => none
  | .call { callee := .builtin b, args := args, argTypes := ts } => resBuilt P o.type b args.toList ts.toList
  | .call { callee := .value (.func f), args := args, argTypes := ts } => match P.funcs[f]? with
    | some fn => if fn.body.isNone = true ∧ fn.origin = "" then match args.toList with
        | [x] => resExt1 P fn x
        | _ => none
      else none
    | none => none
  | _ => none
/-- An operation, resolved: what can't be is marked so. -/
def resOp' (P : Program) (mt : List Nat) (o : Oper) : Option ROp :=
  match resY P o with
  | some r => some r
  | none => match resX P o with
  | some r => some r
  | none => match resOp P mt o with
    | some r => some r
    | none => some .bad
section
variable {P : Program} {N : Nat} {s : St} {fr : Fr} {hp : AHeap} {a : Act} {o : Oper} {next : Act → World → Prop} {Q : Exit → Act → World → Prop}
variable {K : FV → AHeap → Prop}
theorem resEq_ok {neg : Bool} {op : BinOp} {t u : TypeId} {x y : Operand} {r : ROp} (ho : o.op = .binOp op t x y u) (hop : op = if neg then .neq else .eql) (hres : resEq P neg t x y = some r) (hr : Rel P N s fr hp a) (hK : Gives P N s fr hp a o K next) (h : rop P r fr hp K) : o.wp P a s.w next Q := by
  unfold resEq at hres
  split at hres
  · rename_i fs ht
    split at hres
    · rename_i ks x' y' hks hx hy
      split at hres
      · rename_i hg
        injection hres with hres; subst hres
        exact ok_eqAgg hr hK ho hop (resArg_ok hx) (resArg_ok hy) (by omega) hks ⟨_, ht⟩ hg h
      · cases hres
    · cases hres
  · rename_i e ht
    split at hres
    · rename_i hn
      obtain ⟨x', hx, rfl⟩ := Option.map_eq_some_iff.1 hres
      exact ok_nilEq hr hK ho hop (resArg_ok hx) (isNilSlice_ok hn) ht h
    · cases hres
  · cases hres
theorem resX_ok {r : ROp} (hres : resX P o = some r) (hr : Rel P N s fr hp a) (hK : Gives P N s fr hp a o K next) (h : rop P r fr hp K) : o.wp P a s.w next Q := by
  unfold resX at hres
  split at hres
  · rename_i t x y u ho
    exact resEq_ok (neg := false) ho rfl hres hr hK h
  · rename_i t x y u ho
    exact resEq_ok (neg := true) ho rfl hres hr hK h
  · rename_i t x y u ho
    split at hres
    · rename_i x' y' hx hy
      injection hres with hres; subst hres
      exact ok_bits hr hK ho (.inl rfl) (resArg_ok hx) (resArg_ok hy) h
    · cases hres
  · rename_i t x y u ho
    split at hres
    · rename_i x' y' hx hy
      injection hres with hres; subst hres
      exact ok_bits hr hK ho (.inr (.inl rfl)) (resArg_ok hx) (resArg_ok hy) h
    · cases hres
  · rename_i t x y u ho
    split at hres
    · rename_i x' y' hx hy
      injection hres with hres; subst hres
      exact ok_bits hr hK ho (.inr (.inr rfl)) (resArg_ok hx) (resArg_ok hy) h
    · cases hres
  · rename_i t x ho
    obtain ⟨x', hx, rfl⟩ := Option.map_eq_some_iff.1 hres
    exact ok_notI hr hK ho (resArg_ok hx) h
  · rename_i t u x ho
    split at hres
    · rename_i e x' ht hu hx
      split at hres
      · rename_i he
        split at hres
        · rename_i hc
          injection hres with hres; subst hres
          exact ok_toStr hr hK ho ht he hu hc.1 hc.2 (resArg_ok hx) h
        · cases hres
      · cases hres
    · cases hres
  · rename_i t ho
    injection hres with hres; subst hres
    exact ok_mkMap hr hK ho h
  · rename_i t m k c ho
    split at hres
    · rename_i kt e ht
      split at hres
      · rename_i z m' k' hkt hz hm hk
        injection hres with hres; subst hres
        exact ok_look hr hK ho ht hkt (resArg_ok hm) (resArg_ok hk) (lookZero_ok hz) h
      · cases hres
    · cases hres
  · rename_i t m k x ho
    split at hres
    · rename_i kt e ht
      split at hres
      · rename_i m' k' x' hkt hm hk hx
        injection hres with hres; subst hres
        exact ok_mapUpd hr hK ho ht hkt (resArg_ok hm) (resArg_ok hk) (resArg_ok hx) h
      · cases hres
    · cases hres
  · rename_i t x ho
    split at hres
    · rename_i x' ht hx
      injection hres with hres; subst hres
      exact ok_rangeS hr hK ho ht (resArg_ok hx) h
    · cases hres
  · rename_i x ho
    obtain ⟨x', hx, rfl⟩ := Option.map_eq_some_iff.1 hres
    exact ok_nextS hr hK ho (resArg_ok hx) h
  · rename_i t x y ho
    split at hres
    · rename_i e x' y' ht hx hy
      split at hres
      · rename_i ie hie
        split at hres
        · rename_i z hz
          split at hres
          · rename_i zf hzf
            split at hres
            · rename_i hc
              injection hres with hres; subst hres
              exact ok_mkSl hr hK ho ht hie hz hc.1 rfl hc.2.1 hc.2.2 (fun s hp => constFV_ok hzf) (resArg_ok hx) (resArg_ok hy) h
            · cases hres
          · cases hres
        · cases hres
      · cases hres
    · cases hres
  · rename_i t g i ho
    split at hres
    · rename_i len e i' ht hi
      split at hres
      · rename_i hs
        injection hres with hres; subst hres
        exact ok_iaG hr hK ho ht hs (resArg_ok hi) h
      · cases hres
    · cases hres
  · rename_i f args ts ho
    split at hres
    · rename_i fn hf
      split at hres
      · rename_i hc
        split at hres
        · rename_i x y hargs
          have ho' : o.op = .call { callee := .value (.func f), args := #[x, y], argTypes := ts } := by rw [ho]; congr 2; exact Array.toList_inj.1 hargs
          split at hres
          · rename_i x' y' hx hy
            split at hres
            · rename_i hn
              injection hres with hres; subst hres
              exact ok_idxS hr hK ho' hf hc.1 hn hc.2 (resArg_ok hx) (resArg_ok hy) h
            · split at hres
              · rename_i hn
                injection hres with hres; subst hres
                exact ok_cntS hr hK ho' hf hc.1 hn hc.2 (resArg_ok hx) (resArg_ok hy) h
              · cases hres
          · cases hres
        · cases hres
      · cases hres
    · cases hres
  · cases hres
theorem resPtr_ok {neg : Bool} {op : BinOp} {t u : TypeId} {x y : Operand} {r : ROp} (ho : o.op = .binOp op t x y u) (hop : op = if neg then .neq else .eql) (hres : resPtr P neg t x y = some r) (hr : Rel P N s fr hp a) (hK : Gives P N s fr hp a o K next) (h : rop P r fr hp K) : o.wp P a s.w next Q := by
  unfold resPtr at hres
  split at hres
  · rename_i te ht
    split at hres
    · rename_i j x' y' hj hx hy
      injection hres with hres; subst hres
      exact ok_ptrEq hr hK ho hop ht hj (resArg_ok hx) (resArg_ok hy) h
    · cases hres
  · cases hres
theorem resBuilt_ok {b : Builtin} {args : Array Operand} {ts : Array TypeId} {r : ROp} (ho : o.op = .call { callee := .builtin b, args := args, argTypes := ts }) (hres : resBuilt P o.type b args.toList ts.toList = some r) (hr : Rel P N s fr hp a) (hK : Gives P N s fr hp a o K next) (h : rop P r fr hp K) : o.wp P a s.w next Q := by
  obtain ⟨xs, hxs⟩ : ∃ xs, args.toList = xs := ⟨_, rfl⟩
  obtain ⟨tl, htl⟩ : ∃ tl, ts.toList = tl := ⟨_, rfl⟩
  rw [hxs, htl] at hres
  have ha : args = xs.toArray := by rw [← hxs]
  have hta : ts = tl.toArray := by rw [← htl]
  subst ha; subst hta
  unfold resBuilt at hres
  split at hres
  · rename_i x y t u
    split at hres
    · rename_i e ht hu
      split at hres
      · rename_i x' y' ie hx hy hi
        split at hres
        · rename_i hc
          injection hres with hres; subst hres
          exact ok_appS hr hK ho ht hu hi (isZero8_ok hc.2.2) hc.1 hc.2.1 (resArg_ok hx) (resArg_ok hy) h
        · cases hres
      · cases hres
    · cases hres
  · rename_i x t
    split at hres
    · rename_i e x' hty hx
      injection hres with hres; subst hres
      exact ok_sliceData hr hK ho hty (resArg_ok hx) h
    · cases hres
  · rename_i x y pt it
    split at hres
    · rename_i e x' y' hpt hx hy
      split at hres
      · rename_i hc
        injection hres with hres; subst hres
        exact ok_unsafeStr hr hK ho hpt hc.1 hc.2 (resArg_ok hx) (resArg_ok hy) h
      · cases hres
    · cases hres
  · rename_i x t
    split at hres
    · rename_i e x' ht hx
      injection hres with hres; subst hres
      exact ok_capN hr hK ho ht (resArg_ok hx) h
    · cases hres
  · rename_i x y t u
    split at hres
    · rename_i e x' y' ht hx hy
      split at hres
      · rename_i sz hsz
        injection hres with hres; subst hres
        exact ok_copyNil hr hK ho ht hsz (resArg_ok hx) (resArg_ok hy) h
      · cases hres
    · cases hres
  · cases hres
theorem resExt1_ok {f : FuncId} {fn : Func} {x : Operand} {ts : Array TypeId} {r : ROp} (ho : o.op = .call { callee := .value (.func f), args := #[x], argTypes := ts }) (hf : P.funcs[f]? = some fn) (hb : fn.body.isNone = true) (h0 : fn.origin = "") (hres : resExt1 P fn x = some r)
    (hr : Rel P N s fr hp a) (hK : Gives P N s fr hp a o K next) (h : rop P r fr hp K) : o.wp P a s.w next Q := by
  unfold resExt1 at hres
  split at hres
  · rename_i x' hx
    split at hres
    · rename_i hn
      injection hres with hres; subst hres
      exact ok_noEscape hr hK ho hf hb hn h0 (resArg_ok hx) h
    · split at hres
      · rename_i hn
        split at hres
        · rename_i t hrt
          split at hres
          · rename_i e ht
            split at hres
            · rename_i hc
              injection hres with hres; subst hres
              exact ok_mnz hr hK ho hf hb hn h0 (Array.toList_inj.1 hrt) ht hc.1 hc.2 (resArg_ok hx) h
            · cases hres
          · cases hres
        · cases hres
      · cases hres
  · cases hres
theorem resY_ok {r : ROp} (hres : resY P o = some r) (hr : Rel P N s fr hp a) (hK : Gives P N s fr hp a o K next) (h : rop P r fr hp K) : o.wp P a s.w next Q := by
  unfold resY at hres
  split at hres
  · rename_i t x y u ho
    exact resPtr_ok (neg := false) ho rfl hres hr hK h
  · rename_i t x y u ho
    exact resPtr_ok (neg := true) ho rfl hres hr hK h
  · rename_i t x y u ho
    split at hres
    · rename_i x' y' hx hy
      injection hres with hres; subst hres
      exact ok_shr hr hK ho (resArg_ok hx) (resArg_ok hy) h
    · cases hres
  · rename_i t d x ho
    split at hres
    · rename_i te x' ht hd hx
      split at hres
      · rename_i j hj
        split at hres
        · cases hres
        · rename_i hj0
          injection hres with hres; subst hres
          exact ok_toU hr hK ho ht hd hj hj0 (resArg_ok hx) h
      · cases hres
    · rename_i u x' ht hd hx
      split at hres
      · rename_i j hj
        split at hres
        · rename_i hc
          injection hres with hres; subst hres
          exact ok_ofU hr hK ho ht hd hj hc.1 hc.2 (resArg_ok hx) h
        · cases hres
      · cases hres
    · cases hres
  · rename_i b args ts ho
    exact resBuilt_ok ho hres hr hK h
  · rename_i f args ts ho
    split at hres
    · rename_i fn hf
      split at hres
      · rename_i hc
        split at hres
        · rename_i x hargs
          have ho' : o.op = .call { callee := .value (.func f), args := #[x], argTypes := ts } := by rw [ho]; congr 2; exact Array.toList_inj.1 hargs
          exact resExt1_ok ho' hf hc.1 hc.2 hres hr hK h
        · cases hres
      · cases hres
    · cases hres
  · cases hres
theorem resOp'_ok {mt : List Nat} {r : ROp} (hres : resOp' P mt o = some r) (hr : Rel P N s fr hp a) (hK : Gives P N s fr hp a o K next) (h : rop P r fr hp K) : o.wp P a s.w next Q := by
  unfold resOp' at hres
  split at hres
  · rename_i r' h1
    injection hres with hres; subst hres
    exact resY_ok h1 hr hK h
  · split at hres
    · rename_i r' h1
      injection hres with hres; subst hres
      exact resX_ok h1 hr hK h
    · split at hres
      · rename_i r' h1
        injection hres with hres; subst hres
        exact resOp_ok h1 hr hK h
      · injection hres with hres; subst hres
        exact h.elim
end
end Go.Pg
set_option linter.unusedVariables false
namespace Go.Pg
/-- An operation under its guard. -/
def ropG (P : Program) (o : ROper) (fr : Fr) (hp : AHeap) (K : FV → AHeap → Prop) : Prop :=
  match o.guard with
  | none => rop P o.op fr hp K
  | some (t, want) => condG (fr.get t) (if want then rop P o.op fr hp K else K undefV hp) (if want then K undefV hp else rop P o.op fr hp K) (K undefV hp)
theorem vcOps_cons {P : Program} {Q : Fr → AHeap → Prop} {o : ROper} {rest : List ROper} {fr : Fr} {hp : AHeap} : vcOps P Q (o :: rest) fr hp = ropG P o fr hp (vcNext (vcOps P Q rest) fr o.dst) := by
  rfl
/-- Operation number i of the region, resolved. -/
def ResAt (P : Program) (mt : List Nat) (N : Nat) (ops : Array Oper) (i : Nat) (r : ROper) : Prop :=
  ∃ o, ops[i]? = some o ∧ resOp' P mt o = some r.op ∧ r.dst = o.dst ∧ (∀ d, o.dst = some d → d < N) ∧
    ((o.guard = none ∧ r.guard = none) ∨ ∃ j want t, o.guard = some (j, want) ∧ (ops[j]?).bind (·.dst) = some t ∧ r.guard = some (t, want))
def ResList (P : Program) (mt : List Nat) (N : Nat) (ops : Array Oper) : List Nat → List ROper → Prop
  | [], [] => True
  | i :: l, r :: rl => ResAt P mt N ops i r ∧ ResList P mt N ops l rl
  | _, _ => False
section
variable {P : Program} {N : Nat} {mt : List Nat} {ops : Array Oper}
theorem yielded_of {a : Act} {s : St} {fr : Fr} {hp : AHeap} (hr : Rel P N s fr hp a) {j t : Nat} {b : Bool} (ht : (ops[j]?).bind (·.dst) = some t) (hb : fr.get t = .d (.bool b)) : yielded ops a.tmps j = some b := by
  have h := hr.slot t
  rw [hb] at h
  have hv := h.bool
  have hlt : t < a.tmps.size := by
    rcases Nat.lt_or_ge t a.tmps.size with h | h
    · exact h
    · simp [Array.getD, Nat.not_lt.2 h, undef] at hv
  simp [Array.getD, hlt] at hv
  simp [yielded, ht, hlt, hv]
theorem rep_undef {s : St} {hp : AHeap} : RepF P s hp undefV undef := .tup [] #[] rfl fun i h => by simp at h
theorem yielded_undef {a : Act} {s : St} {fr : Fr} {hp : AHeap} (hr : Rel P N s fr hp a) {j t : Nat} (ht : (ops[j]?).bind (·.dst) = some t) (hb : fr.get t = undefV) : yielded ops a.tmps j = none := by
  have h := hr.slot t
  rw [hb] at h
  have hv : a.tmps.getD t undef = .tuple #[] := by
    generalize a.tmps.getD t undef = v at h
    cases h with
    | tup _ vs hl _ => congr 1; exact Array.eq_empty_of_size_eq_zero (by simpa using hl)
  unfold yielded
  rw [ht]
  simp only [Option.bind_some]
  rcases Nat.lt_or_ge t a.tmps.size with h | h
  · simp [Array.getD, h] at hv
    simp [h, hv]
  · simp [h]
theorem efP_mono {k : Ef} {vs : List FV} {hp : AHeap} {K K' : FV → AHeap → Prop} (hk : ∀ v hp', K v hp' → K' v hp') (h : efP k vs hp K) : efP k vs hp K' := by
  cases k
  case look =>
    simp only [efP] at h ⊢
    split at h
    · split at h
      · exact ⟨fun v e => hk _ _ (h.1 v e), fun e => hk _ _ (h.2 e)⟩
      · exact h.elim
    · exact h.elim
  case nextS =>
    simp only [efP] at h ⊢
    split at h
    · split at h
      · exact ⟨fun e => hk _ _ (h.1 e), fun e1 e2 => hk _ _ (h.2.1 e1 e2), fun e1 e2 w c => hk _ _ (h.2.2 e1 e2 w c)⟩
      · exact h.elim
    · exact h.elim
  all_goals simp only [efP] at h ⊢
  all_goals repeat' (first
    | exact hk _ _ h
    | exact h.elim
    | (obtain ⟨h1, h⟩ := h; refine ⟨h1, ?_⟩)
    | (intro b; have h := h b)
    | split at h)
theorem rop_mono {r : ROp} {fr : Fr} {hp : AHeap} {K K' : FV → AHeap → Prop} (hk : ∀ v hp', K v hp' → K' v hp') (h : rop P r fr hp K) : rop P r fr hp K' := by
  cases r <;> simp only [rop, condP, binP] at h ⊢
  case mv => exact hk _ _ h
  case ef => exact efP_mono hk h
  case pick => split at h <;> first | exact ⟨fun e => hk _ _ (h.1 e), fun e => hk _ _ (h.2 e)⟩ | exact h
  case call => exact h.mono hk
  case callv => split at h <;> first | exact h.mono hk | exact h
  case bin =>
    split at h
    · refine ⟨h.1, ?_⟩
      have h := h.2
      split at h <;> first | exact hk _ _ h | exact ⟨h.1, hk _ _ h.2⟩ | exact h
    · split at h <;> first | exact hk _ _ h | exact ⟨h.1, hk _ _ h.2⟩ | exact h
    · refine ⟨h.1, ?_⟩
      have h := h.2
      split at h <;> first | exact hk _ _ h | exact h
    · exact h
  case ld agg sz p =>
    cases agg <;> simp only [if_true, Bool.false_eq_true, if_false] at h ⊢
    all_goals repeat' (first
      | exact hk _ _ h
      | exact h.elim
      | (obtain ⟨h1, h⟩ := h; refine ⟨h1, ?_⟩)
      | (intro b; have h := h b)
      | split at h)
  case ldc agg sz p =>
    cases agg <;> simp only [if_true, Bool.false_eq_true, if_false] at h ⊢
    all_goals repeat' (first
      | exact hk _ _ h
      | exact h.elim
      | (obtain ⟨h1, h⟩ := h; refine ⟨h1, ?_⟩)
      | (intro b; have h := h b)
      | split at h)
  case fld agg off sz p =>
    cases agg <;> simp only [if_true, Bool.false_eq_true, if_false] at h ⊢
    all_goals repeat' (first
      | exact hk _ _ h
      | exact h.elim
      | (obtain ⟨h1, h⟩ := h; refine ⟨h1, ?_⟩)
      | (intro b; have h := h b)
      | split at h)
  all_goals repeat' (first
    | exact hk _ _ h
    | exact h.elim
    | (obtain ⟨h1, h⟩ := h; refine ⟨h1, ?_⟩)
    | (intro b; have h := h b)
    | split at h)
end
end Go.Pg
set_option linter.unusedVariables false
namespace Go.Pg
def Arg.reads : Arg → List Nat
  | .t i => [i]
  | .c _ => []
def optReads : Option Arg → List Nat
  | none => []
  | some x => x.reads
def argsReads : List Arg → List Nat
  | [] => []
  | x :: r => x.reads ++ argsReads r
def partsReads : List (Nat × Nat × Arg) → List Nat
  | [] => []
  | (_, _, x) :: r => x.reads ++ partsReads r
def ROp.reads : ROp → List Nat
  | .mv x | .boxI x | .boxM _ x | .ld _ _ x | .ldc _ _ x | .fa _ x | .nck x | .fld _ _ _ x | .not x | .neg x | .conv _ x | .lenS x | .lenR _ _ x | .ext _ x => x.reads
  | .pick c a b => c.reads ++ (a.reads ++ b.reads)
  | .alloc _ _ => []
  | .bad => []
  | .pr _ xs => argsReads xs
  | .ef _ xs => argsReads xs
  | .build _ ps => partsReads ps
  | .lit _ _ xs | .litO _ _ xs | .call _ xs => argsReads xs
  | .st _ x y | .ia _ _ x y | .ixs x y | .bin _ _ x y | .app _ _ _ x y | .max x y | .min x y => x.reads ++ y.reads
  | .slS x lo hi | .slR _ _ x lo hi => x.reads ++ (optReads lo ++ optReads hi)
  | .callv x xs => x.reads ++ argsReads xs
  | .mkf _ a b => argsReads a ++ argsReads b
def ROper.reads (o : ROper) : List Nat := o.op.reads ++ (match o.guard with | some (t, _) => [t] | none => [])
/-- Two frames that are alike where it is looked. -/
def Alike (l : List Nat) (fr fr' : Fr) : Prop := ∀ t, t ∈ l → fr.get t = fr'.get t
theorem Alike.left {l m : List Nat} {fr fr' : Fr} (h : Alike (l ++ m) fr fr') : Alike l fr fr' := fun t ht => h t (List.mem_append_left _ ht)
theorem Alike.right {l m : List Nat} {fr fr' : Fr} (h : Alike (l ++ m) fr fr') : Alike m fr fr' := fun t ht => h t (List.mem_append_right _ ht)
theorem ev_alike {x : Arg} {fr fr' : Fr} (h : Alike x.reads fr fr') : ev fr x = ev fr' x := by
  cases x with
  | t i => exact h i (by simp [Arg.reads])
  | c v => rfl
theorem map_alike {f : FV → FV} : ∀ {xs : List Arg} {fr fr' : Fr}, Alike (argsReads xs) fr fr' → (xs.map fun x => f (ev fr x)) = xs.map fun x => f (ev fr' x)
  | [], _, _, _ => rfl
  | x :: xs, fr, fr', h => by simp only [List.map_cons, ev_alike (Alike.left h), map_alike (Alike.right h)]
theorem map_alike' {xs : List Arg} {fr fr' : Fr} (h : Alike (argsReads xs) fr fr') : xs.map (ev fr) = xs.map (ev fr') := map_alike (f := id) h
theorem parts_alike : ∀ {xs : List (Nat × Nat × Arg)} {fr fr' : Fr}, Alike (partsReads xs) fr fr' → (xs.map fun (o, s, x) => (o, s, ev fr x)) = xs.map fun (o, s, x) => (o, s, ev fr' x)
  | [], _, _, _ => rfl
  | (_, _, x) :: xs, fr, fr', h => by simp only [List.map_cons, ev_alike (Alike.left h), parts_alike (Alike.right h)]
theorem rows_alike {sz : Nat} : ∀ {xs : List Arg} {fr fr' : Fr}, Alike (argsReads xs) fr fr' → rowsArgs fr sz xs = rowsArgs fr' sz xs
  | [], _, _, _ => rfl
  | x :: xs, fr, fr', h => by simp only [rowsArgs, ev_alike (Alike.left h), rows_alike (Alike.right h)]
theorem opt_alike {x : Option Arg} {d : Int} {fr fr' : Fr} (h : Alike (optReads x) fr fr') : boundOf fr d x = boundOf fr' d x := by
  cases x with
  | none => rfl
  | some l => simp only [boundOf, ev_alike (x := l) h]
section
variable {P : Program}
theorem rop_alike {r : ROp} {fr fr' : Fr} {hp : AHeap} {K : FV → AHeap → Prop} (h : Alike r.reads fr fr') : rop P r fr hp K ↔ rop P r fr' hp K := by
  cases r <;> simp only [ROp.reads] at h <;> simp only [rop]
  case mv x => rw [ev_alike h]
  case pick => rw [ev_alike (Alike.left h), ev_alike (Alike.left (Alike.right h)), ev_alike (Alike.right (Alike.right h))]
  case build => rw [parts_alike h]
  case lit => rw [rows_alike h]
  case litO => rw [rows_alike h]
  case call => rw [map_alike h]
  case pr => rw [map_alike' h]
  case ef => rw [map_alike' h]
  case mkf => rw [map_alike' (Alike.left h), map_alike' (Alike.right h)]
  case callv => rw [ev_alike (Alike.left h), map_alike (Alike.right h)]
  case slS x lo hi => rw [ev_alike (Alike.left h)]; simp only [opt_alike (Alike.left (Alike.right h)), opt_alike (Alike.right (Alike.right h))]
  case slR e sz x lo hi => rw [ev_alike (Alike.left h)]; simp only [opt_alike (Alike.left (Alike.right h)), opt_alike (Alike.right (Alike.right h))]
  all_goals first
    | rw [ev_alike h]
    | rw [ev_alike (Alike.left h), ev_alike (Alike.right h)]
theorem ropG_alike {o : ROper} {fr fr' : Fr} {hp : AHeap} {K : FV → AHeap → Prop} (h : Alike o.reads fr fr') : ropG P o fr hp K ↔ ropG P o fr' hp K := by
  unfold ROper.reads at h
  unfold ropG
  split
  · exact rop_alike (Alike.left h)
  · rename_i t want hg
    rw [hg] at h
    rw [h t (List.mem_append_right _ (by simp))]
    unfold condG
    split
    · cases want <;> simp [rop_alike (P := P) (hp := hp) (K := K) (Alike.left h)]
    · rfl
    · rfl
theorem ropG_mono {o : ROper} {fr : Fr} {hp : AHeap} {K K' : FV → AHeap → Prop} (hk : ∀ v hp', K v hp' → K' v hp') (h : ropG P o fr hp K) : ropG P o fr hp K' := by
  unfold ropG at h ⊢
  split at h
  · exact rop_mono hk h
  · rename_i t want hg
    unfold condG at h ⊢
    split at h
    · cases want
      · exact ⟨fun e => hk _ _ (h.1 e), fun e => rop_mono hk (h.2 e)⟩
      · exact ⟨fun e => rop_mono hk (h.1 e), fun e => hk _ _ (h.2 e)⟩
    · exact hk _ _ h
    · exact h
/-- What it gives hangs on the frame alone. -/
def ROp.pure : ROp → Bool
  | .boxM .. | .alloc .. | .litO .. | .ld .. | .st .. | .call .. | .callv .. | .app .. | .ef .. | .bad => false
  | _ => true
/-- It leaves memory that may change as it is. -/
def ROp.quiet : ROp → Bool
  | .ld .. => true
  | r => r.pure
/-- A goal's form: one condition, one premise, one value. -/
def Shape (T : (FV → AHeap → Prop) → Prop) (hp : AHeap) (C B : Prop) (V : FV) : Prop := ∀ K, T K ↔ C ∧ (B → K V hp)
theorem shape_false {T : (FV → AHeap → Prop) → Prop} {hp : AHeap} (h : ∀ K, T K ↔ False) : Shape T hp False True .any := fun K => by rw [h K]; simp
theorem pure_shape {r : ROp} (hq : r.pure = true) (fr : Fr) : ∃ C B V, ∀ hp, Shape (rop P r fr hp) hp C B V := by
  have F : (∀ hp K, rop P r fr hp K ↔ False) → ∃ C B V, ∀ hp, Shape (rop P r fr hp) hp C B V := fun h => ⟨False, True, .any, fun hp => shape_false (h hp)⟩
  have S : ∀ C V, (∀ hp K, rop P r fr hp K ↔ C ∧ K V hp) → ∃ C B V, ∀ hp, Shape (rop P r fr hp) hp C B V := fun C V h => ⟨C, True, V, fun hp K => by rw [h hp K]; simp⟩
  have O : ∀ V, (∀ hp K, rop P r fr hp K ↔ K V hp) → ∃ C B V, ∀ hp, Shape (rop P r fr hp) hp C B V := fun V h => ⟨True, True, V, fun hp K => by rw [h hp K]; simp⟩
  have B : ∀ C B V, (∀ hp K, rop P r fr hp K ↔ C ∧ (B → K V hp)) → ∃ C B V, ∀ hp, Shape (rop P r fr hp) hp C B V := fun C B V h => ⟨C, B, V, fun hp K => h hp K⟩
  cases r <;> simp only [ROp.pure] at hq <;> try (cases hq; done)
  case pr k xs =>
    cases h : prV k (xs.map (ev fr)) with
    | none => exact F fun hp K => by simp only [rop, h]
    | some v => exact O v fun hp K => by simp only [rop, h]
  case mv x => exact O (ev fr x) fun hp K => Iff.rfl
  case pick c x y =>
    cases h : ev fr c with
    | d z => cases z with
      | bool b => cases b with
        | true => exact O (ev fr x) fun hp K => by simp [rop, condP, h]
        | false => exact O (ev fr y) fun hp K => by simp [rop, condP, h]
      | _ => exact F fun hp K => by simp only [rop, condP, h]
    | _ => exact F fun hp K => by simp only [rop, condP, h]
  case boxI x =>
    cases h : (ev fr x).data with
    | none => exact F fun hp K => by simp only [rop, h]
    | some z => cases z with
      | agg cs => exact O (.cp cs) fun hp K => by simp only [rop, h]
      | any => exact F fun hp K => by simp only [rop, h]
      | int k n => exact O (.cp [.int k n]) fun hp K => by simp only [rop, h]
      | bool b => exact O (.cp [.bool b]) fun hp K => by simp only [rop, h]
      | str l => exact O (.cp [.str l]) fun hp K => by simp only [rop, h]
      | sl e l => exact O (.cp [.sl e l]) fun hp K => by simp only [rop, h]
  case build zs ps =>
    cases h : fillC zs (ps.map fun (o, s, x) => (o, s, ev fr x)) with
    | none => exact F fun hp K => by simp only [rop, h]
    | some cs => exact O (mkAgg cs) fun hp K => by simp only [rop, h]
  case lit e sz xs =>
    cases h : rowsArgs fr sz xs with
    | none => exact F fun hp K => by simp only [rop, h]
    | some rows => exact S (rows.length * ebytes P e ≤ roomB) (.d (.sl e rows)) fun hp K => by simp only [rop, h]
  case ldc agg sz p =>
    cases h : ev fr p with
    | cp cs => cases agg with
      | true => exact S (sz ≤ cs.length) (.d (.agg (if sz = cs.length then cs else cs.take sz))) fun hp K => by simp only [rop, h, if_true]
      | false => cases cs with
        | nil => exact F fun hp K => by simp [rop, h]
        | cons y r => exact S (sz ≤ (y :: r).length) (.d y) fun hp K => by simp only [rop, h, Bool.false_eq_true, if_false]
    | _ => exact F fun hp K => by simp only [rop, h]
  case fa off p =>
    cases h : ev fr p with
    | cp cs => exact O (.cp (cs.drop off)) fun hp K => by simp only [rop, h]
    | vp l o => exact O (.vp l (o + off)) fun hp K => by simp only [rop, h]
    | _ => exact F fun hp K => by simp only [rop, h]
  case nck p =>
    cases h : ev fr p with
    | cp cs => exact O (.cp cs) fun hp K => by simp only [rop, h]
    | vp l o => exact O (.vp l o) fun hp K => by simp only [rop, h]
    | _ => exact F fun hp K => by simp only [rop, h]
  case ia e sz x i =>
    cases h : rowsOf (ev fr x) with
    | none => cases h2 : intOf? (ev fr i) with
      | none => exact F fun hp K => by simp only [rop, h, h2]
      | some n => cases h3 : ev fr x with
        | ms e' l lo k => exact S (e' = e ∧ 0 ≤ n ∧ n < k) (.ep l (lo + n.toNat * sz)) fun hp K => by simp only [rop, h3, rowsOf, h2, and_assoc]
        | _ => exact F fun hp K => by rw [h3] at h; simp only [rop, h3, h, h2]
    | some p => cases h2 : intOf? (ev fr i) with
      | none => exact F fun hp K => by simp only [rop, h, h2]
      | some n =>
        obtain ⟨e', rows⟩ := p
        refine B (e' = e ∧ 0 ≤ n ∧ n < rows.length) True (.cp (rows[n.toNat]?.getD [])) fun hp K => ?_
        simp only [rop, h, h2]
        constructor
        · rintro ⟨a1, a2, a3, a4⟩
          have hlt : n.toNat < rows.length := by omega
          exact ⟨⟨a1, a2, a3⟩, fun _ => by have := a4 rows[n.toNat] (by simp [hlt]); simpa [hlt] using this⟩
        · rintro ⟨⟨a1, a2, a3⟩, a4⟩
          exact ⟨a1, a2, a3, fun row hr => by have := a4 trivial; rw [hr] at this; exact this⟩
  case ixs x i =>
    cases h : ev fr x with
    | d z => cases z with
      | str l => cases h2 : intOf? (ev fr i) with
        | none => exact F fun hp K => by simp only [rop, h, h2]
        | some n => exact S (0 ≤ n ∧ n < l.length) (.d (.int .u8 (byteAt l n.toNat))) fun hp K => by simp only [rop, h, h2, and_assoc]
      | _ => exact F fun hp K => by simp only [rop, h]
    | _ => exact F fun hp K => by simp only [rop, h]
  case fld agg off sz x =>
    cases h : (ev fr x).aggC with
    | none => exact F fun hp K => by simp only [rop, h]
    | some cs => cases agg with
      | true => exact S (off + sz ≤ cs.length) (mkAgg ((cs.drop off).take sz)) fun hp K => by simp only [rop, h, if_true]
      | false => cases h2 : cs.drop off with
        | nil => exact F fun hp K => by simp [rop, h, h2]
        | cons y r => exact S (off + sz ≤ cs.length) y fun hp K => by simp only [rop, h, Bool.false_eq_true, if_false, h2]
  case bin isB op x y =>
    cases h : ev fr x with
    | d z => cases z with
      | int k a => cases h2 : ev fr y with
        | d z2 => cases z2 with
          | int k' b => cases op with
            | add => exact S (k = k') (.d (.int k (k.wrap (a + b)))) fun hp K => by simp only [rop, binP, h, h2]
            | sub => exact S (k = k') (.d (.int k (k.wrap (a - b)))) fun hp K => by simp only [rop, binP, h, h2]
            | mul => exact S (k = k') (.d (.int k (k.wrap (a * b)))) fun hp K => by simp only [rop, binP, h, h2]
            | quo => exact S (k = k' ∧ b ≠ 0) (.d (.int k (k.wrap (a.tdiv b)))) fun hp K => by simp only [rop, binP, h, h2, and_assoc]
            | rem => exact S (k = k' ∧ b ≠ 0) (.d (.int k (a.tmod b))) fun hp K => by simp only [rop, binP, h, h2, and_assoc]
            | eql => exact S (k = k') (.d (.bool (a == b))) fun hp K => by simp only [rop, binP, h, h2]
            | neq => exact S (k = k') (.d (.bool (a != b))) fun hp K => by simp only [rop, binP, h, h2]
            | lss => exact S (k = k') (.d (.bool (decide (a < b)))) fun hp K => by simp only [rop, binP, h, h2]
            | leq => exact S (k = k') (.d (.bool (decide (a ≤ b)))) fun hp K => by simp only [rop, binP, h, h2]
            | gtr => exact S (k = k') (.d (.bool (decide (a > b)))) fun hp K => by simp only [rop, binP, h, h2]
            | geq => exact S (k = k') (.d (.bool (decide (a ≥ b)))) fun hp K => by simp only [rop, binP, h, h2]
            | _ => exact F fun hp K => by simp only [rop, binP, h, h2, and_false]
          | _ => exact F fun hp K => by simp only [rop, binP, h, h2]
        | _ => exact F fun hp K => by simp only [rop, binP, h, h2]
      | str a => cases h2 : ev fr y with
        | d z2 => cases z2 with
          | str b => cases op with
            | add => exact S (a.length + b.length ≤ 9223372036854775807) (.d (.str (a ++ b))) fun hp K => by simp only [rop, binP, h, h2]
            | eql => exact O (.d (.bool (a == b))) fun hp K => by simp only [rop, binP, h, h2]
            | neq => exact O (.d (.bool (a != b))) fun hp K => by simp only [rop, binP, h, h2]
            | lss => exact O (.d (.bool (Op.bytesLess a b))) fun hp K => by simp only [rop, binP, h, h2]
            | _ => exact F fun hp K => by simp only [rop, binP, h, h2]
          | _ => exact F fun hp K => by simp only [rop, binP, h, h2]
        | _ => exact F fun hp K => by simp only [rop, binP, h, h2]
      | bool a => cases h2 : ev fr y with
        | d z2 => cases z2 with
          | bool b => cases op with
            | eql => exact S (isB = true) (.d (.bool (a == b))) fun hp K => by simp only [rop, binP, h, h2]
            | neq => exact S (isB = true) (.d (.bool (!(a == b)))) fun hp K => by simp only [rop, binP, h, h2]
            | _ => exact F fun hp K => by simp only [rop, binP, h, h2, and_false]
          | _ => exact F fun hp K => by simp only [rop, binP, h, h2]
        | _ => exact F fun hp K => by simp only [rop, binP, h, h2]
      | _ => exact F fun hp K => by simp only [rop, binP, h]
    | _ => exact F fun hp K => by simp only [rop, binP, h]
  case not x =>
    cases h : ev fr x with
    | d z => cases z with
      | bool b => exact O (.d (.bool (!b))) fun hp K => by simp only [rop, h]
      | _ => exact F fun hp K => by simp only [rop, h]
    | _ => exact F fun hp K => by simp only [rop, h]
  case neg x =>
    cases h : ev fr x with
    | d z => cases z with
      | int k n => exact O (.d (.int k (k.wrap (0 - n)))) fun hp K => by simp only [rop, h]
      | _ => exact F fun hp K => by simp only [rop, h]
    | _ => exact F fun hp K => by simp only [rop, h]
  case conv k x =>
    cases h : ev fr x with
    | d z => cases z with
      | int k' n => exact O (.d (.int k (k.wrap n))) fun hp K => by simp only [rop, h]
      | _ => exact F fun hp K => by simp only [rop, h]
    | _ => exact F fun hp K => by simp only [rop, h]
  case slS x lo hi =>
    cases h : ev fr x with
    | d z => cases z with
      | str l =>
        cases h1 : boundOf fr 0 lo with
        | none => exact F fun hp K => by simp only [rop, h, h1]
        | some a => cases h2 : boundOf fr l.length hi with
          | none => exact F fun hp K => by simp only [rop, h, h1, h2]
          | some b => exact S (0 ≤ a ∧ a ≤ b ∧ b ≤ l.length) (.d (.str ((l.take b.toNat).drop a.toNat))) fun hp K => by simp only [rop, h, h1, h2, and_assoc]
      | _ => exact F fun hp K => by simp only [rop, h]
    | _ => exact F fun hp K => by simp only [rop, h]
  case slR e sz x lo hi =>
    cases h : ev fr x with
    | d z => cases z with
      | sl e' l =>
        cases h1 : boundOf fr 0 lo with
        | none => exact F fun hp K => by simp only [rop, h, h1]
        | some a => cases h2 : boundOf fr l.length hi with
          | none => exact F fun hp K => by simp only [rop, h, h1, h2]
          | some b => exact S (e' = e ∧ 0 ≤ a ∧ a ≤ b ∧ b ≤ l.length) (.d (.sl e ((l.take b.toNat).drop a.toNat))) fun hp K => by simp only [rop, h, h1, h2, and_assoc]
      | _ => exact F fun hp K => by simp only [rop, h]
    | own e' l o =>
        cases h1 : boundOf fr 0 lo with
        | none => exact F fun hp K => by simp only [rop, h, h1]
        | some a => cases h2 : boundOf fr l.length hi with
          | none => exact F fun hp K => by simp only [rop, h, h1, h2]
          | some b => exact S (e' = e ∧ 0 ≤ a ∧ a ≤ b ∧ b ≤ l.length) (.d (.sl e ((l.take b.toNat).drop a.toNat))) fun hp K => by simp only [rop, h, h1, h2, and_assoc]
    | ms e' o p n =>
        cases h1 : boundOf fr 0 lo with
        | none => exact F fun hp K => by simp only [rop, h, h1]
        | some a => cases h2 : boundOf fr n hi with
          | none => exact F fun hp K => by simp only [rop, h, h1, h2]
          | some b => exact S (e' = e ∧ 0 ≤ a ∧ (a < b ∨ a = 0) ∧ a ≤ b ∧ b ≤ n) (.ms e o (p + a.toNat * sz) (b.toNat - a.toNat)) fun hp K => by simp only [rop, h, h1, h2, and_assoc]
    | raw e' o n =>
        cases h1 : boundOf fr 0 lo with
        | none => exact F fun hp K => by simp only [rop, h, h1]
        | some a => cases h2 : boundOf fr n hi with
          | none => exact F fun hp K => by simp only [rop, h, h1, h2]
          | some b => exact S (e' = e ∧ a = 0 ∧ b = 0) (.own e [] o) fun hp K => by simp only [rop, h, h1, h2, and_assoc]
    | _ => exact F fun hp K => by simp only [rop, h]
  case lenS x =>
    cases h : ev fr x with
    | d z => cases z with
      | str l => exact B True (l.length ≤ 9223372036854775807) (.d (.int .i64 l.length)) fun hp K => by simp only [rop, h, true_and]
      | _ => exact F fun hp K => by simp only [rop, h]
    | _ => exact F fun hp K => by simp only [rop, h]
  case lenR e bytes x =>
    cases h : ev fr x with
    | d z => cases z with
      | sl e' l => exact B (e' = e) (l.length * bytes ≤ roomB) (.d (.int .i64 l.length)) fun hp K => by simp only [rop, h]
      | _ => exact F fun hp K => by simp only [rop, h]
    | own e' l j => exact B (e' = e) (l.length * bytes ≤ roomB) (.d (.int .i64 l.length)) fun hp K => by simp only [rop, h]
    | nil e' => exact O (.d (.int .i64 0)) fun hp K => by simp only [rop, h]
    | ms e' l lo n => exact S (e' = e) (.d (.int .i64 n)) fun hp K => by simp only [rop, h]
    | _ => exact F fun hp K => by simp only [rop, h]
  case ext i x =>
    cases h : ev fr x with
    | tup vs => cases h2 : vs[i]? with
      | none => exact F fun hp K => by simp only [rop, h, h2]
      | some v => exact O v fun hp K => by simp only [rop, h, h2]
    | _ => exact F fun hp K => by simp only [rop, h]
  case mkf f a b => exact O (.clo f (a.map (ev fr)) (b.map (ev fr))) fun hp K => Iff.rfl
  case max x y =>
    cases h : ev fr x with
    | d z => cases z with
      | int k a => cases h2 : ev fr y with
        | d z2 => cases z2 with
          | int k' b => exact S (k = k') (.d (.int k (if b > a then b else a))) fun hp K => by simp only [rop, h, h2]
          | _ => exact F fun hp K => by simp only [rop, h, h2]
        | _ => exact F fun hp K => by simp only [rop, h, h2]
      | _ => exact F fun hp K => by simp only [rop, h]
    | _ => exact F fun hp K => by simp only [rop, h]
  case min x y =>
    cases h : ev fr x with
    | d z => cases z with
      | int k a => cases h2 : ev fr y with
        | d z2 => cases z2 with
          | int k' b => exact S (k = k') (.d (.int k (if b < a then b else a))) fun hp K => by simp only [rop, h, h2]
          | _ => exact F fun hp K => by simp only [rop, h, h2]
        | _ => exact F fun hp K => by simp only [rop, h, h2]
      | _ => exact F fun hp K => by simp only [rop, h]
    | _ => exact F fun hp K => by simp only [rop, h]
end
end Go.Pg
set_option linter.unusedVariables false
namespace Go.Pg
section
variable {P : Program} {N : Nat} {mt : List Nat} {ops : Array Oper}
/-- Frames that read alike are alike. -/
theorem vcOps_congr {Q : Fr → AHeap → Prop} (hQ : ∀ fr fr' hp, (∀ t, fr.get t = fr'.get t) → Q fr hp → Q fr' hp) : ∀ (l : List ROper) (fr fr' : Fr) (hp : AHeap), (∀ t, fr.get t = fr'.get t) → vcOps P Q l fr hp → vcOps P Q l fr' hp
  | [], fr, fr', hp, h, hv => hQ fr fr' hp h hv
  | o :: rest, fr, fr', hp, h, hv => by
    rw [vcOps_cons] at hv ⊢
    rw [ropG_alike (fr' := fr') (fun t _ => h t)] at hv
    refine ropG_mono (fun v hp' hk => vcOps_congr hQ rest _ _ hp' (fun t => ?_) hk) hv
    cases hd : o.dst with
    | none => exact h t
    | some d => simp only [Fr.put, Fr.get, h t]
theorem get_put (fr : Fr) (d : Option Nat) (v : FV) (t : Nat) : (fr.put d v).get t = if d = some t then v else fr.get t := by
  cases d with
  | none => simp [Fr.put]
  | some d =>
    simp only [Fr.put, Fr.get, Option.some.injEq]
    by_cases h : t = d
    · simp [h]
    · simp [h, Ne.symm h]
/-- What an operation does, some run shows. -/
theorem nonmiracle {r : ROper} {i : Nat} (hres : ResAt P mt N ops i r) {fr : Fr} {hp : AHeap} {K : FV → AHeap → Prop} (h : ropG P r fr hp K) {s : St} {a : Act} (hr : Rel P N s fr hp a) :
    ∃ v hp' s' a', K v hp' ∧ Rel P N s' (fr.put r.dst v) hp' a' := by
  obtain ⟨o, ho, hop, hdst, hdN, hg⟩ := hres
  have key : rop P r.op fr hp K → ∃ v hp' s' a', K v hp' ∧ Rel P N s' (fr.put r.dst v) hp' a' := by
    intro h
    have hK : Gives P N s fr hp a o K (fun _ _ => ∃ v hp' s' a', K v hp' ∧ Rel P N s' (fr.put r.dst v) hp' a') := by
      intro x v s' hp' hx hr' hs hk
      exact ⟨x, hp', s', a.put o.dst v, hk, by rw [hdst]; exact hr'.put o.dst hdN hx⟩
    have hw := resOp'_ok (Q := fun _ _ _ => False) hop hr hK h
    unfold Oper.wp Oper.upon at hw
    split at hw
    · exact hw
    · exact hw
    · exact hw
    · obtain ⟨e, w', f, h1, h2⟩ := hw []
      cases e with
      | returned v => exact h1
      | panicked c => exact h1.elim
      | outgrown => obtain ⟨_, _, h⟩ := h1; exact h.elim
    · obtain ⟨v, w', h1, h2⟩ := hw default []
      exact h1
    · exact hw.elim
    · exact hw.elim
  have skip : K undefV hp → ∃ v hp' s' a', K v hp' ∧ Rel P N s' (fr.put r.dst v) hp' a' := fun h =>
    ⟨undefV, hp, s, a.put o.dst undef, h, by rw [hdst]; exact hr.put o.dst hdN rep_undef⟩
  unfold ropG at h
  split at h
  · exact key h
  · rename_i t want hgr
    unfold condG at h
    split at h
    · rename_i b hb
      cases b <;> cases want <;> simp at h <;> first | exact key h | exact skip h
    · exact skip h
    · exact h.elim
def ROper.pure (o : ROper) : Bool := o.op.pure
def ROper.quiet (o : ROper) : Bool := o.op.quiet
theorem shapeG {o : ROper} {fr : Fr} {hp : AHeap} (h : ∃ C B V, Shape (rop P o.op fr hp) hp C B V) : ∃ C B V, Shape (ropG P o fr hp) hp C B V := by
  obtain ⟨C, B, V, h⟩ := h
  unfold ropG
  split
  · exact ⟨C, B, V, h⟩
  · rename_i t want hg
    unfold condG
    split
    · rename_i b hb
      cases b <;> cases want <;> simp
      · exact ⟨C, B, V, h⟩
      · exact ⟨True, True, undefV, fun K => by simp⟩
      · exact ⟨True, True, undefV, fun K => by simp⟩
      · exact ⟨C, B, V, h⟩
    · exact ⟨True, True, undefV, fun K => by simp⟩
    · exact ⟨False, True, .any, fun K => by simp⟩
theorem pure_shapeG {o : ROper} (hq : o.pure = true) (fr : Fr) : ∃ C B V, ∀ hp, Shape (ropG P o fr hp) hp C B V := by
  obtain ⟨C, B, V, h⟩ := pure_shape (P := P) hq fr
  unfold ropG
  split
  · exact ⟨C, B, V, h⟩
  · rename_i t want hg
    unfold condG
    split
    · rename_i b hb
      cases b <;> cases want <;> simp
      · exact ⟨C, B, V, h⟩
      · exact ⟨True, True, undefV, fun hp K => by simp⟩
      · exact ⟨True, True, undefV, fun hp K => by simp⟩
      · exact ⟨C, B, V, h⟩
    · exact ⟨True, True, undefV, fun hp K => by simp⟩
    · exact ⟨False, True, .any, fun hp K => by simp⟩
theorem quiet_shape {r : ROp} (hq : r.quiet = true) (fr : Fr) (hp : AHeap) : ∃ C B V, Shape (rop P r fr hp) hp C B V := by
  by_cases hp' : r.pure = true
  · obtain ⟨C, B, V, h⟩ := pure_shape (P := P) hp' fr
    exact ⟨C, B, V, h hp⟩
  · cases r <;> simp [ROp.quiet, ROp.pure] at hq hp'
    rename_i agg sz p
    have F : (∀ K, rop P (.ld agg sz p) fr hp K ↔ False) → ∃ C B V, Shape (rop P (.ld agg sz p) fr hp) hp C B V := fun h => ⟨False, True, .any, shape_false h⟩
    have S : ∀ C V, (∀ K, rop P (.ld agg sz p) fr hp K ↔ C ∧ K V hp) → ∃ C B V, Shape (rop P (.ld agg sz p) fr hp) hp C B V := fun C V h => ⟨C, True, V, fun K => by rw [h K]; simp⟩
    cases h : ev fr p with
    | cp cs => cases agg with
      | true => exact S (sz ≤ cs.length) (.d (.agg (if sz = cs.length then cs else cs.take sz))) fun K => by simp only [rop, h, if_true]
      | false => cases cs with
        | nil => exact F fun K => by simp [rop, h]
        | cons y r => exact S (sz ≤ (y :: r).length) (.d y) fun K => by simp only [rop, h, Bool.false_eq_true, if_false]
    | vp l off => cases h1 : hp[l]? with
      | none => exact F fun K => by simp only [rop, h, h1]
      | some ob => cases ob with
        | var t cs => cases agg with
          | true => exact S (off + sz ≤ cs.length) (mkAgg ((cs.drop off).take sz)) fun K => by simp only [rop, h, h1, if_true]
          | false => cases h2 : cs.drop off with
            | nil => exact F fun K => by simp [rop, h, h1, h2]
            | cons y r => exact S (off + sz ≤ cs.length) y fun K => by simp only [rop, h, h1, h2, Bool.false_eq_true, if_false]
        | _ => exact F fun K => by simp only [rop, h, h1]
    | ep l off =>
      cases h1 : hp[l]? with
      | none => exact F fun K => by simp only [rop, h, h1]
      | some ob =>
        cases ob with
        | var t cs =>
          cases h2 : cs[off]? with
          | none =>
            have hn : ¬ off < cs.length := by intro h; rw [List.getElem?_eq_getElem h] at h2; cases h2
            exact F fun K => by simp only [rop, h, h1]; simp [hn]
          | some y =>
            refine S (agg = false ∧ off < cs.length) y fun K => ?_
            simp only [rop, h, h1, h2, and_assoc]
            constructor
            · rintro ⟨a, b, c⟩; exact ⟨a, b, c y rfl⟩
            · rintro ⟨a, b, c⟩; exact ⟨a, b, fun z hz => by injection hz with hz; subst hz; exact c⟩
        | _ => exact F fun K => by simp only [rop, h, h1]
    | _ => exact F fun K => by simp only [rop, h]
/-- x stands ahead of i in the text; they may change places. -/
def swapOK (x i : ROper) : Bool :=
  (match x.dst with | some d => !i.reads.contains d | none => true) && (match i.dst with | some d => !x.reads.contains d | none => true) &&
  (match x.dst, i.dst with | some d, some e => d != e | _, _ => true) && (x.pure || i.pure || (x.quiet && i.quiet))
/-- What is known of two that may change places. -/
theorem swapOK_spec {x i : ROper} (h : swapOK x i = true) : (∀ t, x.dst = some t → t ∉ i.reads) ∧ (∀ t, i.dst = some t → t ∉ x.reads) ∧ (∀ t, x.dst = some t → i.dst ≠ some t) ∧ (x.pure = true ∨ i.pure = true ∨ (x.quiet = true ∧ i.quiet = true)) := by
  simp only [swapOK, Bool.and_eq_true, Bool.or_eq_true] at h
  obtain ⟨⟨⟨s1, s2⟩, s3⟩, s4⟩ := h
  refine ⟨fun t ht => ?_, fun t ht => ?_, fun t ht hi => ?_, ?_⟩
  · rw [ht] at s1; simpa using s1
  · rw [ht] at s2; simpa using s2
  · rw [ht, hi] at s3; simp at s3
  · rcases s4 with (s4 | s4) | s4
    · exact .inl s4
    · exact .inr (.inl s4)
    · exact .inr (.inr s4)
theorem alike_put {o : ROper} {d : Option Nat} (h : ∀ t, d = some t → t ∉ o.reads) (f : Fr) (v : FV) : Alike o.reads (f.put d v) f := fun t ht => by
  rw [get_put, if_neg (fun e => h t e ht)]
theorem put_comm {d e : Option Nat} (h : ∀ t, d = some t → e ≠ some t) (f : Fr) (v u : FV) (t : Nat) : ((f.put d v).put e u).get t = ((f.put e u).put d v).get t := by
  simp only [get_put]
  by_cases c1 : d = some t
  · simp [c1, h t c1]
  · simp [c1]
/-- A pure operation, taken ahead. -/
theorem move_pure {Q : Fr → AHeap → Prop} (hQ : ∀ fr fr' hp, (∀ t, fr.get t = fr'.get t) → Q fr hp → Q fr' hp) {i : ROper} {C B : Prop} {V : FV} (hB : B) {T2 : List ROper} :
    ∀ (T1 : List ROper) (fr : Fr) (hp : AHeap), (∀ x ∈ T1, swapOK x i = true) → (∀ hp, Shape (ropG P i fr hp) hp C B V) → vcOps P Q (T1 ++ i :: T2) fr hp → vcOps P Q (T1 ++ T2) (fr.put i.dst V) hp
  | [], fr, hp, _, hsh, h => by
    rw [List.nil_append, vcOps_cons, hsh hp] at h
    exact h.2 hB
  | x :: T1, fr, hp, hs, hsh, h => by
    obtain ⟨s1, s2, s3, _⟩ := swapOK_spec (hs x (by simp))
    rw [List.cons_append, vcOps_cons] at h ⊢
    rw [ropG_alike (alike_put s2 fr V)]
    refine ropG_mono (fun v hp' hk => ?_) h
    have := move_pure hQ hB T1 (fr.put x.dst v) hp' (fun y hy => hs y (by simp [hy])) (fun hp K => by rw [ropG_alike (alike_put s1 fr v)]; exact hsh hp K) hk
    exact vcOps_congr hQ _ _ _ _ (put_comm s3 fr v V) this
/-- An operation, taken ahead. -/
theorem move {Q : Fr → AHeap → Prop} (hQ : ∀ fr fr' hp, (∀ t, fr.get t = fr'.get t) → Q fr hp → Q fr' hp) {i : ROper} {T2 : List ROper} :
    ∀ (T1 : List ROper) (fr : Fr) (hp : AHeap) (s : St) (a : Act), Rel P N s fr hp a → (∀ x ∈ T1, swapOK x i = true ∧ ∃ n, ResAt P mt N ops n x) → vcOps P Q (T1 ++ i :: T2) fr hp →
      ropG P i fr hp fun u hp' => vcOps P Q (T1 ++ T2) (fr.put i.dst u) hp'
  | [], fr, hp, s, a, hr, _, h => by
    rw [List.nil_append, vcOps_cons] at h
    exact h
  | x :: T1, fr, hp, s, a, hr, hs, h => by
    obtain ⟨hsx, n, hx⟩ := hs x (by simp)
    obtain ⟨s1, s2, s3, s4⟩ := swapOK_spec hsx
    have h0 := h
    rw [List.cons_append, vcOps_cons] at h
    obtain ⟨v0, hp0, s0, a0, k1, k2⟩ := nonmiracle hx h hr
    have ih := move hQ T1 (fr.put x.dst v0) hp0 s0 a0 k2 (fun y hy => hs y (by simp [hy])) k1
    by_cases hip : i.pure = true
    · obtain ⟨C, B, V, hsh⟩ := pure_shapeG (P := P) hip fr
      rw [hsh hp]
      rw [ropG_alike (alike_put s1 fr v0), hsh hp0] at ih
      exact ⟨ih.1, fun hB => move_pure hQ hB (x :: T1) fr hp (fun y hy => (hs y hy).1) hsh h0⟩
    · by_cases hxp : x.pure = true
      · obtain ⟨C, B, V, hsh⟩ := pure_shapeG (P := P) hxp fr
        have h2 := h
        rw [hsh hp] at h2
        have hB : B := by
          have h3 : ropG P x fr hp fun _ _ => B := by rw [hsh hp]; exact ⟨h2.1, id⟩
          obtain ⟨_, _, _, _, hB, _⟩ := nonmiracle hx h3 hr
          exact hB
        have h3 : ropG P x fr hp fun v hp' => v = V ∧ hp' = hp := by rw [hsh hp]; exact ⟨h2.1, fun _ => ⟨rfl, rfl⟩⟩
        obtain ⟨v1, hp1, s1', a1, ⟨e1, e2⟩, k4⟩ := nonmiracle hx h3 hr
        subst e1 e2
        have ih := move hQ T1 (fr.put x.dst v1) hp1 s1' a1 k4 (fun y hy => hs y (by simp [hy])) (h2.2 hB)
        rw [ropG_alike (alike_put s1 fr v1)] at ih
        refine ropG_mono (fun u hp' hk => ?_) ih
        rw [List.cons_append, vcOps_cons, ropG_alike (alike_put s2 fr u), hsh hp']
        exact ⟨h2.1, fun _ => vcOps_congr hQ _ _ _ _ (put_comm s3 fr v1 u) hk⟩
      · have hqq : x.quiet = true ∧ i.quiet = true := by
          rcases s4 with h | h | h
          · exact absurd h hxp
          · exact absurd h hip
          · exact h
        obtain ⟨C, B, V, hsh⟩ := shapeG (P := P) (o := x) (quiet_shape hqq.1 fr hp)
        obtain ⟨C2, B2, V2, hsh2⟩ := shapeG (P := P) (o := i) (quiet_shape hqq.2 fr hp)
        have h2 := h
        rw [hsh] at h2
        have hB : B := by
          have h3 : ropG P x fr hp fun _ _ => B := by rw [hsh]; exact ⟨h2.1, id⟩
          obtain ⟨_, _, _, _, hB, _⟩ := nonmiracle hx h3 hr
          exact hB
        have h3 : ropG P x fr hp fun v hp' => v = V ∧ hp' = hp := by rw [hsh]; exact ⟨h2.1, fun _ => ⟨rfl, rfl⟩⟩
        obtain ⟨v1, hp1, s1', a1, ⟨e1, e2⟩, k4⟩ := nonmiracle hx h3 hr
        subst e1 e2
        have ih := move hQ T1 (fr.put x.dst v1) hp1 s1' a1 k4 (fun y hy => hs y (by simp [hy])) (h2.2 hB)
        rw [ropG_alike (alike_put s1 fr v1), hsh2] at ih
        rw [hsh2]
        refine ⟨ih.1, fun hB2 => ?_⟩
        rw [List.cons_append, vcOps_cons, ropG_alike (alike_put s2 fr V2), hsh]
        exact ⟨h2.1, fun _ => vcOps_congr hQ _ _ _ _ (put_comm s3 fr v1 V2) (ih.2 hB2)⟩
theorem split_mem {i : Nat} {T : List Nat} (h : i ∈ T) : ∃ T1 T2, T = T1 ++ i :: T2 := List.append_of_mem h
/-- In whatever order. -/
theorem run_any {Q : AExit → Fr → AHeap → Prop} (hQ : ∀ fr fr' hp, (∀ t, fr.get t = fr'.get t) → Q .normal fr hp → Q .normal fr' hp) {s0 : St} {hp0 : AHeap} {r : Nat → ROper} {A : Nat → Nat → Prop} (hA : ∀ x i, x < i → i < ops.size → A x i ∨ swapOK (r x) (r i) = true) :
    ∀ (l T : List Nat), l.Nodup → (∀ i, i ∈ l ↔ i ∈ T) → T.Pairwise (· < ·) → l.Pairwise (fun i x => ¬ A x i) → (∀ i ∈ T, i < ops.size ∧ ResAt P mt N ops i (r i)) →
      ∀ (s : St) (fr : Fr) (hp : AHeap) (a : Act), Rel P N s fr hp a → Step s0 hp0 s hp → vcOps P (Q .normal) (T.map r) fr hp → wpOps P ops (Post P N s0 hp0 Q) l a s.w
  | [], T, _, hm, _, _, _, s, fr, hp, a, hr, hs, h => by
    have : T = [] := List.eq_nil_iff_forall_not_mem.2 fun i hi => by simpa using (hm i).2 hi
    subst this
    exact ⟨.normal, s, fr, hp, rfl, rfl, hr, hs, h⟩
  | i :: l, T, hn, hm, hT, hl, hres, s, fr, hp, a, hr, hs, h => by
    have hiT : i ∈ T := (hm i).1 (by simp)
    obtain ⟨T1, T2, rfl⟩ := split_mem hiT
    obtain ⟨hn1, hn2⟩ := List.nodup_cons.1 hn
    obtain ⟨hl1, hl2⟩ := List.pairwise_cons.1 hl
    have hlt : ∀ x ∈ T1, x < i := fun x hx => (List.pairwise_append.1 hT).2.2 x hx i (by simp)
    have hgt : ∀ x ∈ T2, i < x := fun x hx => (List.pairwise_cons.1 (List.pairwise_append.1 hT).2.1).1 x hx
    have hin : ∀ x, x ∈ T1 → x ∈ l := fun x hx => by
      have := (hm x).2 (by simp [hx])
      rcases List.mem_cons.1 this with e | e
      · exact absurd e (Nat.ne_of_lt (hlt x hx))
      · exact e
    have hmv := move (mt := mt) (ops := ops) hQ (i := r i) (T2 := T2.map r) (T1.map r) fr hp s a hr (fun x hx => by
      obtain ⟨y, hy, rfl⟩ := List.mem_map.1 hx
      refine ⟨?_, y, (hres y (by simp [hy])).2⟩
      rcases hA y i (hlt y hy) (hres i hiT).1 with h | h
      · exact absurd h (hl1 y (hin y hy))
      · exact h) (by simpa using h)
    obtain ⟨o, ho, hop, hdst, hdN, hg⟩ := (hres i hiT).2
    have hm2 : ∀ j, j ∈ l ↔ j ∈ T1 ++ T2 := by
      intro j
      have hj := hm j
      constructor
      · intro hjl
        have := hj.1 (by simp [hjl])
        have hne : j ≠ i := fun e => hn1 (e ▸ hjl)
        simp [hne] at this ⊢
        exact this
      · intro hjT
        have := hj.2 (by simp at hjT ⊢; rcases hjT with h | h <;> simp [h])
        rcases List.mem_cons.1 this with e | e
        · subst e
          rcases List.mem_append.1 hjT with h | h
          · exact absurd rfl (Nat.ne_of_lt (hlt _ h))
          · exact absurd rfl (Nat.ne_of_lt (hgt _ h))
        · exact e
    have hT2 : (T1 ++ T2).Pairwise (· < ·) := by
      have h1 := List.pairwise_append.1 hT
      exact List.pairwise_append.2 ⟨h1.1, (List.pairwise_cons.1 h1.2.1).2, fun x hx y hy => h1.2.2 x hx y (by simp [hy])⟩
    simp only [wpOps, ho]
    have next : ∀ x v s' hp', RepF P s' hp' x v → Rel P N s' fr hp' a → Step s hp s' hp' → vcOps P (Q .normal) (T1.map r ++ T2.map r) (fr.put (r i).dst x) hp' → wpOps P ops (Post P N s0 hp0 Q) l (a.put o.dst v) s'.w := by
      intro x v s' hp' hx hr' hs' hk
      rw [hdst] at hk
      exact run_any hQ hA l (T1 ++ T2) hn2 hm2 hT2 hl2 (fun j hj => hres j (by simp at hj ⊢; rcases hj with h | h <;> simp [h])) s' _ hp' _ (hr'.put o.dst hdN hx) (hs.trans hs') (by simpa using hk)
    have run : rop P (r i).op fr hp (fun u hp' => vcOps P (Q .normal) (T1.map r ++ T2.map r) (fr.put (r i).dst u) hp') → o.wp P a s.w (wpOps P ops (Post P N s0 hp0 Q) l) (Post P N s0 hp0 Q) := fun h => resOp'_ok hop hr next h
    have skip : vcOps P (Q .normal) (T1.map r ++ T2.map r) (fr.put (r i).dst undefV) hp → wpOps P ops (Post P N s0 hp0 Q) l (a.put o.dst undef) s.w := fun h => next undefV undef s hp rep_undef hr (.refl _ _) h
    rcases hg with ⟨hg1, hg2⟩ | ⟨j, want, t, hg1, hg2, hg3⟩
    · have hw : Region.wanted o (yielded ops a.tmps) = true := by simp [Region.wanted, hg1]
      rw [if_pos hw]
      simp only [ropG, hg2] at hmv
      exact .inl (run hmv)
    · simp only [ropG, hg3, condG] at hmv
      split at hmv
      · rename_i b hb
        have hy := yielded_of hr hg2 hb
        have hw : Region.wanted o (yielded ops a.tmps) = (b == want) := by simp [Region.wanted, hg1, hy]
        rw [hw]
        cases b <;> cases want <;> simp at hmv ⊢
        · exact .inl (run hmv)
        · exact skip hmv
        · exact skip hmv
        · exact .inl (run hmv)
      · rename_i hb
        have hy := yielded_undef hr hg2 hb
        have hw : Region.wanted o (yielded ops a.tmps) = false := by simp [Region.wanted, hg1, hy]
        rw [hw]
        simpa using skip hmv
      · exact hmv.elim
end
end Go.Pg
