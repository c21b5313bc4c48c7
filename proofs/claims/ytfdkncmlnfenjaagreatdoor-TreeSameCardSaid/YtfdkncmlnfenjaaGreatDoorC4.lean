/- Part C4 of the proof: the laws and contracts that the last text joins. Own work; no condition of its own. -/
import Derived.Test.YtfdkncmlnfenjaaGreatDoorC3
import Derived.Test.YtfdkncmlnfenjaaGreatDoorC2
set_option linter.all false
set_option maxRecDepth 100000
set_option linter.all false
namespace Go.Pg
open Go.Proofs
section
variable {P : Program} {N : Nat} {mt : List Nat} {Q : AExit → Fr → AHeap → Prop} {fr : Fr} {hp : AHeap} {rc : RCode}
/-- A place that nothing lies in. -/
theorem W.pad (e : TypeId) (h : W P mt N rc Q fr (hp ++ [.buf e 0])) : W P mt N rc Q fr hp := ⟨fun c hc s a hr => by
  have hst := Step.ghost hr.heap (.buf e 0)
  have h1 := h.out c hc (s.ghost hp) a (hr.step hst (hr.heap.ghost e 0))
  exact wp_mono (P := P) (c := c) (a := a) (w := (s.ghost hp).w) h1 fun _ _ _ hq => Post.of_step hst hq⟩
theorem setRow_self {w : World} {g : Nat} {vs : Array Value} {t : TypeId} {f : Nat × Nat} (h : w.heap[g]? = some (.cells vs t f)) : w.setRow g vs = w := by
  obtain ⟨hlt, hv⟩ := Array.getElem?_eq_some_iff.1 h
  have : (w.setRow g vs).heap = w.heap := by
    unfold World.setRow
    apply Array.ext
    · simp
    · intro i h1 h2
      rw [Array.getElem_modify]
      split
      · rename_i e
        subst e
        simp [hv]
      · rfl
  calc w.setRow g vs = { w with heap := (w.setRow g vs).heap } := rfl
    _ = w := by rw [this]
/-- A nil row in a variable, ready to grow. -/
theorem W.seedCell (l j : Nat) {t : TypeId} {cs : List FV} {e : TypeId} (hl : hp[l]? = some (.var t cs)) (hj : cs[j]? = some (.nil e))
    (h : W P mt N rc Q fr (hp.set l (.var t (cs.set j (.own e [] hp.length))) ++ [.buf e 0])) : W P mt N rc Q fr hp := ⟨fun c hc s a hr => by
  have hst := Step.ghost hr.heap (.buf e 0)
  have hlt := lt_of_get? hl
  have hr1 := hr.heap.ghost e 0
  have hl1 : (hp ++ [.buf e 0])[l]? = some (.var t cs) := by rw [List.getElem?_append_left hlt]; exact hl
  obtain ⟨b, vs, h1, h2, h3, h4, h5, h6⟩ := hr1.obj l _ hl1
  have hc2 : Cells P (s.ghost hp) (hp ++ [.buf e 0]) (cs.set j (.own e [] hp.length)) vs := by
    refine ⟨by simpa using h4, h5, fun i hi hv => ?_⟩
    by_cases e1 : j = i
    · subst e1
      have hi' : j < cs.length := by simpa using hi
      have k := h6 j hi' hv
      rw [(List.getElem?_eq_some_iff.1 hj).2] at k
      simp only [List.getElem_set_self]
      generalize vs[j] = v at k
      cases k
      exact .own e [] hp.length _ 0 (.sl0 _ _ _) (by simp) (Nat.le_refl _) fun _ => .inl ⟨rfl, rfl, by simp [St.ghost]⟩
    · rw [List.getElem_set_ne e1]
      exact h6 i (by simpa using hi) hv
  have hst2 := Step.wrote hr1 (cs' := cs.set j (.own e [] hp.length)) hl1 h1 vs
  have hr2 := RelH.wrote hr1 hl1 h1 vs hc2
  have hw : (s.ghost hp).wrote b vs = s.ghost hp := by
    unfold St.wrote
    rw [setRow_self h2]
  rw [hw] at hst2 hr2
  have hh : (hp ++ [AObj.buf e 0]).set l (.var t (cs.set j (.own e [] hp.length))) = hp.set l (.var t (cs.set j (.own e [] hp.length))) ++ [.buf e 0] := by
    rw [List.set_append_left _ _ hlt]
  rw [hh] at hst2 hr2
  have hst3 := hst.trans hst2
  have h1 := h.out c hc (s.ghost hp) a (hr.step hst3 hr2)
  exact wp_mono (P := P) (c := c) (a := a) (w := (s.ghost hp).w) h1 fun _ _ _ hq => Post.of_step hst3 hq⟩
end
/-- One text by the pairs: the first that bears it. -/
def renF (by_ : List Prs) (s : Txt) : Txt := match by_ with
  | [] => s
  | x :: r => if x.old = s then x.new else renF r s
section
variable (by_ : List Prs) (o1 o2 o3 o4 : AObj) (h2 : o3 = .var 36 [.d (.sl tPair (rW by_))])
include h2
theorem renameF_spec (F : Fam (σ := Unit) (fun _ => o1) (fun _ => o2) (fun _ => o3) (fun _ => o4)) (s : Txt) : RetS (σ := Unit) (fun _ => o1) (fun _ => o2) (fun _ => o3) (fun _ => o4) 46 ([.d (.str s)] ++ [.vp 3 0]) () (.str (renF by_ s)) () := by
  subst h2
  have hroomB : roomB = 140737488355328 := rfl; refine ac_of ok46 rfl rfl ?_
  repeat' first | (with_reducible refine W.seq ?_) | ((with_reducible refine W.region ?_); conv => whnf) | (with_reducible refine W.block ?_) | (intro hlen; simp only [rT_len, rE_len, rF_len, rC_len, rV_len, rP_len, rS_len, rR_len, rTT_len, rW_len] at hlen ⊢; conv => whnf) | ((refine And.intro rfl ?_); conv => whnf)
  refine W.loopJ (σ := Nat) (fun i => [(0, .d (.str s)), (6, .d (.sl tPair (rW by_))), (7, .d (.int .i64 by_.length)), (8, .d (.int .i64 i))])
      (fun _ => [glo, o1, o2, .var 36 [.d (.sl tPair (rW by_))], o4])
      (fun i => i ≤ by_.length ∧ renF (by_.drop i) s = renF by_ s) (fun i => by_.length - i) 0
      ⟨Nat.zero_le _, rfl⟩ ⟨.same _, .same _, .same _, .same _, trivial⟩ rfl ?_ ?_
  · rintro i _
    obtain ⟨b1, b2, b3, b4⟩ := F.ok () 5 (by omega)
    refine ⟨by simp [OkIn], ?_⟩
    intro o ho
    simp only [List.mem_cons, List.not_mem_nil, or_false] at ho
    rcases ho with rfl | rfl | rfl | rfl | rfl
    · trivial
    · exact b1
    · exact b2
    · exact b3
    · exact b4
  rintro i ⟨hi, hren⟩
  rcases Nat.lt_or_ge i by_.length with hlt | hge
  · obtain ⟨x, hx⟩ := at_lt hlt
    have hrx := rW_some hx
    have e3 : IntKind.i64.wrap (↑i + 1) = ((i + 1 : Nat) : Int) := wr (by omega) (by omega)
    rw [drop_at hx] at hren
    simp only [renF] at hren
    repeat' first | (with_reducible refine W.seq ?_) | ((with_reducible refine W.region ?_); conv => whnf) | ((with_reducible refine W.cond ?_); conv => whnf) | (with_reducible refine W.block ?_) | ((with_reducible refine W.skip ?_); conv => whnf) | ((with_reducible refine W.ret ?_); conv => whnf) | (refine finD (.inr rfl) rfl rfl ⟨?_, rfl⟩) | ((refine condM_intro (fun hc => ?_) (fun hc => ?_)) <;> (try simp only [decide_eq_true_eq, decide_eq_false_iff_not, beq_iff_eq, bne_iff_ne, beq_eq_false_iff_ne, bne_eq_false_iff_eq, ne_eq, Bool.not_eq_true', Bool.not_eq_false'] at hc) <;> (first | (exfalso; omega) | (conv => whnf))) | ((refine fun row hrow => ?_); revert row; (apply row_same); (focus assumption); conv => whnf) | ((refine And.intro rfl ?_); conv => whnf) | ((refine And.intro ?_ ?_); (focus (first | omega | (simp only [rT_len, rE_len, rF_len, rC_len, rV_len, rP_len, rS_len, rR_len, rTT_len, rW_len, List.length_map, List.length_replicate] at *; omega) | exact (byteAt_lt _ _).1 | exact (byteAt_lt _ _).2 | (simp [ebStr, ebTxts, ebU8, ebExpr, ebStmt, ebVar, ebParam, ebField, ebRec, ebRoutine, ebPair, roomB]; done))); conv => whnf)
    · have : x.old = s := by simpa [negB] using hc
      rw [if_pos this] at hren
      rw [← hren]
    · have : x.old ≠ s := by simpa [negB] using hc
      rw [if_neg this] at hren
      exact ⟨i + 1, [_], ⟨hlt, hren⟩, by omega, ⟨.same _, .same _, .same _, .of_eq (by rw [← e3]; rfl), trivial⟩, rfl, Nat.le_refl _⟩
  · rw [drop_end hge] at hren
    simp only [renF] at hren
    repeat' first | (with_reducible refine W.seq ?_) | ((with_reducible refine W.region ?_); conv => whnf) | ((with_reducible refine W.cond ?_); conv => whnf) | ((with_reducible refine W.exit ?_); conv => whnf) | ((with_reducible refine W.ret ?_); conv => whnf) | (refine finD (.inr rfl) rfl rfl ⟨?_, rfl⟩) | ((refine condM_intro (fun hc => ?_) (fun hc => ?_)) <;> (try simp only [decide_eq_true_eq, decide_eq_false_iff_not, beq_iff_eq, bne_iff_ne, beq_eq_false_iff_ne, bne_eq_false_iff_eq, ne_eq, Bool.not_eq_true', Bool.not_eq_false'] at hc) <;> (first | (exfalso; omega) | (conv => whnf)))
    rw [← hren]
omit h2
/-- What a name becomes, all its parts turned. -/
def renN (by_ : List Prs) (s : Txt) : Txt := (mapText (σ := Unit) (fun _ s => ((), renF by_ s)) () s).2
def renG (by_ : List Prs) (p : Pgm) : Pgm := (mpG (σ := Unit) (fun _ s => ((), renF by_ s)) () p).2
theorem rename_spec (p : Pgm) (by_ : List Prs) (h : ∀ s ∈ nG p, s.length ≤ 1099511627776 ∧ (renN by_ s).length ≤ roomB) :
    Ret Tryz.prog 16 [.d (.agg (sG p)), .d (.sl tPair (rW by_))] (.agg (sG (renG by_ p))) := by
  have hroomB : roomB = 140737488355328 := rfl; refine ac_of ok16 rfl rfl ?_
  refine W.pad 0 (W.pad 0 ?_)
  have hF : Fam (σ := Unit) (fun _ => .buf 0 0) (fun _ => .buf 0 0) (fun _ => .var 36 [.d (.sl tPair (rW by_))]) (fun _ => .var 28 [.d (.str []), .nil 9, .nil 9, .nil 9, .nil tRec, .nil tVar, .nil tRoutine, .nil tStmt, .nil 9]) :=
    ⟨fun _ => by simp [AObj.all, allL, FV.all], fun _ n _ => by simp [ObjOk, OkIn]⟩
  have hcap : allL (· < 5) [FV.vp 3 0] := by simp [allL, FV.all]
  have hw : Walk (σ := Unit) (fun _ => .buf 0 0) (fun _ => .buf 0 0) (fun _ => .var 36 [.d (.sl tPair (rW by_))]) (fun _ => .var 28 [.d (.str []), .nil 9, .nil 9, .nil 9, .nil tRec, .nil tVar, .nil tRoutine, .nil tStmt, .nil 9])
      (fun _ s => ((), renF by_ s)) 46 [.vp 3 0] (fun s => s.length ≤ 1099511627776 ∧ (renN by_ s).length ≤ roomB) :=
    ⟨hF, hcap, fun st s hs => parts_spec hF _ _ _ hcap (fun _ => True) (fun s => s.length ≤ 1099511627776 ∧ (renN by_ s).length ≤ roomB)
      (fun _ s _ => renameF_spec by_ _ _ _ _ rfl hF s) (fun s hs => ⟨hs.1, fun _ _ _ => trivial, fun _ => hs.2⟩) st s hs⟩
  repeat' first | (with_reducible refine W.seq ?_) | ((with_reducible refine W.region ?_); conv => whnf) | (((refine AC.useS (rest := []) (st := ()) hF (mprog_spec hw p () h) ⟨hw.recv.1, trivial, trivial⟩ ?_)); conv => whnf) | ((with_reducible refine W.ret ?_); conv => whnf) | (refine finD (.inr rfl) rfl rfl ⟨?_, rfl⟩)
  rfl
end
/-- Each once, among these. -/
abbrev Seen (U : List Txt) := {l : List Txt // l.Nodup ∧ ∀ x ∈ l, x ∈ U}
theorem nodup_len : ∀ {l U : List Txt}, l.Nodup → (∀ x ∈ l, x ∈ U) → l.length ≤ U.length
  | [], _, _, _ => Nat.zero_le _
  | x :: l, U, h, hU => by
    obtain ⟨h1, h2⟩ := List.nodup_cons.1 h
    have := nodup_len (U := U.erase x) h2 fun y hy => (List.mem_erase_of_ne (fun e => h1 (by rw [← e]; exact hy))).2 (hU y (by simp [hy]))
    rw [List.length_erase_of_mem (hU x (by simp))] at this
    have := List.length_pos_of_mem (hU x (by simp))
    simp only [List.length_cons]
    omega
def seeF (U : List Txt) (st : Seen U) (s : Txt) : Seen U × Txt :=
  (if h : s ∉ st.1 ∧ s ∈ U then ⟨st.1 ++ [s], by
      refine ⟨List.nodup_append.2 ⟨st.2.1, by simp, fun a ha b hb => ?_⟩, fun x hx => ?_⟩
      · exact fun e => h.1 (by simp at hb; rw [← hb, ← e]; exact ha)
      · rcases List.mem_append.1 hx with hx | hx
        · exact st.2.2 x hx
        · simp at hx; subst hx; exact h.2⟩
    else st, s)
def entOf (l : List Txt) : List (List UInt8 × FV) := l.map fun s => (s, .d (.bool true))
theorem ent_some : ∀ {l : List Txt} {s : Txt} {v : FV}, lookupS (entOf l) s = some v → v = .d (.bool true) ∧ s ∈ l
  | [], s, v, h => by simp [entOf, lookupS] at h
  | x :: l, s, v, h => by
    simp only [entOf, List.map_cons, lookupS, List.lookup] at h
    split at h
    · rename_i e
      injection h with h
      exact ⟨h.symm, by simp at e; simp [e]⟩
    · obtain ⟨h1, h2⟩ := ent_some (l := l) h
      exact ⟨h1, by simp [h2]⟩
theorem ent_none : ∀ {l : List Txt} {s : Txt}, lookupS (entOf l) s = none → s ∉ l
  | [], s, h => by simp
  | x :: l, s, h => by
    simp only [entOf, List.map_cons, lookupS, List.lookup] at h
    split at h
    · cases h
    · rename_i e
      have := ent_none (l := l) h
      simp only [List.mem_cons, not_or]
      exact ⟨fun e2 => by simp [e2] at e, this⟩
theorem ent_set : ∀ {l : List Txt} {s : Txt}, s ∉ l → mapSet (entOf l) s (.d (.bool true)) = entOf (l ++ [s])
  | [], s, _ => by simp [entOf, mapSet]
  | x :: l, s, h => by
    simp only [List.mem_cons, not_or] at h
    have := ent_set h.2
    simp only [entOf, List.map_cons, mapSet, List.cons_append] at this ⊢
    rw [if_neg (by simpa using fun e => h.1 e.symm), this]
theorem seenFam (U : List Txt) : Fam (σ := Seen U) (fun st => .var 22 [.own tStr (rT st.1) 4]) (fun st => .map (entOf st.1)) (fun _ => .var 73 [.map 2]) (fun st => .buf tStr (rT st.1).length) := by
  refine ⟨fun st => ⟨by simp [AObj.all, allL, FV.all], ?_, by simp [AObj.all, allL, FV.all], by simp [AObj.all]⟩, fun st n hn => ⟨by simp [ObjOk, OkIn]; omega, ?_, by simp [ObjOk, OkIn]; omega, by simp [ObjOk]⟩⟩
  · simp only [AObj.all, entOf, List.mem_map]
    rintro x ⟨s, _, rfl⟩
    trivial
  · simp only [ObjOk, entOf, List.mem_map]
    rintro x ⟨s, _, rfl⟩
    simp [OkIn]
theorem namesF_spec (U : List Txt) (hU : U.length ≤ 1099511627776) (st : Seen U) (s : Txt) (hs : s ∈ U) :
    RetS (σ := Seen U) (fun st => .var 22 [.own tStr (rT st.1) 4]) (fun st => .map (entOf st.1)) (fun _ => .var 73 [.map 2]) (fun st => .buf tStr (rT st.1).length)
      38 ([.d (.str s)] ++ [.vp 3 0, .vp 1 0]) st (.str (seeF U st s).2) (seeF U st s).1 := by
  have hle := nodup_len st.2.1 st.2.2
  have hroomB : roomB = 140737488355328 := rfl; refine ac_of ok38 rfl rfl ?_
  repeat' first | (with_reducible refine W.seq ?_) | ((with_reducible refine W.region ?_); conv => whnf) | ((with_reducible refine W.cond ?_); conv => whnf) | ((refine And.intro rfl ?_); conv => whnf) | ((refine And.intro (fun vz hz => ?_) (fun hz => ?_)) <;> (conv => whnf)) | ((refine And.intro ?_ ?_); (focus (first | omega | (simp only [rT_len, rE_len, rF_len, rC_len, rV_len, rP_len, rS_len, rR_len, rTT_len, rW_len, List.length_map, List.length_replicate] at *; omega) | exact (byteAt_lt _ _).1 | exact (byteAt_lt _ _).2 | (simp [ebStr, ebTxts, ebU8, ebExpr, ebStmt, ebVar, ebParam, ebField, ebRec, ebRoutine, ebPair, roomB]; done))); conv => whnf)
  · obtain ⟨rfl, hin⟩ := ent_some hz
    have e1 : seeF U st s = (st, s) := by simp [seeF, hin]
    generalize seeF U st s = q at e1 ⊢
    subst e1
    conv => whnf
    with_reducible refine W.cond ?_
    conv => whnf
    with_reducible refine W.skip ?_
    conv => whnf
    with_reducible refine W.seq ?_
    with_reducible refine W.region ?_
    conv => whnf
    with_reducible refine W.ret ?_
    exact finS (seenFam U) (st := st) (st' := st) (junk := []) (.inr rfl) rfl rfl
  · have hin := ent_none hz
    have e1 : (seeF U st s).1.1 = st.1 ++ [s] := by simp [seeF, hin, hs]
    have e2 : (seeF U st s).2 = s := by simp [seeF]
    rw [e2]
    have h16 : ((rT st.1).length + [[AV.str s]].length) * 16 ≤ roomB := by
      rw [rT_len, hroomB]
      show (st.1.length + 1) * 16 ≤ _
      omega
    refine ⟨h16, ?_⟩
    conv => whnf
    with_reducible refine W.seq ?_
    with_reducible refine W.region ?_
    conv => whnf
    with_reducible refine W.ret ?_
    refine finS (seenFam U) (st := st) (st' := (seeF U st s).1) (junk := []) (.inr rfl) ?_ rfl
    rw [e1, ← ent_set hin]
    simp only [rT, List.map_append, List.length_append, List.map_cons, List.map_nil, List.length_map]
    rfl
/- What is remembered behind a walk is what is remembered behind its texts. -/
section
variable {σ : Type} (f : σ → Txt → σ × Txt)
abbrev txtS (st : σ) (s : Txt) : σ := (mapText f st s).1
theorem mapL_st {α : Type} (g : σ → α → σ × α) (n : α → List Txt) : ∀ (st : σ) (l : List α), (∀ x ∈ l, ∀ st, (g st x).1 = (n x).foldl (txtS f) st) → (mapL g st l).1 = (l.flatMap n).foldl (txtS f) st
  | st, [], _ => rfl
  | st, x :: l, h => by
    simp only [mapL, List.flatMap_cons, List.foldl_append]
    rw [mapL_st g n _ l fun y hy => h y (by simp [hy]), h x (by simp)]
mutual
theorem mpE_st : ∀ (st : σ) (e : Expr), (mpE f st e).1 = (nE e).foldl (txtS f) st
  | st, ⟨op, n, name, field, l⟩ => by
    simp only [mpE, nE, List.foldl_cons]
    rw [mpEs_st]
theorem mpEs_st : ∀ (st : σ) (l : List Expr), (mpEs f st l).1 = (nEs l).foldl (txtS f) st
  | st, [] => by simp [mpEs, nEs]
  | st, x :: l => by
    simp only [mpEs, nEs, List.foldl_append]
    rw [mpEs_st, mpE_st]
end
theorem mpV_st (st : σ) (v : Vr) : (mpV f st v).1 = (nV v).foldl (txtS f) st := by simp [mpV, mpY, nV]
theorem mpP_st (st : σ) (v : Pm) : (mpP f st v).1 = (nP v).foldl (txtS f) st := by simp [mpP, mpY, nP]
theorem mpF_st (st : σ) (v : Fld) : (mpF f st v).1 = (nF v).foldl (txtS f) st := by simp [mpF, nF]
theorem mpC_st (st : σ) (v : Rc) : (mpC f st v).1 = (nC v).foldl (txtS f) st := by
  simp only [mpC, nC, List.foldl_cons]
  rw [mapL_st f _ nF _ _ fun x _ st => mpF_st f st x]
mutual
theorem mpS_st : ∀ (st : σ) (e : Stm), (mpS f st e).1 = (nS e).foldl (txtS f) st
  | st, ⟨before, trail, op, name, p, e, down, more, body, els, fin, fin2⟩ => by
    simp only [mpS, nS, List.foldl_cons, List.foldl_append]
    rw [mpSs_st, mpSs_st, mapL_st f _ nE _ _ fun x _ st => mpE_st f st x, mpE_st]
theorem mpSs_st : ∀ (st : σ) (l : List Stm), (mpSs f st l).1 = (nSs l).foldl (txtS f) st
  | st, [] => by simp [mpSs, nSs]
  | st, x :: l => by
    simp only [mpSs, nSs, List.foldl_append]
    rw [mpSs_st, mpS_st]
end
mutual
theorem mpR_st : ∀ (st : σ) (e : Rtn), (mpR f st e).1 = (nR e).foldl (txtS f) st
  | st, ⟨before, trail, name, result, params, vars, inner, body, fin⟩ => by
    simp only [mpR, nR, List.foldl_cons, List.foldl_append]
    rw [mapL_st f _ nS _ _ fun x _ st => mpS_st f st x, mpRs_st, mapL_st f _ nV _ _ fun x _ st => mpV_st f st x, mapL_st f _ nP _ _ fun x _ st => mpP_st f st x]
theorem mpRs_st : ∀ (st : σ) (l : List Rtn), (mpRs f st l).1 = (nRs l).foldl (txtS f) st
  | st, [] => by simp [mpRs, nRs]
  | st, x :: l => by
    simp only [mpRs, nRs, List.foldl_append]
    rw [mpRs_st, mpR_st]
end
theorem mpG_st (st : σ) (p : Pgm) : (mpG f st p).1 = (nG p).foldl (txtS f) st := by
  simp only [mpG, nG, List.foldl_cons, List.foldl_append]
  rw [mapL_st f _ nS _ _ fun x _ st => mpS_st f st x, mapL_st f _ nR _ _ fun x _ st => mpR_st f st x, mapL_st f _ nV _ _ fun x _ st => mpV_st f st x, mapL_st f _ nC _ _ fun x _ st => mpC_st f st x]
end
theorem join_parts (c : UInt8) : ∀ s : Txt, joinF [c] (partsF c s) = s
  | [] => rfl
  | x :: r => by
    have ih := join_parts c r
    simp only [partsF]
    split
    · rename_i e
      subst e
      cases h : partsF x r with
      | nil => exact absurd h (partsF_ne x r)
      | cons p ps =>
        rw [h] at ih
        simp only [joinF]
        rw [ih]
        rfl
    · cases h : partsF c r with
      | nil => exact absurd h (partsF_ne c r)
      | cons p ps =>
        rw [h] at ih
        simp only
        cases ps with
        | nil => simp only [joinF] at ih ⊢; rw [ih]
        | cons q l => simp only [joinF] at ih ⊢; rw [← ih]; rfl
theorem parts_id {σ : Type} (f : σ → Txt → σ × Txt) (hf : ∀ st s, (f st s).2 = s) : ∀ (st : σ) (l : List Txt), (mapPartsL f st l).2 = l
  | st, [] => rfl
  | st, p :: ps => by
    simp only [mapPartsL]
    rw [parts_id f hf]
    split <;> simp [hf]
theorem text_id {σ : Type} (f : σ → Txt → σ × Txt) (hf : ∀ st s, (f st s).2 = s) (st : σ) (s : Txt) : (mapText f st s).2 = s := by
  unfold mapText
  split
  · rename_i e; simp [e]
  · simp only [parts_id f hf, join_parts]
/-- One more name, if it is none yet. -/
def addN (l : List Txt) (s : Txt) : List Txt := if s = [] ∨ s ∈ l then l else l ++ [s]
def namesP (p : Pgm) : List Txt := ((nG p).flatMap (partsF 36)).foldl addN []
theorem seen_parts (U : List Txt) : ∀ (l : List Txt) (st : Seen U), (∀ x ∈ l, x ≠ [] → x ∈ U) → (mapPartsL (seeF U) st l).1.1 = l.foldl addN st.1
  | [], st, _ => rfl
  | x :: l, st, h => by
    simp only [mapPartsL, List.foldl_cons]
    rw [seen_parts U l _ fun y hy => h y (by simp [hy])]
    congr 1
    unfold addN
    split
    · rename_i e; simp [e]
    · rename_i e
      have hU := h x (by simp) e
      simp only [e, false_or, seeF]
      by_cases hx : x ∈ st.1
      · simp [hx]
      · simp [hx, hU]
theorem seen_text (U : List Txt) (st : Seen U) (s : Txt) (h : ∀ x ∈ partsF 36 s, x ≠ [] → x ∈ U) : (mapText (seeF U) st s).1.1 = (partsF 36 s).foldl addN st.1 := by
  unfold mapText
  split
  · rename_i e; subst e; simp [partsF, addN]
  · exact seen_parts U _ st h
theorem seen_all (U : List Txt) : ∀ (l : List Txt) (st : Seen U), (∀ s ∈ l, ∀ x ∈ partsF 36 s, x ≠ [] → x ∈ U) → (l.foldl (txtS (seeF U)) st).1 = (l.flatMap (partsF 36)).foldl addN st.1
  | [], st, _ => rfl
  | s :: l, st, h => by
    simp only [List.foldl_cons, List.flatMap_cons, List.foldl_append]
    rw [seen_all U l _ fun y hy => h y (by simp [hy]), seen_text U st s (h s (by simp))]
def partsAll (p : Pgm) : List Txt := (nG p).flatMap (partsF 36)
theorem names_spec (p : Pgm) (hU : (partsAll p).length ≤ 1099511627776) (hl : ∀ s ∈ nG p, s.length ≤ 1099511627776) :
    Ret Tryz.prog 13 [.d (.agg (sG p))] (aT (namesP p)) := by
  have hN : (mpG (seeF (partsAll p)) ⟨[], by simp⟩ p).1.1 = namesP p := by
    rw [mpG_st, seen_all]
    · rfl
    · intro s hs x hx _
      exact List.mem_flatMap.2 ⟨s, hs, hx⟩
  have hok : ∀ s ∈ nG p, s.length ≤ 1099511627776 ∧ ∀ x ∈ partsF 36 s, x ≠ [] → x ∈ partsAll p := fun s hs => ⟨hl s hs, fun x hx _ => List.mem_flatMap.2 ⟨s, hs, hx⟩⟩
  generalize partsAll p = U at *
  have hF := seenFam U
  have hcap : allL (· < 5) [FV.vp 3 0, FV.vp 1 0] := by simp [allL, FV.all]
  have hw : Walk (σ := Seen U) (fun st => .var 22 [.own tStr (rT st.1) 4]) (fun st => .map (entOf st.1)) (fun _ => .var 73 [.map 2]) (fun st => .buf tStr (rT st.1).length)
      (seeF U) 38 [.vp 3 0, .vp 1 0] (fun s => s.length ≤ 1099511627776 ∧ ∀ x ∈ partsF 36 s, x ≠ [] → x ∈ U) :=
    ⟨hF, hcap, fun st s hs => parts_spec hF _ _ _ hcap (fun s => s ∈ U) (fun s => s.length ≤ 1099511627776 ∧ ∀ x ∈ partsF 36 s, x ≠ [] → x ∈ U)
      (fun st s h => namesF_spec U hU st s h) (fun s hs => ⟨hs.1, hs.2, fun st => by rw [text_id _ (fun _ _ => rfl)]; have := hs.1; simp only [roomB]; omega⟩) st s hs⟩
  have hroomB : roomB = 140737488355328 := rfl; refine ac_of ok13 rfl rfl ?_
  with_reducible refine W.seq ?_
  with_reducible refine W.region ?_
  conv => whnf
  with_reducible refine W.seq ?_
  with_reducible refine W.region ?_
  conv => whnf
  with_reducible refine W.seq ?_
  with_reducible refine W.region ?_
  conv => whnf
  refine W.seedCell 1 0 rfl rfl ?_
  repeat' first | (with_reducible refine W.seq ?_) | ((with_reducible refine W.region ?_); conv => whnf) | (((refine AC.useS (rest := []) (st := (⟨[], by simp⟩ : Seen U)) hF (mprog_spec hw p _ hok) ⟨hw.recv.1, trivial, trivial⟩ ?_)); conv => whnf) | ((refine W.retd 2 _ (.own _ _ _) ?_); conv => whnf) | (refine finD (.inr rfl) rfl rfl ⟨?_, rfl⟩)
  all_goals rw [hN]
end Go.Pg
set_option maxRecDepth 100000
set_option linter.all false
namespace Go.Pg
open Go.Proofs
theorem fewTxt_spec (l : List Txt) : Ret Tryz.prog 67 [.d (.sl 9 (rT l))] (.bool (decide (l.length ≤ 512))) := by
  have hroomB : roomB = 140737488355328 := rfl; refine ac_of ok67 rfl rfl ?_
  repeat' first | (with_reducible refine W.seq ?_) | ((with_reducible refine W.region ?_); conv => whnf) | ((with_reducible refine W.ret ?_); conv => whnf) | (refine finD (.inr rfl) rfl rfl ⟨?_, rfl⟩) | (intro hlen; simp only [rT_len, rE_len, rF_len, rC_len, rV_len, rP_len, rS_len, rR_len, rTT_len, rW_len] at hlen ⊢; conv => whnf) | ((refine And.intro rfl ?_); conv => whnf)
  all_goals (refine congrArg (fun b => FV.d (AV.bool b)) ?_; exact decide_eq_decide.2 (by omega))
theorem fewRc_spec (l : List Rc) : Ret Tryz.prog 25 [.d (.sl 59 (rC l))] (.bool (decide (l.length ≤ 512))) := by
  have hroomB : roomB = 140737488355328 := rfl; refine ac_of ok25 rfl rfl ?_
  repeat' first | (with_reducible refine W.seq ?_) | ((with_reducible refine W.region ?_); conv => whnf) | ((with_reducible refine W.ret ?_); conv => whnf) | (refine finD (.inr rfl) rfl rfl ⟨?_, rfl⟩) | (intro hlen; simp only [rT_len, rE_len, rF_len, rC_len, rV_len, rP_len, rS_len, rR_len, rTT_len, rW_len] at hlen ⊢; conv => whnf) | ((refine And.intro rfl ?_); conv => whnf)
  all_goals (refine congrArg (fun b => FV.d (AV.bool b)) ?_; exact decide_eq_decide.2 (by omega))
theorem fewFld_spec (l : List Fld) : Ret Tryz.prog 70 [.d (.sl 69 (rF l))] (.bool (decide (l.length ≤ 512))) := by
  have hroomB : roomB = 140737488355328 := rfl; refine ac_of ok70 rfl rfl ?_
  repeat' first | (with_reducible refine W.seq ?_) | ((with_reducible refine W.region ?_); conv => whnf) | ((with_reducible refine W.ret ?_); conv => whnf) | (refine finD (.inr rfl) rfl rfl ⟨?_, rfl⟩) | (intro hlen; simp only [rT_len, rE_len, rF_len, rC_len, rV_len, rP_len, rS_len, rR_len, rTT_len, rW_len] at hlen ⊢; conv => whnf) | ((refine And.intro rfl ?_); conv => whnf)
  all_goals (refine congrArg (fun b => FV.d (AV.bool b)) ?_; exact decide_eq_decide.2 (by omega))
theorem fewVr_spec (l : List Vr) : Ret Tryz.prog 74 [.d (.sl 98 (rV l))] (.bool (decide (l.length ≤ 512))) := by
  have hroomB : roomB = 140737488355328 := rfl; refine ac_of ok74 rfl rfl ?_
  repeat' first | (with_reducible refine W.seq ?_) | ((with_reducible refine W.region ?_); conv => whnf) | ((with_reducible refine W.ret ?_); conv => whnf) | (refine finD (.inr rfl) rfl rfl ⟨?_, rfl⟩) | (intro hlen; simp only [rT_len, rE_len, rF_len, rC_len, rV_len, rP_len, rS_len, rR_len, rTT_len, rW_len] at hlen ⊢; conv => whnf) | ((refine And.intro rfl ?_); conv => whnf)
  all_goals (refine congrArg (fun b => FV.d (AV.bool b)) ?_; exact decide_eq_decide.2 (by omega))
theorem fewRtn_spec (l : List Rtn) : Ret Tryz.prog 78 [.d (.sl 103 (rR l))] (.bool (decide (l.length ≤ 512))) := by
  have hroomB : roomB = 140737488355328 := rfl; refine ac_of ok78 rfl rfl ?_
  repeat' first | (with_reducible refine W.seq ?_) | ((with_reducible refine W.region ?_); conv => whnf) | ((with_reducible refine W.ret ?_); conv => whnf) | (refine finD (.inr rfl) rfl rfl ⟨?_, rfl⟩) | (intro hlen; simp only [rT_len, rE_len, rF_len, rC_len, rV_len, rP_len, rS_len, rR_len, rTT_len, rW_len] at hlen ⊢; conv => whnf) | ((refine And.intro rfl ?_); conv => whnf)
  all_goals (refine congrArg (fun b => FV.d (AV.bool b)) ?_; exact decide_eq_decide.2 (by omega))
theorem fewPm_spec (l : List Pm) : Ret Tryz.prog 126 [.d (.sl 145 (rP l))] (.bool (decide (l.length ≤ 512))) := by
  have hroomB : roomB = 140737488355328 := rfl; refine ac_of ok126 rfl rfl ?_
  repeat' first | (with_reducible refine W.seq ?_) | ((with_reducible refine W.region ?_); conv => whnf) | ((with_reducible refine W.ret ?_); conv => whnf) | (refine finD (.inr rfl) rfl rfl ⟨?_, rfl⟩) | (intro hlen; simp only [rT_len, rE_len, rF_len, rC_len, rV_len, rP_len, rS_len, rR_len, rTT_len, rW_len] at hlen ⊢; conv => whnf) | ((refine And.intro rfl ?_); conv => whnf)
  all_goals (refine congrArg (fun b => FV.d (AV.bool b)) ?_; exact decide_eq_decide.2 (by omega))
theorem fewStm_spec (l : List Stm) : Ret Tryz.prog 84 [.d (.sl 107 (rS l))] (.bool (decide (l.length ≤ 512))) := by
  have hroomB : roomB = 140737488355328 := rfl; refine ac_of ok84 rfl rfl ?_
  repeat' first | (with_reducible refine W.seq ?_) | ((with_reducible refine W.region ?_); conv => whnf) | ((with_reducible refine W.ret ?_); conv => whnf) | (refine finD (.inr rfl) rfl rfl ⟨?_, rfl⟩) | (intro hlen; simp only [rT_len, rE_len, rF_len, rC_len, rV_len, rP_len, rS_len, rR_len, rTT_len, rW_len] at hlen ⊢; conv => whnf) | ((refine And.intro rfl ?_); conv => whnf)
  all_goals (refine congrArg (fun b => FV.d (AV.bool b)) ?_; exact decide_eq_decide.2 (by omega))
theorem fewExpr_spec (l : List Expr) : Ret Tryz.prog 106 [.d (.sl 44 (rE l))] (.bool (decide (l.length ≤ 512))) := by
  have hroomB : roomB = 140737488355328 := rfl; refine ac_of ok106 rfl rfl ?_
  repeat' first | (with_reducible refine W.seq ?_) | ((with_reducible refine W.region ?_); conv => whnf) | ((with_reducible refine W.ret ?_); conv => whnf) | (refine finD (.inr rfl) rfl rfl ⟨?_, rfl⟩) | (intro hlen; simp only [rT_len, rE_len, rF_len, rC_len, rV_len, rP_len, rS_len, rR_len, rTT_len, rW_len] at hlen ⊢; conv => whnf) | ((refine And.intro rfl ?_); conv => whnf)
  all_goals (refine congrArg (fun b => FV.d (AV.bool b)) ?_; exact decide_eq_decide.2 (by omega))
theorem kind_spec (k : Int) : Ret Tryz.prog 73 [.d (.int .i64 k)] (.bool (decide (1 ≤ k) && decide (k ≤ 3))) := by
  have hroomB : roomB = 140737488355328 := rfl; refine ac_of ok73 rfl rfl ?_
  repeat' first | (with_reducible refine W.seq ?_) | ((with_reducible refine W.region ?_); conv => whnf) | ((with_reducible refine W.ret ?_); conv => whnf) | (refine finD (.inr rfl) rfl rfl ⟨?_, rfl⟩) | ((refine condM_intro (fun hc => ?_) (fun hc => ?_)) <;> (try simp only [decide_eq_true_eq, decide_eq_false_iff_not, beq_iff_eq, bne_iff_ne, beq_eq_false_iff_ne, bne_eq_false_iff_eq, ne_eq, Bool.not_eq_true', Bool.not_eq_false'] at hc) <;> (first | (exfalso; omega) | (conv => whnf)))
  all_goals (refine congrArg (fun b => FV.d (AV.bool b)) ?_; simp_all; try (intros; omega))
def nameF (d : Int) (s : Txt) : Bool := decide (checkF s = 0) && !isW d s
theorem name_spec (d : Int) (s : Txt) : Ret Tryz.prog 23 [.d (.agg [.int .i64 d]), .d (.str s)] (.bool (nameF d s)) := by
  have hroomB : roomB = 140737488355328 := rfl; refine ac_of ok23 rfl rfl ?_
  repeat' first | (with_reducible refine W.seq ?_) | ((with_reducible refine W.region ?_); conv => whnf) | ((refine AC.use (check_spec _) ?_ rfl ?_); (focus (simp only [allL, FV.all, and_self]; done)); conv => whnf) | ((refine AC.use (is_spec _ _) ?_ rfl ?_); (focus (simp only [allL, FV.all, and_self]; done)); conv => whnf) | ((with_reducible refine W.ret ?_); conv => whnf) | (refine finD (.inr rfl) rfl rfl ⟨?_, rfl⟩) | ((refine condM_intro (fun hc => ?_) (fun hc => ?_)) <;> (try simp only [decide_eq_true_eq, decide_eq_false_iff_not, beq_iff_eq, bne_iff_ne, beq_eq_false_iff_ne, bne_eq_false_iff_eq, ne_eq, Bool.not_eq_true', Bool.not_eq_false'] at hc) <;> (first | (exfalso; omega) | (conv => whnf)))
  all_goals (refine congrArg (fun b => FV.d (AV.bool b)) ?_; simp_all [nameF])
theorem rname_spec (d : Int) (s : Txt) : Ret Tryz.prog 32 [.d (.int .i64 d), .d (.str s)] (.bool (nameF d s)) := by
  have hroomB : roomB = 140737488355328 := rfl; refine ac_of ok32 rfl rfl ?_
  repeat' first | (with_reducible refine W.seq ?_) | ((with_reducible refine W.region ?_); conv => whnf) | ((refine AC.use (rcheck_spec _) ?_ rfl ?_); (focus (simp only [allL, FV.all, and_self]; done)); conv => whnf) | ((refine AC.use (ris_spec _ _) ?_ rfl ?_); (focus (simp only [allL, FV.all, and_self]; done)); conv => whnf) | ((with_reducible refine W.ret ?_); conv => whnf) | (refine finD (.inr rfl) rfl rfl ⟨?_, rfl⟩) | ((refine condM_intro (fun hc => ?_) (fun hc => ?_)) <;> (try simp only [decide_eq_true_eq, decide_eq_false_iff_not, beq_iff_eq, bne_iff_ne, beq_eq_false_iff_ne, bne_eq_false_iff_eq, ne_eq, Bool.not_eq_true', Bool.not_eq_false'] at hc) <;> (first | (exfalso; omega) | (conv => whnf)))
  all_goals (refine congrArg (fun b => FV.d (AV.bool b)) ?_; simp_all [nameF, isW])
def typF (d : Int) (t : Ty) : Bool := if t.kind = 4 then t.size == 0 && nameF d t.name else decide (1 ≤ t.kind) && decide (t.kind ≤ 3) && decide (0 ≤ t.size) && decide (t.size ≤ 64) && t.name == []
theorem typ_spec (d : Int) (t : Ty) : Ret Tryz.prog 77 [.d (.agg [.int .i64 d]), .d (.agg (sY t))] (.bool (typF d t)) := by
  have hroomB : roomB = 140737488355328 := rfl; refine ac_of ok77 rfl rfl ?_
  repeat' first | (with_reducible refine W.seq ?_) | ((with_reducible refine W.region ?_); conv => whnf) | ((with_reducible refine W.cond ?_); conv => whnf) | ((with_reducible refine W.skip ?_); conv => whnf) | ((refine AC.use (name_spec _ _) ?_ rfl ?_); (focus (simp only [allL, FV.all, and_self]; done)); conv => whnf) | ((refine AC.use (kind_spec _) ?_ rfl ?_); (focus (simp only [allL, FV.all, and_self]; done)); conv => whnf) | ((with_reducible refine W.ret ?_); conv => whnf) | (refine finD (.inr rfl) rfl rfl ⟨?_, rfl⟩) | ((refine condM_intro (fun hc => ?_) (fun hc => ?_)) <;> (try simp only [decide_eq_true_eq, decide_eq_false_iff_not, beq_iff_eq, bne_iff_ne, beq_eq_false_iff_ne, bne_eq_false_iff_eq, ne_eq, Bool.not_eq_true', Bool.not_eq_false'] at hc) <;> (first | (exfalso; omega) | (conv => whnf)))
  all_goals (refine congrArg (fun b => FV.d (AV.bool b)) ?_; simp_all [typF]; try (intros; omega))
theorem rtyp_spec (d : Int) (t : Ty) : Ret Tryz.prog 91 [.d (.int .i64 d), .d (.agg (sY t))] (.bool (typF d t)) := by
  have hroomB : roomB = 140737488355328 := rfl; refine ac_of ok91 rfl rfl ?_
  repeat' first | (with_reducible refine W.seq ?_) | ((with_reducible refine W.region ?_); conv => whnf) | ((with_reducible refine W.cond ?_); conv => whnf) | ((with_reducible refine W.skip ?_); conv => whnf) | ((refine AC.use (rname_spec _ _) ?_ rfl ?_); (focus (simp only [allL, FV.all, and_self]; done)); conv => whnf) | ((with_reducible refine W.ret ?_); conv => whnf) | (refine finD (.inr rfl) rfl rfl ⟨?_, rfl⟩) | ((refine condM_intro (fun hc => ?_) (fun hc => ?_)) <;> (try simp only [decide_eq_true_eq, decide_eq_false_iff_not, beq_iff_eq, bne_iff_ne, beq_eq_false_iff_ne, bne_eq_false_iff_eq, ne_eq, Bool.not_eq_true', Bool.not_eq_false'] at hc) <;> (first | (exfalso; omega) | (conv => whnf)))
  all_goals (refine congrArg (fun b => FV.d (AV.bool b)) ?_; simp_all [typF]; try (intros; omega))
def noteOK (l : List Txt) : Bool := decide (l.length ≤ 512) && l.all fun s => noteF s == 0
def notesF (ls : List (List Txt)) : Bool := ls.all noteOK
theorem print0_spec (s : Txt) : RetT Tryz.prog 68 [.d (.int .i64 0), .d (.str s)] [.str (if noteF s = 0 then printF 0 s else []), .int .i64 (noteF s)] := by
  have := print_spec 0 s
  rwa [if_pos (.inl rfl)] at this
theorem notes_spec (ls : List (List Txt)) : Ret Tryz.prog 24 [.d (.sl 22 (rTT ls))] (.bool (notesF ls)) := by
  have hroomB : roomB = 140737488355328 := rfl; refine ac_of ok24 rfl rfl ?_
  repeat' first | (with_reducible refine W.seq ?_) | ((with_reducible refine W.region ?_); conv => whnf) | (with_reducible refine W.block ?_) | (intro hlen; simp only [rT_len, rE_len, rF_len, rC_len, rV_len, rP_len, rS_len, rR_len, rTT_len, rW_len] at hlen ⊢; conv => whnf) | ((refine And.intro rfl ?_); conv => whnf)
  refine W.loop (σ := Nat) (fun i => [(9, .d (.sl 22 (rTT ls))), (10, .d (.int .i64 ls.length)), (11, .d (.int .i64 i))]) (fun _ => gl) (fun i => i ≤ ls.length ∧ notesF (ls.drop i) = notesF ls) (fun i => ls.length - i) 0 ⟨Nat.zero_le _, rfl⟩ ⟨.same _, .same _, .same _, trivial⟩ rfl ?_
  rintro i ⟨hi, hall⟩
  rcases Nat.lt_or_ge i ls.length with hlt | hge
  · obtain ⟨x, hx⟩ := at_lt hlt
    have hrx := rTT_some hx
    have e3 : IntKind.i64.wrap (↑i + 1) = ((i + 1 : Nat) : Int) := wr (by omega) (by omega)
    rw [drop_at hx] at hall
    simp only [notesF, List.all_cons] at hall
    repeat' first | (with_reducible refine W.seq ?_) | ((with_reducible refine W.region ?_); conv => whnf) | ((with_reducible refine W.cond ?_); conv => whnf) | (with_reducible refine W.block ?_) | ((with_reducible refine W.skip ?_); conv => whnf) | ((refine AC.use (fewTxt_spec _) ?_ rfl ?_); (focus (simp only [allL, FV.all, and_self]; done)); conv => whnf) | ((with_reducible refine W.ret ?_); conv => whnf) | (refine finD (.inr rfl) rfl rfl ⟨?_, rfl⟩) | ((refine condM_intro (fun hc => ?_) (fun hc => ?_)) <;> (try simp only [decide_eq_true_eq, decide_eq_false_iff_not, beq_iff_eq, bne_iff_ne, beq_eq_false_iff_ne, bne_eq_false_iff_eq, ne_eq, Bool.not_eq_true', Bool.not_eq_false'] at hc) <;> (first | (exfalso; omega) | (conv => whnf))) | ((refine fun row hrow => ?_); revert row; (apply row_same); (focus assumption); conv => whnf) | (intro hlen; simp only [rT_len, rE_len, rF_len, rC_len, rV_len, rP_len, rS_len, rR_len, rTT_len, rW_len] at hlen ⊢; conv => whnf) | ((refine And.intro rfl ?_); conv => whnf) | ((refine And.intro ?_ ?_); (focus (first | omega | (simp only [rT_len, rE_len, rF_len, rC_len, rV_len, rP_len, rS_len, rR_len, rTT_len, rW_len, List.length_map, List.length_replicate] at *; omega) | exact (byteAt_lt _ _).1 | exact (byteAt_lt _ _).2 | (simp [ebStr, ebTxts, ebU8, ebExpr, ebStmt, ebVar, ebParam, ebField, ebRec, ebRoutine, ebPair, roomB]; done))); conv => whnf)
    · rename_i hf
      have : noteOK x = false := by simp only [noteOK]; simp; intro h; omega
      rw [this, Bool.false_and] at hall
      simp only [notesF]
      rw [← hall]
    ·
      refine W.loop (σ := Nat) (fun j => [(9, .d (.sl 22 (rTT ls))), (10, .d (.int .i64 ls.length)), (11, .d (.int .i64 i)), (18, .d (aT x)), (19, .d (.int .i64 x.length)), (20, .d (.int .i64 j))]) (fun _ => gl) (fun j => j ≤ x.length ∧ (x.drop j).all (fun s => noteF s == 0) = x.all (fun s => noteF s == 0)) (fun j => x.length - j) 0 ⟨Nat.zero_le _, rfl⟩ ⟨.same _, .same _, .same _, .same _, .same _, .same _, trivial⟩ rfl ?_
      rintro j ⟨hj, hin⟩
      rcases Nat.lt_or_ge j x.length with hlt2 | hge2
      · obtain ⟨y, hy⟩ := at_lt hlt2
        have hry := rT_some hy
        have e4 : IntKind.i64.wrap (↑j + 1) = ((j + 1 : Nat) : Int) := wr (by omega) (by omega)
        rw [drop_at hy] at hin
        simp only [List.all_cons] at hin
        repeat' first | (with_reducible refine W.seq ?_) | ((with_reducible refine W.region ?_); conv => whnf) | ((with_reducible refine W.cond ?_); conv => whnf) | (with_reducible refine W.block ?_) | ((with_reducible refine W.skip ?_); conv => whnf) | ((refine AC.useT (print0_spec _) ?_ rfl ?_); (focus (simp only [allL, FV.all, and_self]; done)); conv => whnf) | ((with_reducible refine W.ret ?_); conv => whnf) | (refine finD (.inr rfl) rfl rfl ⟨?_, rfl⟩) | ((refine condM_intro (fun hc => ?_) (fun hc => ?_)) <;> (try simp only [decide_eq_true_eq, decide_eq_false_iff_not, beq_iff_eq, bne_iff_ne, beq_eq_false_iff_ne, bne_eq_false_iff_eq, ne_eq, Bool.not_eq_true', Bool.not_eq_false'] at hc) <;> (first | (exfalso; omega) | (conv => whnf))) | ((refine fun row hrow => ?_); revert row; (apply row_same); (focus assumption); conv => whnf) | ((refine And.intro rfl ?_); conv => whnf) | ((refine And.intro ?_ ?_); (focus (first | omega | (simp only [rT_len, rE_len, rF_len, rC_len, rV_len, rP_len, rS_len, rR_len, rTT_len, rW_len, List.length_map, List.length_replicate] at *; omega) | exact (byteAt_lt _ _).1 | exact (byteAt_lt _ _).2 | (simp [ebStr, ebTxts, ebU8, ebExpr, ebStmt, ebVar, ebParam, ebField, ebRec, ebRoutine, ebPair, roomB]; done))); conv => whnf)
        · rename_i hc1 _ _
          have h0 : (noteF y == 0) = false := by simpa using hc
          rw [h0, Bool.false_and] at hin
          have : noteOK x = false := by simp only [noteOK]; rw [← hin]; simp
          rw [this, Bool.false_and] at hall
          simp only [notesF]
          rw [← hall]
        · have h0 : (noteF y == 0) = true := by simpa using hc
          rw [h0, Bool.true_and] at hin
          exact ⟨j + 1, ⟨hlt2, hin⟩, by omega, ⟨.same _, .same _, .same _, .same _, .same _, .of_eq (by rw [← e4]; rfl), trivial⟩, rfl⟩
      · rw [drop_end hge2] at hin
        simp only [List.all_nil] at hin
        repeat' first | (with_reducible refine W.seq ?_) | ((with_reducible refine W.region ?_); conv => whnf) | ((with_reducible refine W.cond ?_); conv => whnf) | ((with_reducible refine W.exit ?_); conv => whnf) | ((refine condM_intro (fun hc => ?_) (fun hc => ?_)) <;> (try simp only [decide_eq_true_eq, decide_eq_false_iff_not, beq_iff_eq, bne_iff_ne, beq_eq_false_iff_ne, bne_eq_false_iff_eq, ne_eq, Bool.not_eq_true', Bool.not_eq_false'] at hc) <;> (first | (exfalso; omega) | (conv => whnf)))
        have : noteOK x = true := by simp only [noteOK]; rw [← hin]; simp; omega
        rw [this, Bool.true_and] at hall
        exact ⟨i + 1, ⟨hlt, hall⟩, by omega, ⟨.same _, .same _, .of_eq (by rw [← e3]; rfl), trivial⟩, rfl⟩
  · rw [drop_end hge] at hall
    simp only [notesF, List.all_nil] at hall
    repeat' first | (with_reducible refine W.seq ?_) | ((with_reducible refine W.region ?_); conv => whnf) | ((with_reducible refine W.cond ?_); conv => whnf) | ((with_reducible refine W.exit ?_); conv => whnf) | ((with_reducible refine W.ret ?_); conv => whnf) | (refine finD (.inr rfl) rfl rfl ⟨?_, rfl⟩) | ((refine condM_intro (fun hc => ?_) (fun hc => ?_)) <;> (try simp only [decide_eq_true_eq, decide_eq_false_iff_not, beq_iff_eq, bne_iff_ne, beq_eq_false_iff_ne, bne_eq_false_iff_eq, ne_eq, Bool.not_eq_true', Bool.not_eq_false'] at hc) <;> (first | (exfalso; omega) | (conv => whnf)))
    simp only [notesF]
    rw [← hall]
/-- Over a heap that stays as it is. -/
def RetH (f : FuncId) (args : List FV) (H : AHeap) (x : AV) : Prop := AC Tryz.prog f args H fun r g => r = .d x ∧ g = H
structure HeapOK (H : AHeap) : Prop where
  ok : ∀ o ∈ H, ObjOk H.length o
theorem allL_app {p : Nat → Prop} : ∀ {xs ys : List FV}, allL p xs → allL p ys → allL p (xs ++ ys)
  | [], ys, _, h2 => h2
  | z :: r, ys, h1, h2 => by simp only [List.cons_append, allL] at h1 ⊢; exact ⟨h1.1, allL_app h1.2 h2⟩
theorem idxS_spec (H : AHeap) (hH : HeapOK H) (l : List Stm) (g : FuncId) (cap : List FV) (hcap : ∀ x ∈ cap, OkIn H.length x) (q : Stm → Bool)
    (hg : ∀ x ∈ l, RetH g ([.d (.agg (sS x))] ++ cap) H (.bool (q x))) :
    AC Tryz.prog 127 [.d (.sl 107 (rS l)), .clo g [] cap] H fun r h => (∃ k : Int, (decide (k ≥ 0) = l.any q) ∧ r = .d (.int .i64 k)) ∧ h = H := by
  have hroomB : roomB = 140737488355328 := rfl; refine ac_of ok127 rfl rfl ?_
  repeat' first | (with_reducible refine W.seq ?_) | ((with_reducible refine W.region ?_); conv => whnf) | (with_reducible refine W.block ?_) | (intro hlen; simp only [rT_len, rE_len, rF_len, rC_len, rV_len, rP_len, rS_len, rR_len, rTT_len, rW_len] at hlen ⊢; conv => whnf) | ((refine And.intro rfl ?_); conv => whnf)
  refine W.loopJ (σ := Nat) (fun i => [(0, .d (.sl 107 (rS l))), (1, .clo g [] cap), (7, .d (.int .i64 l.length)), (8, .d (.int .i64 i))]) (fun _ => H) (fun i => i ≤ l.length ∧ (l.drop i).any q = l.any q) (fun i => l.length - i) 0 ⟨Nat.zero_le _, rfl⟩ ⟨.same _, .same _, .same _, .same _, trivial⟩ rfl (fun i _ => ⟨by simp [OkIn]; exact hcap, hH.ok⟩) ?_
  rintro i ⟨hi, hall⟩
  rcases Nat.lt_or_ge i l.length with hlt | hge
  · obtain ⟨x, hx⟩ := at_lt hlt
    have hrx := rS_some hx
    have e3 : IntKind.i64.wrap (↑i + 1) = ((i + 1 : Nat) : Int) := wr (by omega) (by omega)
    rw [drop_at hx] at hall
    simp only [List.any_cons] at hall
    repeat' first | (with_reducible refine W.seq ?_) | ((with_reducible refine W.region ?_); conv => whnf) | ((with_reducible refine W.cond ?_); conv => whnf) | (with_reducible refine W.block ?_) | ((with_reducible refine W.skip ?_); conv => whnf) | ((refine condM_intro (fun hc => ?_) (fun hc => ?_)) <;> (try simp only [decide_eq_true_eq, decide_eq_false_iff_not, beq_iff_eq, bne_iff_ne, beq_eq_false_iff_ne, bne_eq_false_iff_eq, ne_eq, Bool.not_eq_true', Bool.not_eq_false'] at hc) <;> (first | (exfalso; omega) | (conv => whnf))) | ((refine fun row hrow => ?_); revert row; (apply row_same); (focus assumption); conv => whnf) | ((refine And.intro rfl ?_); conv => whnf) | ((refine And.intro ?_ ?_); (focus (first | omega | (simp only [rT_len, rE_len, rF_len, rC_len, rV_len, rP_len, rS_len, rR_len, rTT_len, rW_len, List.length_map, List.length_replicate] at *; omega) | exact (byteAt_lt _ _).1 | exact (byteAt_lt _ _).2 | (simp [ebStr, ebTxts, ebU8, ebExpr, ebStmt, ebVar, ebParam, ebField, ebRec, ebRoutine, ebPair, roomB]; done))); conv => whnf)
    simp only [forceL_eq]
    refine AC.mono (hg x (List.mem_of_getElem? hx)) ?_
    rintro _ _ ⟨rfl, rfl⟩
    conv => whnf
    repeat' first | (with_reducible refine W.seq ?_) | ((with_reducible refine W.region ?_); conv => whnf) | ((with_reducible refine W.cond ?_); conv => whnf) | ((with_reducible refine W.skip ?_); conv => whnf) | ((with_reducible refine W.ret ?_); conv => whnf) | ((refine condM_intro (fun hc => ?_) (fun hc => ?_)) <;> (try simp only [decide_eq_true_eq, decide_eq_false_iff_not, beq_iff_eq, bne_iff_ne, beq_eq_false_iff_ne, bne_eq_false_iff_eq, ne_eq, Bool.not_eq_true', Bool.not_eq_false'] at hc) <;> (first | (exfalso; omega) | (conv => whnf)))
    · rw [hc, Bool.true_or] at hall
      rw [← hall]
      exact finD (.inr rfl) (junk := []) (by simp) rfl ⟨⟨(i : Int), by simp, rfl⟩, rfl⟩
    · rw [hc, Bool.false_or] at hall
      exact ⟨i + 1, [], ⟨hlt, hall⟩, by omega, ⟨.same _, .same _, .same _, .of_eq (by rw [← e3]; rfl), trivial⟩, by simp, Nat.le_refl _⟩
  · rw [drop_end hge] at hall
    simp only [List.any_nil] at hall
    repeat' first | (with_reducible refine W.seq ?_) | ((with_reducible refine W.region ?_); conv => whnf) | ((with_reducible refine W.cond ?_); conv => whnf) | ((with_reducible refine W.exit ?_); conv => whnf) | ((with_reducible refine W.ret ?_); conv => whnf) | ((refine condM_intro (fun hc => ?_) (fun hc => ?_)) <;> (try simp only [decide_eq_true_eq, decide_eq_false_iff_not, beq_iff_eq, bne_iff_ne, beq_eq_false_iff_ne, bne_eq_false_iff_eq, ne_eq, Bool.not_eq_true', Bool.not_eq_false'] at hc) <;> (first | (exfalso; omega) | (conv => whnf)))
    rw [← hall]
    exact finD (.inr rfl) (junk := []) (by simp) rfl ⟨⟨-1, by simp, rfl⟩, rfl⟩
theorem hasS_spec (H : AHeap) (hH : HeapOK H) (l : List Stm) (g : FuncId) (cap : List FV) (hcap : ∀ x ∈ cap, OkIn H.length x) (q : Stm → Bool)
    (hg : ∀ x ∈ l, RetH g ([.d (.agg (sS x))] ++ cap) H (.bool (q x))) :
    RetH 85 [.d (.sl 107 (rS l)), .clo g [] cap] H (.bool (l.any q)) := by
  have hroomB : roomB = 140737488355328 := rfl; refine ac_of ok85 rfl rfl ?_
  repeat' first | (with_reducible refine W.seq ?_) | ((with_reducible refine W.region ?_); conv => whnf)
  refine AC.mono (idxS_spec H hH l g cap hcap q hg) ?_
  rintro _ _ ⟨⟨k, hk, rfl⟩, rfl⟩
  conv => whnf
  repeat' first | ((with_reducible refine W.ret ?_); conv => whnf)
  rw [← hk]
  exact finD (.inr rfl) (junk := []) (by simp) rfl ⟨rfl, rfl⟩
theorem idxR_spec (H : AHeap) (hH : HeapOK H) (l : List Rtn) (g : FuncId) (cap : List FV) (hcap : ∀ x ∈ cap, OkIn H.length x) (q : Rtn → Bool)
    (hg : ∀ x ∈ l, RetH g ([.d (.agg (sR x))] ++ cap) H (.bool (q x))) :
    AC Tryz.prog 124 [.d (.sl 103 (rR l)), .clo g [] cap] H fun r h => (∃ k : Int, (decide (k ≥ 0) = l.any q) ∧ r = .d (.int .i64 k)) ∧ h = H := by
  have hroomB : roomB = 140737488355328 := rfl; refine ac_of ok124 rfl rfl ?_
  repeat' first | (with_reducible refine W.seq ?_) | ((with_reducible refine W.region ?_); conv => whnf) | (with_reducible refine W.block ?_) | (intro hlen; simp only [rT_len, rE_len, rF_len, rC_len, rV_len, rP_len, rS_len, rR_len, rTT_len, rW_len] at hlen ⊢; conv => whnf) | ((refine And.intro rfl ?_); conv => whnf)
  refine W.loopJ (σ := Nat) (fun i => [(0, .d (.sl 103 (rR l))), (1, .clo g [] cap), (7, .d (.int .i64 l.length)), (8, .d (.int .i64 i))]) (fun _ => H) (fun i => i ≤ l.length ∧ (l.drop i).any q = l.any q) (fun i => l.length - i) 0 ⟨Nat.zero_le _, rfl⟩ ⟨.same _, .same _, .same _, .same _, trivial⟩ rfl (fun i _ => ⟨by simp [OkIn]; exact hcap, hH.ok⟩) ?_
  rintro i ⟨hi, hall⟩
  rcases Nat.lt_or_ge i l.length with hlt | hge
  · obtain ⟨x, hx⟩ := at_lt hlt
    have hrx := rR_some hx
    have e3 : IntKind.i64.wrap (↑i + 1) = ((i + 1 : Nat) : Int) := wr (by omega) (by omega)
    rw [drop_at hx] at hall
    simp only [List.any_cons] at hall
    repeat' first | (with_reducible refine W.seq ?_) | ((with_reducible refine W.region ?_); conv => whnf) | ((with_reducible refine W.cond ?_); conv => whnf) | (with_reducible refine W.block ?_) | ((with_reducible refine W.skip ?_); conv => whnf) | ((refine condM_intro (fun hc => ?_) (fun hc => ?_)) <;> (try simp only [decide_eq_true_eq, decide_eq_false_iff_not, beq_iff_eq, bne_iff_ne, beq_eq_false_iff_ne, bne_eq_false_iff_eq, ne_eq, Bool.not_eq_true', Bool.not_eq_false'] at hc) <;> (first | (exfalso; omega) | (conv => whnf))) | ((refine fun row hrow => ?_); revert row; (apply row_same); (focus assumption); conv => whnf) | ((refine And.intro rfl ?_); conv => whnf) | ((refine And.intro ?_ ?_); (focus (first | omega | (simp only [rT_len, rE_len, rF_len, rC_len, rV_len, rP_len, rS_len, rR_len, rTT_len, rW_len, List.length_map, List.length_replicate] at *; omega) | exact (byteAt_lt _ _).1 | exact (byteAt_lt _ _).2 | (simp [ebStr, ebTxts, ebU8, ebExpr, ebStmt, ebVar, ebParam, ebField, ebRec, ebRoutine, ebPair, roomB]; done))); conv => whnf)
    simp only [forceL_eq]
    refine AC.mono (hg x (List.mem_of_getElem? hx)) ?_
    rintro _ _ ⟨rfl, rfl⟩
    conv => whnf
    repeat' first | (with_reducible refine W.seq ?_) | ((with_reducible refine W.region ?_); conv => whnf) | ((with_reducible refine W.cond ?_); conv => whnf) | ((with_reducible refine W.skip ?_); conv => whnf) | ((with_reducible refine W.ret ?_); conv => whnf) | ((refine condM_intro (fun hc => ?_) (fun hc => ?_)) <;> (try simp only [decide_eq_true_eq, decide_eq_false_iff_not, beq_iff_eq, bne_iff_ne, beq_eq_false_iff_ne, bne_eq_false_iff_eq, ne_eq, Bool.not_eq_true', Bool.not_eq_false'] at hc) <;> (first | (exfalso; omega) | (conv => whnf)))
    · rw [hc, Bool.true_or] at hall
      rw [← hall]
      exact finD (.inr rfl) (junk := []) (by simp) rfl ⟨⟨(i : Int), by simp, rfl⟩, rfl⟩
    · rw [hc, Bool.false_or] at hall
      exact ⟨i + 1, [], ⟨hlt, hall⟩, by omega, ⟨.same _, .same _, .same _, .of_eq (by rw [← e3]; rfl), trivial⟩, by simp, Nat.le_refl _⟩
  · rw [drop_end hge] at hall
    simp only [List.any_nil] at hall
    repeat' first | (with_reducible refine W.seq ?_) | ((with_reducible refine W.region ?_); conv => whnf) | ((with_reducible refine W.cond ?_); conv => whnf) | ((with_reducible refine W.exit ?_); conv => whnf) | ((with_reducible refine W.ret ?_); conv => whnf) | ((refine condM_intro (fun hc => ?_) (fun hc => ?_)) <;> (try simp only [decide_eq_true_eq, decide_eq_false_iff_not, beq_iff_eq, bne_iff_ne, beq_eq_false_iff_ne, bne_eq_false_iff_eq, ne_eq, Bool.not_eq_true', Bool.not_eq_false'] at hc) <;> (first | (exfalso; omega) | (conv => whnf)))
    rw [← hall]
    exact finD (.inr rfl) (junk := []) (by simp) rfl ⟨⟨-1, by simp, rfl⟩, rfl⟩
theorem hasR_spec (H : AHeap) (hH : HeapOK H) (l : List Rtn) (g : FuncId) (cap : List FV) (hcap : ∀ x ∈ cap, OkIn H.length x) (q : Rtn → Bool)
    (hg : ∀ x ∈ l, RetH g ([.d (.agg (sR x))] ++ cap) H (.bool (q x))) :
    RetH 80 [.d (.sl 103 (rR l)), .clo g [] cap] H (.bool (l.any q)) := by
  have hroomB : roomB = 140737488355328 := rfl; refine ac_of ok80 rfl rfl ?_
  repeat' first | (with_reducible refine W.seq ?_) | ((with_reducible refine W.region ?_); conv => whnf)
  refine AC.mono (idxR_spec H hH l g cap hcap q hg) ?_
  rintro _ _ ⟨⟨k, hk, rfl⟩, rfl⟩
  conv => whnf
  repeat' first | ((with_reducible refine W.ret ?_); conv => whnf)
  rw [← hk]
  exact finD (.inr rfl) (junk := []) (by simp) rfl ⟨rfl, rfl⟩
theorem idxV_spec (H : AHeap) (hH : HeapOK H) (l : List Vr) (g : FuncId) (cap : List FV) (hcap : ∀ x ∈ cap, OkIn H.length x) (q : Vr → Bool)
    (hg : ∀ x ∈ l, RetH g ([.d (.agg (sV x))] ++ cap) H (.bool (q x))) :
    AC Tryz.prog 123 [.d (.sl 98 (rV l)), .clo g [] cap] H fun r h => (∃ k : Int, (decide (k ≥ 0) = l.any q) ∧ r = .d (.int .i64 k)) ∧ h = H := by
  have hroomB : roomB = 140737488355328 := rfl; refine ac_of ok123 rfl rfl ?_
  repeat' first | (with_reducible refine W.seq ?_) | ((with_reducible refine W.region ?_); conv => whnf) | (with_reducible refine W.block ?_) | (intro hlen; simp only [rT_len, rE_len, rF_len, rC_len, rV_len, rP_len, rS_len, rR_len, rTT_len, rW_len] at hlen ⊢; conv => whnf) | ((refine And.intro rfl ?_); conv => whnf)
  refine W.loopJ (σ := Nat) (fun i => [(0, .d (.sl 98 (rV l))), (1, .clo g [] cap), (7, .d (.int .i64 l.length)), (8, .d (.int .i64 i))]) (fun _ => H) (fun i => i ≤ l.length ∧ (l.drop i).any q = l.any q) (fun i => l.length - i) 0 ⟨Nat.zero_le _, rfl⟩ ⟨.same _, .same _, .same _, .same _, trivial⟩ rfl (fun i _ => ⟨by simp [OkIn]; exact hcap, hH.ok⟩) ?_
  rintro i ⟨hi, hall⟩
  rcases Nat.lt_or_ge i l.length with hlt | hge
  · obtain ⟨x, hx⟩ := at_lt hlt
    have hrx := rV_some hx
    have e3 : IntKind.i64.wrap (↑i + 1) = ((i + 1 : Nat) : Int) := wr (by omega) (by omega)
    rw [drop_at hx] at hall
    simp only [List.any_cons] at hall
    repeat' first | (with_reducible refine W.seq ?_) | ((with_reducible refine W.region ?_); conv => whnf) | ((with_reducible refine W.cond ?_); conv => whnf) | (with_reducible refine W.block ?_) | ((with_reducible refine W.skip ?_); conv => whnf) | ((refine condM_intro (fun hc => ?_) (fun hc => ?_)) <;> (try simp only [decide_eq_true_eq, decide_eq_false_iff_not, beq_iff_eq, bne_iff_ne, beq_eq_false_iff_ne, bne_eq_false_iff_eq, ne_eq, Bool.not_eq_true', Bool.not_eq_false'] at hc) <;> (first | (exfalso; omega) | (conv => whnf))) | ((refine fun row hrow => ?_); revert row; (apply row_same); (focus assumption); conv => whnf) | ((refine And.intro rfl ?_); conv => whnf) | ((refine And.intro ?_ ?_); (focus (first | omega | (simp only [rT_len, rE_len, rF_len, rC_len, rV_len, rP_len, rS_len, rR_len, rTT_len, rW_len, List.length_map, List.length_replicate] at *; omega) | exact (byteAt_lt _ _).1 | exact (byteAt_lt _ _).2 | (simp [ebStr, ebTxts, ebU8, ebExpr, ebStmt, ebVar, ebParam, ebField, ebRec, ebRoutine, ebPair, roomB]; done))); conv => whnf)
    simp only [forceL_eq]
    refine AC.mono (hg x (List.mem_of_getElem? hx)) ?_
    rintro _ _ ⟨rfl, rfl⟩
    conv => whnf
    repeat' first | (with_reducible refine W.seq ?_) | ((with_reducible refine W.region ?_); conv => whnf) | ((with_reducible refine W.cond ?_); conv => whnf) | ((with_reducible refine W.skip ?_); conv => whnf) | ((with_reducible refine W.ret ?_); conv => whnf) | ((refine condM_intro (fun hc => ?_) (fun hc => ?_)) <;> (try simp only [decide_eq_true_eq, decide_eq_false_iff_not, beq_iff_eq, bne_iff_ne, beq_eq_false_iff_ne, bne_eq_false_iff_eq, ne_eq, Bool.not_eq_true', Bool.not_eq_false'] at hc) <;> (first | (exfalso; omega) | (conv => whnf)))
    · rw [hc, Bool.true_or] at hall
      rw [← hall]
      exact finD (.inr rfl) (junk := []) (by simp) rfl ⟨⟨(i : Int), by simp, rfl⟩, rfl⟩
    · rw [hc, Bool.false_or] at hall
      exact ⟨i + 1, [], ⟨hlt, hall⟩, by omega, ⟨.same _, .same _, .same _, .of_eq (by rw [← e3]; rfl), trivial⟩, by simp, Nat.le_refl _⟩
  · rw [drop_end hge] at hall
    simp only [List.any_nil] at hall
    repeat' first | (with_reducible refine W.seq ?_) | ((with_reducible refine W.region ?_); conv => whnf) | ((with_reducible refine W.cond ?_); conv => whnf) | ((with_reducible refine W.exit ?_); conv => whnf) | ((with_reducible refine W.ret ?_); conv => whnf) | ((refine condM_intro (fun hc => ?_) (fun hc => ?_)) <;> (try simp only [decide_eq_true_eq, decide_eq_false_iff_not, beq_iff_eq, bne_iff_ne, beq_eq_false_iff_ne, bne_eq_false_iff_eq, ne_eq, Bool.not_eq_true', Bool.not_eq_false'] at hc) <;> (first | (exfalso; omega) | (conv => whnf)))
    rw [← hall]
    exact finD (.inr rfl) (junk := []) (by simp) rfl ⟨⟨-1, by simp, rfl⟩, rfl⟩
theorem hasV_spec (H : AHeap) (hH : HeapOK H) (l : List Vr) (g : FuncId) (cap : List FV) (hcap : ∀ x ∈ cap, OkIn H.length x) (q : Vr → Bool)
    (hg : ∀ x ∈ l, RetH g ([.d (.agg (sV x))] ++ cap) H (.bool (q x))) :
    RetH 75 [.d (.sl 98 (rV l)), .clo g [] cap] H (.bool (l.any q)) := by
  have hroomB : roomB = 140737488355328 := rfl; refine ac_of ok75 rfl rfl ?_
  repeat' first | (with_reducible refine W.seq ?_) | ((with_reducible refine W.region ?_); conv => whnf)
  refine AC.mono (idxV_spec H hH l g cap hcap q hg) ?_
  rintro _ _ ⟨⟨k, hk, rfl⟩, rfl⟩
  conv => whnf
  repeat' first | ((with_reducible refine W.ret ?_); conv => whnf)
  rw [← hk]
  exact finD (.inr rfl) (junk := []) (by simp) rfl ⟨rfl, rfl⟩
theorem idxF_spec (H : AHeap) (hH : HeapOK H) (l : List Fld) (g : FuncId) (cap : List FV) (hcap : ∀ x ∈ cap, OkIn H.length x) (q : Fld → Bool)
    (hg : ∀ x ∈ l, RetH g ([.d (.agg (sF x))] ++ cap) H (.bool (q x))) :
    AC Tryz.prog 122 [.d (.sl 69 (rF l)), .clo g [] cap] H fun r h => (∃ k : Int, (decide (k ≥ 0) = l.any q) ∧ r = .d (.int .i64 k)) ∧ h = H := by
  have hroomB : roomB = 140737488355328 := rfl; refine ac_of ok122 rfl rfl ?_
  repeat' first | (with_reducible refine W.seq ?_) | ((with_reducible refine W.region ?_); conv => whnf) | (with_reducible refine W.block ?_) | (intro hlen; simp only [rT_len, rE_len, rF_len, rC_len, rV_len, rP_len, rS_len, rR_len, rTT_len, rW_len] at hlen ⊢; conv => whnf) | ((refine And.intro rfl ?_); conv => whnf)
  refine W.loopJ (σ := Nat) (fun i => [(0, .d (.sl 69 (rF l))), (1, .clo g [] cap), (7, .d (.int .i64 l.length)), (8, .d (.int .i64 i))]) (fun _ => H) (fun i => i ≤ l.length ∧ (l.drop i).any q = l.any q) (fun i => l.length - i) 0 ⟨Nat.zero_le _, rfl⟩ ⟨.same _, .same _, .same _, .same _, trivial⟩ rfl (fun i _ => ⟨by simp [OkIn]; exact hcap, hH.ok⟩) ?_
  rintro i ⟨hi, hall⟩
  rcases Nat.lt_or_ge i l.length with hlt | hge
  · obtain ⟨x, hx⟩ := at_lt hlt
    have hrx := rF_some hx
    have e3 : IntKind.i64.wrap (↑i + 1) = ((i + 1 : Nat) : Int) := wr (by omega) (by omega)
    rw [drop_at hx] at hall
    simp only [List.any_cons] at hall
    repeat' first | (with_reducible refine W.seq ?_) | ((with_reducible refine W.region ?_); conv => whnf) | ((with_reducible refine W.cond ?_); conv => whnf) | (with_reducible refine W.block ?_) | ((with_reducible refine W.skip ?_); conv => whnf) | ((refine condM_intro (fun hc => ?_) (fun hc => ?_)) <;> (try simp only [decide_eq_true_eq, decide_eq_false_iff_not, beq_iff_eq, bne_iff_ne, beq_eq_false_iff_ne, bne_eq_false_iff_eq, ne_eq, Bool.not_eq_true', Bool.not_eq_false'] at hc) <;> (first | (exfalso; omega) | (conv => whnf))) | ((refine fun row hrow => ?_); revert row; (apply row_same); (focus assumption); conv => whnf) | ((refine And.intro rfl ?_); conv => whnf) | ((refine And.intro ?_ ?_); (focus (first | omega | (simp only [rT_len, rE_len, rF_len, rC_len, rV_len, rP_len, rS_len, rR_len, rTT_len, rW_len, List.length_map, List.length_replicate] at *; omega) | exact (byteAt_lt _ _).1 | exact (byteAt_lt _ _).2 | (simp [ebStr, ebTxts, ebU8, ebExpr, ebStmt, ebVar, ebParam, ebField, ebRec, ebRoutine, ebPair, roomB]; done))); conv => whnf)
    simp only [forceL_eq]
    refine AC.mono (hg x (List.mem_of_getElem? hx)) ?_
    rintro _ _ ⟨rfl, rfl⟩
    conv => whnf
    repeat' first | (with_reducible refine W.seq ?_) | ((with_reducible refine W.region ?_); conv => whnf) | ((with_reducible refine W.cond ?_); conv => whnf) | ((with_reducible refine W.skip ?_); conv => whnf) | ((with_reducible refine W.ret ?_); conv => whnf) | ((refine condM_intro (fun hc => ?_) (fun hc => ?_)) <;> (try simp only [decide_eq_true_eq, decide_eq_false_iff_not, beq_iff_eq, bne_iff_ne, beq_eq_false_iff_ne, bne_eq_false_iff_eq, ne_eq, Bool.not_eq_true', Bool.not_eq_false'] at hc) <;> (first | (exfalso; omega) | (conv => whnf)))
    · rw [hc, Bool.true_or] at hall
      rw [← hall]
      exact finD (.inr rfl) (junk := []) (by simp) rfl ⟨⟨(i : Int), by simp, rfl⟩, rfl⟩
    · rw [hc, Bool.false_or] at hall
      exact ⟨i + 1, [], ⟨hlt, hall⟩, by omega, ⟨.same _, .same _, .same _, .of_eq (by rw [← e3]; rfl), trivial⟩, by simp, Nat.le_refl _⟩
  · rw [drop_end hge] at hall
    simp only [List.any_nil] at hall
    repeat' first | (with_reducible refine W.seq ?_) | ((with_reducible refine W.region ?_); conv => whnf) | ((with_reducible refine W.cond ?_); conv => whnf) | ((with_reducible refine W.exit ?_); conv => whnf) | ((with_reducible refine W.ret ?_); conv => whnf) | ((refine condM_intro (fun hc => ?_) (fun hc => ?_)) <;> (try simp only [decide_eq_true_eq, decide_eq_false_iff_not, beq_iff_eq, bne_iff_ne, beq_eq_false_iff_ne, bne_eq_false_iff_eq, ne_eq, Bool.not_eq_true', Bool.not_eq_false'] at hc) <;> (first | (exfalso; omega) | (conv => whnf)))
    rw [← hall]
    exact finD (.inr rfl) (junk := []) (by simp) rfl ⟨⟨-1, by simp, rfl⟩, rfl⟩
theorem hasF_spec (H : AHeap) (hH : HeapOK H) (l : List Fld) (g : FuncId) (cap : List FV) (hcap : ∀ x ∈ cap, OkIn H.length x) (q : Fld → Bool)
    (hg : ∀ x ∈ l, RetH g ([.d (.agg (sF x))] ++ cap) H (.bool (q x))) :
    RetH 71 [.d (.sl 69 (rF l)), .clo g [] cap] H (.bool (l.any q)) := by
  have hroomB : roomB = 140737488355328 := rfl; refine ac_of ok71 rfl rfl ?_
  repeat' first | (with_reducible refine W.seq ?_) | ((with_reducible refine W.region ?_); conv => whnf)
  refine AC.mono (idxF_spec H hH l g cap hcap q hg) ?_
  rintro _ _ ⟨⟨k, hk, rfl⟩, rfl⟩
  conv => whnf
  repeat' first | ((with_reducible refine W.ret ?_); conv => whnf)
  rw [← hk]
  exact finD (.inr rfl) (junk := []) (by simp) rfl ⟨rfl, rfl⟩
theorem idxC_spec (H : AHeap) (hH : HeapOK H) (l : List Rc) (g : FuncId) (cap : List FV) (hcap : ∀ x ∈ cap, OkIn H.length x) (q : Rc → Bool)
    (hg : ∀ x ∈ l, RetH g ([.d (.agg (sC x))] ++ cap) H (.bool (q x))) :
    AC Tryz.prog 69 [.d (.sl 59 (rC l)), .clo g [] cap] H fun r h => (∃ k : Int, (decide (k ≥ 0) = l.any q) ∧ r = .d (.int .i64 k)) ∧ h = H := by
  have hroomB : roomB = 140737488355328 := rfl; refine ac_of ok69 rfl rfl ?_
  repeat' first | (with_reducible refine W.seq ?_) | ((with_reducible refine W.region ?_); conv => whnf) | (with_reducible refine W.block ?_) | (intro hlen; simp only [rT_len, rE_len, rF_len, rC_len, rV_len, rP_len, rS_len, rR_len, rTT_len, rW_len] at hlen ⊢; conv => whnf) | ((refine And.intro rfl ?_); conv => whnf)
  refine W.loopJ (σ := Nat) (fun i => [(0, .d (.sl 59 (rC l))), (1, .clo g [] cap), (7, .d (.int .i64 l.length)), (8, .d (.int .i64 i))]) (fun _ => H) (fun i => i ≤ l.length ∧ (l.drop i).any q = l.any q) (fun i => l.length - i) 0 ⟨Nat.zero_le _, rfl⟩ ⟨.same _, .same _, .same _, .same _, trivial⟩ rfl (fun i _ => ⟨by simp [OkIn]; exact hcap, hH.ok⟩) ?_
  rintro i ⟨hi, hall⟩
  rcases Nat.lt_or_ge i l.length with hlt | hge
  · obtain ⟨x, hx⟩ := at_lt hlt
    have hrx := rC_some hx
    have e3 : IntKind.i64.wrap (↑i + 1) = ((i + 1 : Nat) : Int) := wr (by omega) (by omega)
    rw [drop_at hx] at hall
    simp only [List.any_cons] at hall
    repeat' first | (with_reducible refine W.seq ?_) | ((with_reducible refine W.region ?_); conv => whnf) | ((with_reducible refine W.cond ?_); conv => whnf) | (with_reducible refine W.block ?_) | ((with_reducible refine W.skip ?_); conv => whnf) | ((refine condM_intro (fun hc => ?_) (fun hc => ?_)) <;> (try simp only [decide_eq_true_eq, decide_eq_false_iff_not, beq_iff_eq, bne_iff_ne, beq_eq_false_iff_ne, bne_eq_false_iff_eq, ne_eq, Bool.not_eq_true', Bool.not_eq_false'] at hc) <;> (first | (exfalso; omega) | (conv => whnf))) | ((refine fun row hrow => ?_); revert row; (apply row_same); (focus assumption); conv => whnf) | ((refine And.intro rfl ?_); conv => whnf) | ((refine And.intro ?_ ?_); (focus (first | omega | (simp only [rT_len, rE_len, rF_len, rC_len, rV_len, rP_len, rS_len, rR_len, rTT_len, rW_len, List.length_map, List.length_replicate] at *; omega) | exact (byteAt_lt _ _).1 | exact (byteAt_lt _ _).2 | (simp [ebStr, ebTxts, ebU8, ebExpr, ebStmt, ebVar, ebParam, ebField, ebRec, ebRoutine, ebPair, roomB]; done))); conv => whnf)
    simp only [forceL_eq]
    refine AC.mono (hg x (List.mem_of_getElem? hx)) ?_
    rintro _ _ ⟨rfl, rfl⟩
    conv => whnf
    repeat' first | (with_reducible refine W.seq ?_) | ((with_reducible refine W.region ?_); conv => whnf) | ((with_reducible refine W.cond ?_); conv => whnf) | ((with_reducible refine W.skip ?_); conv => whnf) | ((with_reducible refine W.ret ?_); conv => whnf) | ((refine condM_intro (fun hc => ?_) (fun hc => ?_)) <;> (try simp only [decide_eq_true_eq, decide_eq_false_iff_not, beq_iff_eq, bne_iff_ne, beq_eq_false_iff_ne, bne_eq_false_iff_eq, ne_eq, Bool.not_eq_true', Bool.not_eq_false'] at hc) <;> (first | (exfalso; omega) | (conv => whnf)))
    · rw [hc, Bool.true_or] at hall
      rw [← hall]
      exact finD (.inr rfl) (junk := []) (by simp) rfl ⟨⟨(i : Int), by simp, rfl⟩, rfl⟩
    · rw [hc, Bool.false_or] at hall
      exact ⟨i + 1, [], ⟨hlt, hall⟩, by omega, ⟨.same _, .same _, .same _, .of_eq (by rw [← e3]; rfl), trivial⟩, by simp, Nat.le_refl _⟩
  · rw [drop_end hge] at hall
    simp only [List.any_nil] at hall
    repeat' first | (with_reducible refine W.seq ?_) | ((with_reducible refine W.region ?_); conv => whnf) | ((with_reducible refine W.cond ?_); conv => whnf) | ((with_reducible refine W.exit ?_); conv => whnf) | ((with_reducible refine W.ret ?_); conv => whnf) | ((refine condM_intro (fun hc => ?_) (fun hc => ?_)) <;> (try simp only [decide_eq_true_eq, decide_eq_false_iff_not, beq_iff_eq, bne_iff_ne, beq_eq_false_iff_ne, bne_eq_false_iff_eq, ne_eq, Bool.not_eq_true', Bool.not_eq_false'] at hc) <;> (first | (exfalso; omega) | (conv => whnf)))
    rw [← hall]
    exact finD (.inr rfl) (junk := []) (by simp) rfl ⟨⟨-1, by simp, rfl⟩, rfl⟩
theorem hasC_spec (H : AHeap) (hH : HeapOK H) (l : List Rc) (g : FuncId) (cap : List FV) (hcap : ∀ x ∈ cap, OkIn H.length x) (q : Rc → Bool)
    (hg : ∀ x ∈ l, RetH g ([.d (.agg (sC x))] ++ cap) H (.bool (q x))) :
    RetH 26 [.d (.sl 59 (rC l)), .clo g [] cap] H (.bool (l.any q)) := by
  have hroomB : roomB = 140737488355328 := rfl; refine ac_of ok26 rfl rfl ?_
  repeat' first | (with_reducible refine W.seq ?_) | ((with_reducible refine W.region ?_); conv => whnf)
  refine AC.mono (idxC_spec H hH l g cap hcap q hg) ?_
  rintro _ _ ⟨⟨k, hk, rfl⟩, rfl⟩
  conv => whnf
  repeat' first | ((with_reducible refine W.ret ?_); conv => whnf)
  rw [← hk]
  exact finD (.inr rfl) (junk := []) (by simp) rfl ⟨rfl, rfl⟩
end Go.Pg
set_option maxRecDepth 100000
set_option linter.all false
namespace Go.Pg
open Go.Proofs
theorem anyN {α : Type} (q : α → Bool) (l : List α) : (l.any fun v => !q v) = !l.all q := by induction l <;> simp_all
theorem glOK : HeapOK gl := ⟨by intro o ho; simp only [List.mem_singleton] at ho; subst ho; trivial⟩
theorem AC.useH {f : FuncId} {args : List FV} {H : AHeap} {x : AV} {Q : FV → AHeap → Prop} (h : RetH f args H x) (hq : Q (.d x) H) : AC Tryz.prog f args H Q :=
  AC.mono h (by rintro _ _ ⟨rfl, rfl⟩; exact hq)
def Hc (d : Int) : AHeap := [glo, .var 51 [.d (.int .i64 d)]]
theorem HcOK (d : Int) : HeapOK (Hc d) := ⟨by
  intro o ho
  simp only [Hc, List.mem_cons, List.not_mem_nil, or_false] at ho
  rcases ho with rfl | rfl
  · trivial
  · simp [ObjOk, OkIn]⟩
theorem HcIn (d : Int) : ∀ x ∈ [FV.vp 1 0], OkIn (Hc d).length x := by simp [OkIn, Hc]
def varF (d : Int) (v : Vr) : Bool := notesF [v.before, v.trail] && nameF d v.name && typF d v.t
theorem vars1_spec (d : Int) (v : Vr) : RetH 76 [.d (.agg (sV v)), .vp 1 0] (Hc d) (.bool (!varF d v)) := by
  have hroomB : roomB = 140737488355328 := rfl; refine ac_of ok76 rfl rfl ?_
  repeat' first | (with_reducible refine W.seq ?_) | ((with_reducible refine W.region ?_); conv => whnf) | ((refine AC.use (notes_spec [v.before, v.trail]) ?_ rfl ?_); (focus (simp only [allL, FV.all, and_self]; done)); conv => whnf) | ((refine AC.use (name_spec _ _) ?_ rfl ?_); (focus (simp only [allL, FV.all, and_self]; done)); conv => whnf) | ((refine AC.use (typ_spec _ v.t) ?_ rfl ?_); (focus (simp only [allL, FV.all, and_self]; done)); conv => whnf) | ((with_reducible refine W.ret ?_); conv => whnf) | (refine finD (.inr rfl) rfl rfl ⟨?_, rfl⟩) | ((refine condM_intro (fun hc => ?_) (fun hc => ?_)) <;> (try simp only [decide_eq_true_eq, decide_eq_false_iff_not, beq_iff_eq, bne_iff_ne, beq_eq_false_iff_ne, bne_eq_false_iff_eq, ne_eq, Bool.not_eq_true', Bool.not_eq_false'] at hc) <;> (first | (exfalso; omega) | (conv => whnf))) | ((refine And.intro ?_ ?_); (focus (first | omega | (simp only [rT_len, rE_len, rF_len, rC_len, rV_len, rP_len, rS_len, rR_len, rTT_len, rW_len, List.length_map, List.length_replicate] at *; omega) | exact (byteAt_lt _ _).1 | exact (byteAt_lt _ _).2 | (simp [ebStr, ebTxts, ebU8, ebExpr, ebStmt, ebVar, ebParam, ebField, ebRec, ebRoutine, ebPair, roomB]; done))); conv => whnf)
  all_goals (refine congrArg (fun b => FV.d (AV.bool b)) ?_; simp_all [varF])
def varsF (d : Int) (l : List Vr) : Bool := decide (l.length ≤ 512) && l.all (varF d)
theorem vars_spec (d : Int) (l : List Vr) : Ret Tryz.prog 29 [.d (.agg [.int .i64 d]), .d (.sl 98 (rV l))] (.bool (varsF d l)) := by
  have hroomB : roomB = 140737488355328 := rfl; refine ac_of ok29 rfl rfl ?_
  repeat' first | (with_reducible refine W.seq ?_) | ((with_reducible refine W.region ?_); conv => whnf) | ((refine AC.use (fewVr_spec _) ?_ rfl ?_); (focus (simp only [allL, FV.all, and_self]; done)); conv => whnf) | (((refine AC.useH (hasV_spec (Hc d) (HcOK d) l _ [.vp 1 0] (HcIn d) (fun v => !varF d v) (fun v _ => vars1_spec d v)) ?_)); conv => whnf) | ((with_reducible refine W.ret ?_); conv => whnf) | (refine finD (.inr rfl) rfl rfl ⟨?_, rfl⟩) | ((refine condM_intro (fun hc => ?_) (fun hc => ?_)) <;> (try simp only [decide_eq_true_eq, decide_eq_false_iff_not, beq_iff_eq, bne_iff_ne, beq_eq_false_iff_ne, bne_eq_false_iff_eq, ne_eq, Bool.not_eq_true', Bool.not_eq_false'] at hc) <;> (first | (exfalso; omega) | (conv => whnf)))
  all_goals (refine congrArg (fun b => FV.d (AV.bool b)) ?_; simp_all [varsF, anyN]; try (intros; omega))
def fieldF (d : Int) (v : Fld) : Bool := notesF [v.before, v.trail] && nameF d v.name && (decide (1 ≤ v.kind) && decide (v.kind ≤ 3))
theorem rec1_spec (d : Int) (v : Fld) : RetH 72 [.d (.agg (sF v)), .vp 1 0] (Hc d) (.bool (!fieldF d v)) := by
  have hroomB : roomB = 140737488355328 := rfl; refine ac_of ok72 rfl rfl ?_
  repeat' first | (with_reducible refine W.seq ?_) | ((with_reducible refine W.region ?_); conv => whnf) | ((refine AC.use (notes_spec [v.before, v.trail]) ?_ rfl ?_); (focus (simp only [allL, FV.all, and_self]; done)); conv => whnf) | ((refine AC.use (name_spec _ _) ?_ rfl ?_); (focus (simp only [allL, FV.all, and_self]; done)); conv => whnf) | ((refine AC.use (kind_spec _) ?_ rfl ?_); (focus (simp only [allL, FV.all, and_self]; done)); conv => whnf) | ((with_reducible refine W.ret ?_); conv => whnf) | (refine finD (.inr rfl) rfl rfl ⟨?_, rfl⟩) | ((refine condM_intro (fun hc => ?_) (fun hc => ?_)) <;> (try simp only [decide_eq_true_eq, decide_eq_false_iff_not, beq_iff_eq, bne_iff_ne, beq_eq_false_iff_ne, bne_eq_false_iff_eq, ne_eq, Bool.not_eq_true', Bool.not_eq_false'] at hc) <;> (first | (exfalso; omega) | (conv => whnf))) | ((refine And.intro ?_ ?_); (focus (first | omega | (simp only [rT_len, rE_len, rF_len, rC_len, rV_len, rP_len, rS_len, rR_len, rTT_len, rW_len, List.length_map, List.length_replicate] at *; omega) | exact (byteAt_lt _ _).1 | exact (byteAt_lt _ _).2 | (simp [ebStr, ebTxts, ebU8, ebExpr, ebStmt, ebVar, ebParam, ebField, ebRec, ebRoutine, ebPair, roomB]; done))); conv => whnf)
  all_goals (refine congrArg (fun b => FV.d (AV.bool b)) ?_; simp_all [fieldF])
def recF (d : Int) (r : Rc) : Bool := notesF [r.before, r.trail, r.fin] && nameF d r.name && decide (r.fields.length ≤ 512) && decide (0 < r.fields.length) && r.fields.all (fieldF d)
theorem rec_spec (d : Int) (r : Rc) : Ret Tryz.prog 28 [.d (.agg [.int .i64 d]), .d (.agg (sC r))] (.bool (recF d r)) := by
  have hroomB : roomB = 140737488355328 := rfl; refine ac_of ok28 rfl rfl ?_
  repeat' first | (with_reducible refine W.seq ?_) | ((with_reducible refine W.region ?_); conv => whnf) | ((refine AC.use (notes_spec [r.before, r.trail, r.fin]) ?_ rfl ?_); (focus (simp only [allL, FV.all, and_self]; done)); conv => whnf) | ((refine AC.use (name_spec _ _) ?_ rfl ?_); (focus (simp only [allL, FV.all, and_self]; done)); conv => whnf) | ((refine AC.use (fewFld_spec _) ?_ rfl ?_); (focus (simp only [allL, FV.all, and_self]; done)); conv => whnf) | (((refine AC.useH (hasF_spec (Hc d) (HcOK d) r.fields _ [.vp 1 0] (HcIn d) (fun v => !fieldF d v) (fun v _ => rec1_spec d v)) ?_)); conv => whnf) | ((with_reducible refine W.ret ?_); conv => whnf) | (refine finD (.inr rfl) rfl rfl ⟨?_, rfl⟩) | ((refine condM_intro (fun hc => ?_) (fun hc => ?_)) <;> (try simp only [decide_eq_true_eq, decide_eq_false_iff_not, beq_iff_eq, bne_iff_ne, beq_eq_false_iff_ne, bne_eq_false_iff_eq, ne_eq, Bool.not_eq_true', Bool.not_eq_false'] at hc) <;> (first | (exfalso; omega) | (conv => whnf))) | (intro hlen; simp only [rT_len, rE_len, rF_len, rC_len, rV_len, rP_len, rS_len, rR_len, rTT_len, rW_len] at hlen ⊢; conv => whnf) | ((refine And.intro rfl ?_); conv => whnf) | ((refine And.intro ?_ ?_); (focus (first | omega | (simp only [rT_len, rE_len, rF_len, rC_len, rV_len, rP_len, rS_len, rR_len, rTT_len, rW_len, List.length_map, List.length_replicate] at *; omega) | exact (byteAt_lt _ _).1 | exact (byteAt_lt _ _).2 | (simp [ebStr, ebTxts, ebU8, ebExpr, ebStmt, ebVar, ebParam, ebField, ebRec, ebRoutine, ebPair, roomB]; done))); conv => whnf)
  all_goals (refine congrArg (fun b => FV.d (AV.bool b)) ?_; simp_all [recF, anyN]; try (intros; omega))
theorem check1_spec (d : Int) (r : Rc) : RetH 27 [.d (.agg (sC r)), .vp 1 0] (Hc d) (.bool (!recF d r)) := by
  have hroomB : roomB = 140737488355328 := rfl; refine ac_of ok27 rfl rfl ?_
  repeat' first | (with_reducible refine W.seq ?_) | ((with_reducible refine W.region ?_); conv => whnf) | ((refine AC.use (rec_spec d r) ?_ rfl ?_); (focus (simp only [allL, FV.all, and_self]; done)); conv => whnf) | ((with_reducible refine W.ret ?_); conv => whnf) | (refine finD (.inr rfl) rfl rfl ⟨?_, rfl⟩) | (with_reducible rfl)
theorem apart_spec (l : List Rtn) : Ret Tryz.prog 79 [.d (.sl 103 (rR l))] (.bool (decide (l.map (·.name)).Nodup)) := by
  have hroomB : roomB = 140737488355328 := rfl; refine ac_of ok79 rfl rfl ?_
  repeat' first | (with_reducible refine W.seq ?_) | ((with_reducible refine W.region ?_); conv => whnf) | (with_reducible refine W.block ?_) | (intro hlen; simp only [rT_len, rE_len, rF_len, rC_len, rV_len, rP_len, rS_len, rR_len, rTT_len, rW_len] at hlen ⊢; conv => whnf) | ((refine And.intro rfl ?_); conv => whnf)
  refine W.loopJ (σ := Nat) (fun i => [(3, .map 1), (7, .d (.sl 103 (rR l))), (8, .d (.int .i64 l.length)), (9, .d (.int .i64 i))]) (fun i => [glo, .map (entOf ((l.take i).map (·.name)))])
    (fun i => i ≤ l.length ∧ ((l.take i).map (·.name)).Nodup) (fun i => l.length - i) 0 ⟨Nat.zero_le _, by simp⟩ ⟨.same _, .same _, .same _, .same _, trivial⟩ rfl ?_ ?_
  · rintro i _
    refine ⟨by simp [OkIn], ?_⟩
    intro o ho
    simp only [List.mem_cons, List.not_mem_nil, or_false] at ho
    rcases ho with rfl | rfl
    · trivial
    · simp only [ObjOk, entOf, List.mem_map]
      rintro x ⟨s, _, rfl⟩
      simp [OkIn]
  rintro i ⟨hi, hnd⟩
  rcases Nat.lt_or_ge i l.length with hlt | hge
  · obtain ⟨x, hx⟩ := at_lt hlt
    have hrx := rR_some hx
    have e3 : IntKind.i64.wrap (↑i + 1) = ((i + 1 : Nat) : Int) := wr (by omega) (by omega)
    have hap : (l.take (i + 1)).map (·.name) = (l.take i).map (·.name) ++ [x.name] := by rw [List.take_add_one, hx]; simp
    repeat' first | (with_reducible refine W.seq ?_) | ((with_reducible refine W.region ?_); conv => whnf) | ((with_reducible refine W.cond ?_); conv => whnf) | (with_reducible refine W.block ?_) | ((with_reducible refine W.skip ?_); conv => whnf) | ((refine condM_intro (fun hc => ?_) (fun hc => ?_)) <;> (try simp only [decide_eq_true_eq, decide_eq_false_iff_not, beq_iff_eq, bne_iff_ne, beq_eq_false_iff_ne, bne_eq_false_iff_eq, ne_eq, Bool.not_eq_true', Bool.not_eq_false'] at hc) <;> (first | (exfalso; omega) | (conv => whnf))) | ((refine fun row hrow => ?_); revert row; (apply row_same); (focus assumption); conv => whnf) | ((refine And.intro rfl ?_); conv => whnf) | ((refine And.intro (fun vz hz => ?_) (fun hz => ?_)) <;> (conv => whnf)) | ((refine And.intro ?_ ?_); (focus (first | omega | (simp only [rT_len, rE_len, rF_len, rC_len, rV_len, rP_len, rS_len, rR_len, rTT_len, rW_len, List.length_map, List.length_replicate] at *; omega) | exact (byteAt_lt _ _).1 | exact (byteAt_lt _ _).2 | (simp [ebStr, ebTxts, ebU8, ebExpr, ebStmt, ebVar, ebParam, ebField, ebRec, ebRoutine, ebPair, roomB]; done))); conv => whnf)
    · obtain ⟨rfl, hin⟩ := ent_some hz
      conv => whnf
      repeat' first | (with_reducible refine W.seq ?_) | ((with_reducible refine W.region ?_); conv => whnf) | ((with_reducible refine W.ret ?_); conv => whnf) | (refine finD (.inr rfl) rfl rfl ⟨?_, rfl⟩)
      rw [decide_eq_false]
      intro hno
      have := (List.take_append_drop (i + 1) l) ▸ hno
      rw [List.map_append, hap] at this
      have := (List.nodup_append.1 this).1
      exact (List.nodup_append.1 this).2.2 _ hin _ (by simp) rfl
    · have hin := ent_none hz
      conv => whnf
      skip
      refine ⟨i + 1, [.var 103 ((sR x).map .d)], ⟨hlt, ?_⟩, by omega, ⟨.same _, .same _, .same _, .of_eq (by rw [← e3]; rfl), trivial⟩, ?_, by simp⟩
      · rw [hap]
        refine List.nodup_append.2 ⟨hnd, by simp, ?_⟩
        intro a ha b hb
        simp at hb
        subst hb
        exact fun e => hin (e ▸ ha)
      · rw [hap, ← ent_set hin]
        rfl
  · rw [List.take_of_length_le hge] at hnd
    repeat' first | (with_reducible refine W.seq ?_) | ((with_reducible refine W.region ?_); conv => whnf) | ((with_reducible refine W.cond ?_); conv => whnf) | ((with_reducible refine W.exit ?_); conv => whnf) | ((with_reducible refine W.ret ?_); conv => whnf) | (refine finD (.inr rfl) rfl rfl ⟨?_, rfl⟩) | ((refine condM_intro (fun hc => ?_) (fun hc => ?_)) <;> (try simp only [decide_eq_true_eq, decide_eq_false_iff_not, beq_iff_eq, bne_iff_ne, beq_eq_false_iff_ne, bne_eq_false_iff_eq, ne_eq, Bool.not_eq_true', Bool.not_eq_false'] at hc) <;> (first | (exfalso; omega) | (conv => whnf)))
    rw [decide_eq_true hnd]
end Go.Pg
set_option maxRecDepth 100000
set_option linter.all false
namespace Go.Pg
open Go.Proofs
def Hi (d : Int) (deep : Int) : AHeap := [glo, .var 51 [.d (.int .i64 d)], .var 3 [.d (.int .i64 deep)]]
theorem HiOK (d deep : Int) : HeapOK (Hi d deep) := ⟨by
  intro o ho
  simp only [Hi, List.mem_cons, List.not_mem_nil, or_false] at ho
  rcases ho with rfl | rfl | rfl
  · trivial
  · simp [ObjOk, OkIn]
  · simp [ObjOk, OkIn]⟩
theorem HiIn (d deep : Int) : ∀ x ∈ [FV.vp 1 0, FV.vp 2 0], OkIn (Hi d deep).length x := by simp [OkIn, Hi]
theorem HiIn2 (d deep : Int) : ∀ x ∈ [FV.vp 2 0, FV.vp 1 0], OkIn (Hi d deep).length x := by simp [OkIn, Hi]
theorem stmts0_spec (d deep : Int) : Ret Tryz.prog 31 [.d (.agg [.int .i64 d]), .d (.sl 107 (rS [])), .d (.int .i64 deep)] (.bool true) := by
  have hroomB : roomB = 140737488355328 := rfl; refine ac_of ok31 rfl rfl ?_
  repeat' first | (with_reducible refine W.seq ?_) | ((with_reducible refine W.region ?_); conv => whnf) | ((refine AC.use (fewStm_spec []) ?_ rfl ?_); (focus (simp only [allL, FV.all, and_self]; done)); conv => whnf) | (((refine AC.useH (hasS_spec (Hi d deep) (HiOK d deep) [] _ [.vp 1 0, .vp 2 0] (HiIn d deep) (fun _ => true) (fun v hv => absurd hv (List.not_mem_nil))) ?_)); conv => whnf) | ((with_reducible refine W.ret ?_); conv => whnf) | (refine finD (.inr rfl) rfl rfl ⟨?_, rfl⟩)
  all_goals rfl
theorem routines0_spec (d deep : Int) : Ret Tryz.prog 30 [.d (.agg [.int .i64 d]), .d (.sl 103 (rR [])), .d (.int .i64 deep)] (.bool true) := by
  have hroomB : roomB = 140737488355328 := rfl; refine ac_of ok30 rfl rfl ?_
  repeat' first | (with_reducible refine W.seq ?_) | ((with_reducible refine W.region ?_); conv => whnf) | ((refine AC.use (fewRtn_spec []) ?_ rfl ?_); (focus (simp only [allL, FV.all, and_self]; done)); conv => whnf) | ((refine AC.use (apart_spec []) ?_ rfl ?_); (focus (simp only [allL, FV.all, and_self]; done)); conv => whnf) | (((refine AC.useH (hasR_spec (Hi d deep) (HiOK d deep) [] _ [.vp 2 0, .vp 1 0] (HiIn2 d deep) (fun _ => true) (fun v hv => absurd hv (List.not_mem_nil))) ?_)); conv => whnf) | ((with_reducible refine W.ret ?_); conv => whnf) | (refine finD (.inr rfl) rfl rfl ⟨?_, rfl⟩)
  all_goals rfl
def named (nm : Txt) : Pgm := ⟨nm, [], [], [], [], [], [], [], []⟩
theorem check0_spec (nm : Txt) : Ret Tryz.prog 9 [.d (.int .i64 0), .d (.agg (sG (named nm)))] (.int .i64 (if nameF 0 nm then 0 else 1)) := by
  have hroomB : roomB = 140737488355328 := rfl; refine ac_of ok9 rfl rfl ?_
  repeat' first | (with_reducible refine W.seq ?_) | ((with_reducible refine W.region ?_); conv => whnf) | ((with_reducible refine W.cond ?_); conv => whnf) | ((with_reducible refine W.skip ?_); conv => whnf) | ((refine AC.use (name_spec _ _) ?_ rfl ?_); (focus (simp only [allL, FV.all, and_self]; done)); conv => whnf) | ((refine AC.use (notes_spec [[], [], [], []]) ?_ rfl ?_); (focus (simp only [allL, FV.all, and_self]; done)); conv => whnf) | ((refine AC.use (fewRc_spec []) ?_ rfl ?_); (focus (simp only [allL, FV.all, and_self]; done)); conv => whnf) | (((refine AC.useH (hasC_spec (Hc 0) (HcOK 0) [] _ [.vp 1 0] (HcIn 0) (fun _ => true) (fun v hv => absurd hv (List.not_mem_nil))) ?_)); conv => whnf) | ((refine AC.use (vars_spec 0 []) ?_ rfl ?_); (focus (simp only [allL, FV.all, and_self]; done)); conv => whnf) | ((refine AC.use (routines0_spec 0 1) ?_ rfl ?_); (focus (simp only [allL, FV.all, and_self]; done)); conv => whnf) | ((refine AC.use (stmts0_spec 0 1) ?_ rfl ?_); (focus (simp only [allL, FV.all, and_self]; done)); conv => whnf) | ((with_reducible refine W.ret ?_); conv => whnf) | (refine finD (.inr rfl) rfl rfl ⟨?_, rfl⟩) | ((refine condM_intro (fun hc => ?_) (fun hc => ?_)) <;> (try simp only [decide_eq_true_eq, decide_eq_false_iff_not, beq_iff_eq, bne_iff_ne, beq_eq_false_iff_ne, bne_eq_false_iff_eq, ne_eq, Bool.not_eq_true', Bool.not_eq_false'] at hc) <;> (first | (exfalso; omega) | (conv => whnf))) | ((refine And.intro ?_ ?_); (focus (first | omega | (simp only [rT_len, rE_len, rF_len, rC_len, rV_len, rP_len, rS_len, rR_len, rTT_len, rW_len, List.length_map, List.length_replicate] at *; omega) | exact (byteAt_lt _ _).1 | exact (byteAt_lt _ _).2 | (simp [ebStr, ebTxts, ebU8, ebExpr, ebStmt, ebVar, ebParam, ebField, ebRec, ebRoutine, ebPair, roomB]; done))); conv => whnf)
  all_goals (have hc' : nameF 0 nm = _ := hc; rw [hc']; rfl)
theorem p_name : nameF 0 [112] = true := by kernel_rfl
theorem begin_name : nameF 0 [98, 101, 103, 105, 110] = false := by kernel_rfl
theorem p_names : namesP (named [112]) = [[112]] := by kernel_rfl
theorem q_names : namesP (named [113]) = [[113]] := by kernel_rfl
theorem pq_ren : renG [⟨[112], [113]⟩] (named [112]) = named [113] := by kernel_rfl
theorem awake_spec : Ret Tryz.prog 11 [] (.bool true) := by
  have hn : ∀ c : UInt8, c ≠ 36 → ∀ s ∈ nG (named [c]), s.length ≤ 1099511627776 := fun c _ s hs => by
    simp only [nG, named, List.flatMap_nil, List.append_nil, List.mem_singleton] at hs
    subst hs
    simp
  have r1 := rename_spec (named [112]) [⟨[112], [113]⟩] (fun s hs => ⟨hn 112 (by decide) s hs, by
    simp only [nG, named, List.flatMap_nil, List.append_nil, List.mem_singleton] at hs
    subst hs
    have : renN [⟨[112], [113]⟩] [112] = [113] := by kernel_rfl
    rw [this]; simp [roomB]⟩)
  rw [pq_ren] at r1
  have n1 := names_spec (named [112]) (by have : partsAll (named [112]) = [[112]] := by kernel_rfl
                                          rw [this]; simp) (hn 112 (by decide))
  rw [p_names] at n1
  have n2 := names_spec (named [113]) (by have : partsAll (named [113]) = [[113]] := by kernel_rfl
                                          rw [this]; simp) (hn 113 (by decide))
  rw [q_names] at n2
  have c1 := check0_spec [112]
  rw [p_name] at c1
  have c2 := check0_spec [98, 101, 103, 105, 110]
  rw [begin_name] at c2
  have hroomB : roomB = 140737488355328 := rfl; refine ac_of ok11 rfl rfl ?_
  repeat' first | (with_reducible refine W.seq ?_) | ((with_reducible refine W.region ?_); conv => whnf) | ((refine AC.use (r1) ?_ rfl ?_); (focus (simp only [allL, FV.all, and_self]; done)); conv => whnf) | ((refine AC.use (n1) ?_ rfl ?_); (focus (simp only [allL, FV.all, and_self]; done)); conv => whnf) | ((refine AC.use (n2) ?_ rfl ?_); (focus (simp only [allL, FV.all, and_self]; done)); conv => whnf) | ((refine AC.use (c1) ?_ rfl ?_); (focus (simp only [allL, FV.all, and_self]; done)); conv => whnf) | ((refine AC.use (c2) ?_ rfl ?_); (focus (simp only [allL, FV.all, and_self]; done)); conv => whnf) | ((refine AC.use (rsame_spec [[112]] [[112]]) ?_ rfl ?_); (focus (simp only [allL, FV.all, and_self]; done)); conv => whnf) | ((refine AC.use (rsame_spec [[113]] [[113]]) ?_ rfl ?_); (focus (simp only [allL, FV.all, and_self]; done)); conv => whnf) | ((with_reducible refine W.ret ?_); conv => whnf) | (refine finD (.inr rfl) rfl rfl ⟨?_, rfl⟩) | ((refine condM_intro (fun hc => ?_) (fun hc => ?_)) <;> (try simp only [decide_eq_true_eq, decide_eq_false_iff_not, beq_iff_eq, bne_iff_ne, beq_eq_false_iff_ne, bne_eq_false_iff_eq, ne_eq, Bool.not_eq_true', Bool.not_eq_false'] at hc) <;> (first | (exfalso; omega) | (conv => whnf))) | ((refine And.intro ?_ ?_); (focus (first | omega | (simp only [rT_len, rE_len, rF_len, rC_len, rV_len, rP_len, rS_len, rR_len, rTT_len, rW_len, List.length_map, List.length_replicate] at *; omega) | exact (byteAt_lt _ _).1 | exact (byteAt_lt _ _).2 | (simp [ebStr, ebTxts, ebU8, ebExpr, ebStmt, ebVar, ebParam, ebField, ebRec, ebRoutine, ebPair, roomB]; done))); conv => whnf)
  all_goals first | rfl | simp_all [same_rfl]
theorem alike_law (a b c : Pgm) : Ret Tryz.prog 8 [.d (.agg (sG a)), .d (.agg (sG b)), .d (.agg (sG c))] (.bool true) := by
  have hroomB : roomB = 140737488355328 := rfl; refine ac_of ok8 rfl rfl ?_
  repeat' first | (with_reducible refine W.seq ?_) | ((with_reducible refine W.region ?_); conv => whnf) | ((refine AC.use (sameG_spec a b) ?_ rfl ?_); (focus (simp only [allL, FV.all, and_self]; done)); conv => whnf) | ((refine AC.use (sameG_spec b c) ?_ rfl ?_); (focus (simp only [allL, FV.all, and_self]; done)); conv => whnf) | ((refine AC.use (sameG_spec a c) ?_ rfl ?_); (focus (simp only [allL, FV.all, and_self]; done)); conv => whnf) | ((refine AC.use (sameG_spec b a) ?_ rfl ?_); (focus (simp only [allL, FV.all, and_self]; done)); conv => whnf) | ((refine AC.use (awake_spec) ?_ rfl ?_); (focus (simp only [allL, FV.all, and_self]; done)); conv => whnf) | ((with_reducible refine W.ret ?_); conv => whnf) | (refine finD (.inr rfl) rfl rfl ⟨?_, rfl⟩) | ((refine condM_intro (fun hc => ?_) (fun hc => ?_)) <;> (try simp only [decide_eq_true_eq, decide_eq_false_iff_not, beq_iff_eq, bne_iff_ne, beq_eq_false_iff_ne, bne_eq_false_iff_eq, ne_eq, Bool.not_eq_true', Bool.not_eq_false'] at hc) <;> (first | (exfalso; omega) | (conv => whnf))) | (with_reducible rfl)
  all_goals (
    exfalso
    have hs : same b a = same a b := by rw [Bool.eq_iff_iff, same_iff, same_iff]; exact ⟨Eq.symm, Eq.symm⟩
    simp only [hs, same_iff, same_niff] at *
    first
    | contradiction
    | (rename_i h0; subst_vars; simp_all [same_iff, same_niff, same_rfl]))
theorem same_law (a b : Pgm) (e f : Expr) : Ret Tryz.prog 7 [.d (.agg (sG a)), .d (.agg (sG b)), .d (.agg (sE e)), .d (.agg (sE f))] (.bool true) := by
  have hroomB : roomB = 140737488355328 := rfl; refine ac_of ok7 rfl rfl ?_
  repeat' first | (with_reducible refine W.seq ?_) | ((with_reducible refine W.region ?_); conv => whnf) | ((refine AC.use (sameG_spec a b) ?_ rfl ?_); (focus (simp only [allL, FV.all, and_self]; done)); conv => whnf) | ((refine AC.use (rsameG_spec a b) ?_ rfl ?_); (focus (simp only [allL, FV.all, and_self]; done)); conv => whnf) | ((refine AC.use (sameG_spec a a) ?_ rfl ?_); (focus (simp only [allL, FV.all, and_self]; done)); conv => whnf) | ((refine AC.use (sameE_spec e f) ?_ rfl ?_); (focus (simp only [allL, FV.all, and_self]; done)); conv => whnf) | ((refine AC.use (rsameE_spec e f) ?_ rfl ?_); (focus (simp only [allL, FV.all, and_self]; done)); conv => whnf) | ((refine AC.use (sameE_spec e e) ?_ rfl ?_); (focus (simp only [allL, FV.all, and_self]; done)); conv => whnf) | ((refine AC.use (awake_spec) ?_ rfl ?_); (focus (simp only [allL, FV.all, and_self]; done)); conv => whnf) | ((with_reducible refine W.ret ?_); conv => whnf) | (refine finD (.inr rfl) rfl rfl ⟨?_, rfl⟩) | ((refine condM_intro (fun hc => ?_) (fun hc => ?_)) <;> (try simp only [decide_eq_true_eq, decide_eq_false_iff_not, beq_iff_eq, bne_iff_ne, beq_eq_false_iff_ne, bne_eq_false_iff_eq, ne_eq, Bool.not_eq_true', Bool.not_eq_false'] at hc) <;> (first | (exfalso; omega) | (conv => whnf))) | (with_reducible rfl)
  all_goals (exfalso; simp_all [same_rfl])
end Go.Pg
