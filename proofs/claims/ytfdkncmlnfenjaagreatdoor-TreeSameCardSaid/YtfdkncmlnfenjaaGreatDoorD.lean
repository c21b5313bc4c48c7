/- Part D of the proof: the laws and contracts that the last text joins. Own work; no condition of its own. -/
import Derived.Test.YtfdkncmlnfenjaaGreatDoorF3
import Derived.Test.YtfdkncmlnfenjaaGreatDoorProg
set_option linter.all false
set_option linter.unusedVariables false
namespace Go.Pg
open Go.Proofs
abbrev Txt := List UInt8
abbrev tStr : TypeId := 9
abbrev tTxts : TypeId := 22
abbrev tExpr : TypeId := 44
abbrev tStmt : TypeId := 107
abbrev tVar : TypeId := 98
abbrev tParam : TypeId := 145
abbrev tField : TypeId := 69
abbrev tRec : TypeId := 59
abbrev tRoutine : TypeId := 103
abbrev tPair : TypeId := 39
structure Expr where
  op : Int
  n : Int
  name : Txt
  field : Txt
  l : List Expr
structure Ty where
  kind : Int
  size : Int
  name : Txt
  deriving DecidableEq
structure Fld where
  before : List Txt
  trail : List Txt
  name : Txt
  kind : Int
  deriving DecidableEq
structure Rc where
  before : List Txt
  trail : List Txt
  name : Txt
  fields : List Fld
  fin : List Txt
  deriving DecidableEq
structure Vr where
  before : List Txt
  trail : List Txt
  name : Txt
  t : Ty
  deriving DecidableEq
structure Pm where
  name : Txt
  t : Ty
  mode : Int
  deriving DecidableEq
structure Stm where
  before : List Txt
  trail : List Txt
  op : Int
  name : Txt
  p : Expr
  e : List Expr
  down : Bool
  more : Bool
  body : List Stm
  els : List Stm
  fin : List Txt
  fin2 : List Txt
structure Rtn where
  before : List Txt
  trail : List Txt
  name : Txt
  result : Int
  params : List Pm
  vars : List Vr
  inner : List Rtn
  body : List Stm
  fin : List Txt
structure Pgm where
  name : Txt
  before : List Txt
  mid : List Txt
  after : List Txt
  recs : List Rc
  vars : List Vr
  routines : List Rtn
  body : List Stm
  fin : List Txt
structure Prs where
  old : Txt
  new : Txt
  deriving DecidableEq
/-- A row of texts. -/
def sT (s : Txt) : List AV := [.str s]
def rT (l : List Txt) : List (List AV) := l.map sT
abbrev aT (l : List Txt) : AV := .sl tStr (rT l)
mutual
def cE : Expr → List AV
  | ⟨op, n, name, field, l⟩ => [.int .i64 op, .int .i64 n, .str name, .str field, .sl tExpr (rE l)]
def rE : List Expr → List (List AV)
  | [] => []
  | e :: l => cE e :: rE l
end
def sE (e : Expr) : List AV := [.int .i64 e.op, .int .i64 e.n, .str e.name, .str e.field, .sl tExpr (rE e.l)]
theorem cE_eq (e : Expr) : cE e = sE e := by cases e; simp [cE, sE]
theorem rE_eq (l : List Expr) : rE l = l.map sE := by
  induction l with
  | nil => simp [rE]
  | cons e l ih => simp [rE, cE_eq, ih]
abbrev aE (l : List Expr) : AV := .sl tExpr (rE l)
def sY (t : Ty) : List AV := [.int .i64 t.kind, .int .i64 t.size, .str t.name]
def sF (f : Fld) : List AV := [aT f.before, aT f.trail, .str f.name, .int .i64 f.kind]
def rF (l : List Fld) : List (List AV) := l.map sF
def sC (r : Rc) : List AV := [aT r.before, aT r.trail, .str r.name, .sl tField (rF r.fields), aT r.fin]
def rC (l : List Rc) : List (List AV) := l.map sC
def sV (v : Vr) : List AV := [aT v.before, aT v.trail, .str v.name, .int .i64 v.t.kind, .int .i64 v.t.size, .str v.t.name]
def rV (l : List Vr) : List (List AV) := l.map sV
def sP (p : Pm) : List AV := [.str p.name, .int .i64 p.t.kind, .int .i64 p.t.size, .str p.t.name, .int .i64 p.mode]
def rP (l : List Pm) : List (List AV) := l.map sP
mutual
def cS : Stm → List AV
  | ⟨before, trail, op, name, p, e, down, more, body, els, fin, fin2⟩ =>
    [aT before, aT trail, .int .i64 op, .str name, .int .i64 p.op, .int .i64 p.n, .str p.name, .str p.field, .sl tExpr (rE p.l), .sl tExpr (rE e),
     .bool down, .bool more, .sl tStmt (rS body), .sl tStmt (rS els), aT fin, aT fin2]
def rS : List Stm → List (List AV)
  | [] => []
  | e :: l => cS e :: rS l
end
def sS (s : Stm) : List AV :=
    [aT s.before, aT s.trail, .int .i64 s.op, .str s.name, .int .i64 s.p.op, .int .i64 s.p.n, .str s.p.name, .str s.p.field, .sl tExpr (rE s.p.l), .sl tExpr (rE s.e),
     .bool s.down, .bool s.more, .sl tStmt (rS s.body), .sl tStmt (rS s.els), aT s.fin, aT s.fin2]
theorem cS_eq (e : Stm) : cS e = sS e := by cases e; simp [cS, sS]
theorem rS_eq (l : List Stm) : rS l = l.map sS := by
  induction l with
  | nil => simp [rS]
  | cons e l ih => simp [rS, cS_eq, ih]
mutual
def cR : Rtn → List AV
  | ⟨before, trail, name, result, params, vars, inner, body, fin⟩ =>
    [aT before, aT trail, .str name, .int .i64 result, .sl tParam (rP params), .sl tVar (rV vars), .sl tRoutine (rR inner), .sl tStmt (rS body), aT fin]
def rR : List Rtn → List (List AV)
  | [] => []
  | e :: l => cR e :: rR l
end
def sR (r : Rtn) : List AV :=
    [aT r.before, aT r.trail, .str r.name, .int .i64 r.result, .sl tParam (rP r.params), .sl tVar (rV r.vars), .sl tRoutine (rR r.inner), .sl tStmt (rS r.body), aT r.fin]
theorem cR_eq (e : Rtn) : cR e = sR e := by cases e; simp [cR, sR]
theorem rR_eq (l : List Rtn) : rR l = l.map sR := by
  induction l with
  | nil => simp [rR]
  | cons e l ih => simp [rR, cR_eq, ih]
def sG (p : Pgm) : List AV :=
  [.str p.name, aT p.before, aT p.mid, aT p.after, .sl tRec (rC p.recs), .sl tVar (rV p.vars), .sl tRoutine (rR p.routines), .sl tStmt (rS p.body), aT p.fin]
def sW (p : Prs) : List AV := [.str p.old, .str p.new]
def rW (l : List Prs) : List (List AV) := l.map sW
theorem rT_len (l : List Txt) : (rT l).length = l.length := by simp [rT]
theorem rE_len (l : List Expr) : (rE l).length = l.length := by simp [rE_eq]
theorem rF_len (l : List Fld) : (rF l).length = l.length := by simp [rF]
theorem rC_len (l : List Rc) : (rC l).length = l.length := by simp [rC]
theorem rV_len (l : List Vr) : (rV l).length = l.length := by simp [rV]
theorem rP_len (l : List Pm) : (rP l).length = l.length := by simp [rP]
theorem rS_len (l : List Stm) : (rS l).length = l.length := by simp [rS_eq]
theorem rR_len (l : List Rtn) : (rR l).length = l.length := by simp [rR_eq]
def rTT (ls : List (List Txt)) : List (List AV) := ls.map fun l => [aT l]
theorem rTT_len (ls : List (List Txt)) : (rTT ls).length = ls.length := by simp [rTT]
theorem rTT_some {ls : List (List Txt)} {i : Nat} {l : List Txt} (h : ls[i]? = some l) : (rTT ls)[(↑i : Int).toNat]? = some [aT l] := by rw [rTT, List.getElem?_map, Int.toNat_natCast, h]; rfl
theorem rW_len (l : List Prs) : (rW l).length = l.length := by simp [rW]
theorem rE_app (l : List Expr) (x : Expr) : rE (l ++ [x]) = rE l ++ [sE x] := by simp [rE_eq]
theorem rF_app (l : List Fld) (x : Fld) : rF (l ++ [x]) = rF l ++ [sF x] := by simp [rF]
theorem rC_app (l : List Rc) (x : Rc) : rC (l ++ [x]) = rC l ++ [sC x] := by simp [rC]
theorem rV_app (l : List Vr) (x : Vr) : rV (l ++ [x]) = rV l ++ [sV x] := by simp [rV]
theorem rP_app (l : List Pm) (x : Pm) : rP (l ++ [x]) = rP l ++ [sP x] := by simp [rP]
theorem rS_app (l : List Stm) (x : Stm) : rS (l ++ [x]) = rS l ++ [sS x] := by simp [rS_eq]
theorem rR_app (l : List Rtn) (x : Rtn) : rR (l ++ [x]) = rR l ++ [sR x] := by simp [rR_eq]
theorem rW_app (l : List Prs) (x : Prs) : rW (l ++ [x]) = rW l ++ [sW x] := by simp [rW]
/-- An element of a row. -/
theorem map_at {α β : Type} {f : α → β} {l : List α} {i : Nat} {row : β} (h : (l.map f)[i]? = some row) : ∃ x, l[i]? = some x ∧ row = f x := by
  simp only [List.getElem?_map, Option.map_eq_some_iff] at h
  obtain ⟨x, h1, h2⟩ := h
  exact ⟨x, h1, h2.symm⟩
theorem rE_at {l : List Expr} {i : Nat} {row : List AV} (h : (rE l)[i]? = some row) : ∃ x, l[i]? = some x ∧ row = sE x := by rw [rE_eq] at h; exact map_at h
theorem rS_at {l : List Stm} {i : Nat} {row : List AV} (h : (rS l)[i]? = some row) : ∃ x, l[i]? = some x ∧ row = sS x := by rw [rS_eq] at h; exact map_at h
theorem rR_at {l : List Rtn} {i : Nat} {row : List AV} (h : (rR l)[i]? = some row) : ∃ x, l[i]? = some x ∧ row = sR x := by rw [rR_eq] at h; exact map_at h
/-- An element that is known already. -/
theorem row_same {α : Type} {o : Option α} {a : α} {K : α → Prop} (h : o = some a) (k : K a) : ∀ row, o = some row → K row := fun row hr => by
  rw [h] at hr; injection hr with hr; subst hr; exact k
theorem rT_some {l : List Txt} {i : Nat} {x : Txt} (h : l[i]? = some x) : (rT l)[(↑i : Int).toNat]? = some (sT x) := by rw [rT, List.getElem?_map, Int.toNat_natCast, h]; rfl
theorem rE_some {l : List Expr} {i : Nat} {x : Expr} (h : l[i]? = some x) : (rE l)[(↑i : Int).toNat]? = some (sE x) := by rw [rE_eq, List.getElem?_map, Int.toNat_natCast, h]; rfl
theorem rS_some {l : List Stm} {i : Nat} {x : Stm} (h : l[i]? = some x) : (rS l)[(↑i : Int).toNat]? = some (sS x) := by rw [rS_eq, List.getElem?_map, Int.toNat_natCast, h]; rfl
theorem rR_some {l : List Rtn} {i : Nat} {x : Rtn} (h : l[i]? = some x) : (rR l)[(↑i : Int).toNat]? = some (sR x) := by rw [rR_eq, List.getElem?_map, Int.toNat_natCast, h]; rfl
theorem rV_some {l : List Vr} {i : Nat} {x : Vr} (h : l[i]? = some x) : (rV l)[(↑i : Int).toNat]? = some (sV x) := by rw [rV, List.getElem?_map, Int.toNat_natCast, h]; rfl
theorem rF_some {l : List Fld} {i : Nat} {x : Fld} (h : l[i]? = some x) : (rF l)[(↑i : Int).toNat]? = some (sF x) := by rw [rF, List.getElem?_map, Int.toNat_natCast, h]; rfl
theorem rC_some {l : List Rc} {i : Nat} {x : Rc} (h : l[i]? = some x) : (rC l)[(↑i : Int).toNat]? = some (sC x) := by rw [rC, List.getElem?_map, Int.toNat_natCast, h]; rfl
theorem rP_some {l : List Pm} {i : Nat} {x : Pm} (h : l[i]? = some x) : (rP l)[(↑i : Int).toNat]? = some (sP x) := by rw [rP, List.getElem?_map, Int.toNat_natCast, h]; rfl
theorem rW_some {l : List Prs} {i : Nat} {x : Prs} (h : l[i]? = some x) : (rW l)[(↑i : Int).toNat]? = some (sW x) := by rw [rW, List.getElem?_map, Int.toNat_natCast, h]; rfl
theorem at_lt {α : Type} {l : List α} {i : Nat} (h : i < l.length) : ∃ x, l[i]? = some x := ⟨_, List.getElem?_eq_getElem h⟩
/-- What is left from an element on. -/
theorem drop_at {α : Type} {l : List α} {i : Nat} {x : α} (h : l[i]? = some x) : l.drop i = x :: l.drop (i + 1) := by
  obtain ⟨h1, h2⟩ := List.getElem?_eq_some_iff.1 h
  rw [List.drop_eq_getElem_cons h1, h2]
theorem drop_end {α : Type} {l : List α} {i : Nat} (h : l.length ≤ i) : l.drop i = [] := List.drop_eq_nil_of_le h
/-- The table of blanks that Go's library looks into. -/
def spaceAt (i : Nat) : Bool := i == 9 || i == 10 || i == 11 || i == 12 || i == 13 || i == 32
def spaceCells : List AV := (List.range 256).map fun i => .int .u8 (if spaceAt i then 1 else 0)
abbrev gSpace : Nat := 0
abbrev glo : AObj := .glob gSpace spaceCells
abbrev gl : AHeap := [glo]
/-- A call of a function of data alone. -/
def Ret (P : Program) (f : FuncId) (args : List FV) (x : AV) : Prop := AC P f args gl fun r g => r = .d x ∧ g = gl
/-- .. that hands back a row that it has made. -/
def RetOwn (P : Program) (f : FuncId) (args : List FV) (e : TypeId) (rows : List (List AV)) : Prop := AC P f args gl fun r g => r = .own e rows 1 ∧ g = gl ++ [.buf e rows.length]
theorem all_gl : ∀ o ∈ gl, o.all (· < gl.length) := by
  intro o ho
  simp only [List.mem_singleton] at ho
  subst ho
  trivial
theorem set_same {α : Type} {l : List α} {i : Nat} {x : α} (h : l[i]? = some x) : l.set i x = l := by
  apply List.ext_getElem?
  intro k
  by_cases ck : i = k
  · subst ck; rw [List.getElem?_set_self (lt_of_get? h), h]
  · rw [List.getElem?_set_ne ck]
theorem lift_gl {P : Program} {f : FuncId} {args : List FV} {hp : AHeap} {Q0 Q : FV → AHeap → Prop} (h : AC P f args gl Q0) (inA : allL (fun _ => False) args) (h0 : hp[0]? = some glo)
    (hQ : ∀ r g, 1 ≤ g.length → Q0 r g → Q (r.ren (renTo hp.length [0])) (mergeH hp [0] g)) : AC P f args hp Q := by
  refine AC.lift [0] h rfl (by simp) ?_ ?_ ?_ all_gl hQ
  · intro i h1 h2
    have : i = 0 := by simp at h1; omega
    subst this
    simpa [AObj.ren] using h0
  · have e1 : args = renL id args := (renL_id args).symm
    have e2 : renL (renTo hp.length [0]) args = renL id args := renL_congr (p := fun _ => False) (fun l hl => hl.elim) inA
    rw [e2]; exact e1
  · have := renL_all (p := fun _ => False) (q := (· < gl.length)) (ρ := id) (fun l hl => hl.elim) inA
    rwa [renL_id] at this
theorem AC.use {P : Program} {f : FuncId} {args : List FV} {x : AV} {hp : AHeap} {Q : FV → AHeap → Prop} (h : Ret P f args x) (inA : allL (fun _ => False) args) (h0 : hp[0]? = some glo) (hq : Q (.d x) hp) : AC P f args hp Q :=
  lift_gl h inA h0 fun r g _ hr => by
    obtain ⟨rfl, rfl⟩ := hr
    have : mergeH hp [0] gl = hp := by simp [mergeH, putAll, AObj.ren, set_same h0]
    rw [this]
    exact hq
theorem AC.useOwn {P : Program} {f : FuncId} {args : List FV} {e : TypeId} {rows : List (List AV)} {hp : AHeap} {Q : FV → AHeap → Prop} (h : RetOwn P f args e rows) (inA : allL (fun _ => False) args) (h0 : hp[0]? = some glo)
    (hq : Q (.own e rows hp.length) (hp ++ [.buf e rows.length])) : AC P f args hp Q :=
  lift_gl h inA h0 fun r g _ hr => by
    obtain ⟨rfl, rfl⟩ := hr
    have : mergeH hp [0] (gl ++ [.buf e rows.length]) = hp ++ [.buf e rows.length] := by simp [mergeH, putAll, AObj.ren, set_same h0]
    rw [this]
    exact hq
/-- .. that hands back several data. -/
def RetT (P : Program) (f : FuncId) (args : List FV) (xs : List AV) : Prop := AC P f args gl fun r g => r = .tup (xs.map .d) ∧ g = gl
theorem ren_ds (ρ : Nat → Nat) : ∀ xs : List AV, renL ρ (xs.map FV.d) = xs.map FV.d
  | [] => rfl
  | x :: xs => by simp only [List.map_cons, renL, FV.ren, ren_ds ρ xs]
theorem AC.useT {P : Program} {f : FuncId} {args : List FV} {xs : List AV} {hp : AHeap} {Q : FV → AHeap → Prop} (h : RetT P f args xs) (inA : allL (fun _ => False) args) (h0 : hp[0]? = some glo) (hq : Q (.tup (xs.map .d)) hp) : AC P f args hp Q :=
  lift_gl h inA h0 fun r g _ hr => by
    obtain ⟨rfl, rfl⟩ := hr
    have : mergeH hp [0] gl = hp := by simp [mergeH, putAll, AObj.ren, set_same h0]
    rw [this]
    simpa only [FV.ren, ren_ds] using hq
section
variable {fr : Fr} {hp : AHeap}
/-- A function's end, part of what it has made handed back. -/
theorem finG {rs : List RRes} {Q : FV → AHeap → Prop} {r : FV} {e : AExit} {g junk : AHeap} (he : e = .normal ∨ e = .ret) (h : resultOf fr (g ++ junk) rs = some r) (hl : hp.length ≤ g.length) (hg : ∀ o ∈ g, ObjOk g.length o) (hk : OkIn g.length r) (hq : Q r g) : retQ hp rs Q e fr (g ++ junk) := by
  unfold retQ
  exact ⟨he, g, junk, r, rfl, hl, fun l o h => .inr (hg o (List.mem_of_getElem? h)), h, hk, hq⟩
theorem finT {rs : List RRes} {xs : List AV} {Q : FV → AHeap → Prop} {e : AExit} (he : e = .normal ∨ e = .ret) (h : resultOf fr hp rs = some (.tup (xs.map .d))) (hq : Q (.tup (xs.map .d)) hp) : retQ hp rs Q e fr hp := by
  unfold retQ
  exact ⟨he, hp, [], _, by simp, Nat.le_refl _, fun l o h => .inl h, h, by
    simp only [OkIn]
    intro x hx
    obtain ⟨y, _, rfl⟩ := List.mem_map.1 hx
    simp [OkIn], hq⟩
end
section
variable {fr : Fr} {hp hp0 : AHeap}
/-- A function's end: what it hands back is data; what it made is let go. -/
theorem finD {rs : List RRes} {Q : FV → AHeap → Prop} {r : AV} {e : AExit} {junk : AHeap} (he : e = .normal ∨ e = .ret) (hh : hp = hp0 ++ junk) (h : resultOf fr hp rs = some (.d r)) (hq : Q (.d r) hp0) : retQ hp0 rs Q e fr hp := by
  subst hh
  exact finJ he h (by simp [OkIn]) hq
theorem finDT {rs : List RRes} {xs : List AV} {Q : FV → AHeap → Prop} {e : AExit} {junk : AHeap} (he : e = .normal ∨ e = .ret) (hh : hp = hp0 ++ junk) (h : resultOf fr hp rs = some (.tup (xs.map .d))) (hq : Q (.tup (xs.map .d)) hp0) : retQ hp0 rs Q e fr hp := by
  subst hh
  refine finJ he h ?_ hq
  simp only [OkIn]
  intro x hx
  obtain ⟨y, _, rfl⟩ := List.mem_map.1 hx
  simp [OkIn]
theorem finH (g junk : AHeap) {rs : List RRes} {r : FV} {Q : FV → AHeap → Prop} {e : AExit} (he : e = .normal ∨ e = .ret) (hh : hp = g ++ junk) (h : resultOf fr hp rs = some r) (hl : hp0.length ≤ g.length) (hg : ∀ o ∈ g, ObjOk g.length o) (hk : OkIn g.length r) (hq : Q r g) : retQ hp0 rs Q e fr hp := by
  subst hh
  exact finG he h hl hg hk hq
theorem finEq {rs : List RRes} {X : FV} {e : AExit} {junk : AHeap} (he : e = .normal ∨ e = .ret) (hh : hp = hp0 ++ junk) (h : resultOf fr hp rs = some X) (hk : OkIn hp0.length X) : retQ hp0 rs (fun r g => r = X ∧ g = hp0) e fr hp := by
  subst hh
  exact finJ he h hk ⟨rfl, rfl⟩
theorem finDR {rs : List RRes} {r : FV} {Q : FV → AHeap → Prop} {e : AExit} {junk : AHeap} (he : e = .normal ∨ e = .ret) (hh : hp = hp0 ++ junk) (h : resultOf fr hp rs = some r) (hk : OkIn hp0.length r) (hq : Q r hp0) : retQ hp0 rs Q e fr hp := by
  subst hh
  exact finJ he h hk hq
end
section
variable {P : Program} {N : Nat} {mt : List Nat} {Q : AExit → Fr → AHeap → Prop} {fr : Fr} {hp : AHeap} {rc : RCode}
/-- A slot says less from here on. -/
theorem W.weak (d : Nat) (v : FV) (hd : SlotLe (fr.get d) v) (h : W P mt N rc Q ((d, v) :: fr) hp) : W P mt N rc Q fr hp := ⟨fun c hc s a hr => by
  have hr2 : Rel P N s ((d, v) :: fr) hp a := by
    refine ⟨hr.defers, hr.size, fun i => ?_, hr.heap⟩
    simp only [Fr.get]
    by_cases hi : i = d
    · subst hi
      simp only [if_true]
      exact (hr.slot i).le hd
    · simp only [hi, if_false]
      exact hr.slot i
  exact h.out c hc s a hr2⟩
/-- A row that lies in a slot is no longer than what fits. -/
theorem W.rowLen (d : Nat) {e : TypeId} {rows : List (List AV)} (hd : fr.get d = .d (.sl e rows)) (h : rows.length * ebytes P e ≤ roomB → W P mt N rc Q fr hp) : W P mt N rc Q fr hp := ⟨fun c hc s a hr => by
  have h1 := hr.slot d
  rw [hd] at h1
  have key : ∀ v, RepF P s hp (.d (.sl e rows)) v → rows.length * ebytes P e ≤ roomB := fun v h1 => by
    cases h1 with
    | d _ _ h2 => exact (rows_bound h2).1
  exact (h (key _ h1)).out c hc s a hr⟩
theorem W.retd (d : Nat) (v : FV) (hd : SlotLe (fr.get d) v) (h : Q .ret ((d, v) :: fr) hp) : W P mt N .ret Q fr hp := W.weak d v hd (W.ret h)
end
section
variable {P : Program} {N : Nat} {mt : List Nat} {Q : AExit → Fr → AHeap → Prop} {fr : Fr} {hp : AHeap} {x y : RCode}
/-- Behind a block all ways meet in one. -/
def cutQ (id : Nat) (R : Fr → AHeap → Prop) (Q : AExit → Fr → AHeap → Prop) : AExit → Fr → AHeap → Prop
  | .normal, fr, hp => R fr hp
  | .exit id', fr, hp => match Nat.beq id' id with
    | true => R fr hp
    | false => Q (.exit id') fr hp
  | .ret, fr, hp => Q .ret fr hp
theorem W.cutB {σ : Type} {id : Nat} (F : σ → Fr) (G : σ → AHeap) (I : σ → Prop) (h1 : W P mt N x (cutQ id (fun fr' hp' => ∃ j, I j ∧ Fr.le fr' (F j) ∧ hp' = G j) Q) fr hp) (h2 : ∀ j, I j → W P mt N y Q (F j) (G j)) :
    W P mt N x (blockW id (thenW P mt N y Q)) fr hp := W.mono h1 fun e f g hq => by
  have key : (∃ j, I j ∧ Fr.le f (F j) ∧ g = G j) → W P mt N y Q f g := by
    rintro ⟨j, hj, hl, rfl⟩
    exact W.le hl (h2 j hj)
  cases e with
  | normal => exact key hq
  | ret => exact hq
  | exit id' =>
    simp only [cutQ] at hq
    simp only [blockW]
    split at hq
    · rename_i e; simp only [e]; exact key hq
    · rename_i e; simp only [e]; exact hq
theorem W.cutX {σ : Type} {id : Nat} (F : σ → Fr) (G : σ → AHeap) (I : σ → Prop) (h1 : W P mt N x (cutQ id (fun fr' hp' => ∃ j, I j ∧ Fr.le fr' (F j) ∧ hp' = G j) Q) fr hp) (h2 : ∀ j fr', I j → Fr.le fr' (F j) → Q .normal fr' (G j)) :
    W P mt N x (blockW id Q) fr hp := W.mono h1 fun e f g hq => by
  have key : (∃ j, I j ∧ Fr.le f (F j) ∧ g = G j) → Q .normal f g := by
    rintro ⟨j, hj, hl, rfl⟩
    exact h2 j f hj hl
  cases e with
  | normal => exact key hq
  | ret => exact hq
  | exit id' =>
    simp only [cutQ] at hq
    simp only [blockW]
    split at hq
    · rename_i e; simp only [e]; exact key hq
    · rename_i e; simp only [e]; exact hq
theorem W.cutN {σ : Type} (F : σ → Fr) (G : σ → AHeap) (I : σ → Prop) (h1 : W P mt N x (fun e fr' hp' => match e with
      | .normal => ∃ j, I j ∧ Fr.le fr' (F j) ∧ hp' = G j
      | e => Q e fr' hp') fr hp) (h2 : ∀ j, I j → W P mt N y Q (F j) (G j)) :
    W P mt N x (thenW P mt N y Q) fr hp := W.mono h1 fun e f g hq => by
  cases e with
  | normal =>
    obtain ⟨j, hj, hl, rfl⟩ := hq
    exact W.le hl (h2 j hj)
  | ret => exact hq
  | exit id' => exact hq
end
theorem ebStr : ebytes Tryz.prog 9 = 16 := by kernel_rfl
theorem ebTxts : ebytes Tryz.prog 22 = 24 := by kernel_rfl
theorem ebExpr : ebytes Tryz.prog 44 = 72 := by kernel_rfl
theorem ebStmt : ebytes Tryz.prog 107 = 272 := by kernel_rfl
theorem ebVar : ebytes Tryz.prog 98 = 96 := by kernel_rfl
theorem ebParam : ebytes Tryz.prog 145 = 56 := by kernel_rfl
theorem ebField : ebytes Tryz.prog 69 = 72 := by kernel_rfl
theorem ebRec : ebytes Tryz.prog 59 = 112 := by kernel_rfl
theorem ebRoutine : ebytes Tryz.prog 103 = 192 := by kernel_rfl
theorem ebPair : ebytes Tryz.prog 39 = 32 := by kernel_rfl
theorem ebU8 : ebytes Tryz.prog 5 = 1 := by kernel_rfl
theorem spaceCells_at {i : Nat} {y : AV} (h : spaceCells[i]? = some y) : y = .int .u8 (if spaceAt i then 1 else 0) := by
  unfold spaceCells at h
  obtain ⟨j, h1, h2⟩ := map_at h
  have := List.getElem?_eq_some_iff.1 h1
  obtain ⟨h3, h4⟩ := this
  simp at h4
  rw [h2, h4]
theorem spaceCells_len : spaceCells.length = 256 := by simp [spaceCells]
theorem byteAt_lt (s : Txt) (i : Nat) : 0 ≤ byteAt s i ∧ byteAt s i < 256 := by
  unfold byteAt
  have := (s[i]?.getD 0).toNat_lt
  omega
theorem wr0 {n : Int} (h1 : -9223372036854775808 ≤ n) (h2 : n ≤ 9223372036854775807) : IntKind.i64.wrap n = n := wr h1 h2
theorem i0 (i : Nat) : ((i : Int) == 0) = (i == 0) := by
  cases i with
  | zero => rfl
  | succ i => rfl
section
variable {P : Program} {N : Nat} {mt : List Nat} {Q : AExit → Fr → AHeap → Prop} {fr : Fr} {hp : AHeap} {rc : RCode}
/-- A nil row, ready to grow. -/
theorem W.seed (d : Nat) (e : TypeId) (hd : fr.get d = .nil e) (h : W P mt N rc Q ((d, .own e [] hp.length) :: fr) (hp ++ [.buf e 0])) : W P mt N rc Q fr hp := ⟨fun c hc s a hr => by
  have hst := Step.ghost hr.heap (.buf e 0)
  have hr2 : Rel P N (s.ghost hp) ((d, .own e [] hp.length) :: fr) (hp ++ [.buf e 0]) a := by
    refine ⟨hr.defers, hr.size, fun i => ?_, hr.heap.ghost e 0⟩
    simp only [Fr.get]
    by_cases hi : i = d
    · subst hi
      simp only [if_true]
      have h1 := hr.slot i
      rw [hd] at h1
      generalize hv : a.tmps.getD i undef = v at h1
      cases h1
      exact .own e [] hp.length _ 0 (.sl0 _ _ _) (by simp) (Nat.le_refl _) fun _ => .inl ⟨rfl, rfl, by simp [St.ghost]⟩
    · simp only [hi, if_false]
      exact (hr.slot i).step hst
  have h1 := h.out c hc (s.ghost hp) a hr2
  exact wp_mono (P := P) (c := c) (a := a) (w := (s.ghost hp).w) h1 fun _ _ _ hq => Post.of_step hst hq⟩
end
end Go.Pg
