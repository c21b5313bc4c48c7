/- Part F1 of the proof: the laws and contracts that the last text joins. Own work; no condition of its own. -/
import Derived.Calls
import Derived.Tactics
import Derived.Laws.AppendOwn
import Derived.KernelRfl
import Derived.Deep.LoopGhost
import Derived.WalkKit
import Derived.Laws.CopyRow
import Derived.Laws.Cells
import Derived.Laws.Append
import Derived.Great.BuildSlice
import Derived.Laws.Slices
set_option linter.all false
set_option linter.unusedVariables false
namespace Go.Pg
/-- What an immutable value reads as. A row is a list of cells. -/
inductive AV where
  | int (k : IntKind) (n : Int)
  | bool (b : Bool)
  | str (s : List UInt8)
  | sl (e : TypeId) (rows : List (List AV))
  | agg (cs : List AV)
  | any
/-- What a slot of a frame, or a variable's cell, holds. -/
inductive FV where
  | d (x : AV)
  | nil (e : TypeId)
  | own (e : TypeId) (rows : List (List AV)) (l : Nat)
  | vp (l : Nat) (off : Nat)
  | cp (cs : List AV)
  | nilp
  | clo (f : FuncId) (first cap : List FV)
  | agg (cs : List FV)
  | tup (vs : List FV)
  | map (l : Nat)
  | nilmap
  | ms (e : TypeId) (l lo n : Nat)
  | sd (e : TypeId) (rows : List (List AV)) (l : Nat)
  | raw (e : TypeId) (l n : Nat)
  | ep (l off : Nat)
  | any
/-- What the call knows of memory that may change. -/
inductive AObj where
  | var (t : TypeId) (cs : List FV)
  | buf (e : TypeId) (n : Nat)
  | map (es : List (List UInt8 × FV))
  | siter (s : List UInt8) (pos : Nat)
  | dead
  | glob (g : Nat) (cs : List AV)
abbrev AHeap := List AObj
def AObj.isBuf : AObj → Bool
  | .buf .. => true
  | _ => false
def esize (P : Program) (e : TypeId) : Nat := ((P.info? e).map (·.size)).getD 0
def ebytes (P : Program) (e : TypeId) : Nat := ((P.info? e).map (·.bytes)).getD 0
/-- One cell's worth: no struct. -/
abbrev one (v : Value) : Bool := v.oneCell'
def roomB : Nat := 140737488355328
inductive RepA (P : Program) (w : World) (H : Nat → Nat) : AV → Value → Prop
  | int (k n) : RepA P w H (.int k n) (.int k n)
  | bool (b) : RepA P w H (.bool b) (.bool b)
  | str (s : List UInt8) (hs : s.length ≤ 9223372036854775807) : RepA P w H (.str s) (.string ⟨s.toArray⟩)
  | any (v) : RepA P w H .any v
  | agg (xs : List AV) (cs : Array Value) (hl : cs.size = xs.length)
      (h1 : ∀ i (hc : i < cs.size), one cs[i] = true) (h : ∀ i (hx : i < xs.length) (hc : i < cs.size), RepA P w H xs[i] cs[i]) : RepA P w H (.agg xs) (.agg cs)
  | sl0 (e A c) : RepA P w H (.sl e []) (.slice A 0 c)
  | sl (e : TypeId) (rows : List (List AV)) (b off n c : Nat) (cell : Nat → Nat → Value) (hn : rows.length = n) (hc : n ≤ c) (hb : n * ebytes P e ≤ roomB) (hcm : c ≤ maxLen)
      (hw : ∀ i (hi : i < rows.length), rows[i].length = esize P e)
      (hr : ∀ i (hi : i < rows.length) j (_ : j < rows[i].length), w.cell? ⟨b, off + (i * esize P e + j), none⟩ = some (cell i j))
      (hH : ∀ i (hi : i < rows.length) j (_ : j < rows[i].length), off + (i * esize P e + j) < H b)
      (h1 : ∀ i (hi : i < rows.length) j (_ : j < rows[i].length), one (cell i j) = true)
      (h : ∀ i (hi : i < rows.length) j (hj : j < rows[i].length), RepA P w H rows[i][j] (cell i j)) :
      RepA P w H (.sl e rows) (.slice (some ⟨b, off, none⟩) n c)
/-- Sealed cells stay. -/
structure Seal (w : World) (H : Nat → Nat) (w' : World) (H' : Nat → Nat) : Prop where
  le : ∀ b, H b ≤ H' b
  cell : ∀ b o v, o < H b → w.cell? ⟨b, o, none⟩ = some v → w'.cell? ⟨b, o, none⟩ = some v
theorem Seal.refl (w : World) (H : Nat → Nat) : Seal w H w H := ⟨fun _ => Nat.le_refl _, fun _ _ _ _ h => h⟩
theorem Seal.trans {w w1 w2 : World} {H H1 H2 : Nat → Nat} (h : Seal w H w1 H1) (k : Seal w1 H1 w2 H2) : Seal w H w2 H2 :=
  ⟨fun b => Nat.le_trans (h.le b) (k.le b), fun b o v ho hc => k.cell b o v (Nat.lt_of_lt_of_le ho (h.le b)) (h.cell b o v ho hc)⟩
theorem RepA.mono {P : Program} {w w' : World} {H H' : Nat → Nat} (hs : Seal w H w' H') {x : AV} {v : Value} (h : RepA P w H x v) : RepA P w' H' x v := by
  induction h with
  | int k n => exact .int k n
  | bool b => exact .bool b
  | str s h => exact .str s h
  | any v => exact .any v
  | agg xs cs hl h1 _ ih => exact .agg xs cs hl h1 ih
  | sl0 e A c => exact .sl0 e A c
  | sl e rows b off n c cell hn hc hb hcm hw hr hH h1 _ ih =>
    exact .sl e rows b off n c cell hn hc hb hcm hw (fun i hi j hj => hs.cell _ _ _ (hH i hi j hj) (hr i hi j hj))
      (fun i hi j hj => Nat.lt_of_lt_of_le (hH i hi j hj) (hs.le b)) h1 ih
/-- A ghost state: the world, how many cells of each block are sealed, where the call's own objects lie. -/
structure St where
  w : World
  H : Nat → Nat
  π : Nat → Option Nat
inductive RepF (P : Program) (s : St) (hp : AHeap) : FV → Value → Prop
  | d (x v) (h : RepA P s.w s.H x v) : RepF P s hp (.d x) v
  | nil (e) : RepF P s hp (.nil e) (.slice none 0 0)
  | own (e rows l v n) (h : RepA P s.w s.H (.sl e rows) v) (hb : hp[l]? = some (.buf e n)) (hle : rows.length ≤ n)
      (tip : rows.length = n → (n = 0 ∧ v = .slice none 0 0 ∧ s.π l = none) ∨ ∃ g cap cur, v = .slice (some ⟨g, 0, none⟩) n cap ∧ s.π l = some g ∧
        s.w.heap[g]? = some (.cells cur e (0, 0)) ∧ n ≤ cap ∧ cap ≤ maxLen ∧ cur.size = cap * esize P e ∧ s.H g = n * esize P e) : RepF P s hp (.own e rows l) v
  | vp (l off b o) (hl : hp[l]? = some o) (ho : o.isBuf = false) (hb : s.π l = some b) : RepF P s hp (.vp l off) (.pointer (some ⟨b, off, none⟩))
  | cp (cs : List AV) (b off : Nat) (cell : Nat → Value) (hr : ∀ j (_ : j < cs.length), s.w.cell? ⟨b, off + j, none⟩ = some (cell j))
      (hH : ∀ j (_ : j < cs.length), off + j < s.H b) (h1 : ∀ j (_ : j < cs.length), one (cell j) = true)
      (h : ∀ j (hj : j < cs.length), RepA P s.w s.H cs[j] (cell j)) : RepF P s hp (.cp cs) (.pointer (some ⟨b, off, none⟩))
  | nilp : RepF P s hp .nilp (.pointer none)
  | clo (f : FuncId) (first cap : List FV) (vf vc : Array Value) (h1 : vf.size = first.length) (h2 : vc.size = cap.length)
      (hf : ∀ i (hx : i < first.length) (hv : i < vf.size), RepF P s hp first[i] vf[i])
      (hc : ∀ i (hx : i < cap.length) (hv : i < vc.size), RepF P s hp cap[i] vc[i]) : RepF P s hp (.clo f first cap) (.func (.func f) vf vc)
  | agg (cs : List FV) (vs : Array Value) (hl : vs.size = cs.length)
      (h1 : ∀ i (hv : i < vs.size), one vs[i] = true) (h : ∀ i (hx : i < cs.length) (hv : i < vs.size), RepF P s hp cs[i] vs[i]) : RepF P s hp (.agg cs) (.agg vs)
  | tup (cs : List FV) (vs : Array Value) (hl : vs.size = cs.length)
      (h : ∀ i (hx : i < cs.length) (hv : i < vs.size), RepF P s hp cs[i] vs[i]) : RepF P s hp (.tup cs) (.tuple vs)
  | map (l b o) (hl : hp[l]? = some o) (ho : o.isBuf = false) (hb : s.π l = some b) : RepF P s hp (.map l) (.map (some b))
  | nilmap : RepF P s hp .nilmap (.map none)
  | ms (e l lo n b c o) (hl : hp[l]? = some o) (ho : o.isBuf = false) (hb : s.π l = some b) (hc : n ≤ c) (hcm : c ≤ maxLen) (hr : n * ebytes P e ≤ roomB) : RepF P s hp (.ms e l lo n) (.slice (some ⟨b, lo, none⟩) n c)
  | sd (e rows l v p n) (h : RepA P s.w s.H (.sl e rows) v) (hb : hp[l]? = some (.buf e n)) (hle : rows.length ≤ n)
      (hp' : rows ≠ [] → ∃ a m c, v = .slice (some a) m c ∧ p = some a)
      (tip : rows.length = n → (n = 0 ∧ v = .slice none 0 0 ∧ s.π l = none) ∨ ∃ g cap cur, v = .slice (some ⟨g, 0, none⟩) n cap ∧ s.π l = some g ∧
        s.w.heap[g]? = some (.cells cur e (0, 0)) ∧ n ≤ cap ∧ cap ≤ maxLen ∧ cur.size = cap * esize P e ∧ s.H g = n * esize P e) : RepF P s hp (.sd e rows l) (.pointer p)
  | raw (e l n g c m) (hb : hp[l]? = some (.buf e m)) (hc : n ≤ c) (hcm : c ≤ maxLen) (hr : n * ebytes P e ≤ roomB)
      (tip : m = 0 → ∃ cur, s.π l = some g ∧ s.w.heap[g]? = some (.cells cur e (0, 0)) ∧ cur.size = c * esize P e ∧ s.H g = 0) : RepF P s hp (.raw e l n) (.slice (some ⟨g, 0, none⟩) n c)
  | ep (l off b o) (hl : hp[l]? = some o) (ho : o.isBuf = false) (hb : s.π l = some b) : RepF P s hp (.ep l off) (.pointer (some ⟨b, off, none⟩))
  | any (v) : RepF P s hp .any v
/-- Cells read as these. -/
def Cells (P : Program) (s : St) (hp : AHeap) (cs : List FV) (vs : Array Value) : Prop :=
  vs.size = cs.length ∧ (∀ i (_ : i < vs.size), one vs[i] = true) ∧ ∀ i (_ : i < cs.length) (_ : i < vs.size), RepF P s hp cs[i] vs[i]
def ObjRep (P : Program) (s : St) (hp : AHeap) (l : Nat) : AObj → Prop
  | .var t cs => ∃ b vs, s.π l = some b ∧ s.w.heap[b]? = some (.cells vs t (0, 0)) ∧ s.H b = 0 ∧ Cells P s hp cs vs
  | .buf _ _ => ∀ b, s.π l = some b → b < s.w.heap.size
  | .map es => ∃ b mes clock, s.π l = some b ∧ s.w.heap[b]? = some (.map mes clock) ∧ s.H b = 0 ∧ mes.size = es.length ∧
      ∀ i (_ : i < es.length) (_ : i < mes.size), mes[i].key = .string ⟨es[i].1.toArray⟩ ∧ RepF P s hp es[i].2 mes[i].val
  | .siter str pos => ∃ b, s.π l = some b ∧ s.w.heap[b]? = some (.stringIter ⟨str.toArray⟩ pos) ∧ s.H b = 0 ∧ str.length ≤ 9223372036854775807
  | .dead => ∀ b, s.π l = some b → b < s.w.heap.size
  | .glob g cs => s.π l = none ∧ g < s.w.heap.size ∧ ∃ cell : Nat → Value, (∀ j (_ : j < cs.length), s.w.cell? ⟨g, j, none⟩ = some (cell j)) ∧ (∀ j (_ : j < cs.length), j < s.H g) ∧ (∀ j (_ : j < cs.length), one (cell j) = true) ∧
      ∀ j (hj : j < cs.length), RepA P s.w s.H cs[j] (cell j)
structure RelH (P : Program) (s : St) (hp : AHeap) : Prop where
  inj : ∀ l l' b, l < hp.length → l' < hp.length → s.π l = some b → s.π l' = some b → l = l'
  obj : ∀ l o, hp[l]? = some o → ObjRep P s hp l o
  fresh : ∀ b, s.w.heap.size ≤ b → s.H b = 0
/-- How memory and what is known of it may go on. -/
structure Step (s : St) (hp : AHeap) (s' : St) (hp' : AHeap) : Prop where
  os : s'.w.os = s.w.os
  tape : s'.w.tape = s.w.tape
  output : s'.w.output = s.w.output
  size : s.w.heap.size ≤ s'.w.heap.size
  seal_ : Seal s.w s.H s'.w s'.H
  foreign : ∀ b, b < s.w.heap.size → (∀ l, l < hp.length → s.π l ≠ some b) → s'.w.heap[b]? = s.w.heap[b]? ∧ s'.H b = s.H b
  from_ : ∀ l b, l < hp'.length → s'.π l = some b → s.w.heap.size ≤ b ∨ ∃ l2, l2 < hp.length ∧ s.π l2 = some b
  len : hp.length ≤ hp'.length
  buf : ∀ l e n, hp[l]? = some (.buf e n) → ∃ n', hp'[l]? = some (.buf e n') ∧ n ≤ n' ∧
    (n' = n → s'.π l = s.π l ∧ ∀ b, s.π l = some b → s'.w.heap[b]? = s.w.heap[b]? ∧ s'.H b = s.H b)
  obj : ∀ l o, hp[l]? = some o → o.isBuf = false → (∃ o', hp'[l]? = some o' ∧ o'.isBuf = false) ∧ s'.π l = s.π l
theorem Step.refl (s : St) (hp : AHeap) : Step s hp s hp where
  os := rfl
  tape := rfl
  output := rfl
  size := Nat.le_refl _
  seal_ := Seal.refl _ _
  foreign := fun _ _ _ => ⟨rfl, rfl⟩
  from_ := fun l b hl hb => .inr ⟨l, hl, hb⟩
  len := Nat.le_refl _
  buf := fun l e n h => ⟨n, h, Nat.le_refl _, fun _ => ⟨rfl, fun _ _ => ⟨rfl, rfl⟩⟩⟩
  obj := fun l o h ho => ⟨⟨o, h, ho⟩, rfl⟩
theorem Step.trans {s s1 s2 : St} {hp hp1 hp2 : AHeap} (h : Step s hp s1 hp1) (k : Step s1 hp1 s2 hp2) : Step s hp s2 hp2 where
  os := k.os.trans h.os
  tape := k.tape.trans h.tape
  output := k.output.trans h.output
  size := Nat.le_trans h.size k.size
  seal_ := h.seal_.trans k.seal_
  foreign := fun b hb hf => by
    obtain ⟨h1, h2⟩ := h.foreign b hb hf
    obtain ⟨h3, h4⟩ := k.foreign b (Nat.lt_of_lt_of_le hb h.size) (fun l hl e => by
      rcases h.from_ l b hl e with h5 | ⟨l2, h5, h6⟩
      · omega
      · exact hf l2 h5 h6)
    exact ⟨h3.trans h1, h4.trans h2⟩
  from_ := fun l b hl hb => by
    rcases k.from_ l b hl hb with h5 | ⟨l2, h5, h6⟩
    · exact .inl (Nat.le_trans h.size h5)
    · exact h.from_ l2 b h5 h6
  len := Nat.le_trans h.len k.len
  buf := fun l e n hl => by
    obtain ⟨n1, h1, h2, h3⟩ := h.buf l e n hl
    obtain ⟨n2, k1, k2, k3⟩ := k.buf l e n1 h1
    refine ⟨n2, k1, Nat.le_trans h2 k2, fun e2 => ?_⟩
    have e1 : n1 = n := by omega
    obtain ⟨h4, h5⟩ := h3 e1
    obtain ⟨k4, k5⟩ := k3 (by omega)
    refine ⟨k4.trans h4, fun b hb => ?_⟩
    obtain ⟨h6, h7⟩ := h5 b hb
    obtain ⟨k6, k7⟩ := k5 b (h4.trans hb)
    exact ⟨k6.trans h6, k7.trans h7⟩
  obj := fun l o hl ho => by
    obtain ⟨⟨o1, h1, h2⟩, h3⟩ := h.obj l o hl ho
    obtain ⟨k1, k3⟩ := k.obj l o1 h1 h2
    exact ⟨k1, k3.trans h3⟩
theorem lt_of_get? {α : Type} {l : List α} {i : Nat} {x : α} (h : l[i]? = some x) : i < l.length := (List.getElem?_eq_some_iff.1 h).1
theorem Step.buf_lt {s s' : St} {hp hp' : AHeap} (h : Step s hp s' hp') {l : Nat} (hl : l < hp.length) : l < hp'.length := Nat.lt_of_lt_of_le hl h.len
/-- What a value reads as stays, whatever the call does next. -/
theorem RepF.step {P : Program} {s s' : St} {hp hp' : AHeap} (hs : Step s hp s' hp') {x : FV} {v : Value} (h : RepF P s hp x v) : RepF P s' hp' x v := by
  induction h with
  | d x v h => exact .d x v (h.mono hs.seal_)
  | nil e => exact .nil e
  | own e rows l v n h hb hle tip =>
    obtain ⟨n', h1, h2, h3⟩ := hs.buf l e n hb
    refine .own e rows l v n' (h.mono hs.seal_) h1 (Nat.le_trans hle h2) fun he => ?_
    have hn : n' = n := by omega
    subst hn
    obtain ⟨h4, h5⟩ := h3 rfl
    rcases tip he with ⟨t1, t2, t3⟩ | ⟨g, cap, cur, t1, t2, t3, t4, t5, t6, t7⟩
    · exact .inl ⟨t1, t2, h4.trans t3⟩
    · obtain ⟨h6, h7⟩ := h5 g t2
      exact .inr ⟨g, cap, cur, t1, h4.trans t2, h6.trans t3, t4, t5, t6, h7.trans t7⟩
  | vp l off b o hl ho hb =>
    obtain ⟨⟨o', h1, h2⟩, h3⟩ := hs.obj l o hl ho
    exact .vp l off b o' h1 h2 (h3.trans hb)
  | cp cs b off cell hr hH h1 h => exact .cp cs b off cell (fun j hj => hs.seal_.cell _ _ _ (hH j hj) (hr j hj)) (fun j hj => Nat.lt_of_lt_of_le (hH j hj) (hs.seal_.le b)) h1 (fun j hj => (h j hj).mono hs.seal_)
  | nilp => exact .nilp
  | clo f first cap vf vc h1 h2 _ _ ih1 ih2 => exact .clo f first cap vf vc h1 h2 ih1 ih2
  | agg cs vs hl h1 _ ih => exact .agg cs vs hl h1 ih
  | tup cs vs hl _ ih => exact .tup cs vs hl ih
  | map l b o hl ho hb =>
    obtain ⟨⟨o', h1, h2⟩, h3⟩ := hs.obj l o hl ho
    exact .map l b o' h1 h2 (h3.trans hb)
  | nilmap => exact .nilmap
  | ms e l lo n b c o hl ho hb hc hcm hr =>
    obtain ⟨⟨o', h1, h2⟩, h3⟩ := hs.obj l o hl ho
    exact .ms e l lo n b c o' h1 h2 (h3.trans hb) hc hcm hr
  | sd e rows l v p n h hb hle hpp tip =>
    obtain ⟨n', h1, h2, h3⟩ := hs.buf l e n hb
    refine .sd e rows l v p n' (h.mono hs.seal_) h1 (Nat.le_trans hle h2) hpp fun he => ?_
    have hn : n' = n := by omega
    subst hn
    obtain ⟨h4, h5⟩ := h3 rfl
    rcases tip he with ⟨t1, t2, t3⟩ | ⟨g, cap, cur, t1, t2, t3, t4, t5, t6, t7⟩
    · exact .inl ⟨t1, t2, h4.trans t3⟩
    · obtain ⟨h6, h7⟩ := h5 g t2
      exact .inr ⟨g, cap, cur, t1, h4.trans t2, h6.trans t3, t4, t5, t6, h7.trans t7⟩
  | raw e l n g c m hb hc hcm hr tip =>
    obtain ⟨n', h1, h2, h3⟩ := hs.buf l e m hb
    refine .raw e l n g c n' h1 hc hcm hr fun he => ?_
    have hn : n' = m := by omega
    subst hn
    obtain ⟨h4, h5⟩ := h3 rfl
    obtain ⟨cur, t2, t3, t6, t7⟩ := tip he
    obtain ⟨h6, h7⟩ := h5 g t2
    exact ⟨cur, h4.trans t2, h6.trans t3, t6, h7.trans t7⟩
  | ep l off b o hl ho hb =>
    obtain ⟨⟨o', h1, h2⟩, h3⟩ := hs.obj l o hl ho
    exact .ep l off b o' h1 h2 (h3.trans hb)
  | any v => exact .any v
end Go.Pg
set_option linter.unusedVariables false
namespace Go.Pg
abbrev Fr := List (Nat × FV)
def Fr.get : Fr → Nat → FV
  | [], _ => .any
  | (j, v) :: r, i => if i = j then v else Fr.get r i
def Fr.put (fr : Fr) : Option Nat → FV → Fr
  | none, _ => fr
  | some d, v => (d, v) :: fr
/-- Only these slots are kept. -/
def Fr.keep (fr : Fr) : List Nat → Fr
  | [] => []
  | i :: is => (i, fr.get i) :: Fr.keep fr is
structure Rel (P : Program) (N : Nat) (s : St) (fr : Fr) (hp : AHeap) (a : Act) : Prop where
  defers : a.defers = []
  size : a.tmps.size = N
  slot : ∀ i, RepF P s hp (fr.get i) (a.tmps.getD i undef)
  heap : RelH P s hp
theorem Rel.put {P : Program} {N : Nat} {s : St} {fr : Fr} {hp : AHeap} {a : Act} (h : Rel P N s fr hp a) (dst : Option Nat) (hd : ∀ d, dst = some d → d < N) {x : FV} {v : Value} (hx : RepF P s hp x v) : Rel P N s (fr.put dst x) hp (a.put dst v) := by
  cases dst with
  | none => exact h
  | some d =>
    refine ⟨h.defers, by simp [Act.put, h.size], fun i => ?_, h.heap⟩
    have hdN := hd d rfl
    simp only [Fr.put, Fr.get, Act.put]
    by_cases e : i = d
    · subst e
      simp [h.size, hdN]
      exact hx
    · have hi := h.slot i
      simp only [e, if_false]
      have : (a.tmps.setIfInBounds d v).getD i undef = a.tmps.getD i undef := by
        simp [Array.getD_eq_getD_getElem?, Array.getElem?_setIfInBounds_ne (Ne.symm e)]
      rw [this]
      exact hi
theorem Fr.get_keep (fr : Fr) (l : List Nat) (i : Nat) : (fr.keep l).get i = fr.get i ∨ (fr.keep l).get i = .any := by
  induction l with
  | nil => exact .inr rfl
  | cons j l ih =>
    simp only [Fr.keep, Fr.get]
    by_cases e : i = j
    · subst e; simp
    · simp only [e, if_false]; exact ih
theorem Rel.keep {P : Program} {N : Nat} {s : St} {fr : Fr} {hp : AHeap} {a : Act} (h : Rel P N s fr hp a) (l : List Nat) : Rel P N s (fr.keep l) hp a :=
  ⟨h.defers, h.size, fun i => by
    rcases Fr.get_keep fr l i with e | e
    · rw [e]; exact h.slot i
    · rw [e]; exact .any _, h.heap⟩
inductive AExit where
  | normal
  | exit (id : Nat)
  | ret
def AExit.to : AExit → Exit
  | .normal => .normal
  | .exit id => .exit id
  | .ret => .ret
/-- What a run of code is to come to. -/
def Post (P : Program) (N : Nat) (s : St) (hp : AHeap) (Q : AExit → Fr → AHeap → Prop) (e : Exit) (a' : Act) (w' : World) : Prop :=
  ∃ ae s' fr' hp', e = AExit.to ae ∧ s'.w = w' ∧ Rel P N s' fr' hp' a' ∧ Step s hp s' hp' ∧ Q ae fr' hp'
def AWP (P : Program) (N : Nat) (c : Code) (Q : AExit → Fr → AHeap → Prop) (fr : Fr) (hp : AHeap) : Prop :=
  ∀ s a, Rel P N s fr hp a → c.wp P (Post P N s hp Q) a s.w
section
variable {P : Program} {N : Nat} {Q Q' : AExit → Fr → AHeap → Prop} {fr fr' : Fr} {hp hp' : AHeap} {c x y : Code}
theorem Post.mono {s : St} {e : Exit} {a : Act} {w : World} (hq : ∀ e fr hp, Q e fr hp → Q' e fr hp) (h : Post P N s hp Q e a w) : Post P N s hp Q' e a w := by
  obtain ⟨ae, s', fr', hp', h1, h2, h3, h4, h5⟩ := h
  exact ⟨ae, s', fr', hp', h1, h2, h3, h4, hq _ _ _ h5⟩
theorem AWP.mono (h : AWP P N c Q fr hp) (hq : ∀ e fr hp, Q e fr hp → Q' e fr hp) : AWP P N c Q' fr hp :=
  fun s a hr => wp_mono (h s a hr) fun _ _ _ => Post.mono hq
theorem Post.of_step {s s1 : St} {hp1 : AHeap} {e : Exit} {a : Act} {w : World} (hs : Step s hp s1 hp1) (h : Post P N s1 hp1 Q e a w) : Post P N s hp Q e a w := by
  obtain ⟨ae, s', fr', hp', h1, h2, h3, h4, h5⟩ := h
  exact ⟨ae, s', fr', hp', h1, h2, h3, hs.trans h4, h5⟩
/-- Slots that are no longer needed are forgotten. -/
theorem AWP.keep (l : List Nat) (h : AWP P N c Q (fr.keep l) hp) : AWP P N c Q fr hp := fun s a hr => h s a (hr.keep l)
theorem AWP.skip (h : Q .normal fr hp) : AWP P N .skip Q fr hp := fun s a hr => wp_skip ⟨.normal, s, fr, hp, rfl, rfl, hr, .refl _ _, h⟩
theorem AWP.ret (h : Q .ret fr hp) : AWP P N .ret Q fr hp := fun s a hr => wp_ret ⟨.ret, s, fr, hp, rfl, rfl, hr, .refl _ _, h⟩
theorem AWP.exit {id : Nat} (h : Q (.exit id) fr hp) : AWP P N (.exit id) Q fr hp := fun s a hr => wp_exit ⟨.exit id, s, fr, hp, rfl, rfl, hr, .refl _ _, h⟩
theorem AWP.label {l : Nat} (h : Q .normal fr hp) : AWP P N (.label l) Q fr hp := fun s a hr => wp_label ⟨.normal, s, fr, hp, rfl, rfl, hr, .refl _ _, h⟩
/-- Behind a piece that ends as it should, the next one. -/
def thenQ (next : Fr → AHeap → Prop) (Q : AExit → Fr → AHeap → Prop) : AExit → Fr → AHeap → Prop
  | .normal, fr, hp => next fr hp
  | e, fr, hp => Q e fr hp
theorem AWP.seq (h : AWP P N x (thenQ (AWP P N y Q) Q) fr hp) : AWP P N (.seq x y) Q fr hp := fun s a hr => by
  refine wp_seq (wp_mono (h s a hr) ?_)
  rintro e a' w' ⟨ae, s', fr', hp', rfl, rfl, h3, h4, h5⟩
  cases ae with
  | normal => exact wp_mono (h5 s' a' h3) fun _ _ _ hq => hq.of_step h4
  | exit id => exact ⟨.exit id, s', fr', hp', rfl, rfl, h3, h4, h5⟩
  | ret => exact ⟨.ret, s', fr', hp', rfl, rfl, h3, h4, h5⟩
def blockQ (id : Nat) (Q : AExit → Fr → AHeap → Prop) : AExit → Fr → AHeap → Prop
  | .exit id', fr, hp => if id' = id then Q .normal fr hp else Q (.exit id') fr hp
  | e, fr, hp => Q e fr hp
theorem AWP.block {id : Nat} (h : AWP P N c (blockQ id Q) fr hp) : AWP P N (.block id c) Q fr hp := fun s a hr => by
  refine wp_block (wp_mono (h s a hr) ?_)
  rintro e a' w' ⟨ae, s', fr', hp', rfl, rfl, h3, h4, h5⟩
  cases ae with
  | normal => exact ⟨.normal, s', fr', hp', rfl, rfl, h3, h4, h5⟩
  | ret => exact ⟨.ret, s', fr', hp', rfl, rfl, h3, h4, h5⟩
  | exit id' =>
    simp only [AExit.to, Exit.inBlock]
    simp only [blockQ] at h5
    by_cases e : id' = id
    · simp only [e, if_true] at h5 ⊢
      exact ⟨.normal, s', fr', hp', rfl, rfl, h3, h4, h5⟩
    · simp only [e, if_false] at h5 ⊢
      exact ⟨.exit id', s', fr', hp', rfl, rfl, h3, h4, h5⟩
/-- A test: its two ways. -/
def condP (v : FV) (A B : Prop) : Prop :=
  match v with
  | .d (.bool b) => (b = true → A) ∧ (b = false → B)
  | _ => False
theorem RepF.bool {s : St} {b : Bool} {v : Value} (h : RepF P s hp (.d (.bool b)) v) : v = .bool b := by
  cases h with
  | d _ _ h => cases h; rfl
/-- One slot says no less than another. -/
inductive SlotLe : FV → FV → Prop
  | same (z : FV) : SlotLe z z
  | any (z : FV) : SlotLe z .any
  | own (e : TypeId) (rows : List (List AV)) (l : Nat) : SlotLe (.own e rows l) (.d (.sl e rows))
  | nil (e : TypeId) : SlotLe (.nil e) (.d (.sl e []))
theorem RepF.le {s : St} {x y : FV} {v : Value} (h : SlotLe x y) (hx : RepF P s hp x v) : RepF P s hp y v := by
  cases h with
  | same => exact hx
  | any => exact .any _
  | own e rows l => cases hx with | own _ _ _ _ n h => exact .d _ _ h
  | nil e => cases hx; exact .d _ _ (.sl0 _ _ _)
def Fr.le (fr : Fr) : Fr → Prop
  | [] => True
  | (k, v) :: r => SlotLe (fr.get k) v ∧ Fr.le fr r
theorem Rel.le {s : St} {a : Act} : ∀ {fr' : Fr}, Fr.le fr fr' → Rel P N s fr hp a → Rel P N s fr' hp a := by
  intro fr' hl hr
  refine ⟨hr.defers, hr.size, fun i => ?_, hr.heap⟩
  induction fr' with
  | nil => exact .any _
  | cons p r ih =>
    obtain ⟨k, v⟩ := p
    simp only [Fr.le] at hl
    simp only [Fr.get]
    by_cases e : i = k
    · subst e
      simp only [if_true]
      exact (hr.slot i).le hl.1
    · simp only [e, if_false]
      exact ih hl.2
theorem AWP.le (hl : Fr.le fr fr') (h : AWP P N c Q fr' hp) : AWP P N c Q fr hp := fun s a hr => h s a (hr.le hl)
/-- A loop: what holds at the head of every round, told by what the rounds go on with. -/
theorem AWP.loop {σ : Type} (F : σ → Fr) (G : σ → AHeap) (I : σ → Prop) (μ : σ → Nat) (i0 : σ) (h0 : I i0) (hF : Fr.le fr (F i0)) (hG : hp = G i0)
    (round : ∀ i, I i → AWP P N c (thenQ (fun fr' hp' => ∃ j, I j ∧ μ j < μ i ∧ Fr.le fr' (F j) ∧ hp' = G j) Q) (F i) (G i)) :
    AWP P N (.loop c) Q fr hp := fun s a hr => by
  subst hG
  refine wp_loop_ghost (fun n a' w' => ∃ i s', n = μ i ∧ I i ∧ s'.w = w' ∧ Rel P N s' (F i) (G i) a' ∧ Step s (G i0) s' (G i)) (μ i0) ?_ ?_
  · exact ⟨i0, s, rfl, h0, rfl, hr.le hF, .refl _ _⟩
  · rintro n a' w' ⟨i, s', rfl, hi, rfl, hr', hs⟩
    refine wp_mono (round i hi s' a' hr') ?_
    rintro e a2 w2 ⟨ae, s2, fr2, hp2, rfl, rfl, h3, h4, h5⟩
    cases ae with
    | normal =>
      obtain ⟨j, hj, hm, hle, rfl⟩ := h5
      exact ⟨μ j, hm, j, s2, rfl, hj, rfl, h3.le hle, hs.trans h4⟩
    | exit id => exact ⟨.exit id, s2, fr2, hp2, rfl, rfl, h3, hs.trans h4, h5⟩
    | ret => exact ⟨.ret, s2, fr2, hp2, rfl, rfl, h3, hs.trans h4, h5⟩
end
end Go.Pg
set_option linter.unusedVariables false
namespace Go.Pg
inductive Arg where
  | t (i : Nat)
  | c (x : FV)
def ev (fr : Fr) : Arg → FV
  | .t i => fr.get i
  | .c x => x
/-- As immutable data. -/
def FV.cellD : FV → Option AV
  | .d x => some x
  | .nil e => some (.sl e [])
  | .own e rows _ => some (.sl e rows)
  | _ => none
def allCellD : List FV → Option (List AV)
  | [] => some []
  | x :: r => match x.cellD, allCellD r with
    | some y, some ys => some (y :: ys)
    | _, _ => none
def FV.data : FV → Option AV
  | .agg cs => (allCellD cs).map .agg
  | x => x.cellD
/-- Data alone, nothing of one's own. -/
def allD : List FV → Option (List AV)
  | [] => some []
  | .d x :: r => (allD r).map (x :: ·)
  | _ :: _ => none
def mkAgg (cs : List FV) : FV :=
  match allD cs with
  | some xs => .d (.agg xs)
  | none => .agg cs
/-- The cells of a value. -/
def FV.cells : FV → Option (List FV)
  | .d (.agg xs) => some (xs.map .d)
  | .d .any => none
  | .any => none
  | .tup _ => none
  | .agg cs => some cs
  | x => some [x]
def FV.aggC : FV → Option (List FV)
  | .d (.agg xs) => some (xs.map .d)
  | .agg cs => some cs
  | _ => none
/-- What an argument is handed on as. -/
def FV.arg (x : FV) : FV := match x.data with | some y => .d y | none => x
def rowsOf : FV → Option (TypeId × List (List AV))
  | .d (.sl e rows) => some (e, rows)
  | .own e rows _ => some (e, rows)
  | .nil e => some (e, [])
  | _ => none
def splice (cs : List FV) (off : Nat) (xs : List FV) : List FV := cs.take off ++ xs ++ cs.drop (off + xs.length)
def byteAt (s : List UInt8) (i : Nat) : Int := ((s[i]?.getD 0).toNat : Int)
/-- Operations that give what hangs on their operands alone. -/
inductive Kd where
  | i | b | s
inductive Pr where
  | eqAgg (ks : List Kd) (neg : Bool)
  | ptrEq (neg : Bool)
  | idU
  | toStr (e : TypeId)
  | idxS
  | cntS
  | bits (op : BinOp)
  | shr
  | notI
/-- Operations that make, read or change memory, or whose outcome isn't told by what is known. -/
inductive Ef where
  | nilEq (neg : Bool)
  | mkMap
  | look (zero : FV) (ok : Bool)
  | mapUpd
  | rangeS
  | nextS
  | mkSl (e : TypeId) (bytes : Nat) (zero : FV)
  | appS (e : TypeId)
  | sliceData (e : TypeId)
  | unsafeStr (e : TypeId)
  | mnz (e : TypeId)
  | capN
  | copyNil
  | toU
  | ofU (u : TypeId) (n : Nat)
  | iaG (g len : Nat)
inductive ROp where
  | pr (k : Pr) (xs : List Arg)
  | ef (k : Ef) (xs : List Arg)
  | bad
  | mv (x : Arg)
  | pick (c a b : Arg)
  | boxI (x : Arg)
  | boxM (t : TypeId) (x : Arg)
  | alloc (t : TypeId) (zero : List FV)
  | build (zero : List FV) (parts : List (Nat × Nat × Arg))
  | lit (e : TypeId) (sz : Nat) (xs : List Arg)
  | litO (e : TypeId) (sz : Nat) (xs : List Arg)
  | ld (agg : Bool) (sz : Nat) (p : Arg)
  | ldc (agg : Bool) (sz : Nat) (p : Arg)
  | st (sz : Nat) (p x : Arg)
  | fa (off : Nat) (p : Arg)
  | nck (p : Arg)
  | ia (e : TypeId) (sz : Nat) (x i : Arg)
  | ixs (x i : Arg)
  | fld (agg : Bool) (off sz : Nat) (x : Arg)
  | bin (isB : Bool) (op : BinOp) (x y : Arg)
  | not (x : Arg)
  | neg (x : Arg)
  | conv (k : IntKind) (x : Arg)
  | slS (x : Arg) (lo hi : Option Arg)
  | slR (e : TypeId) (sz : Nat) (x : Arg) (lo hi : Option Arg)
  | lenS (x : Arg)
  | lenR (e : TypeId) (bytes : Nat) (x : Arg)
  | call (f : FuncId) (xs : List Arg)
  | callv (x : Arg) (xs : List Arg)
  | app (e : TypeId) (sz bytes : Nat) (s x : Arg)
  | ext (i : Nat) (x : Arg)
  | mkf (f : FuncId) (first cap : List Arg)
  | max (x y : Arg)
  | min (x y : Arg)
/-- A function with a body. -/
def Callable (P : Program) (f : FuncId) : Prop := ∃ fn, P.funcs[f]? = some fn ∧ fn.body.isNone = false ∧ (fn.name == "runtime.NumGoroutine") = false
/-- A call of f with arguments that read as these. -/
def ACalls (P : Program) (f : FuncId) (args : List FV) (hp : AHeap) (Q : FV → AHeap → Prop) : Prop :=
  Callable P f ∧ ∀ s (vs : Array Value), RelH P s hp → vs.size = args.length → (∀ i (_ : i < args.length) (_ : i < vs.size), RepF P s hp args[i] vs[i]) →
    Calls P f vs s.w fun e w' => ∃ s' hp' r v, s'.w = w' ∧ e = .returned v ∧ RelH P s' hp' ∧ RepF P s' hp' r v ∧ Step s hp s' hp' ∧ Q r hp'
theorem ACalls.mono {P : Program} {f : FuncId} {args : List FV} {hp : AHeap} {Q Q' : FV → AHeap → Prop} (h : ACalls P f args hp Q) (hq : ∀ r hp', Q r hp' → Q' r hp') : ACalls P f args hp Q' :=
  ⟨h.1, fun s vs h1 h2 h3 => (h.2 s vs h1 h2 h3).mono fun e w' ⟨s', hp', r, v, k1, k2, k3, k4, k5, k6⟩ => ⟨s', hp', r, v, k1, k2, k3, k4, k5, hq _ _ k6⟩⟩
def binP (isB : Bool) (op : BinOp) (x y : FV) (K : FV → Prop) : Prop :=
  match x, y with
  | .d (.int k a), .d (.int k' b) =>
    k = k' ∧ match op with
      | .add => K (.d (.int k (k.wrap (a + b))))
      | .sub => K (.d (.int k (k.wrap (a - b))))
      | .mul => K (.d (.int k (k.wrap (a * b))))
      | .quo => b ≠ 0 ∧ K (.d (.int k (k.wrap (a.tdiv b))))
      | .rem => b ≠ 0 ∧ K (.d (.int k (a.tmod b)))
      | .eql => K (.d (.bool (a == b)))
      | .neq => K (.d (.bool (a != b)))
      | .lss => K (.d (.bool (decide (a < b))))
      | .leq => K (.d (.bool (decide (a ≤ b))))
      | .gtr => K (.d (.bool (decide (a > b))))
      | .geq => K (.d (.bool (decide (a ≥ b))))
      | _ => False
  | .d (.str a), .d (.str b) =>
    match op with
      | .add => a.length + b.length ≤ 9223372036854775807 ∧ K (.d (.str (a ++ b)))
      | .eql => K (.d (.bool (a == b)))
      | .neq => K (.d (.bool (a != b)))
      | .lss => K (.d (.bool (Op.bytesLess a b)))
      | _ => False
  | .d (.bool a), .d (.bool b) =>
    isB = true ∧ match op with
      | .eql => K (.d (.bool (a == b)))
      | .neq => K (.d (.bool (!(a == b))))
      | _ => False
  | _, _ => False
def fillC : List FV → List (Nat × Nat × FV) → Option (List FV)
  | cs, [] => some cs
  | cs, (off, sz, x) :: r => match x.cells with
    | some ys => if ys.length = sz ∧ off + ys.length ≤ cs.length then fillC (splice cs off ys) r else none
    | none => none
def rowsArgs (fr : Fr) (sz : Nat) : List Arg → Option (List (List AV))
  | [] => some []
  | x :: r => match (ev fr x).data, rowsArgs fr sz r with
    | some (.agg cs), some rs => if cs.length = sz then some (cs :: rs) else none
    | some .any, _ => none
    | some y, some rs => if sz = 1 then some ([y] :: rs) else none
    | _, _ => none
def intOf? : FV → Option Int
  | .d (.int _ n) => some n
  | _ => none
/-- A cut's bound. -/
def boundOf (fr : Fr) (d : Int) : Option Arg → Option Int
  | none => some d
  | some x => intOf? (ev fr x)
/-- One plain cell against another. -/
def eqA : Kd → AV → AV → Option Bool
  | .i, .int k a, .int k' b => match decide (k = k') with
    | true => some (a == b)
    | false => none
  | .b, .bool a, .bool b => some (a == b)
  | .s, .str a, .str b => some (a == b)
  | _, _, _ => none
/-- Are two rows of plain cells alike? -/
def eqL : List Kd → List AV → List AV → Option Bool
  | [], [], [] => some true
  | k :: ks, x :: xs, y :: ys => match eqA k x y with
    | some a => (eqL ks xs ys).map fun r => a && r
    | none => none
  | _, _, _ => none
/-- A row of bytes as a text. -/
def bytesOf : List (List AV) → Option (List UInt8)
  | [] => some []
  | [.int .u8 n] :: r => (bytesOf r).map (UInt8.ofNat n.toNat :: ·)
  | _ => none
def byteRow (b : UInt8) : List AV := [.int .u8 b.toNat]
def negB (neg b : Bool) : Bool := match neg with | true => !b | false => b
def ptrSame : FV → FV → Option Bool
  | .nilp, .nilp => some true
  | .nilp, .vp _ _ => some false
  | .vp _ _, .nilp => some false
  | .nilp, .cp _ => some false
  | .cp _, .nilp => some false
  | .vp l o, .vp l' o' => match Nat.beq l l', Nat.beq o o' with
    | true, true => some true
    | _, _ => none
  | _, _ => none
def idxB (s : List UInt8) (c : UInt8) : Int := if c ∈ s then (s.idxOf c : Int) else -1
def bitsF (op : BinOp) (k : IntKind) (a b : Int) : Int :=
  match op with
  | .and => k.wrap (BitVec.ofInt k.bits a &&& BitVec.ofInt k.bits b).toNat
  | .or => k.wrap (BitVec.ofInt k.bits a ||| BitVec.ofInt k.bits b).toNat
  | _ => k.wrap (BitVec.ofInt k.bits a ^^^ BitVec.ofInt k.bits b).toNat
def prV (k : Pr) (vs : List FV) : Option FV :=
  match k with
  | .eqAgg ks neg => match vs with
    | [x, y] => match x.aggC, y.aggC with
      | some xs, some ys => match allD xs, allD ys with
        | some a, some b => (eqL ks a b).map fun r => .d (.bool (negB neg r))
        | _, _ => none
      | _, _ => none
    | _ => none
  | .ptrEq neg => match vs with
    | [x, y] => (ptrSame x y).map fun r => .d (.bool (negB neg r))
    | _ => none
  | .idU => match vs with
    | [x] => some x
    | _ => none
  | .toStr e => match vs with
    | [x] => match rowsOf x with
      | some (e', rows) => match decide (e' = e) with
        | true => (bytesOf rows).map fun l => .d (.str l)
        | false => none
      | none => none
    | _ => none
  | .idxS => match vs with
    | [.d (.str s), .d (.int .u8 c)] => some (.d (.int .i64 (idxB s (UInt8.ofNat c.toNat))))
    | _ => none
  | .bits op => match vs with
    | [.d (.int k a), .d (.int k' b)] => match decide (k = k') with
      | true => some (.d (.int k (bitsF op k a b)))
      | false => none
    | _ => none
  | .shr => match vs with
    | [.d (.int k a), .d (.int _ b)] => match decide (0 ≤ b), decide (b ≤ k.bits) with
      | true, true => some (.d (.int k (a / 2 ^ b.toNat)))
      | _, _ => none
    | _ => none
  | .notI => match vs with
    | [.d (.int k a)] => some (.d (.int k (bitsF .xor k (if k.signed then -1 else k.max) a)))
    | _ => none
  | .cntS => match vs with
    | [.d (.str s), .d (.int .u8 c)] => some (.d (.int .i64 (s.count (UInt8.ofNat c.toNat) : Nat)))
    | _ => none
def lookupS (es : List (List UInt8 × FV)) (key : List UInt8) : Option FV := es.lookup key
def mapSet : List (List UInt8 × FV) → List UInt8 → FV → List (List UInt8 × FV)
  | [], k, v => [(k, v)]
  | (k', v') :: r, k, v => if k' == k then (k, v) :: r else (k', v') :: mapSet r k v
def globOf : AHeap → Nat → Option (List AV)
  | [], _ => none
  | .glob g' cs :: r, g => if g' = g then some cs else globOf r g
  | _ :: r, g => globOf r g
def lookR (ok : Bool) (v : FV) (b : Bool) : FV := match ok with | true => .tup [v, .d (.bool b)] | false => v
def efP (k : Ef) (vs : List FV) (hp : AHeap) (K : FV → AHeap → Prop) : Prop :=
  match k with
  | .nilEq neg => match vs with
    | [x] => match x with
      | .nil _ => K (.d (.bool (negB neg true))) hp
      | .d (.sl _ rows) => ∀ b : Bool, (b = true → rows = []) → K (.d (.bool (negB neg b))) hp
      | .own _ rows _ => ∀ b : Bool, (b = true → rows = []) → K (.d (.bool (negB neg b))) hp
      | _ => False
    | _ => False
  | .mkMap => K (.map hp.length) (hp ++ [.map []])
  | .look zero ok => match vs with
    | [.map l, .d (.str key)] => match hp[l]? with
      | some (.map es) => (∀ v, lookupS es key = some v → K (lookR ok v true) hp) ∧ (lookupS es key = none → K (lookR ok zero false) hp)
      | _ => False
    | _ => False
  | .mapUpd => match vs with
    | [.map l, .d (.str key), v] => match hp[l]? with
      | some (.map es) => K .any (hp.set l (.map (mapSet es key v)))
      | _ => False
    | _ => False
  | .rangeS => match vs with
    | [.d (.str s)] => K (.vp hp.length 0) (hp ++ [.siter s 0])
    | _ => False
  | .nextS => match vs with
    | [.vp l 0] => match hp[l]? with
      | some (.siter s pos) => (s.length ≤ pos → K (.tup [.d (.bool false)]) hp) ∧
          (pos < s.length → byteAt s pos < 128 → K (.tup [.d (.bool true), .d (.int .i64 pos), .d (.int .i32 (byteAt s pos))]) (hp.set l (.siter s (pos + 1)))) ∧
          (pos < s.length → 128 ≤ byteAt s pos → ∀ (w : Nat) (c : Int), K (.tup [.d (.bool true), .d (.int .i64 pos), .d (.int .i32 c)]) (hp.set l (.siter s (pos + w))))
      | _ => False
    | _ => False
  | .mkSl e bytes zero => match vs with
    | [.d (.int _ n), .d (.int _ c)] => n = c ∧ 0 ≤ n ∧ n * bytes ≤ roomB ∧ K (.ms e hp.length 0 n.toNat) (hp ++ [.var e (List.replicate n.toNat zero)])
    | _ => False
  | .appS e => match vs with
    | [.own e1 rows l, .d (.str s)] => e1 = e ∧ hp[l]? = some (.buf e rows.length) ∧ rows.length + s.length ≤ roomB ∧ K (.own e (rows ++ s.map byteRow) l) (hp.set l (.buf e (rows.length + s.length)))
    | [.nil e1, .d (.str s)] => e1 = e ∧ s.length ≤ roomB ∧ K (.own e (s.map byteRow) hp.length) (hp ++ [.buf e s.length])
    | _ => False
  | .sliceData e => match vs with
    | [.own e1 rows l] => e1 = e ∧ hp[l]? = some (.buf e rows.length) ∧ K (.sd e rows l) hp
    | [.nil _] => K .nilp hp
    | _ => False
  | .unsafeStr e => match vs with
    | [.sd e' rows l, .d (.int .i64 n)] => e' = e ∧ n = rows.length ∧ hp[l]? = some (.buf e rows.length) ∧ ∃ bs : List UInt8, rows = bs.map byteRow ∧ K (.d (.str bs)) (hp.set l (.buf e (rows.length + 1)))
    | [.nilp, .d (.int .i64 n)] => n = 0 ∧ K (.d (.str [])) hp
    | _ => False
  | .mnz e => match vs with
    | [.d (.int .i64 n)] => 0 ≤ n ∧ n ≤ roomB ∧ K (.raw e hp.length n.toNat) (hp ++ [.buf e 0])
    | _ => False
  | .capN => match vs with
    | [.nil _] => K (.d (.int .i64 0)) hp
    | _ => False
  | .copyNil => match vs with
    | [.own _ _ _, .nil _] => K (.d (.int .i64 0)) hp
    | _ => False
  | .toU => match vs with
    | [.vp l 0] => match hp[l]? with
      | some (.var _ (_ :: _)) => K (.vp l 0) hp
      | _ => False
    | _ => False
  | .ofU u n => match vs with
    | [.vp l 0] => match hp[l]? with
      | some (.var t cs) => t = u ∧ cs.length = n ∧ K (.vp l 0) hp
      | _ => False
    | _ => False
  | .iaG g len => match vs with
    | [.d (.int _ i)] => match globOf hp g with
      | some cs => len = cs.length ∧ 0 ≤ i ∧ i < len ∧ ∀ y, cs[i.toNat]? = some y → K (.cp [y]) hp
      | none => False
    | _ => False
/-- What is to hold of an operation, so that K holds of what it gives. -/
def rop (P : Program) (r : ROp) (fr : Fr) (hp : AHeap) (K : FV → AHeap → Prop) : Prop :=
  match r with
  | .pr k xs => match prV k (xs.map (ev fr)) with
    | some v => K v hp
    | none => False
  | .ef k xs => efP k (xs.map (ev fr)) hp K
  | .bad => False
  | .mv x => K (ev fr x) hp
  | .pick c a b => condP (ev fr c) (K (ev fr a) hp) (K (ev fr b) hp)
  | .boxI x => match (ev fr x).data with
    | some (.agg cs) => K (.cp cs) hp
    | some .any => False
    | some y => K (.cp [y]) hp
    | none => False
  | .boxM t x => match (ev fr x).cells with
    | some cs => K (.vp hp.length 0) (hp ++ [.var t cs])
    | none => False
  | .alloc t zero => K (.vp hp.length 0) (hp ++ [.var t zero])
  | .build zero parts => match fillC zero (parts.map fun (o, s, x) => (o, s, ev fr x)) with
    | some cs => K (mkAgg cs) hp
    | none => False
  | .lit e sz xs => match rowsArgs fr sz xs with
    | some rows => rows.length * ebytes P e ≤ roomB ∧ K (.d (.sl e rows)) hp
    | none => False
  | .litO e sz xs => match rowsArgs fr sz xs with
    | some rows => rows.length * ebytes P e ≤ roomB ∧ K (.own e rows hp.length) (hp ++ [.buf e rows.length])
    | none => False
  | .ld agg sz p => match ev fr p with
    | .cp cs => sz ≤ cs.length ∧ (if agg then K (.d (.agg (if sz = cs.length then cs else cs.take sz))) hp else match cs with | y :: _ => K (.d y) hp | [] => False)
    | .vp l off => match hp[l]? with
      | some (.var _ cs) => off + sz ≤ cs.length ∧ (if agg then K (mkAgg ((cs.drop off).take sz)) hp else match cs.drop off with | y :: _ => K y hp | [] => False)
      | _ => False
    | .ep l off => match hp[l]? with
      | some (.var _ cs) => agg = false ∧ off < cs.length ∧ ∀ y, cs[off]? = some y → K y hp
      | _ => False
    | _ => False
  | .ldc agg sz p => match ev fr p with
    | .cp cs => sz ≤ cs.length ∧ (if agg then K (.d (.agg (if sz = cs.length then cs else cs.take sz))) hp else match cs with | y :: _ => K (.d y) hp | [] => False)
    | _ => False
  | .st sz p x => match ev fr p, (ev fr x).cells with
    | .vp l off, some ys => match hp[l]? with
      | some (.var t cs) => ys.length = sz ∧ off + sz ≤ cs.length ∧ K .any (hp.set l (.var t (splice cs off ys)))
      | _ => False
    | .ep l off, some ys => match hp[l]? with
      | some (.var t cs) => match ys with
        | [y] => sz = 1 ∧ off < cs.length ∧ K .any (hp.set l (.var t (cs.set off y)))
        | _ => False
      | _ => False
    | _, _ => False
  | .fa off p => match ev fr p with
    | .cp cs => K (.cp (cs.drop off)) hp
    | .vp l o => K (.vp l (o + off)) hp
    | _ => False
  | .nck p => match ev fr p with
    | .cp cs => K (.cp cs) hp
    | .vp l o => K (.vp l o) hp
    | _ => False
  | .ia e sz x i => match rowsOf (ev fr x), intOf? (ev fr i) with
    | some (e', rows), some n => e' = e ∧ 0 ≤ n ∧ n < rows.length ∧ ∀ row, rows[n.toNat]? = some row → K (.cp row) hp
    | none, some n => match ev fr x with
      | .ms e' l lo k => e' = e ∧ 0 ≤ n ∧ n < k ∧ K (.ep l (lo + n.toNat * sz)) hp
      | _ => False
    | _, _ => False
  | .ixs x i => match ev fr x, intOf? (ev fr i) with
    | .d (.str s), some n => 0 ≤ n ∧ n < s.length ∧ K (.d (.int .u8 (byteAt s n.toNat))) hp
    | _, _ => False
  | .fld agg off sz x => match (ev fr x).aggC with
    | some cs => off + sz ≤ cs.length ∧ (if agg then K (mkAgg ((cs.drop off).take sz)) hp else match cs.drop off with | y :: _ => K y hp | [] => False)
    | none => False
  | .bin isB op x y => binP isB op (ev fr x) (ev fr y) fun v => K v hp
  | .not x => match ev fr x with
    | .d (.bool b) => K (.d (.bool (!b))) hp
    | _ => False
  | .neg x => match ev fr x with
    | .d (.int k n) => K (.d (.int k (k.wrap (0 - n)))) hp
    | _ => False
  | .conv k x => match ev fr x with
    | .d (.int _ n) => K (.d (.int k (k.wrap n))) hp
    | _ => False
  | .slS x lo hi => match ev fr x with
    | .d (.str s) =>
      match boundOf fr 0 lo, boundOf fr s.length hi with
      | some l, some h => 0 ≤ l ∧ l ≤ h ∧ h ≤ s.length ∧ K (.d (.str ((s.take h.toNat).drop l.toNat))) hp
      | _, _ => False
    | _ => False
  | .slR e sz x lo hi => match ev fr x with
    | .d (.sl e' rows) =>
      match boundOf fr 0 lo, boundOf fr rows.length hi with
      | some l, some h => e' = e ∧ 0 ≤ l ∧ l ≤ h ∧ h ≤ rows.length ∧ K (.d (.sl e ((rows.take h.toNat).drop l.toNat))) hp
      | _, _ => False
    | .own e' rows _ =>
      match boundOf fr 0 lo, boundOf fr rows.length hi with
      | some l, some h => e' = e ∧ 0 ≤ l ∧ l ≤ h ∧ h ≤ rows.length ∧ K (.d (.sl e ((rows.take h.toNat).drop l.toNat))) hp
      | _, _ => False
    | .ms e' o p n =>
      match boundOf fr 0 lo, boundOf fr n hi with
      | some l, some h => e' = e ∧ 0 ≤ l ∧ (l < h ∨ l = 0) ∧ l ≤ h ∧ h ≤ n ∧ K (.ms e o (p + l.toNat * sz) (h.toNat - l.toNat)) hp
      | _, _ => False
    | .raw e' o n =>
      match boundOf fr 0 lo, boundOf fr n hi with
      | some l, some h => e' = e ∧ l = 0 ∧ h = 0 ∧ K (.own e [] o) hp
      | _, _ => False
    | _ => False
  | .lenS x => match ev fr x with
    | .d (.str s) => s.length ≤ 9223372036854775807 → K (.d (.int .i64 s.length)) hp
    | _ => False
  | .lenR e bytes x => match ev fr x with
    | .d (.sl e' rows) => e' = e ∧ (rows.length * bytes ≤ roomB → K (.d (.int .i64 rows.length)) hp)
    | .own e' rows l => e' = e ∧ (rows.length * bytes ≤ roomB → K (.d (.int .i64 rows.length)) hp)
    | .nil _ => K (.d (.int .i64 0)) hp
    | .ms e' _ _ n => e' = e ∧ K (.d (.int .i64 n)) hp
    | _ => False
  | .call f xs => ACalls P f (xs.map fun x => (ev fr x).arg) hp K
  | .callv x xs => match ev fr x with
    | .clo f first cap => ACalls P f (first ++ (xs.map fun x => (ev fr x).arg) ++ cap) hp K
    | _ => False
  | .app e sz bytes s x => match rowsOf (ev fr x) with
    | some (e2, news) => e2 = e ∧ match ev fr s with
      | .own e1 rows l => e1 = e ∧ hp[l]? = some (.buf e rows.length) ∧ (rows.length + news.length) * bytes ≤ roomB ∧ K (.own e (rows ++ news) l) (hp.set l (.buf e (rows.length + news.length)))
      | .nil e1 => e1 = e ∧ news.length * bytes ≤ roomB ∧ K (.own e news hp.length) (hp ++ [.buf e news.length])
      | _ => False
    | none => False
  | .ext i x => match ev fr x with
    | .tup vs => match vs[i]? with
      | some v => K v hp
      | none => False
    | _ => False
  | .mkf f first cap => K (.clo f (first.map (ev fr)) (cap.map (ev fr))) hp
  | .max x y => match ev fr x, ev fr y with
    | .d (.int k a), .d (.int k' b) => k = k' ∧ K (.d (.int k (if b > a then b else a))) hp
    | _, _ => False
  | .min x y => match ev fr x, ev fr y with
    | .d (.int k a), .d (.int k' b) => k = k' ∧ K (.d (.int k (if b < a then b else a))) hp
    | _, _ => False
structure ROper where
  dst : Option Nat
  op : ROp
  guard : Option (Nat × Bool)
/-- What a slot holds that was left out. -/
abbrev undefV : FV := .tup []
/-- A guard's ways: a slot that was left out leaves out. -/
def condG (v : FV) (A B C : Prop) : Prop :=
  match v with
  | .d (.bool b) => (b = true → A) ∧ (b = false → B)
  | .tup [] => C
  | _ => False
/-- A test's two ways. -/
def condB (b : Bool) (A B : Prop) : Prop := (b = true → A) ∧ (b = false → B)
theorem condB_true (A B : Prop) : condB true A B = A := by simp [condB]
theorem condB_false (A B : Prop) : condB false A B = B := by simp [condB]
/-- What follows an operation: its result goes where it belongs. -/
def vcNext (k : Fr → AHeap → Prop) (fr : Fr) (dst : Option Nat) (v : FV) (hp : AHeap) : Prop := k (fr.put dst v) hp
/-- A region's operations, one behind the other. -/
def vcOps (P : Program) (Q : Fr → AHeap → Prop) : List ROper → Fr → AHeap → Prop
  | [], fr, hp => Q fr hp
  | o :: rest, fr, hp =>
    match o.guard with
    | none => rop P o.op fr hp (vcNext (vcOps P Q rest) fr o.dst)
    | some (t, want) => condG (fr.get t)
        (if want then rop P o.op fr hp (vcNext (vcOps P Q rest) fr o.dst) else vcNext (vcOps P Q rest) fr o.dst undefV hp)
        (if want then vcNext (vcOps P Q rest) fr o.dst undefV hp else rop P o.op fr hp (vcNext (vcOps P Q rest) fr o.dst))
        (vcNext (vcOps P Q rest) fr o.dst undefV hp)
end Go.Pg
set_option linter.unusedVariables false
namespace Go.Pg
section
variable {P : Program} {s : St} {hp : AHeap}
theorem RepA.one {w : World} {H : Nat → Nat} {x : AV} {v : Value} (h : RepA P w H x v) (hx : ∀ cs, x ≠ .agg cs) (ha : x ≠ .any) : Pg.one v = true := by
  cases h <;> first | rfl | (exact absurd rfl (hx _)) | (exact absurd rfl ha)
theorem RepF.ofD {x : AV} {v : Value} (h : RepF P s hp (.d x) v) : RepA P s.w s.H x v := by cases h; assumption
theorem RepF.cellD {x : FV} {v : Value} {y : AV} (h : RepF P s hp x v) (hd : x.cellD = some y) : RepA P s.w s.H y v := by
  cases h <;> simp [FV.cellD] at hd <;> subst hd
  · assumption
  · exact .sl0 _ _ _
  · assumption
theorem RepF.int {k : IntKind} {n : Int} {v : Value} (h : RepF P s hp (.d (.int k n)) v) : v = .int k n := by
  cases h with
  | d _ _ h => cases h; rfl
theorem RepF.str {l : List UInt8} {v : Value} (h : RepF P s hp (.d (.str l)) v) : v = .string ⟨l.toArray⟩ ∧ l.length ≤ 9223372036854775807 := by
  cases h with
  | d _ _ h => cases h; exact ⟨rfl, by assumption⟩
theorem allCellD_spec {cs : List FV} : ∀ {xs : List AV}, allCellD cs = some xs → xs.length = cs.length ∧ ∀ i (h1 : i < cs.length) (h2 : i < xs.length), cs[i].cellD = some xs[i] := by
  induction cs with
  | nil => intro xs h; simp [allCellD] at h; subst h; exact ⟨rfl, fun i h1 => by simp at h1⟩
  | cons c cs ih =>
    intro xs h
    simp only [allCellD] at h
    split at h
    · rename_i y ys hy hys
      simp at h
      subst h
      obtain ⟨h1, h2⟩ := ih hys
      refine ⟨by simp [h1], fun i hi hj => ?_⟩
      cases i with
      | zero => simpa using hy
      | succ i => simpa using h2 i (by simpa using hi) (by simpa using hj)
    · cases h
theorem RepF.data {x : FV} {v : Value} {y : AV} (h : RepF P s hp x v) (hd : x.data = some y) : RepA P s.w s.H y v := by
  cases h with
  | agg cs vs hl h1 h =>
    simp only [FV.data, Option.map_eq_some_iff] at hd
    obtain ⟨xs, hxs, rfl⟩ := hd
    obtain ⟨k1, k2⟩ := allCellD_spec hxs
    exact .agg xs vs (hl.trans k1.symm) h1 fun i hx hc => (h i (by omega) hc).cellD (k2 i (by omega) hx)
  | d x v h => exact (RepF.d (hp := hp) x v h).cellD hd
  | nil e => exact (RepF.nil (s := s) (hp := hp) e).cellD hd
  | own e rows l v n h hb hle tip => exact (RepF.own e rows l v n h hb hle tip).cellD hd
  | vp l off b o hl ho hb => simp [FV.data, FV.cellD] at hd
  | cp => simp [FV.data, FV.cellD] at hd
  | nilp => simp [FV.data, FV.cellD] at hd
  | clo => simp [FV.data, FV.cellD] at hd
  | tup => simp [FV.data, FV.cellD] at hd
  | map => simp [FV.data, FV.cellD] at hd
  | nilmap => simp [FV.data, FV.cellD] at hd
  | ms => simp [FV.data, FV.cellD] at hd
  | sd => simp [FV.data, FV.cellD] at hd
  | raw => simp [FV.data, FV.cellD] at hd
  | ep => simp [FV.data, FV.cellD] at hd
  | any => simp [FV.data, FV.cellD] at hd
theorem RepF.arg {x : FV} {v : Value} (h : RepF P s hp x v) : RepF P s hp x.arg v := by
  unfold FV.arg
  split
  · rename_i y hy; exact .d _ _ (h.data hy)
  · exact h
theorem RepF.cells {x : FV} {v : Value} {cs : List FV} (h : RepF P s hp x v) (hc : x.cells = some cs) : Cells P s hp cs v.cells := by
  have single : ∀ {x : FV} {v : Value}, RepF P s hp x v → Pg.one v = true → Cells P s hp [x] v.cells := by
    intro x v h h1
    have hv : v.cells = #[v] := by cases v <;> first | rfl | simp [Value.oneCell'] at h1
    rw [hv]
    refine ⟨rfl, fun i hi => ?_, fun i hi hj => ?_⟩
    · have : i = 0 := by simpa using hi
      subst this; exact h1
    · have : i = 0 := by simpa using hi
      subst this; exact h
  cases h with
  | d x v h =>
    cases h with
    | agg xs vs hl h1 h =>
      simp [FV.cells] at hc
      subst hc
      refine ⟨by simpa [Value.cells] using hl, fun i hi => h1 i (by simpa [Value.cells] using hi), fun i hi hj => ?_⟩
      simp only [List.getElem_map, Value.cells]
      exact .d _ _ (h i (by simpa using hi) (by simpa [Value.cells] using hj))
    | int k n => simp [FV.cells] at hc; subst hc; exact single (.d _ _ (.int k n)) rfl
    | bool b => simp [FV.cells] at hc; subst hc; exact single (.d _ _ (.bool b)) rfl
    | str t h => simp [FV.cells] at hc; subst hc; exact single (.d _ _ (.str t h)) rfl
    | any v => simp [FV.cells] at hc
    | sl0 e A c => simp [FV.cells] at hc; subst hc; exact single (.d _ _ (.sl0 e A c)) rfl
    | sl e rows b off n c cell hn hcc hb hcm hw hrr hH h1 h => simp [FV.cells] at hc; subst hc; exact single (.d _ _ (.sl e rows b off n c cell hn hcc hb hcm hw hrr hH h1 h)) rfl
  | nil e => simp [FV.cells] at hc; subst hc; exact single (.nil e) rfl
  | own e rows l v n h hb hle tip =>
    simp [FV.cells] at hc; subst hc
    exact single (.own e rows l v n h hb hle tip) (h.one (fun _ => by simp) (by simp))
  | vp l off b o hl ho hb => simp [FV.cells] at hc; subst hc; exact single (.vp l off b o hl ho hb) rfl
  | cp cs b off cell h1 h2 h3 h4 => simp [FV.cells] at hc; subst hc; exact single (.cp cs b off cell h1 h2 h3 h4) rfl
  | nilp => simp [FV.cells] at hc; subst hc; exact single .nilp rfl
  | clo f first cap vf vc h1 h2 h3 h4 => simp [FV.cells] at hc; subst hc; exact single (.clo f first cap vf vc h1 h2 h3 h4) rfl
  | agg cs vs hl h1 h => simp [FV.cells] at hc; subst hc; exact ⟨hl, h1, h⟩
  | tup => simp [FV.cells] at hc
  | map l b o hl ho hb => simp [FV.cells] at hc; subst hc; exact single (.map l b o hl ho hb) rfl
  | nilmap => simp [FV.cells] at hc; subst hc; exact single .nilmap rfl
  | ms e l lo n b c o hl ho hb h1 h2 h3 => simp [FV.cells] at hc; subst hc; exact single (.ms e l lo n b c o hl ho hb h1 h2 h3) rfl
  | sd e rows l v p n h1 h2 h3 h4 h5 => simp [FV.cells] at hc; subst hc; exact single (.sd e rows l v p n h1 h2 h3 h4 h5) rfl
  | raw e l n g c m h1 h2 h3 h4 h5 => simp [FV.cells] at hc; subst hc; exact single (.raw e l n g c m h1 h2 h3 h4 h5) rfl
  | ep l off b o hl ho hb => simp [FV.cells] at hc; subst hc; exact single (.ep l off b o hl ho hb) rfl
  | any => simp [FV.cells] at hc
theorem allD_spec {cs : List FV} : ∀ {xs : List AV}, allD cs = some xs → cs = xs.map .d := by
  induction cs with
  | nil => intro xs h; simp [allD] at h; subst h; rfl
  | cons c cs ih =>
    intro xs h
    cases c with
    | d x =>
      simp only [allD, Option.map_eq_some_iff] at h
      obtain ⟨ys, hys, rfl⟩ := h
      rw [ih hys]; rfl
    | _ => simp [allD] at h
theorem RepF.mkAgg {cs : List FV} {vs : Array Value} (h : Cells P s hp cs vs) : RepF P s hp (mkAgg cs) (.agg vs) := by
  unfold Pg.mkAgg
  split
  · rename_i xs hxs
    have hc := allD_spec hxs
    subst hc
    obtain ⟨h1, h2, h3⟩ := h
    refine .d _ _ (.agg xs vs (by simpa using h1) h2 fun i hx hc => ?_)
    have := h3 i (by simpa using hx) hc
    simp only [List.getElem_map] at this
    exact this.ofD
  · exact .agg cs vs h.1 h.2.1 h.2.2
theorem Cells.take {cs : List FV} {vs : Array Value} (h : Cells P s hp cs vs) (off sz : Nat) (hle : off + sz ≤ cs.length) : Cells P s hp ((cs.drop off).take sz) (vs.extract off (off + sz)) := by
  obtain ⟨h1, h2, h3⟩ := h
  refine ⟨by simp; omega, fun i hi => ?_, fun i hi hj => ?_⟩
  · simp only [Array.getElem_extract]
    exact h2 _ _
  · simp only [List.getElem_take, List.getElem_drop, Array.getElem_extract]
    exact h3 _ _ _
theorem Cells.at_ {cs : List FV} {vs : Array Value} (h : Cells P s hp cs vs) {off : Nat} {y : FV} {r : List FV} (hd : cs.drop off = y :: r) : ∃ hlt : off < vs.size, Pg.one vs[off] = true ∧ RepF P s hp y vs[off] := by
  obtain ⟨h1, h2, h3⟩ := h
  have hlt : off < cs.length := by
    rcases Nat.lt_or_ge off cs.length with h | h
    · exact h
    · rw [List.drop_eq_nil_of_le h] at hd; cases hd
  have hy : cs[off] = y := by
    have := List.drop_eq_getElem_cons hlt
    rw [this] at hd
    injection hd
  exact ⟨by omega, h2 _ (by omega), by have := h3 off hlt (by omega); rw [hy] at this; exact this⟩
theorem Cells.step {s' : St} {hp' : AHeap} {cs : List FV} {vs : Array Value} (hs : Step s hp s' hp') (h : Cells P s hp cs vs) : Cells P s' hp' cs vs :=
  ⟨h.1, h.2.1, fun i hi hj => (h.2.2 i hi hj).step hs⟩
theorem Cells.splice {cs ys : List FV} {vs us : Array Value} (h : Cells P s hp cs vs) (k : Cells P s hp ys us) (off : Nat) (hle : off + ys.length ≤ cs.length) :
    Cells P s hp (splice cs off ys) (vs.extract 0 off ++ us ++ vs.extract (off + us.size) vs.size) := by
  obtain ⟨h1, h2, h3⟩ := h
  obtain ⟨k1, k2, k3⟩ := k
  have hl : (Pg.splice cs off ys).length = cs.length := by simp [Pg.splice]; omega
  refine ⟨by rw [hl]; simp; omega, fun i hi => ?_, fun i hi hj => ?_⟩
  · simp only [Array.getElem_append, Array.getElem_extract]
    split
    · split
      · exact h2 _ _
      · exact k2 _ _
    · exact h2 _ _
  · simp only [Pg.splice, Array.getElem_append, Array.getElem_extract, List.getElem_append, List.length_take, List.length_append]
    rw [hl] at hi
    by_cases c1 : i < off
    · have a1 : i < min off cs.length := by omega
      have a2 : i < min off cs.length + ys.length := by omega
      have a3 : i < min off vs.size := by omega
      have a4 : i < min off vs.size + us.size := by omega
      simp [a1, a2, a3, a4]
      exact h3 _ _ _
    · by_cases c2 : i < off + ys.length
      · have a1 : ¬ i < min off cs.length := by omega
        have a2 : i < min off cs.length + ys.length := by omega
        have a3 : ¬ i < min off vs.size := by omega
        have a4 : i < min off vs.size + us.size := by omega
        simp [a1, a2, a3, a4]
        have e : min off cs.length = min off vs.size := by omega
        simp only [e]
        exact k3 _ _ _
      · have a2 : ¬ i < min off cs.length + ys.length := by omega
        have a4 : ¬ i < min off vs.size + us.size := by omega
        simp [a2, a4]
        have e1 : off + ys.length + (i - (min off cs.length + ys.length)) = i := by omega
        have e2 : off + us.size + (i - (min off vs.size + us.size)) = i := by omega
        simp only [e1, e2]
        exact h3 _ _ _
end
end Go.Pg
set_option linter.unusedVariables false
namespace Go.Pg
section
variable {P : Program} {s : St} {hp : AHeap}
theorem RelH.lt (h : RelH P s hp) {l b : Nat} (hl : l < hp.length) (hb : s.π l = some b) : b < s.w.heap.size := by
  have hg : hp[l]? = some hp[l] := List.getElem?_eq_getElem hl
  have ho := h.obj l _ hg
  cases hx : hp[l] with
  | var t cs => rw [hx] at ho; obtain ⟨b', vs, h1, h2, _⟩ := ho; rw [hb] at h1; injection h1 with h1; subst h1; exact (Array.getElem?_eq_some_iff.1 h2).1
  | buf e n => rw [hx] at ho; exact ho b hb
  | map es => rw [hx] at ho; obtain ⟨b', mes, c, h1, h2, _⟩ := ho; rw [hb] at h1; injection h1 with h1; subst h1; exact (Array.getElem?_eq_some_iff.1 h2).1
  | siter st pos => rw [hx] at ho; obtain ⟨b', h1, h2, _⟩ := ho; rw [hb] at h1; injection h1 with h1; subst h1; exact (Array.getElem?_eq_some_iff.1 h2).1
  | dead => rw [hx] at ho; exact ho b hb
  | glob g cs => rw [hx] at ho; rw [ho.1] at hb; cases hb
theorem ObjRep.step {s' : St} {hp' : AHeap} (hs : Step s hp s' hp') {l : Nat} {o : AObj} (h : ObjRep P s hp l o) (hπ : s'.π l = s.π l)
    (hk : ∀ b, s.π l = some b → b < s'.w.heap.size ∧ (o.isBuf = false → s'.w.heap[b]? = s.w.heap[b]? ∧ s'.H b = s.H b)) : ObjRep P s' hp' l o := by
  cases o with
  | var t cs =>
    obtain ⟨b, vs, h1, h2, h3, h4⟩ := h
    obtain ⟨k1, k2⟩ := hk b h1
    obtain ⟨k3, k4⟩ := k2 rfl
    exact ⟨b, vs, hπ.trans h1, k3.trans h2, k4.trans h3, h4.step hs⟩
  | buf e n => exact fun b hb => (hk b (hπ.symm.trans hb)).1
  | map es =>
    obtain ⟨b, mes, c, h1, h2, h3, h4, h5⟩ := h
    obtain ⟨k1, k2⟩ := hk b h1
    obtain ⟨k3, k4⟩ := k2 rfl
    exact ⟨b, mes, c, hπ.trans h1, k3.trans h2, k4.trans h3, h4, fun i hi hj => ⟨(h5 i hi hj).1, (h5 i hi hj).2.step hs⟩⟩
  | siter st pos =>
    obtain ⟨b, h1, h2, h3⟩ := h
    obtain ⟨k1, k2⟩ := hk b h1
    obtain ⟨k3, k4⟩ := k2 rfl
    exact ⟨b, hπ.trans h1, k3.trans h2, k4.trans h3.1, h3.2⟩
  | dead => exact fun b hb => (hk b (hπ.symm.trans hb)).1
  | glob g cs =>
    obtain ⟨h0, h1, cell, h2, h3, h4, h5⟩ := h
    exact ⟨hπ.trans h0, Nat.lt_of_lt_of_le h1 hs.size, cell, fun j hj => hs.seal_.cell _ _ _ (h3 j hj) (h2 j hj), fun j hj => Nat.lt_of_lt_of_le (h3 j hj) (hs.seal_.le g), h4, fun j hj => (h5 j hj).mono hs.seal_⟩
theorem hao (w : World) (o : Obj) (k : Nat) (h : k < w.heap.size) : (w.alloc o).heap[k]? = w.heap[k]? := heap_alloc_old w o h
theorem cell?_alloc (w : World) (o : Obj) {b off : Nat} {v : Value} (h : w.cell? ⟨b, off, none⟩ = some v) : (w.alloc o).cell? ⟨b, off, none⟩ = some v := by
  have hb : b < w.heap.size := World.block_lt_of_cell? w _ h
  have := hao w o b hb
  simp only [World.cell?] at h ⊢
  rw [this]; exact h
/-- A new object, of whose block h0 cells are sealed. -/
def St.push (s : St) (hp : AHeap) (o : Obj) (h0 : Nat) : St := ⟨s.w.alloc o, fun b => if b = s.w.heap.size then h0 else s.H b, fun l => if l = hp.length then some s.w.heap.size else s.π l⟩
theorem Step.push (hr : RelH P s hp) (o : Obj) (h0 : Nat) (x : AObj) : Step s hp (s.push hp o h0) (hp ++ [x]) where
  os := rfl
  tape := rfl
  output := rfl
  size := by simp [St.push]
  seal_ := ⟨fun b => by
    simp only [St.push]
    split
    · rename_i h; subst h; rw [hr.fresh _ (Nat.le_refl _)]; exact Nat.zero_le _
    · exact Nat.le_refl _, fun b off v _ hc => cell?_alloc s.w o hc⟩
  foreign := fun b hb _ => ⟨hao s.w o b hb, by simp [St.push, Nat.ne_of_lt hb]⟩
  from_ := fun l b hl hb => by
    simp only [St.push] at hb
    split at hb
    · injection hb with hb; subst hb; exact .inl (Nat.le_refl _)
    · exact .inr ⟨l, by simp at hl; omega, hb⟩
  len := by simp
  buf := fun l e n hl => by
    have hlt := lt_of_get? hl
    refine ⟨n, by rw [List.getElem?_append_left hlt]; exact hl, Nat.le_refl _, fun _ => ⟨?_, fun b hb => ?_⟩⟩
    · simp [St.push, Nat.ne_of_lt hlt]
    · have := hr.lt hlt hb
      exact ⟨hao s.w o b this, by simp [St.push, Nat.ne_of_lt this]⟩
  obj := fun l o' hl ho => by
    have hlt := lt_of_get? hl
    exact ⟨⟨o', by rw [List.getElem?_append_left hlt]; exact hl, ho⟩, by simp [St.push, Nat.ne_of_lt hlt]⟩
theorem RelH.push (hr : RelH P s hp) (o : Obj) (h0 : Nat) (x : AObj) (hx : ObjRep P (s.push hp o h0) (hp ++ [x]) hp.length x) : RelH P (s.push hp o h0) (hp ++ [x]) := by
  have hst := Step.push hr o h0 x
  refine ⟨fun l l' b hl hl' h1 h2 => ?_, fun l y hl => ?_, fun b hb => ?_⟩
  · simp only [St.push] at h1 h2
    simp at hl hl'
    by_cases e1 : l = hp.length <;> by_cases e2 : l' = hp.length
    · omega
    · simp only [e1, if_true] at h1
      simp only [e2, if_false] at h2
      injection h1 with h1
      have := hr.lt (by omega) h2
      omega
    · simp only [e1, if_false] at h1
      simp only [e2, if_true] at h2
      injection h2 with h2
      have := hr.lt (by omega) h1
      omega
    · simp only [e1, if_false] at h1
      simp only [e2, if_false] at h2
      exact hr.inj l l' b (by omega) (by omega) h1 h2
  · by_cases e : l < hp.length
    · rw [List.getElem?_append_left e] at hl
      refine (hr.obj l y hl).step hst (by simp [St.push, Nat.ne_of_lt e]) fun b hb => ?_
      have hlt := hr.lt e hb
      exact ⟨by simp [St.push]; omega, fun _ => ⟨hao s.w o b hlt, by simp [St.push, Nat.ne_of_lt hlt]⟩⟩
    · have e2 : l = hp.length := by have := lt_of_get? hl; simp at this; omega
      subst e2
      simp at hl
      subst hl
      exact hx
  · simp [St.push] at hb ⊢
    rw [if_neg (by omega)]
    exact hr.fresh b (by omega)
/-- A row that has no block yet. -/
def St.ghost (s : St) (hp : AHeap) : St := ⟨s.w, s.H, fun l => if l = hp.length then none else s.π l⟩
theorem Step.ghost (hr : RelH P s hp) (x : AObj) : Step s hp (s.ghost hp) (hp ++ [x]) where
  os := rfl
  tape := rfl
  output := rfl
  size := Nat.le_refl _
  seal_ := ⟨fun b => Nat.le_refl _, fun b off v _ hc => hc⟩
  foreign := fun b hb _ => ⟨rfl, rfl⟩
  from_ := fun l b hl hb => by
    simp only [St.ghost] at hb
    split at hb
    · cases hb
    · exact .inr ⟨l, by simp at hl; omega, hb⟩
  len := by simp
  buf := fun l e n hl => by
    have hlt := lt_of_get? hl
    exact ⟨n, by rw [List.getElem?_append_left hlt]; exact hl, Nat.le_refl _, fun _ => ⟨by simp [St.ghost, Nat.ne_of_lt hlt], fun b hb => ⟨rfl, rfl⟩⟩⟩
  obj := fun l o' hl ho => by
    have hlt := lt_of_get? hl
    exact ⟨⟨o', by rw [List.getElem?_append_left hlt]; exact hl, ho⟩, by simp [St.ghost, Nat.ne_of_lt hlt]⟩
theorem RelH.ghost (hr : RelH P s hp) (e : TypeId) (n : Nat) : RelH P (s.ghost hp) (hp ++ [.buf e n]) := by
  have hst := Step.ghost hr (.buf e n)
  refine ⟨fun l l' b hl hl' h1 h2 => ?_, fun l y hl => ?_, fun b hb => hr.fresh b hb⟩
  · simp only [St.ghost] at h1 h2
    simp at hl hl'
    split at h1
    · cases h1
    · split at h2
      · cases h2
      · exact hr.inj l l' b (by omega) (by omega) h1 h2
  · by_cases k : l < hp.length
    · rw [List.getElem?_append_left k] at hl
      refine (hr.obj l y hl).step hst (by simp [St.ghost, Nat.ne_of_lt k]) fun b hb => ?_
      exact ⟨hr.lt k hb, fun _ => ⟨rfl, rfl⟩⟩
    · have e2 : l = hp.length := by have := lt_of_get? hl; simp at this; omega
      subst e2
      simp at hl
      subst hl
      intro b hb
      simp [St.ghost] at hb
/-- A new row of cells that stay as they are. -/
def St.sealed (s : St) (cs : Array Value) (t : TypeId) : St := ⟨s.w.alloc (.cells cs t), fun b => if b = s.w.heap.size then cs.size else s.H b, s.π⟩
theorem Step.sealed (hr : RelH P s hp) (cs : Array Value) (t : TypeId) : Step s hp (s.sealed cs t) hp where
  os := rfl
  tape := rfl
  output := rfl
  size := by simp [St.sealed]
  seal_ := ⟨fun b => by
    simp only [St.sealed]
    split
    · rename_i h; subst h; rw [hr.fresh _ (Nat.le_refl _)]; exact Nat.zero_le _
    · exact Nat.le_refl _, fun b off v _ hc => cell?_alloc s.w _ hc⟩
  foreign := fun b hb _ => ⟨hao s.w _ b hb, by simp [St.sealed, Nat.ne_of_lt hb]⟩
  from_ := fun l b hl hb => .inr ⟨l, hl, hb⟩
  len := Nat.le_refl _
  buf := fun l e n hl => ⟨n, hl, Nat.le_refl _, fun _ => ⟨rfl, fun b hb => by
    have hlt := hr.lt (lt_of_get? hl) hb
    exact ⟨hao s.w _ b hlt, by simp [St.sealed, Nat.ne_of_lt hlt]⟩⟩⟩
  obj := fun l o hl ho => ⟨⟨o, hl, ho⟩, rfl⟩
theorem RelH.sealed (hr : RelH P s hp) (cs : Array Value) (t : TypeId) : RelH P (s.sealed cs t) hp := by
  have hst := Step.sealed hr cs t
  refine ⟨hr.inj, fun l y hl => ?_, fun b hb => ?_⟩
  · refine (hr.obj l y hl).step hst rfl fun b hb => ?_
    have hlt := hr.lt (lt_of_get? hl) hb
    exact ⟨by simp [St.sealed]; omega, fun _ => ⟨hao s.w _ b hlt, by simp [St.sealed, Nat.ne_of_lt hlt]⟩⟩
  · simp [St.sealed] at hb ⊢
    rw [if_neg (by omega)]
    exact hr.fresh b (by omega)
theorem sealed_cell (s : St) (cs : Array Value) (t : TypeId) (i : Nat) (h : i < cs.size) : (s.sealed cs t).w.cell? ⟨s.w.heap.size, i, none⟩ = some cs[i] := by
  have h0 := heap_alloc_new s.w (.cells cs t)
  unfold World.cell?
  simp only [St.sealed]
  rw [h0]
  simp [h]
/-- A variable's block, written. -/
def St.wrote (s : St) (b : Nat) (cs : Array Value) : St := ⟨s.w.setRow b cs, s.H, s.π⟩
theorem Step.wrote (hr : RelH P s hp) {l b : Nat} {t : TypeId} {cs cs' : List FV} (hl : hp[l]? = some (.var t cs)) (hb : s.π l = some b) (vs : Array Value) : Step s hp (s.wrote b vs) (hp.set l (.var t cs')) := by
  obtain ⟨b', vs0, h1, h2, h3, h4⟩ := hr.obj l _ hl
  rw [hb] at h1; injection h1 with h1; subst h1
  have hlt := lt_of_get? hl
  refine ⟨rfl, rfl, rfl, by simp [St.wrote], ⟨fun _ => Nat.le_refl _, fun c off v ho hc => ?_⟩, fun c hc hf => ?_, fun l' c hl' hc => .inr ⟨l', by simpa using hl', hc⟩, by simp, fun l' e n hl' => ?_, fun l' o hl' ho => ?_⟩
  · have hne : c ≠ b := by rintro rfl; rw [h3] at ho; omega
    have := setRow_other s.w b c vs hne
    simp only [World.cell?, St.wrote] at hc ⊢
    rw [this]; exact hc
  · have hne : c ≠ b := by rintro rfl; exact hf l hlt hb
    exact ⟨setRow_other s.w b c vs hne, rfl⟩
  · have hne : l ≠ l' := by rintro rfl; rw [hl] at hl'; cases hl'
    refine ⟨n, by rw [List.getElem?_set_ne hne]; exact hl', Nat.le_refl _, fun _ => ⟨rfl, fun c hc => ⟨setRow_other s.w b c vs ?_, rfl⟩⟩⟩
    rintro rfl
    exact hne (hr.inj l l' c hlt (lt_of_get? hl') hb hc)
  · by_cases e : l = l'
    · subst e
      exact ⟨⟨.var t cs', by simp [hlt], rfl⟩, rfl⟩
    · exact ⟨⟨o, by rw [List.getElem?_set_ne e]; exact hl', ho⟩, rfl⟩
theorem RelH.wrote (hr : RelH P s hp) {l b : Nat} {t : TypeId} {cs cs' : List FV} (hl : hp[l]? = some (.var t cs)) (hb : s.π l = some b) (vs : Array Value) (hc : Cells P s hp cs' vs) : RelH P (s.wrote b vs) (hp.set l (.var t cs')) := by
  have hst := Step.wrote hr (cs' := cs') hl hb vs
  obtain ⟨b', vs0, h1, h2, h3, h4⟩ := hr.obj l _ hl
  rw [hb] at h1; injection h1 with h1; subst h1
  have hlt := lt_of_get? hl
  refine ⟨fun l1 l2 c a1 a2 => hr.inj l1 l2 c (by simpa using a1) (by simpa using a2), fun l' y hl' => ?_, fun c hcc => hr.fresh c (by simpa [St.wrote] using hcc)⟩
  by_cases e : l = l'
  · subst e
    simp [hlt] at hl'
    subst hl'
    exact ⟨b, vs, hb, setRow_heap s.w b vs0 vs t (0, 0) h2, h3, hc.step hst⟩
  · rw [List.getElem?_set_ne e] at hl'
    refine (hr.obj l' y hl').step hst rfl fun c hcc => ?_
    have hne : c ≠ b := by
      rintro rfl
      exact e (hr.inj l l' c hlt (lt_of_get? hl') hb hcc)
    exact ⟨by simpa [St.wrote] using hr.lt (lt_of_get? hl') hcc, fun _ => ⟨setRow_other s.w b c vs hne, rfl⟩⟩
end
end Go.Pg
set_option linter.unusedVariables false
namespace Go.Pg
section
variable {P : Program} {N : Nat} {s : St} {fr : Fr} {hp : AHeap} {a : Act} {o : Oper} {next : Act → World → Prop} {Q : Exit → Act → World → Prop}
theorem wp_value {v : Value} {w w' : World} (h : (execOp a.eval o).run P w = .ok (.value v) w') (k : next (a.put o.dst v) w') : o.wp P a w next Q := by
  unfold Oper.wp
  rw [h]
  exact k
theorem wp_none {w w' : World} (h : (execOp a.eval o).run P w = .ok .skip w') (k : next (a.put o.dst undef) w') : o.wp P a w next Q := by
  unfold Oper.wp
  rw [h]
  exact k
/-- What K is to give. -/
def Gives (P : Program) (N : Nat) (s : St) (fr : Fr) (hp : AHeap) (a : Act) (o : Oper) (K : FV → AHeap → Prop) (next : Act → World → Prop) : Prop :=
  ∀ x v s' hp', RepF P s' hp' x v → Rel P N s' fr hp' a → Step s hp s' hp' → K x hp' → next (a.put o.dst v) s'.w
theorem Rel.step {s' : St} {hp' : AHeap} (h : Rel P N s fr hp a) (hs : Step s hp s' hp') (hh : RelH P s' hp') : Rel P N s' fr hp' a :=
  ⟨h.defers, h.size, fun i => (h.slot i).step hs, hh⟩
/-- An operand is read as this. -/
def ArgOK (P : Program) (x : Operand) (y : Arg) : Prop := ∀ N s fr hp a, Rel P N s fr hp a → RepF P s hp (ev fr y) (a.eval x)
def constFV (P : Program) (ty : TypeId) : Value → Option FV
  | .int k n => some (.d (.int k n))
  | .bool b => some (.d (.bool b))
  | .string s => if s.data.toList.length ≤ 9223372036854775807 then some (.d (.str s.data.toList)) else none
  | .slice none 0 0 => match P.underlying ty with | some (.slice e) => some (.nil e) | _ => none
  | .pointer none => some .nilp
  | .map none => some .nilmap
  | .nilIface => some .any
  | .nilFunc => some .any
  | _ => none
theorem constFV_ok {ty : TypeId} {v : Value} {x : FV} (h : constFV P ty v = some x) : RepF P s hp x v := by
  unfold constFV at h
  split at h
  · injection h with h; subst h; exact .d _ _ (.int _ _)
  · injection h with h; subst h; exact .d _ _ (.bool _)
  · split at h
    · rename_i str hs
      injection h with h; subst h
      have := RepA.str (P := P) (w := s.w) (H := s.H) str.data.toList hs
      exact .d _ _ (by simpa using this)
    · cases h
  · split at h
    · injection h with h; subst h; exact .nil _
    · cases h
  · injection h with h; subst h; exact .nilp
  · injection h with h; subst h; exact .nilmap
  · injection h with h; subst h; exact .any _
  · injection h with h; subst h; exact .any _
  · cases h
def resArg (P : Program) (ty : TypeId) : Operand → Option Arg
  | .tmp i => some (.t i)
  | .const v => (constFV P ty v).map .c
  | .func f => some (.c (.clo f [] []))
  | .global _ => none
theorem resArg_ok {ty : TypeId} {x : Operand} {y : Arg} (h : resArg P ty x = some y) : ArgOK P x y := by
  intro N s fr hp a hr
  unfold resArg at h
  split at h
  · injection h with h; subst h; exact hr.slot _
  · rw [Option.map_eq_some_iff] at h
    obtain ⟨z, hz, rfl⟩ := h
    exact constFV_ok hz
  · injection h with h; subst h
    exact .clo _ [] [] #[] #[] rfl rfl (fun i hx => by simp at hx) (fun i hx => by simp at hx)
  · cases h
section simple
variable {K : FV → AHeap → Prop} (hr : Rel P N s fr hp a) (hK : Gives P N s fr hp a o K next)
include hr hK
theorem ok_mv {x : Operand} {y : Arg} (ho : o.op = .move x ∨ o.op = .assign x) (hx : ArgOK P x y) (h : rop P (.mv y) fr hp K) : o.wp P a s.w next Q := by
  refine wp_value (v := a.eval x) (w' := s.w) ?_ (hK _ _ s hp (hx N s fr hp a hr) hr (.refl _ _) h)
  rcases ho with ho | ho <;> simp [execOp, ho]
theorem ok_pick {c x y : Operand} {c' x' y' : Arg} (ho : o.op = .pick c x y) (hc : ArgOK P c c') (hx : ArgOK P x x') (hy : ArgOK P y y') (h : rop P (.pick c' x' y') fr hp K) : o.wp P a s.w next Q := by
  have h1 := hc N s fr hp a hr
  simp only [rop, condP] at h
  split at h
  · rename_i b hb
    rw [hb] at h1
    have hcv := h1.bool
    cases b with
    | true => exact wp_value (v := a.eval x) (w' := s.w) (by simp [execOp, ho, hcv, asBool]) (hK _ _ s hp (hx N s fr hp a hr) hr (.refl _ _) (h.1 rfl))
    | false => exact wp_value (v := a.eval y) (w' := s.w) (by simp [execOp, ho, hcv, asBool]) (hK _ _ s hp (hy N s fr hp a hr) hr (.refl _ _) (h.2 rfl))
  · exact h.elim
theorem ok_fa {t : TypeId} {i : Nat} {x : Operand} {y : Arg} {off : Nat} {fs : Array Field} {f : Field} (ho : o.op = .fieldAddr t x i) (ht : P.underlying t = some (.struct fs)) (hf : fs[i]? = some f) (hoff : f.offset = off) (hz : esize P f.type ≠ 0)
    (hx : ArgOK P x y) (h : rop P (.fa off y) fr hp K) : o.wp P a s.w next Q := by
  have h1 := hx N s fr hp a hr
  have hrun : ∀ b o', a.eval x = .pointer (some ⟨b, o', none⟩) → (execOp a.eval o).run P s.w = .ok (.value (.pointer (some ⟨b, o' + off, none⟩))) s.w := by
    intro b o' hv
    have hi : ∃ i0, P.info? f.type = some i0 ∧ i0.size ≠ 0 := by
      unfold esize at hz
      cases hi0 : P.info? f.type with
      | none => simp [hi0] at hz
      | some i0 => exact ⟨i0, rfl, by simpa [hi0] using hz⟩
    obtain ⟨i0, hi0, hz0⟩ := hi
    subst hoff
    simp [execOp, ho, hv, Instr.fieldAt, run_underlying ht, hf, Instr.sureAddr, fieldPlace, sizeOf, typeInfo, hi0, hz0, Addr.add]
  simp only [rop] at h
  split at h
  · rename_i cs hcs
    rw [hcs] at h1
    generalize hv : a.eval x = v at h1
    cases h1 with
    | cp cs b o' cell k1 k2 k3 k4 =>
      refine wp_value (hrun b o' hv) (hK _ _ s hp (.cp (cs.drop off) b (o' + off) (fun j => cell (off + j)) ?_ ?_ ?_ ?_) hr (.refl _ _) h)
      · intro j hj
        have := k1 (off + j) (by simp at hj; omega)
        rw [Nat.add_assoc]; exact this
      · intro j hj
        have := k2 (off + j) (by simp at hj; omega)
        omega
      · intro j hj; exact k3 (off + j) (by simp at hj; omega)
      · intro j hj
        have := k4 (off + j) (by simp at hj; omega)
        simp only [List.getElem_drop]
        exact this
  · rename_i l o' hcs
    rw [hcs] at h1
    generalize hv : a.eval x = v at h1
    cases h1 with
    | vp l o' b ob hl hob hb => exact wp_value (hrun b o' hv) (hK _ _ s hp (.vp l (o' + off) b ob hl hob hb) hr (.refl _ _) h)
  · exact h.elim
theorem ok_nck {x : Operand} {y : Arg} (ho : o.op = .nilCheck x) (hx : ArgOK P x y) (h : rop P (.nck y) fr hp K) : o.wp P a s.w next Q := by
  have h1 := hx N s fr hp a hr
  simp only [rop] at h
  split at h
  · rename_i cs hcs
    rw [hcs] at h1
    generalize hv : a.eval x = v at h1
    cases h1 with
    | cp cs b o' cell k1 k2 k3 k4 => exact wp_value (v := a.eval x) (w' := s.w) (by simp [execOp, ho, hv]) (hK _ _ s hp (by rw [hv]; exact .cp cs b o' cell k1 k2 k3 k4) hr (.refl _ _) h)
  · rename_i l o' hcs
    rw [hcs] at h1
    generalize hv : a.eval x = v at h1
    cases h1 with
    | vp l o' b ob hl hob hb => exact wp_value (v := a.eval x) (w' := s.w) (by simp [execOp, ho, hv]) (hK _ _ s hp (by rw [hv]; exact .vp l o' b ob hl hob hb) hr (.refl _ _) h)
  · exact h.elim
theorem ok_not {x : Operand} {y : Arg} {t : TypeId} (ho : o.op = .unOp .not t x) (hx : ArgOK P x y) (h : rop P (.not y) fr hp K) : o.wp P a s.w next Q := by
  have h1 := hx N s fr hp a hr
  simp only [rop] at h
  split at h
  · rename_i b hb
    rw [hb] at h1
    have hv := h1.bool
    exact wp_value (v := .bool (!b)) (w' := s.w) (by simp [execOp, ho, hv, Op.unary]) (hK _ _ s hp (.d _ _ (.bool _)) hr (.refl _ _) h)
  · exact h.elim
theorem ok_neg {x : Operand} {y : Arg} {t : TypeId} (ho : o.op = .unOp .neg t x) (hx : ArgOK P x y) (h : rop P (.neg y) fr hp K) : o.wp P a s.w next Q := by
  have h1 := hx N s fr hp a hr
  simp only [rop] at h
  split at h
  · rename_i k n hb
    rw [hb] at h1
    have hv := h1.int
    exact wp_value (v := .int k (k.wrap (0 - n))) (w' := s.w) (by simp [execOp, ho, hv, Op.unary, Op.intArith]) (hK _ _ s hp (.d _ _ (.int _ _)) hr (.refl _ _) h)
  · exact h.elim
theorem ok_conv {x : Operand} {y : Arg} {t u : TypeId} {k k0 : IntKind} (ho : o.op = .convert t u x) (ht : P.underlying t = some (.int k0)) (hu : P.underlying u = some (.int k)) (hx : ArgOK P x y) (h : rop P (.conv k y) fr hp K) : o.wp P a s.w next Q := by
  have h1 := hx N s fr hp a hr
  simp only [rop] at h
  split at h
  · rename_i k1 n hb
    rw [hb] at h1
    have hv := h1.int
    exact wp_value (v := .int k (k.wrap n)) (w' := s.w) (by simp [execOp, ho, hv, convert, run_underlying ht, run_underlying hu, Conv.intToInt]) (hK _ _ s hp (.d _ _ (.int _ _)) hr (.refl _ _) h)
  · exact h.elim
theorem ok_ext {x : Operand} {y : Arg} {i : Nat} (ho : o.op = .extract x i) (hx : ArgOK P x y) (h : rop P (.ext i y) fr hp K) : o.wp P a s.w next Q := by
  have h1 := hx N s fr hp a hr
  simp only [rop] at h
  split at h
  · rename_i vs hb
    rw [hb] at h1
    generalize hv : a.eval x = v at h1
    cases h1 with
    | tup cs us hl hcs =>
      split at h
      · rename_i y' hy
        obtain ⟨hlt, hyy⟩ := List.getElem?_eq_some_iff.1 hy
        have hlt' : i < us.size := by omega
        refine wp_value (v := us[i]) (w' := s.w) (by simp [execOp, ho, hv, Instr.extract, hlt']) (hK _ _ s hp ?_ hr (.refl _ _) h)
        have := hcs i hlt hlt'
        rw [hyy] at this; exact this
      · exact h.elim
  · exact h.elim
theorem ok_mkf {t : TypeId} {f : FuncId} {first cap : Array Operand} {fi ca : List Arg} (ho : o.op = .makeFunc (.func f) first cap) (h1 : fi.length = first.size) (h2 : ca.length = cap.size)
    (hf : ∀ i (k1 : i < first.size) (k2 : i < fi.length), ArgOK P first[i] fi[i]) (hc : ∀ i (k1 : i < cap.size) (k2 : i < ca.length), ArgOK P cap[i] ca[i]) (h : rop P (.mkf f fi ca) fr hp K) : o.wp P a s.w next Q := by
  simp only [rop] at h
  refine wp_value (v := .func (.func f) (first.map a.eval) (cap.map a.eval)) (w' := s.w) (by simp [execOp, ho, Instr.makeFunc]) (hK _ _ s hp ?_ hr (.refl _ _) h)
  refine .clo _ _ _ _ _ (by simp [h1]) (by simp [h2]) (fun i hi hj => ?_) (fun i hi hj => ?_)
  · simp only [List.getElem_map, Array.getElem_map]
    exact hf i (by simpa using hj) (by simpa using hi) N s fr hp a hr
  · simp only [List.getElem_map, Array.getElem_map]
    exact hc i (by simpa using hj) (by simpa using hi) N s fr hp a hr
end simple
/-! ### loads -/
def isAggB : TypeDesc → Bool
  | .struct _ | .array _ _ => true
  | _ => false
theorem run_isAgg {t : TypeId} {d : TypeDesc} (h : P.underlying t = some d) (w : World) : (isAgg t).run P w = .ok (isAggB d) w := by
  unfold isAgg
  simp [run_underlying h]
  cases d <;> rfl
theorem run_load_cells (w : World) (b off n : Nat) (cell : Nat → Value) (h : ∀ j, j < n → w.cell? ⟨b, off + j, none⟩ = some (cell j)) : (loadCells ⟨b, off, none⟩ n).run P w = .ok ((List.range n).map cell).toArray w := by
  have h0 := run_loadCells_list (P := P) w ⟨b, off, none⟩ ((List.range n).map cell) (fun j v hj => by
    simp only [List.getElem?_map, Option.map_eq_some_iff] at hj
    obtain ⟨i, hi, rfl⟩ := hj
    have hlt := lt_of_get? hi
    simp at hlt
    have : i = j := by rw [List.getElem?_range hlt] at hi; injection hi with hi; exact hi.symm
    subst this
    rw [Addr.add_lit]
    exact h i hlt)
  simpa using h0
section loads
variable {K : FV → AHeap → Prop} (hr : Rel P N s fr hp a) (hK : Gives P N s fr hp a o K next)
include hr hK
theorem ok_ld {t : TypeId} {d : TypeDesc} {x : Operand} {y : Arg} {sz : Nat} (ho : o.op = .load t x) (ht : P.underlying t = some d) (hi : (P.info? t).map (·.size) = some sz) (h1s : isAggB d = false → sz = 1) (hx : ArgOK P x y) (h : rop P (.ld (isAggB d) sz y) fr hp K) : o.wp P a s.w next Q := by
  have h1 := hx N s fr hp a hr
  obtain ⟨i0, hi0, hsz⟩ := Option.map_eq_some_iff.1 hi
  have hagg : ∀ b off (cell : Nat → Value), isAggB d = true → a.eval x = .pointer (some ⟨b, off, none⟩) → (∀ j, j < sz → s.w.cell? ⟨b, off + j, none⟩ = some (cell j)) →
      (execOp a.eval o).run P s.w = .ok (.value (.agg ((List.range sz).map cell).toArray)) s.w := by
    intro b off cell hd hv hc
    have := run_load_cells (P := P) s.w b off sz cell hc
    simp [execOp, ho, hv, Instr.loadAt, Instr.sureAddr, loadVar, run_isAgg ht, hd, sizeOf, typeInfo, hi0, hsz, this]
  have hone : ∀ b off v, isAggB d = false → a.eval x = .pointer (some ⟨b, off, none⟩) → s.w.cell? ⟨b, off, none⟩ = some v → (execOp a.eval o).run P s.w = .ok (.value v) s.w := by
    intro b off v hd hv hc
    simp [execOp, ho, hv, Instr.loadAt, Instr.sureAddr, loadVar, run_isAgg ht, hd, hc]
  simp only [rop] at h
  split at h
  · rename_i cs hcs
    rw [hcs] at h1
    generalize hv : a.eval x = v at h1
    cases h1 with
    | cp cs b off cell k1 k2 k3 k4 =>
      obtain ⟨hle, h⟩ := h
      cases hd : isAggB d with
      | true =>
        simp only [hd, if_true] at h
        refine wp_value (hagg b off cell hd hv (fun j hj => k1 j (by omega))) (hK _ _ s hp (.d _ _ ?_) hr (.refl _ _) h)
        have hcl : (if sz = cs.length then cs else cs.take sz) = cs.take sz := by
          split
          · rename_i e; rw [e]; simp
          · rfl
        rw [hcl]
        refine .agg _ _ (by simp; omega) (fun i hc => ?_) (fun i hx hc => ?_)
        · simp only [List.getElem_toArray, List.getElem_map, List.getElem_range]
          exact k3 _ (by simp at hc; omega)
        · simp only [List.getElem_toArray, List.getElem_map, List.getElem_range, List.getElem_take]
          exact k4 _ (by simp at hc; omega)
      | false =>
        simp only [hd, Bool.false_eq_true, if_false] at h
        have hs1 := h1s hd
        split at h
        · rename_i y0 r0
          have hc0 := k1 0 (by simp)
          exact wp_value (hone b off _ hd hv hc0) (hK _ _ s hp (.d _ _ (k4 0 (by simp))) hr (.refl _ _) h)
        · exact h.elim
  · rename_i l off hcs
    rw [hcs] at h1
    generalize hv : a.eval x = v at h1
    cases h1 with
    | vp l off b ob hl hob hb =>
      split at h
      · rename_i cs hcs2
        obtain ⟨b', vs, k1, k2, k3, k4⟩ := hr.heap.obj l _ hcs2
        rw [hb] at k1; injection k1 with k1; subst k1
        have hcell : ∀ j, (hj : j < vs.size) → s.w.cell? ⟨b, j, none⟩ = some vs[j] := fun j hj => by
          rw [cell_of_row s.w b j vs _ (0, 0) k2]; simp [hj]
        obtain ⟨hle, h⟩ := h
        cases hd : isAggB d with
        | true =>
          simp only [hd, if_true] at h
          have hsz2 : off + sz ≤ vs.size := by rw [k4.1]; exact hle
          refine wp_value (hagg b off (fun j => vs.getD (off + j) undef) hd hv (fun j hj => ?_)) (hK _ _ s hp ?_ hr (.refl _ _) h)
          · rw [hcell (off + j) (by omega)]
            simp [show off + j < vs.size by omega]
          · have := RepF.mkAgg (k4.take off sz hle)
            have e : ((List.range sz).map fun j => vs.getD (off + j) undef).toArray = vs.extract off (off + sz) := by
              apply Array.ext
              · simp; omega
              · intro i hi1 hi2
                simp at hi1 hi2
                simp [show off + i < vs.size by omega]
            rw [e]; exact this
        | false =>
          simp only [hd, Bool.false_eq_true, if_false] at h
          split at h
          · rename_i y0 r0 hdrop
            obtain ⟨hlt, _, hrep⟩ := k4.at_ hdrop
            exact wp_value (hone b off _ hd hv (hcell off hlt)) (hK _ _ s hp hrep hr (.refl _ _) h)
          · exact h.elim
      · exact h.elim
  · rename_i l off hcs
    rw [hcs] at h1
    generalize hv : a.eval x = v at h1
    cases h1 with
    | ep l off b ob hl hob hb =>
      split at h
      · rename_i cs hcs2
        obtain ⟨b', vs, k1, k2, k3, k4⟩ := hr.heap.obj l _ hcs2
        rw [hb] at k1; injection k1 with k1; subst k1
        obtain ⟨hd, hlt, h⟩ := h
        have hlt2 : off < vs.size := by rw [k4.1]; exact hlt
        have hcell : s.w.cell? ⟨b, off, none⟩ = some vs[off] := by
          rw [cell_of_row s.w b off vs _ (0, 0) k2]; simp [hlt2]
        exact wp_value (hone b off _ hd hv hcell) (hK _ _ s hp (k4.2.2 off hlt hlt2) hr (.refl _ _) (h _ (List.getElem?_eq_getElem hlt)))
      · exact h.elim
  · exact h.elim
end loads
end
end Go.Pg
set_option linter.unusedVariables false
namespace Go.Pg
section
variable {P : Program} {N : Nat} {s : St} {fr : Fr} {hp : AHeap} {a : Act} {o : Oper} {next : Act → World → Prop} {Q : Exit → Act → World → Prop}
variable {K : FV → AHeap → Prop} (hr : Rel P N s fr hp a) (hK : Gives P N s fr hp a o K next)
include hr hK
theorem ok_st {t : TypeId} {x y : Operand} {x' y' : Arg} {sz : Nat} (ho : o.op = .store t x y) (hi : (P.info? t).map (·.size) = some sz) (hx : ArgOK P x x') (hy : ArgOK P y y') (h : rop P (.st sz x' y') fr hp K) : o.wp P a s.w next Q := by
  have h1 := hx N s fr hp a hr
  have h2 := hy N s fr hp a hr
  obtain ⟨i0, hi0, hsz⟩ := Option.map_eq_some_iff.1 hi
  simp only [rop] at h
  split at h
  · rename_i l off ys hpx hpy
    rw [hpx] at h1
    generalize hvx : a.eval x = vx at h1
    cases h1 with
    | vp l off b ob hl hob hb =>
      split at h
      · rename_i cs hcs
        obtain ⟨k1, k2, h⟩ := h
        obtain ⟨b', vs, j1, j2, j3, j4⟩ := hr.heap.obj l _ hcs
        rw [hb] at j1; injection j1 with j1; subst j1
        have hc := h2.cells hpy
        have hsz2 : (a.eval y).cells.size = sz := by rw [hc.1]; exact k1
        have hst := run_storeCells_at P b off _ (a.eval y).cells.toList 0 vs s.w j2 (by simp only [Array.length_toList]; rw [j4.1, hsz2]; omega) (fun v hv => by
          obtain ⟨i, hi, rfl⟩ := List.getElem_of_mem hv
          have := hc.2.1 i (by simpa using hi)
          simpa using this)
        have hsp := j4.splice hc off (by omega)
        have hrun : (execOp a.eval o).run P s.w = .ok .skip (s.wrote b (vs.extract 0 off ++ (a.eval y).cells ++ vs.extract (off + (a.eval y).cells.size) vs.size)).w := by
          have e : (vs.toList.take (off + 0) ++ (a.eval y).cells.toList ++ vs.toList.drop (off + 0 + (a.eval y).cells.toList.length)).toArray = vs.extract 0 off ++ (a.eval y).cells ++ vs.extract (off + (a.eval y).cells.size) vs.size := by
            apply Array.toList_inj.1
            simp
            exact (List.take_of_length_le (by simp)).symm
          rw [e] at hst
          simp [execOp, ho, hvx, Instr.storeAt, Instr.sureAddr, storeVar, sizeOf, typeInfo, hi0, hsz, hsz2, hst, St.wrote]
        have hstep := Step.wrote hr.heap (cs' := splice cs off ys) hcs hb (vs.extract 0 off ++ (a.eval y).cells ++ vs.extract (off + (a.eval y).cells.size) vs.size)
        exact wp_none hrun (hK _ _ _ _ (.any _) (hr.step hstep (hr.heap.wrote hcs hb _ hsp)) hstep h)
      · exact h.elim
  · rename_i l off ys hpx hpy
    rw [hpx] at h1
    generalize hvx : a.eval x = vx at h1
    cases h1 with
    | ep l off b ob hl hob hb =>
      split at h
      · rename_i cs hcs
        split at h
        · rename_i y0
          obtain ⟨k1, k2, h⟩ := h
          obtain ⟨b', vs, j1, j2, j3, j4⟩ := hr.heap.obj l _ hcs
          rw [hb] at j1; injection j1 with j1; subst j1
          have hc := h2.cells hpy
          have hsz2 : (a.eval y).cells.size = sz := by rw [hc.1]; simp [k1]
          have hst := run_storeCells_at P b off _ (a.eval y).cells.toList 0 vs s.w j2 (by simp only [Array.length_toList]; rw [j4.1, hsz2]; omega) (fun v hv => by
            obtain ⟨i, hi, rfl⟩ := List.getElem_of_mem hv
            have := hc.2.1 i (by simpa using hi)
            simpa using this)
          have hsp := j4.splice hc off (by simp; omega)
          have e3 : splice cs off [y0] = cs.set off y0 := by
            unfold splice
            simp only [List.length_singleton]
            rw [List.set_eq_take_append_cons_drop, if_pos k2]
            simp
          rw [e3] at hsp
          have hrun : (execOp a.eval o).run P s.w = .ok .skip (s.wrote b (vs.extract 0 off ++ (a.eval y).cells ++ vs.extract (off + (a.eval y).cells.size) vs.size)).w := by
            have e : (vs.toList.take (off + 0) ++ (a.eval y).cells.toList ++ vs.toList.drop (off + 0 + (a.eval y).cells.toList.length)).toArray = vs.extract 0 off ++ (a.eval y).cells ++ vs.extract (off + (a.eval y).cells.size) vs.size := by
              apply Array.toList_inj.1
              simp
              exact (List.take_of_length_le (by simp)).symm
            rw [e] at hst
            simp [execOp, ho, hvx, Instr.storeAt, Instr.sureAddr, storeVar, sizeOf, typeInfo, hi0, hsz, hsz2, hst, St.wrote]
          have hstep := Step.wrote hr.heap (cs' := cs.set off y0) hcs hb (vs.extract 0 off ++ (a.eval y).cells ++ vs.extract (off + (a.eval y).cells.size) vs.size)
          exact wp_none hrun (hK _ _ _ _ (.any _) (hr.step hstep (hr.heap.wrote hcs hb _ hsp)) hstep h)
        · exact h.elim
      · exact h.elim
  · exact h.elim
theorem ok_boxI {t : TypeId} {x : Operand} {y : Arg} (ho : o.op = .box t x) (hx : ArgOK P x y) (h : rop P (.boxI y) fr hp K) : o.wp P a s.w next Q := by
  have h1 := hx N s fr hp a hr
  have hrun : (execOp a.eval o).run P s.w = .ok (.value (.pointer (some ⟨s.w.heap.size, 0, none⟩))) (s.sealed (a.eval x).cells t).w := by
    simp [execOp, ho, Instr.box, newVar, newRow, St.sealed]
  have hstep := Step.sealed hr.heap (a.eval x).cells t
  have hrel := hr.step hstep (hr.heap.sealed _ _)
  simp only [rop] at h
  split at h
  · rename_i cs hcs
    have h2 := h1.data hcs
    generalize hv : a.eval x = v at h2 hrun hstep hrel
    cases h2 with
    | agg xs vs hl k1 k2 =>
      refine wp_value hrun (hK _ _ _ _ (.cp cs _ 0 (fun j => vs.getD j undef) ?_ ?_ ?_ ?_) hrel hstep h)
      · intro j hj
        rw [Nat.zero_add, sealed_cell _ _ _ j (by simp only [Value.cells]; omega)]
        simp [Value.cells, show j < vs.size by omega]
      · intro j hj; simp [St.sealed, Value.cells]; omega
      · intro j hj
        have := k1 j (by omega)
        simpa [show j < vs.size by omega] using this
      · intro j hj
        have := (k2 j hj (by omega)).mono hstep.seal_
        simpa [show j < vs.size by omega] using this
  · exact h.elim
  · rename_i y0 hne1 hne2 hcs
    have h2 := h1.data hcs
    have hone : (a.eval x).oneCell' = true := h2.one (fun cs e => hne1 cs e) (fun e => hne2 e)
    have hc : (a.eval x).cells = #[a.eval x] := by
      generalize a.eval x = v at hone
      cases v <;> first | rfl | simp [Value.oneCell'] at hone
    refine wp_value hrun (hK _ _ _ _ (.cp [y0] _ 0 (fun _ => a.eval x) ?_ ?_ ?_ ?_) hrel hstep h)
    · intro j hj
      have : j = 0 := by simpa using hj
      subst this
      rw [Nat.zero_add, sealed_cell _ _ _ 0 (by simp [hc])]
      simp [hc]
    · intro j hj
      have : j = 0 := by simpa using hj
      subst this
      simp [St.sealed, hc]
    · intro j hj; exact hone
    · intro j hj
      have : j = 0 := by simpa using hj
      subst this
      exact h2.mono hstep.seal_
  · exact h.elim
theorem ok_boxM {t : TypeId} {x : Operand} {y : Arg} (ho : o.op = .box t x) (hx : ArgOK P x y) (h : rop P (.boxM t y) fr hp K) : o.wp P a s.w next Q := by
  have h1 := hx N s fr hp a hr
  simp only [rop] at h
  split at h
  · rename_i cs hcs
    have hc := h1.cells hcs
    have hstep := Step.push hr.heap (.cells (a.eval x).cells t) 0 (.var t cs)
    have hg : (s.push hp (.cells (a.eval x).cells t) 0).w.heap[s.w.heap.size]? = some (.cells (a.eval x).cells t (0, 0)) := heap_alloc_new s.w _
    have hrel := hr.heap.push (.cells (a.eval x).cells t) 0 (.var t cs) ⟨s.w.heap.size, _, by simp [St.push], hg, by simp [St.push], hc.step hstep⟩
    refine wp_value (v := .pointer (some ⟨s.w.heap.size, 0, none⟩)) (w' := (s.push hp (.cells (a.eval x).cells t) 0).w) (by simp [execOp, ho, Instr.box, newVar, newRow, St.push]) (hK _ _ _ _ (.vp _ _ _ (.var t cs) (by simp) rfl (by simp [St.push])) (hr.step hstep hrel) hstep h)
  · exact h.elim
/-- What a type's zero value reads as. -/
def ZeroOK (P : Program) (t : TypeId) (zs : List FV) : Prop := ∃ i z, P.info? t = some i ∧ i.zero = some z ∧ ∀ s hp, Cells P s hp zs z.cells
theorem ok_alloc {t : TypeId} {zs : List FV} (ho : o.op = .alloc t) (hz : ZeroOK P t zs) (h : rop P (.alloc t zs) fr hp K) : o.wp P a s.w next Q := by
  obtain ⟨i, z, hi, hz, hc0⟩ := hz
  simp only [rop] at h
  have hstep := Step.push hr.heap (.cells z.cells t) 0 (.var t zs)
  have hg : (s.push hp (.cells z.cells t) 0).w.heap[s.w.heap.size]? = some (.cells z.cells t (0, 0)) := heap_alloc_new s.w _
  have hrel := hr.heap.push (.cells z.cells t) 0 (.var t zs) ⟨s.w.heap.size, _, by simp [St.push], hg, by simp [St.push], hc0 _ _⟩
  exact wp_value (v := .pointer (some ⟨s.w.heap.size, 0, none⟩)) (w' := (s.push hp (.cells z.cells t) 0).w) (by simp [execOp, ho, Instr.alloc, zeroValue, typeInfo, hi, hz, newVar, newRow, St.push]) (hK _ _ _ _ (.vp _ _ _ (.var t zs) (by simp) rfl (by simp [St.push])) (hr.step hstep hrel) hstep h)
end
end Go.Pg
set_option linter.unusedVariables false
namespace Go.Pg
section
variable {P : Program} {N : Nat} {s : St} {fr : Fr} {hp : AHeap} {a : Act} {o : Oper} {next : Act → World → Prop} {Q : Exit → Act → World → Prop}
variable {K : FV → AHeap → Prop} (hr : Rel P N s fr hp a) (hK : Gives P N s fr hp a o K next)
include hr hK
theorem ok_fld {t u : TypeId} {d : TypeDesc} {i off sz : Nat} {x : Operand} {y : Arg} {fs : Array Field} {f : Field} (ho : o.op = .field t x i) (ht : P.underlying t = some (.struct fs)) (hf : fs[i]? = some f) (hoff : f.offset = off)
    (hd : P.underlying f.type = some d) (hi : (P.info? f.type).map (·.size) = some sz) (h1s : isAggB d = false → sz = 1) (hx : ArgOK P x y) (hagg : isAggB d = true ∨ isAggB d = false) (h : rop P (.fld (isAggB d) off sz y) fr hp K) : o.wp P a s.w next Q := by
  have h1 := hx N s fr hp a hr
  obtain ⟨i0, hi0, hsz⟩ := Option.map_eq_some_iff.1 hi
  subst hoff
  simp only [rop] at h
  split at h
  · rename_i cs hcs
    obtain ⟨hle, h⟩ := h
    have hc : ∃ vs, a.eval x = .agg vs ∧ Cells P s hp cs vs := by
      generalize a.eval x = v at h1
      unfold FV.aggC at hcs
      split at hcs
      · rename_i xs he
        simp at hcs; subst hcs
        rw [he] at h1
        cases h1 with
        | d _ _ h1 => cases h1 with
          | agg _ vs k1 k2 k3 => exact ⟨vs, rfl, by simpa using k1, k2, fun i hi hj => by simp only [List.getElem_map]; exact .d _ _ (k3 i (by simpa using hi) hj)⟩
      · rename_i cs' he
        simp at hcs; subst hcs
        rw [he] at h1
        cases h1 with
        | agg _ vs k1 k2 k3 => exact ⟨vs, rfl, k1, k2, k3⟩
      · cases hcs
    obtain ⟨vs, hv, hc⟩ := hc
    · cases hd2 : isAggB d with
      | true =>
        simp only [hd2, if_true] at h
        exact wp_value (v := .agg (vs.extract f.offset (f.offset + sz))) (w' := s.w) (by simp [execOp, ho, hv, Instr.field, run_underlying ht, hf, asAgg, part, run_isAgg hd, hd2, sizeOf, typeInfo, hi0, hsz]) (hK _ _ s hp (RepF.mkAgg (hc.take f.offset sz hle)) hr (.refl _ _) h)
      | false =>
        simp only [hd2, Bool.false_eq_true, if_false] at h
        split at h
        · rename_i y0 r0 hdrop
          obtain ⟨hlt, _, hrep⟩ := hc.at_ hdrop
          exact wp_value (v := vs[f.offset]) (w' := s.w) (by simp [execOp, ho, hv, Instr.field, run_underlying ht, hf, asAgg, part, run_isAgg hd, hd2, hlt]) (hK _ _ s hp hrep hr (.refl _ _) h)
        · exact h.elim
  · exact h.elim
theorem ok_ixs {t : TypeId} {x i : Operand} {x' i' : Arg} (ho : o.op = .index t x i) (ht : P.underlying t = some .string) (hx : ArgOK P x x') (hi : ArgOK P i i') (h : rop P (.ixs x' i') fr hp K) : o.wp P a s.w next Q := by
  have h1 := hx N s fr hp a hr
  have h2 := hi N s fr hp a hr
  simp only [rop] at h
  split at h
  · rename_i l n hl hn
    obtain ⟨hn0, hnl, h⟩ := h
    rw [hl] at h1
    obtain ⟨hv, _⟩ := h1.str
    have h3 : ∃ k, a.eval i = .int k n := by
      cases e : ev fr i' with
      | d z =>
        cases z with
        | int k m => rw [e] at hn h2; simp [intOf?] at hn; subst hn; exact ⟨k, h2.int⟩
        | _ => rw [e] at hn; simp [intOf?] at hn
      | _ => rw [e] at hn; simp [intOf?] at hn
    obtain ⟨k, hik⟩ := h3
    have hlt : n.toNat < l.length := by omega
    refine wp_value (v := .int .u8 (byteAt l n.toNat)) (w' := s.w) ?_ (hK _ _ s hp (.d _ _ (.int _ _)) hr (.refl _ _) h)
    have hget : (ByteArray.mk l.toArray)[n.toNat]? = some l[n.toNat] := by
      rw [getElem?_pos (ByteArray.mk l.toArray) n.toNat (by simpa [ByteArray.size] using hlt)]
      rfl
    simp [execOp, ho, hv, hik, Instr.index, asIntOf, run_underlying ht, hn0, hget, byteAt, hlt]
  · exact h.elim
omit hK in
theorem intOf_eval {i : Operand} {i' : Arg} {n : Int} (hi : ArgOK P i i') (hn : intOf? (ev fr i') = some n) : ∃ k, a.eval i = .int k n := by
  have h2 := hi N s fr hp a hr
  cases e : ev fr i' with
  | d z =>
    cases z with
    | int k m => rw [e] at hn h2; simp [intOf?] at hn; subst hn; exact ⟨k, h2.int⟩
    | _ => rw [e] at hn; simp [intOf?] at hn
  | _ => rw [e] at hn; simp [intOf?] at hn
omit hK in
theorem rowsOf_eval {x : Operand} {x' : Arg} {e : TypeId} {rows : List (List AV)} (hx : ArgOK P x x') (hn : rowsOf (ev fr x') = some (e, rows)) : RepA P s.w s.H (.sl e rows) (a.eval x) := by
  have h1 := hx N s fr hp a hr
  generalize a.eval x = v at h1
  unfold rowsOf at hn
  split at hn
  · rename_i e1 r1 he; simp at hn; obtain ⟨rfl, rfl⟩ := hn; rw [he] at h1; exact h1.ofD
  · rename_i e1 r1 l1 he; simp at hn; obtain ⟨rfl, rfl⟩ := hn; rw [he] at h1; cases h1; assumption
  · rename_i e1 he; simp at hn; obtain ⟨rfl, rfl⟩ := hn; rw [he] at h1; cases h1; exact .sl0 _ _ _
  · cases hn
theorem ok_ia {t e : TypeId} {sz : Nat} {x i : Operand} {x' i' : Arg} (ho : o.op = .indexAddr t x i) (ht : P.underlying t = some (.slice e)) (hsz : (P.info? e).map (·.size) = some sz) (hx : ArgOK P x x') (hi : ArgOK P i i') (h : rop P (.ia e sz x' i') fr hp K) : o.wp P a s.w next Q := by
  obtain ⟨i0, hi0, hs0⟩ := Option.map_eq_some_iff.1 hsz
  have hes : esize P e = sz := by simp [esize, hi0, hs0]
  simp only [rop] at h
  split at h
  · rename_i e' rows n hrows hn
    obtain ⟨rfl, hn0, hnl, h⟩ := h
    obtain ⟨k, hik⟩ := intOf_eval hr hi hn
    have h1 := rowsOf_eval hr hx hrows
    obtain ⟨m, rfl⟩ := Int.eq_ofNat_of_zero_le hn0
    have hlt : m < rows.length := by omega
    generalize hv : a.eval x = v at h1
    cases h1 with
    | sl0 => simp at hlt
    | sl _ _ b off n c cell k1 k2 k3 k3' k4 k5 k6 k7 k8 =>
      have hb : m < n := by omega
      have hrow := h rows[m] (by simp [hlt])
      refine wp_value (v := .pointer (some ⟨b, off + m * sz, none⟩)) (w' := s.w) ?_ (hK _ _ s hp (.cp rows[m] b (off + m * sz) (fun j => cell m j) ?_ ?_ ?_ ?_) hr (.refl _ _) hrow)
      · have hmz : ∀ w : World, (sizeOf e').run P w = .ok sz w := fun w => by simp [sizeOf, typeInfo, hi0, hs0]
        simp [execOp, ho, hv, hik, Instr.indexAt, asIntOf, run_underlying ht, hb, hmz, Addr.add_lit]
      · intro j hj
        have := k5 m hlt j hj
        rw [hes] at this
        rw [Nat.add_assoc]; exact this
      · intro j hj
        have := k6 m hlt j hj
        rw [hes] at this
        omega
      · intro j hj; exact k7 m hlt j hj
      · intro j hj; exact k8 m hlt j hj
  · rename_i n hrows hn
    obtain ⟨k, hik⟩ := intOf_eval hr hi hn
    have h1 := hx N s fr hp a hr
    split at h
    · rename_i e' l lo cnt hms
      obtain ⟨rfl, hn0, hnl, h⟩ := h
      rw [hms] at h1
      obtain ⟨m, rfl⟩ := Int.eq_ofNat_of_zero_le hn0
      generalize hv : a.eval x = v at h1
      cases h1 with
      | ms e l lo cnt b c ob hl hob hb hc hcm hroom =>
        have hmz : ∀ w : World, (sizeOf e').run P w = .ok sz w := fun w => by simp [sizeOf, typeInfo, hi0, hs0]
        have hb' : m < cnt := by omega
        refine wp_value (v := .pointer (some ⟨b, lo + m * sz, none⟩)) (w' := s.w) ?_ (hK _ _ s hp (.ep l (lo + m * sz) b ob hl hob hb) hr (.refl _ _) h)
        simp [execOp, ho, hv, hik, Instr.indexAt, asIntOf, run_underlying ht, hb', hmz, Addr.add_lit]
    · exact h.elim
  · exact h.elim
omit hr hK in
theorem rows_bound {w : World} {H : Nat → Nat} {e : TypeId} {rows : List (List AV)} {v : Value} (h : RepA P w H (.sl e rows) v) : rows.length * ebytes P e ≤ roomB ∧ ∃ A c, v = .slice A rows.length c ∧ rows.length ≤ c := by
  cases h with
  | sl0 e A c => exact ⟨by simp, A, c, rfl, Nat.zero_le _⟩
  | sl _ _ b off n c cell k1 k2 k3 => subst k1; exact ⟨k3, _, c, rfl, k2⟩
theorem ok_lenS {t : TypeId} {x : Operand} {y : Arg} {ts : Array TypeId} (ho : o.op = .call { callee := .builtin .len, args := #[x], argTypes := ts }) (hts : ts[0]? = some t) (ht : P.underlying t = some .string)
    (hx : ArgOK P x y) (h : rop P (.lenS y) fr hp K) : o.wp P a s.w next Q := by
  have h1 := hx N s fr hp a hr
  simp only [rop] at h
  split at h
  · rename_i l hl
    rw [hl] at h1
    obtain ⟨hv, hle⟩ := h1.str
    have hsz : (ByteArray.mk l.toArray).size = l.length := by simp [ByteArray.size]
    exact wp_value (v := .int .i64 l.length) (w' := s.w) (by simp [execOp, ho, resolve, invoke, builtin, Builtin.len_, hts, hv, run_underlying ht, goInt, hsz]) (hK _ _ s hp (.d _ _ (.int _ _)) hr (.refl _ _) (h hle))
  · exact h.elim
theorem ok_lenR {t e : TypeId} {x : Operand} {y : Arg} {bytes : Nat} {ts : Array TypeId} (ho : o.op = .call { callee := .builtin .len, args := #[x], argTypes := ts }) (hts : ts[0]? = some t) (ht : P.underlying t = some (.slice e)) (hb : ebytes P e = bytes)
    (hx : ArgOK P x y) (h : rop P (.lenR e bytes y) fr hp K) : o.wp P a s.w next Q := by
  have hargs : ∀ (n : Nat) A c, a.eval x = .slice A n c → (execOp a.eval o).run P s.w = .ok (.value (.int .i64 n)) s.w := by
    intro n A c hv
    simp [execOp, ho, resolve, invoke, builtin, Builtin.len_, hts, hv, run_underlying ht, goInt]
  simp only [rop] at h
  have key : ∀ rows, rowsOf (ev fr y) = some (e, rows) → (rows.length * bytes ≤ roomB → K (.d (.int .i64 rows.length)) hp) → o.wp P a s.w next Q := by
    intro rows hrows h
    have h1 := rowsOf_eval hr hx hrows
    obtain ⟨k1, A, c, k2, _⟩ := rows_bound h1
    rw [hb] at k1
    exact wp_value (hargs _ A c k2) (hK _ _ s hp (.d _ _ (.int _ _)) hr (.refl _ _) (h k1))
  split at h
  · rename_i e' rows hl
    obtain ⟨rfl, h⟩ := h
    exact key rows (by simp [rowsOf, hl]) h
  · rename_i e' rows l hl
    obtain ⟨rfl, h⟩ := h
    exact key rows (by simp [rowsOf, hl]) h
  · rename_i e' hl
    have h1 := hx N s fr hp a hr
    rw [hl] at h1
    generalize hv : a.eval x = v at h1
    cases h1
    exact wp_value (hargs 0 none 0 hv) (hK _ _ s hp (.d _ _ (.int _ _)) hr (.refl _ _) h)
  · rename_i e' l lo cnt hl
    obtain ⟨rfl, h⟩ := h
    have h1 := hx N s fr hp a hr
    rw [hl] at h1
    generalize hv : a.eval x = v at h1
    cases h1
    exact wp_value (hargs cnt _ _ hv) (hK _ _ s hp (.d _ _ (.int _ _)) hr (.refl _ _) h)
  · exact h.elim
theorem ok_max {x y : Operand} {x' y' : Arg} {ts : Array TypeId} (ho : o.op = .call { callee := .builtin .max, args := #[x, y], argTypes := ts }) (hx : ArgOK P x x') (hy : ArgOK P y y') (h : rop P (.max x' y') fr hp K) : o.wp P a s.w next Q := by
  have h1 := hx N s fr hp a hr
  have h2 := hy N s fr hp a hr
  simp only [rop] at h
  split at h
  · rename_i k n k' m e1 e2
    rw [e1] at h1; rw [e2] at h2
    obtain ⟨rfl, h⟩ := h
    exact wp_value (v := .int k (if m > n then m else n)) (w' := s.w) (by simp [execOp, ho, resolve, invoke, builtin, Builtin.max_, Builtin.max2, h1.int, h2.int]) (hK _ _ s hp (.d _ _ (.int _ _)) hr (.refl _ _) h)
  · exact h.elim
theorem ok_min {x y : Operand} {x' y' : Arg} {ts : Array TypeId} (ho : o.op = .call { callee := .builtin .min, args := #[x, y], argTypes := ts }) (hx : ArgOK P x x') (hy : ArgOK P y y') (h : rop P (.min x' y') fr hp K) : o.wp P a s.w next Q := by
  have h1 := hx N s fr hp a hr
  have h2 := hy N s fr hp a hr
  simp only [rop] at h
  split at h
  · rename_i k n k' m e1 e2
    rw [e1] at h1; rw [e2] at h2
    obtain ⟨rfl, h⟩ := h
    exact wp_value (v := .int k (if m < n then m else n)) (w' := s.w) (by simp [execOp, ho, resolve, invoke, builtin, Builtin.min_, Builtin.min2, h1.int, h2.int]) (hK _ _ s hp (.d _ _ (.int _ _)) hr (.refl _ _) h)
  · exact h.elim
omit hr hK in
theorem eqGuard_ok {op : BinOp} {t : TypeId} {x y : Operand} {u v : Value} {w : World} (h : ∀ cs, u ≠ .agg cs) (h2 : u ≠ .nilIface) : (eqGuard op t x y u v).run P w = .ok () w := by
  unfold eqGuard
  cases op <;> cases u <;> cases v <;> first | rfl | exact absurd rfl h2 | exact absurd rfl (h _) | simp
theorem ok_bin {op : BinOp} {t u : TypeId} {x y : Operand} {x' y' : Arg} (ho : o.op = .binOp op t x y u) (hx : ArgOK P x x') (hy : ArgOK P y y') {isB : Bool} (htb : isB = true → P.underlying t = some .bool) (h : rop P (.bin isB op x' y') fr hp K) : o.wp P a s.w next Q := by
  have h1 := hx N s fr hp a hr
  have h2 := hy N s fr hp a hr
  simp only [rop, binP] at h
  split at h
  · rename_i k n k' m e1 e2
    rw [e1] at h1; rw [e2] at h2
    have v1 := h1.int
    have v2 := h2.int
    obtain ⟨rfl, h⟩ := h
    have hg : (eqGuard op t x y (.int k n) (.int k m)).run P s.w = .ok () s.w := eqGuard_ok (by simp) (by simp)
    have fin : ∀ z : AV, ∀ v, RepA P s.w s.H z v → (execOp a.eval o).run P s.w = .ok (.value v) s.w → K (.d z) hp → o.wp P a s.w next Q := fun z v hz hrun hk => wp_value hrun (hK _ _ s hp (.d _ _ hz) hr (.refl _ _) hk)
    cases op <;> simp only at h <;> first
      | exact h.elim
      | exact fin _ _ (.int _ _) (by simp [execOp, ho, v1, v2, hg, binOp, Op.intArith]; done) h
      | exact fin _ _ (.bool _) (by simp [execOp, ho, v1, v2, hg, binOp, Op.intCmp]; done) h
      | exact fin _ _ (.int _ _) (by simp [execOp, ho, v1, v2, hg, binOp, Op.intDiv, h.1]; done) h.2
  · rename_i l m e1 e2
    rw [e1] at h1; rw [e2] at h2
    obtain ⟨v1, b1⟩ := h1.str
    obtain ⟨v2, b2⟩ := h2.str
    have hg : (eqGuard op t x y (.string ⟨l.toArray⟩) (.string ⟨m.toArray⟩)).run P s.w = .ok () s.w := eqGuard_ok (by simp) (by simp)
    have fin : ∀ z : AV, ∀ v, RepA P s.w s.H z v → (execOp a.eval o).run P s.w = .ok (.value v) s.w → K (.d z) hp → o.wp P a s.w next Q := fun z v hz hrun hk => wp_value hrun (hK _ _ s hp (.d _ _ hz) hr (.refl _ _) hk)
    cases op <;> simp only at h <;> first
      | exact h.elim
      | (refine fin _ _ (.bool _) ?_ h; simp [execOp, ho, v1, v2, hg, binOp, Op.stringOp, ByteArray.toList_mk]; done)
      | skip
    · obtain ⟨hle, h⟩ := h
      refine fin _ _ (.str (l ++ m) (by simpa using hle)) ?_ h
      have hsz : ((ByteArray.mk l.toArray).size : Int) + ((ByteArray.mk m.toArray).size : Int) ≤ 9223372036854775807 := by
        have e1 : (ByteArray.mk l.toArray).size = l.length := by simp [ByteArray.size]
        have e2 : (ByteArray.mk m.toArray).size = m.length := by simp [ByteArray.size]
        omega
      have happ : (ByteArray.mk l.toArray) ++ (ByteArray.mk m.toArray) = ⟨(l ++ m).toArray⟩ := by
        apply ByteArray.ext
        simp
      simp [execOp, ho, v1, v2, hg, binOp, Op.stringOp, hsz, happ]
    · refine fin _ _ (.bool _) ?_ h
      simp [execOp, ho, v1, v2, hg, binOp, Op.stringOp, ByteArray.toList_mk]
      cases e : (l == m) <;> simp [bne, e]
  · rename_i b c e1 e2
    obtain ⟨hB, h⟩ := h
    have htb := htb hB
    rw [e1] at h1; rw [e2] at h2
    have v1 := h1.bool
    have v2 := h2.bool
    have hg : (eqGuard op t x y (.bool b) (.bool c)).run P s.w = .ok () s.w := eqGuard_ok (by simp) (by simp)
    have fin : ∀ z : AV, ∀ v, RepA P s.w s.H z v → (execOp a.eval o).run P s.w = .ok (.value v) s.w → K (.d z) hp → o.wp P a s.w next Q := fun z v hz hrun hk => wp_value hrun (hK _ _ s hp (.d _ _ hz) hr (.refl _ _) hk)
    have heq : ∀ w : World, (Op.equal t (.bool b) (.bool c)).run P w = .ok (b == c) w := fun w => by
      have : ∀ d, (Op.equalIn (d + 1) t (.bool b) (.bool c)).run P w = .ok (b == c) w := fun d => by simp [Op.equalIn, run_underlying htb]
      exact this 9999
    cases op <;> simp only at h <;> first
      | exact h.elim
      | exact fin _ _ (.bool _) (by simp [execOp, ho, v1, v2, hg, binOp, heq]; done) h
  · exact h.elim
end
end Go.Pg
set_option linter.unusedVariables false
namespace Go.Pg
section
variable {P : Program} {N : Nat} {s : St} {fr : Fr} {hp : AHeap} {a : Act} {o : Oper} {next : Act → World → Prop} {Q : Exit → Act → World → Prop}
def RowRep (P : Program) (s : St) (sz : Nat) (row : List AV) (v : Value) : Prop :=
  row.length = sz ∧ v.cells.size = sz ∧ ∀ j (k1 : j < row.length) (k2 : j < v.cells.size), v.cells[j].oneCell' = true ∧ RepA P s.w s.H row[j] v.cells[j]
theorem RowRep.agg {s : St} {sz : Nat} {cs : List AV} {v : Value} (h : RepA P s.w s.H (.agg cs) v) (hs : cs.length = sz) : RowRep P s sz cs v := by
  cases h with
  | agg _ vs k1 k2 k3 => exact ⟨hs, by show vs.size = sz; omega, fun j j1 j2 => ⟨k2 j j2, k3 j j1 j2⟩⟩
theorem RowRep.one {s : St} {y : AV} {v : Value} (h : RepA P s.w s.H y v) (h1 : ∀ cs, y ≠ .agg cs) (h2 : y ≠ .any) : RowRep P s 1 [y] v := by
  have ho := h.one h1 h2
  have hc : v.cells = #[v] := by cases v <;> first | rfl | simp [Value.oneCell'] at ho
  refine ⟨rfl, by rw [hc]; rfl, fun j j1 j2 => ?_⟩
  have : j = 0 := by simpa using j1
  subst this
  simp only [hc]
  exact ⟨ho, h⟩
theorem rowsArgs_spec {sz : Nat} (hr : Rel P N s fr hp a) : ∀ {xs : List Operand} {ys : List Arg} {rows : List (List AV)}, xs.length = ys.length → (∀ i (h1 : i < xs.length) (h2 : i < ys.length), ArgOK P xs[i] ys[i]) → rowsArgs fr sz ys = some rows →
    rows.length = xs.length ∧ ∀ i (h1 : i < xs.length) (h2 : i < rows.length), RowRep P s sz rows[i] (a.eval xs[i]) := by
  intro xs
  induction xs with
  | nil =>
    intro ys rows hl hy h
    cases ys with
    | nil => simp [rowsArgs] at h; subst h; exact ⟨rfl, fun i h1 => by simp at h1⟩
    | cons y ys => simp at hl
  | cons x xs ih =>
    intro ys rows hl hy h
    cases ys with
    | nil => simp at hl
    | cons y ys =>
      have h0 := hy 0 (by simp) (by simp) N s fr hp a hr
      simp only [List.getElem_cons_zero] at h0
      simp only [rowsArgs] at h
      have tail := fun rs hrs => ih (ys := ys) (rows := rs) (by simpa using hl) (fun i h1 h2 => by have := hy (i + 1) (by simpa using h1) (by simpa using h2); simp only [List.getElem_cons_succ] at this; exact this) hrs
      have fin : ∀ r0 rs, RowRep P s sz r0 (a.eval x) → rowsArgs fr sz ys = some rs → (r0 :: rs).length = (x :: xs).length ∧ ∀ i (h1 : i < (x :: xs).length) (h2 : i < (r0 :: rs).length), RowRep P s sz (r0 :: rs)[i] (a.eval (x :: xs)[i]) := by
        intro r0 rs h0 hrs
        obtain ⟨t1, t2⟩ := tail rs hrs
        refine ⟨by simp [t1], fun i h1 h2 => ?_⟩
        cases i with
        | succ i => simp only [List.getElem_cons_succ]; exact t2 i (by simpa using h1) (by simpa using h2)
        | zero => exact h0
      split at h
      · rename_i cs rs hd hrs
        split at h
        · rename_i hsz
          injection h with h; subst h
          exact fin _ _ (.agg (h0.data hd) hsz) hrs
        · cases h
      · cases h
      · rename_i y0 rs hne hne2 hd hrs
        split at h
        · rename_i hsz
          injection h with h; subst h
          subst hsz
          exact fin _ _ (.one (h0.data hd) (fun cs e => hne cs e) (fun e => hne2 e)) hrs
        · cases h
      · cases h
/-- What a slice literal comes to. -/
theorem run_lit {t e : TypeId} {ie : TypeInfo} {z : Value} {sz : Nat} {vs : List Value} (ht : P.underlying t = some (.slice e)) (hie : P.info? e = some ie) (hz : ie.zero = some z) (hsz : ie.size = sz) (hs0 : 0 < sz) (hsmall : vs.length * sz ≤ 2 ^ 24)
    (hv : ∀ v ∈ vs, v.cells.size = sz) (w : World) : ∃ r : Array Value, (Instr.buildSlice t vs.length ((vs.zipIdx 0).map fun x => (x.2, x.1)).toArray).run P w = .ok (.slice (some ⟨w.heap.size, 0, none⟩) vs.length vs.length) (w.alloc (.cells r e)) ∧ r.size = vs.length * sz ∧
      ∀ i (hi : i < vs.length) j (hj : j < sz), r[i * sz + j]? = (vs[i]).cells[j]? := by
  by_cases hn : vs.length = 0
  · have hnil : vs = [] := List.eq_nil_of_length_eq_zero hn
    subst hnil
    refine ⟨#[], ?_, by simp, fun i hi => by simp at hi⟩
    simp [Instr.buildSlice, run_underlying ht, sizeOf, typeInfo, hie, Instr.fill, newRow]
    congr 2
    apply Array.eq_empty_of_size_eq_zero
    simp
  have hn0 : 0 < vs.length := Nat.pos_of_ne_zero hn
  obtain ⟨r, h1, h2, h3⟩ := Great.fill_dense hs0 vs 0 ((Array.range (vs.length * sz)).map (z.cells[· % z.cells.size]!)) hv (by simp)
  refine ⟨r, ?_, by simpa using h2, fun i hi j hj => ?_⟩
  · subst hsz
    exact run_buildSlice w t e vs.length _ r ie z ht hie hz (by omega) (by have := Nat.mul_pos hn0 hs0; omega) (by simpa using h1)
  · rw [h3]
    have e1 : (i * sz + j) / sz = i := by
      rw [Nat.mul_comm, Nat.mul_add_div hs0, Nat.div_eq_of_lt hj]; rfl
    have e2 : (i * sz + j) % sz = j := by
      rw [Nat.mul_comm, Nat.mul_add_mod, Nat.mod_eq_of_lt hj]
    have hlt : i * sz + j < (0 + vs.length) * sz := by
      have : i * sz + sz ≤ vs.length * sz := by rw [← Nat.succ_mul]; exact Nat.mul_le_mul_right _ hi
      rw [Nat.zero_add]
      omega
    rw [if_pos ⟨by omega, hlt⟩, e1, e2, Nat.sub_zero, List.getElem?_eq_getElem hi]
    rfl
/-- A made row reads as its rows. -/
theorem rep_lit {s' : St} {b e : Nat} {t : TypeId} {rows : List (List AV)} {vs : List Value} {r : Array Value} {sz : Nat} (hes : esize P e = sz) (hl : rows.length = vs.length) (hrow : ∀ i (h1 : i < vs.length) (h2 : i < rows.length), RowRep P s' sz rows[i] vs[i])
    (hb : s'.w.heap[b]? = some (.cells r t (0, 0))) (hH : s'.H b = r.size) (hr : r.size = vs.length * sz) (hcell : ∀ i (hi : i < vs.length) j (hj : j < sz), r[i * sz + j]? = (vs[i]).cells[j]?) (hroom : rows.length * ebytes P e ≤ roomB) (hmax : vs.length ≤ maxLen) :
    RepA P s'.w s'.H (.sl e rows) (.slice (some ⟨b, 0, none⟩) vs.length vs.length) := by
  have hcl : ∀ i (hi : i < rows.length) j (hj : j < rows[i].length), ∃ hi' : i < vs.length, ∃ hj' : j < vs[i].cells.size, rows[i].length = sz ∧ s'.w.cell? ⟨b, 0 + (i * sz + j), none⟩ = some vs[i].cells[j] ∧ i * sz + j < r.size ∧ vs[i].cells[j].oneCell' = true ∧ RepA P s'.w s'.H rows[i][j] vs[i].cells[j] := by
    intro i hi j hj
    have hi' : i < vs.length := by omega
    obtain ⟨k1, k2, k3⟩ := hrow i hi' hi
    have hj' : j < vs[i].cells.size := by omega
    obtain ⟨k4, k5⟩ := k3 j hj hj'
    have hlt : i * sz + j < r.size := by
      have : i * sz + sz ≤ vs.length * sz := by rw [← Nat.succ_mul]; exact Nat.mul_le_mul_right _ hi'
      omega
    refine ⟨hi', hj', k1, ?_, hlt, k4, k5⟩
    rw [Nat.zero_add, cell_of_row s'.w b _ r t (0, 0) hb, hcell i hi' j (by omega)]
    simp [hj']
  refine .sl e rows b 0 _ _ (fun i j => ((vs[i]?).bind fun v => v.cells[j]?).getD undef) hl (Nat.le_refl _) (by rw [← hl]; exact hroom) hmax (fun i hi => ?_) (fun i hi j hj => ?_) (fun i hi j hj => ?_) (fun i hi j hj => ?_) (fun i hi j hj => ?_)
  · rw [hes]; exact (hrow i (by omega) hi).1
  · obtain ⟨hi', hj', k1, k2, k3, k4, k5⟩ := hcl i hi j hj
    rw [hes, k2]; simp [hi', hj']
  · obtain ⟨hi', hj', k1, k2, k3, k4, k5⟩ := hcl i hi j hj
    rw [hes, hH]; omega
  · obtain ⟨hi', hj', k1, k2, k3, k4, k5⟩ := hcl i hi j hj
    simpa [hi', hj'] using k4
  · obtain ⟨hi', hj', k1, k2, k3, k4, k5⟩ := hcl i hi j hj
    simpa [hi', hj'] using k5
variable {K : FV → AHeap → Prop} (hr : Rel P N s fr hp a) (hK : Gives P N s fr hp a o K next)
include hr hK
theorem ok_lit {t e : TypeId} {ie : TypeInfo} {z : Value} {sz : Nat} {xs : List Operand} {ys : List Arg} {len : Nat} {parts : Array (Nat × Operand)} (ho : o.op = .buildSlice t len parts) (hparts : parts = ((xs.zipIdx 0).map fun x => (x.2, x.1)).toArray) (hlen : len = xs.length)
    (ht : P.underlying t = some (.slice e)) (hie : P.info? e = some ie) (hz : ie.zero = some z) (hsz : ie.size = sz) (hs0 : 0 < sz) (hsmall : xs.length * sz ≤ 2 ^ 24)
    (hl : xs.length = ys.length) (hy : ∀ i (h1 : i < xs.length) (h2 : i < ys.length), ArgOK P xs[i] ys[i])
    (h : rop P (.lit e sz ys) fr hp K ∨ rop P (.litO e sz ys) fr hp K) : o.wp P a s.w next Q := by
  subst hlen hparts
  have hes : esize P e = sz := by simp [esize, hie, hsz]
  obtain ⟨rows, hrows⟩ : ∃ rows, rowsArgs fr sz ys = some rows := by
    rcases h with h | h <;> simp only [rop] at h <;> split at h <;> first | exact ⟨_, by assumption⟩ | exact h.elim
  obtain ⟨hlr, hrow⟩ := rowsArgs_spec hr hl hy hrows
  obtain ⟨r, hrun, hrs, hcell⟩ := run_lit (P := P) (vs := xs.map a.eval) ht hie hz hsz hs0 (by simpa using hsmall) (fun v hv => by
    obtain ⟨x, hx, rfl⟩ := List.mem_map.1 hv
    obtain ⟨i, hi, rfl⟩ := List.getElem_of_mem hx
    exact (hrow i hi (by omega)).2.1) s.w
  have hrun2 : (execOp a.eval o).run P s.w = .ok (.value (.slice (some ⟨s.w.heap.size, 0, none⟩) xs.length xs.length)) (s.w.alloc (.cells r e)) := by
    have e0 : ((((xs.map a.eval).zipIdx 0).map fun x => (x.2, x.1)).toArray) = (((xs.zipIdx 0).map fun x => (x.2, x.1)).toArray).map fun (i, x) => (i, a.eval x) := by
      simp [List.zipIdx_map]
    rw [e0, List.length_map] at hrun
    simp only [execOp, ho, Sem.run_bind, hrun, Result.andThen_ok]
    rfl
  have hmax : xs.length ≤ maxLen := by
    have : xs.length ≤ xs.length * sz := Nat.le_mul_of_pos_right _ hs0
    simp only [maxLen]; omega
  rcases h with h | h
  · simp only [rop, hrows] at h
    have hstep := Step.sealed hr.heap r e
    refine wp_value hrun2 (hK _ _ (s.sealed r e) hp (.d _ _ ?_) (hr.step hstep (hr.heap.sealed _ _)) hstep h.2)
    have := rep_lit (P := P) (s' := s.sealed r e) (b := s.w.heap.size) (t := e) (vs := xs.map a.eval) (rows := rows) hes (by simp [hlr]) (fun i h1 h2 => ?_) (heap_alloc_new s.w _) (by simp [St.sealed]) hrs hcell h.1 (by simpa using hmax)
    · simpa using this
    · obtain ⟨k1, k2, k3⟩ := hrow i (by simpa using h1) h2
      simp only [List.getElem_map]
      exact ⟨k1, k2, fun j j1 j2 => ⟨(k3 j j1 j2).1, (k3 j j1 j2).2.mono hstep.seal_⟩⟩
  · simp only [rop, hrows] at h
    have hstep := Step.push hr.heap (.cells r e) r.size (.buf e rows.length)
    have hrel := hr.heap.push (.cells r e) r.size (.buf e rows.length) (fun b hb => by simp [St.push] at hb ⊢; omega)
    refine wp_value hrun2 (hK _ _ (s.push hp (.cells r e) r.size) _ ?_ (hr.step hstep hrel) hstep h.2)
    have hrep := rep_lit (P := P) (s' := s.push hp (.cells r e) r.size) (b := s.w.heap.size) (t := e) (vs := xs.map a.eval) (rows := rows) hes (by simp [hlr]) (fun i h1 h2 => ?_) (heap_alloc_new s.w _) (by simp [St.push]) hrs hcell h.1 (by simpa using hmax)
    · refine .own e rows hp.length _ rows.length (by simpa using hrep) (by simp) (Nat.le_refl _) fun _ => .inr ⟨s.w.heap.size, xs.length, r, by rw [hlr], by simp [St.push], heap_alloc_new s.w _, by omega, hmax, by rw [hrs, hes]; simp, by simp [St.push, hrs, hes, hlr]⟩
    · obtain ⟨k1, k2, k3⟩ := hrow i (by simpa using h1) h2
      simp only [List.getElem_map]
      exact ⟨k1, k2, fun j j1 j2 => ⟨(k3 j j1 j2).1, (k3 j j1 j2).2.mono hstep.seal_⟩⟩
end
end Go.Pg
set_option linter.unusedVariables false
namespace Go.Pg
section
variable {P : Program} {N : Nat} {s : St} {fr : Fr} {hp : AHeap} {a : Act} {o : Oper} {next : Act → World → Prop} {Q : Exit → Act → World → Prop}
theorem RepA.cut {w : World} {H : Nat → Nat} {e : TypeId} {rows : List (List AV)} {A : Option Addr} {n c l h : Nat} (hr : RepA P w H (.sl e rows) (.slice A n c)) (h1 : l ≤ h) (h2 : h ≤ rows.length) :
    RepA P w H (.sl e ((rows.take h).drop l)) (sliced A l h c (esize P e)) := by
  unfold sliced
  by_cases hlh : l = h
  · subst hlh
    have e1 : (rows.take l).drop l = [] := List.drop_eq_nil_of_le (by simp; omega)
    rw [e1, Nat.sub_self]
    exact .sl0 _ _ _
  · cases hr with
    | sl0 => simp at h2; omega
    | sl _ _ b off _ _ cell hn hc hb hcm hw hrr hH h1' hrep =>
      have hne : ¬ c = l := by omega
      simp only [hne, if_false, Option.map_some]
      have hadd : (⟨b, off, none⟩ : Addr).add (l * esize P e) = ⟨b, off + l * esize P e, none⟩ := Addr.add_lit ..
      rw [hadd]
      have hlen : ((rows.take h).drop l).length = h - l := by simp; omega
      have hget : ∀ i (hi : i < ((rows.take h).drop l).length), ∃ hi' : l + i < rows.length, ((rows.take h).drop l)[i] = rows[l + i] := by
        intro i hi
        refine ⟨by omega, ?_⟩
        simp [List.getElem_drop, List.getElem_take]
      have hoff : ∀ i j, off + l * esize P e + (i * esize P e + j) = off + ((l + i) * esize P e + j) := by
        intro i j
        rw [Nat.add_mul]; omega
      refine .sl e _ b _ _ _ (fun i j => cell (l + i) j) hlen (by omega) ?_ (by omega) (fun i hi => ?_) (fun i hi j hj => ?_) (fun i hi j hj => ?_) (fun i hi j hj => ?_) (fun i hi j hj => ?_)
      · exact Nat.le_trans (Nat.mul_le_mul_right _ (by omega)) hb
      · obtain ⟨k1, k2⟩ := hget i hi
        rw [k2]; exact hw _ k1
      · obtain ⟨k1, k2⟩ := hget i hi
        rw [hoff]; exact hrr _ k1 j (by rw [k2] at hj; exact hj)
      · obtain ⟨k1, k2⟩ := hget i hi
        rw [hoff]; exact hH _ k1 j (by rw [k2] at hj; exact hj)
      · obtain ⟨k1, k2⟩ := hget i hi
        exact h1' _ k1 j (by rw [k2] at hj; exact hj)
      · obtain ⟨k1, k2⟩ := hget i hi
        simp only [k2]
        exact hrep _ k1 j (by rw [k2] at hj; exact hj)
section
variable {K : FV → AHeap → Prop} (hr : Rel P N s fr hp a) (hK : Gives P N s fr hp a o K next)
include hr hK
/-- A cut's two bounds. -/
def OptOK (P : Program) (x : Option Operand) (y : Option Arg) : Prop := (x = none ∧ y = none) ∨ ∃ u v, x = some u ∧ y = some v ∧ ArgOK P u v
theorem ok_slR {t e : TypeId} {sz : Nat} {x : Operand} {lo hi : Option Operand} {x' : Arg} {lo' hi' : Option Arg} (ho : o.op = .slice t x lo hi none) (ht : P.underlying t = some (.slice e)) (hsz : (P.info? e).map (·.size) = some sz) (hx : ArgOK P x x') (hlo : OptOK P lo lo') (hhi : OptOK P hi hi')
    (h : rop P (.slR e sz x' lo' hi') fr hp K) : o.wp P a s.w next Q := by
  obtain ⟨i0, hi0, hs0⟩ := Option.map_eq_some_iff.1 hsz
  have hel : P.elem t = e := by simp [Program.elem, ht]
  have ht' : P.underlying t = some (.slice (P.elem t)) := by rw [hel]; exact ht
  have hes : esize P e = sz := by simp [esize, hi0, hs0]
  have hso : ∀ w : World, (sizeOf (P.elem t)).run P w = .ok (esize P e) w := fun w => by rw [hel, hes]; simp [sizeOf, typeInfo, hi0, hs0]
  have h1 := hx N s fr hp a hr
  have core : ∀ (A : Option Addr) (n c l hh : Nat), a.eval x = .slice A n c → n ≤ c → boundOf fr 0 lo' = some (l : Int) → boundOf fr n hi' = some (hh : Int) → l ≤ hh → hh ≤ n →
      (execOp a.eval o).run P s.w = .ok (.value (sliced A l hh c (esize P e))) s.w := by
    intro A n c l hh hv hc hl hhh hlh hhn
    rcases hlo with ⟨rfl, rfl⟩ | ⟨u, v, rfl, rfl, huv⟩ <;> rcases hhi with ⟨rfl, rfl⟩ | ⟨u2, v2, rfl, rfl, huv2⟩
    · simp only [boundOf, Option.some.injEq] at hl hhh
      have e1 : l = 0 := by omega
      have e2 : hh = n := by omega
      subst e1 e2
      have := run_slice_all (P := P) s.w t A hh c ht'
      simp [execOp, ho, hv, run_sliceAt_slice s.w t _ none none none ht', this, hso]
    · obtain ⟨k', hk'⟩ := intOf_eval hr huv2 hhh
      simp only [boundOf, Option.some.injEq] at hl
      have e1 : l = 0 := by omega
      subst e1
      have := run_slice_h (P := P) s.w t A n c ht' k' hh (by omega) (by omega)
      simp [execOp, ho, hv, hk', run_sliceAt_slice s.w t _ none _ none ht', this, hso]
    · obtain ⟨k', hk'⟩ := intOf_eval hr huv hl
      simp only [boundOf, Option.some.injEq] at hhh
      have e2 : hh = n := by omega
      subst e2
      have := run_slice_l (P := P) s.w t A hh c ht' k' l (by omega) (by omega)
      simp [execOp, ho, hv, hk', run_sliceAt_slice s.w t _ _ none none ht', this, hso]
    · obtain ⟨k', hk'⟩ := intOf_eval hr huv hl
      obtain ⟨k2', hk2'⟩ := intOf_eval hr huv2 hhh
      have := run_slice_lh (P := P) s.w t A n c ht' k' k2' l hh (by omega) (by omega) (by omega)
      simp [execOp, ho, hv, hk', hk2', run_sliceAt_slice s.w t _ _ _ none ht', this, hso]
  have data : ∀ rows, RepA P s.w s.H (.sl e rows) (a.eval x) → ∀ l h : Int, boundOf fr 0 lo' = some l → boundOf fr rows.length hi' = some h → 0 ≤ l → l ≤ h → h ≤ rows.length → K (.d (.sl e ((rows.take h.toNat).drop l.toNat))) hp → o.wp P a s.w next Q := by
    intro rows hA l hh hl hhh h0 hlh hhn h
    obtain ⟨k1, A, c, hv, hc⟩ := rows_bound hA
    rw [hv] at hA
    obtain ⟨l, rfl⟩ := Int.eq_ofNat_of_zero_le h0
    obtain ⟨hh, rfl⟩ := Int.eq_ofNat_of_zero_le (Int.le_trans h0 hlh)
    have hcut := hA.cut (l := l) (h := hh) (by omega) (by omega)
    exact wp_value (v := sliced A l hh c (esize P e)) (w' := s.w) (core A rows.length c l hh hv hc hl hhh (by omega) (by omega)) (hK _ _ s hp (.d _ _ hcut) hr (.refl _ _) h)
  simp only [rop] at h
  split at h
  · rename_i e' rows hrows
    rw [hrows] at h1
    split at h
    · rename_i l hh hl hhh
      obtain ⟨rfl, h0, hlh, hhn, h⟩ := h
      exact data rows h1.ofD l hh hl hhh h0 hlh hhn h
    · exact h.elim
  · rename_i e' rows lb hrows
    rw [hrows] at h1
    split at h
    · rename_i l hh hl hhh
      obtain ⟨rfl, h0, hlh, hhn, h⟩ := h
      exact data rows (by generalize a.eval x = v at h1; cases h1; assumption) l hh hl hhh h0 hlh hhn h
    · exact h.elim
  · rename_i e' ol p n hms
    rw [hms] at h1
    split at h
    · rename_i l hh hl hhh
      obtain ⟨rfl, h0, hor, hlh, hhn, h⟩ := h
      obtain ⟨l, rfl⟩ := Int.eq_ofNat_of_zero_le h0
      obtain ⟨hh, rfl⟩ := Int.eq_ofNat_of_zero_le (Int.le_trans h0 hlh)
      generalize hv : a.eval x = v at h1
      cases h1 with
      | ms e l' lo cnt b c ob hl' hob hb hc hcm hroom =>
        have hrun := core _ _ _ l hh hv hc hl hhh (by omega) (by omega)
        have hval : sliced (some ⟨b, p, none⟩) l hh c (esize P e') = .slice (some ⟨b, p + l * sz, none⟩) (hh - l) (c - l) := by
          unfold sliced
          rcases hor with h1 | h1
          · rw [if_neg (by omega)]
            simp [hes, Addr.add_lit]
          · have : l = 0 := by omega
            subst this
            split <;> simp [hes, Addr.add_lit]
        rw [hval] at hrun
        refine wp_value hrun (hK _ _ s hp (.ms e' ol (p + l * sz) (hh - l) b (c - l) ob hl' hob hb (by omega) (by omega) ?_) hr (.refl _ _) (by simpa using h))
        exact Nat.le_trans (Nat.mul_le_mul_right _ (by omega)) hroom
    · exact h.elim
  · rename_i e' ol n hms
    rw [hms] at h1
    split at h
    · rename_i l hh hl hhh
      obtain ⟨rfl, rfl, rfl, h⟩ := h
      generalize hv : a.eval x = v at h1
      cases h1 with
      | raw e l' n g c m hb hc hcm hroom tip =>
        have hrun := core _ _ _ 0 0 hv hc hl hhh (by omega) (by omega)
        have hval : sliced (some ⟨g, 0, none⟩) 0 0 c (esize P e') = .slice (some ⟨g, 0, none⟩) 0 c := by
          unfold sliced
          split <;> simp [Addr.add_lit]
        rw [hval] at hrun
        refine wp_value hrun (hK _ _ s hp (.own e' [] ol _ m (.sl0 _ _ _) hb (Nat.zero_le _) fun he => .inr ?_) hr (.refl _ _) h)
        obtain ⟨cur, t1, t2, t3, t4⟩ := tip he.symm
        have : m = 0 := he.symm
        subst this
        exact ⟨g, c, cur, rfl, t1, t2, Nat.zero_le _, hcm, t3, by simpa using t4⟩
    · exact h.elim
  · exact h.elim
theorem ok_slS {t : TypeId} {x : Operand} {lo hi : Option Operand} {x' : Arg} {lo' hi' : Option Arg} (ho : o.op = .slice t x lo hi none) (ht : P.underlying t = some .string) (hx : ArgOK P x x') (hlo : OptOK P lo lo') (hhi : OptOK P hi hi')
    (h : rop P (.slS x' lo' hi') fr hp K) : o.wp P a s.w next Q := by
  have h1 := hx N s fr hp a hr
  simp only [rop] at h
  split at h
  · rename_i str hstr
    rw [hstr] at h1
    obtain ⟨hv, hle⟩ := h1.str
    split at h
    · rename_i l hh hl hhh
      obtain ⟨h0, hlh, hhn, h⟩ := h
      obtain ⟨l, rfl⟩ := Int.eq_ofNat_of_zero_le h0
      obtain ⟨hh, rfl⟩ := Int.eq_ofNat_of_zero_le (Int.le_trans h0 hlh)
      have hres : (ByteArray.mk str.toArray).extract l hh = ⟨((str.take hh).drop l).toArray⟩ := by
        rw [ByteArray.extract_mk, List.drop_take]
      have hbsz : (ByteArray.mk str.toArray).size = str.length := by simp [ByteArray.size]
      refine wp_value (v := .string ((ByteArray.mk str.toArray).extract l hh)) (w' := s.w) ?_ (hK _ _ s hp (by rw [hres]; exact .d _ _ (.str _ (by simp; omega))) hr (.refl _ _) h)
      have hb1 : (l : Int) ≤ hh := hlh
      have hb2 : (hh : Int) ≤ str.length := hhn
      have hb : ∀ (lo hi : Option Value) w, ((lo = none ∧ l = 0) ∨ ∃ k, lo = some (.int k l)) → ((hi = none ∧ hh = str.length) ∨ ∃ k, hi = some (.int k hh)) → (Instr.slice t (.string ⟨str.toArray⟩) lo hi none).run P w = .ok (.string ((ByteArray.mk str.toArray).extract l hh)) w := by
        intro lo hi w g1 g2
        have q1 : ((hh : Nat) : Int) ≤ ((ByteArray.mk str.toArray).size : Nat) := by rw [hbsz]; exact hb2
        rcases g1 with ⟨rfl, rfl⟩ | ⟨k, rfl⟩ <;> rcases g2 with ⟨rfl, rfl⟩ | ⟨k2, rfl⟩
        · simp [Instr.slice, run_underlying ht, Instr.sliceBounds]
          rw [hres]; simp
        · simp [Instr.slice, run_underlying ht, Instr.sliceBounds, run_sliceBound, q1]
        · have q2 : ((l : Nat) : Int) ≤ ((ByteArray.mk str.toArray).size : Nat) := by omega
          have q3 : (l : Int) ≤ str.length := by omega
          simp [Instr.slice, run_underlying ht, Instr.sliceBounds, run_sliceBound, hbsz, q3]
        · simp [Instr.slice, run_underlying ht, Instr.sliceBounds, run_sliceBound, q1, hb1]
      rcases hlo with ⟨rfl, rfl⟩ | ⟨u, v, rfl, rfl, huv⟩ <;> rcases hhi with ⟨rfl, rfl⟩ | ⟨u2, v2, rfl, rfl, huv2⟩
      · simp only [boundOf, Option.some.injEq] at hl hhh
        have := hb none none s.w (.inl ⟨rfl, by omega⟩) (.inl ⟨rfl, by omega⟩)
        simp [execOp, ho, hv, run_sliceAt_string s.w t _ none none none ht, this]
      · obtain ⟨k', hk'⟩ := intOf_eval hr huv2 hhh
        simp only [boundOf, Option.some.injEq] at hl
        have := hb none (some (.int k' hh)) s.w (.inl ⟨rfl, by omega⟩) (.inr ⟨_, rfl⟩)
        simp [execOp, ho, hv, hk', run_sliceAt_string s.w t _ none _ none ht, this]
      · obtain ⟨k', hk'⟩ := intOf_eval hr huv hl
        simp only [boundOf, Option.some.injEq] at hhh
        have := hb (some (.int k' l)) none s.w (.inr ⟨_, rfl⟩) (.inl ⟨rfl, by omega⟩)
        simp [execOp, ho, hv, hk', run_sliceAt_string s.w t _ _ none none ht, this]
      · obtain ⟨k', hk'⟩ := intOf_eval hr huv hl
        obtain ⟨k2', hk2'⟩ := intOf_eval hr huv2 hhh
        have := hb (some (.int k' l)) (some (.int k2' hh)) s.w (.inr ⟨_, rfl⟩) (.inr ⟨_, rfl⟩)
        simp [execOp, ho, hv, hk', hk2', run_sliceAt_string s.w t _ _ _ none ht, this]
    · exact h.elim
  · exact h.elim
end
end
end Go.Pg
set_option linter.unusedVariables false
namespace Go.Pg
section
variable {P : Program} {N : Nat} {s : St} {fr : Fr} {hp : AHeap} {a : Act} {o : Oper} {next : Act → World → Prop} {Q : Exit → Act → World → Prop}
variable {K : FV → AHeap → Prop} (hr : Rel P N s fr hp a) (hK : Gives P N s fr hp a o K next)
include hr hK
theorem wp_enter {f : FuncId} {vs : Array Value} {args : List FV} (hrun : (execOp a.eval o).run P s.w = .ok (.enter f vs) s.w) (h1 : vs.size = args.length) (h2 : ∀ i (_ : i < args.length) (_ : i < vs.size), RepF P s hp args[i] vs[i]) (h : ACalls P f args hp K) : o.wp P a s.w next Q := by
  unfold Oper.wp
  rw [hrun, Oper.upon_enter]
  refine (h.2 s vs hr.heap h1 h2).mono ?_
  rintro e w' ⟨s', hp', r, v, rfl, rfl, k1, k2, k3, k4⟩
  exact hK r v s' hp' k2 (hr.step k3 k1) k3 k4
theorem ok_call {f : FuncId} {xs : List Operand} {ys : List Arg} {ts : Array TypeId} (ho : o.op = .call { callee := .value (.func f), args := xs.toArray, argTypes := ts }) (hl : xs.length = ys.length) (hy : ∀ i (h1 : i < xs.length) (h2 : i < ys.length), ArgOK P xs[i] ys[i])
    (h : rop P (.call f ys) fr hp K) : o.wp P a s.w next Q := by
  simp only [rop] at h
  obtain ⟨fn, g1, g2, g3⟩ := h.1
  have g2' : ¬ fn.body = none := fun e => by simp [e] at g2
  have g3' : ¬ fn.name = "runtime.NumGoroutine" := by simpa using g3
  have hrun : (execOp a.eval o).run P s.w = .ok (.enter f (xs.map a.eval).toArray) s.w := by
    have hfv : a.eval (.func f) = .func (.func f) #[] #[] := rfl
    simp [execOp, ho, resolve, hfv, Deferred.ofValue, invoke, callFunc, g1, g2', g3']
  refine wp_enter hr hK hrun (by simp [hl]) (fun i h1 h2 => ?_) h
  simp only [List.getElem_map, List.getElem_toArray]
  exact (hy i (by simpa using h2) (by simpa using h1) N s fr hp a hr).arg
theorem ok_callv {fx : Operand} {fy : Arg} {xs : List Operand} {ys : List Arg} {ts : Array TypeId} (ho : o.op = .call { callee := .value fx, args := xs.toArray, argTypes := ts }) (hfx : ArgOK P fx fy) (hl : xs.length = ys.length) (hy : ∀ i (h1 : i < xs.length) (h2 : i < ys.length), ArgOK P xs[i] ys[i])
    (h : rop P (.callv fy ys) fr hp K) : o.wp P a s.w next Q := by
  have h1 := hfx N s fr hp a hr
  simp only [rop] at h
  split at h
  · rename_i f first cap hclo
    obtain ⟨fn, g1, g2, g3⟩ := h.1
    have g2' : ¬ fn.body = none := fun e => by simp [e] at g2
    have g3' : ¬ fn.name = "runtime.NumGoroutine" := by simpa using g3
    rw [hclo] at h1
    generalize hv : a.eval fx = v at h1
    cases h1 with
    | clo _ _ _ vf vc k1 k2 k3 k4 =>
      have hrun : (execOp a.eval o).run P s.w = .ok (.enter f (vf ++ (xs.map a.eval).toArray ++ vc)) s.w := by
        simp [execOp, ho, resolve, hv, Deferred.ofValue, invoke, callFunc, g1, g2', g3']
      refine wp_enter hr hK hrun (by simp [hl, k1, k2]) (fun i h1 h2 => ?_) h
      simp only [Array.getElem_append, List.getElem_append, List.getElem_map, List.getElem_toArray, List.length_append, List.length_map, Array.size_append, List.size_toArray]
      by_cases c1 : i < vf.size
      · have a1 : i < first.length := by omega
        have a2 : i < first.length + ys.length := by omega
        have a3 : i < vf.size + xs.length := by omega
        simp only [a1, a2, a3, c1, dite_true]
        exact k3 i a1 c1
      · by_cases c2 : i < vf.size + xs.length
        · have a1 : ¬ i < first.length := by omega
          have a2 : i < first.length + ys.length := by omega
          simp only [a1, a2, c1, c2, dite_true, dite_false]
          have := (hy (i - vf.size) (by omega) (by omega) N s fr hp a hr).arg
          have e : i - first.length = i - vf.size := by omega
          simp only [e]
          exact this
        · have a2 : ¬ i < first.length + ys.length := by omega
          simp only [a2, c2, dite_false]
          have e : i - (first.length + ys.length) = i - (vf.size + xs.length) := by omega
          simp only [e]
          exact k4 _ _ _
  · exact h.elim
end
end Go.Pg
set_option linter.unusedVariables false
namespace Go.Pg
section
variable {P : Program} {s : St} {hp : AHeap}
def St.drew (s : St) : St := ⟨s.w.drew, s.H, s.π⟩
theorem Step.drew (s : St) (hp : AHeap) : Step s hp s.drew hp where
  os := rfl
  tape := rfl
  output := rfl
  size := Nat.le_refl _
  seal_ := ⟨fun _ => Nat.le_refl _, fun _ _ _ _ h => h⟩
  foreign := fun _ _ _ => ⟨rfl, rfl⟩
  from_ := fun l b hl hb => .inr ⟨l, hl, hb⟩
  len := Nat.le_refl _
  buf := fun l e n h => ⟨n, h, Nat.le_refl _, fun _ => ⟨rfl, fun _ _ => ⟨rfl, rfl⟩⟩⟩
  obj := fun l o h ho => ⟨⟨o, h, ho⟩, rfl⟩
theorem RelH.drew (hr : RelH P s hp) : RelH P s.drew hp :=
  ⟨hr.inj, fun l o h => (hr.obj l o h).step (Step.drew s hp) rfl fun b hb => ⟨hr.lt (lt_of_get? h) hb, fun _ => ⟨rfl, rfl⟩⟩, hr.fresh⟩
/-- The row goes on in a new block. -/
def St.regrow (s : St) (l : Nat) (o : Obj) (h0 : Nat) : St := ⟨s.w.alloc o, fun b => if b = s.w.heap.size then h0 else s.H b, fun k => if k = l then some s.w.heap.size else s.π k⟩
theorem Step.regrow (hr : RelH P s hp) {l : Nat} {e : TypeId} {n n' : Nat} (hl : hp[l]? = some (.buf e n)) (hn : n < n') (o : Obj) (h0 : Nat) : Step s hp (s.regrow l o h0) (hp.set l (.buf e n')) where
  os := rfl
  tape := rfl
  output := rfl
  size := by simp [St.regrow]
  seal_ := ⟨fun b => by
    simp only [St.regrow]
    split
    · rename_i h; subst h; rw [hr.fresh _ (Nat.le_refl _)]; exact Nat.zero_le _
    · exact Nat.le_refl _, fun b off v _ hc => cell?_alloc s.w o hc⟩
  foreign := fun b hb _ => ⟨hao s.w o b hb, by simp [St.regrow, Nat.ne_of_lt hb]⟩
  from_ := fun k b hk hb => by
    simp only [St.regrow] at hb
    split at hb
    · injection hb with hb; subst hb; exact .inl (Nat.le_refl _)
    · exact .inr ⟨k, by simpa using hk, hb⟩
  len := by simp
  buf := fun k e' m hk => by
    by_cases c : l = k
    · subst c
      rw [hl] at hk
      injection hk with hk
      injection hk with h1 h2
      subst h1 h2
      exact ⟨n', by simp [lt_of_get? hl], by omega, fun h => by omega⟩
    · refine ⟨m, by rw [List.getElem?_set_ne c]; exact hk, Nat.le_refl _, fun _ => ⟨by simp [St.regrow, Ne.symm c], fun b hb => ?_⟩⟩
      have := hr.lt (lt_of_get? hk) hb
      exact ⟨hao s.w o b this, by simp [St.regrow, Nat.ne_of_lt this]⟩
  obj := fun k o' hk ho => by
    have c : l ≠ k := by rintro rfl; rw [hl] at hk; injection hk with hk; subst hk; simp [AObj.isBuf] at ho
    exact ⟨⟨o', by rw [List.getElem?_set_ne c]; exact hk, ho⟩, by simp [St.regrow, Ne.symm c]⟩
theorem RelH.regrow (hr : RelH P s hp) {l : Nat} {e : TypeId} {n n' : Nat} (hl : hp[l]? = some (.buf e n)) (hn : n < n') (o : Obj) (h0 : Nat) : RelH P (s.regrow l o h0) (hp.set l (.buf e n')) := by
  have hst := Step.regrow hr hl hn o h0
  refine ⟨fun k k' b hk hk' h1 h2 => ?_, fun k y hk => ?_, fun b hb => ?_⟩
  · simp only [St.regrow] at h1 h2
    simp at hk hk'
    by_cases e1 : k = l <;> by_cases e2 : k' = l
    · omega
    · simp only [e1, if_true] at h1
      simp only [e2, if_false] at h2
      injection h1 with h1
      have := hr.lt (by omega) h2
      omega
    · simp only [e1, if_false] at h1
      simp only [e2, if_true] at h2
      injection h2 with h2
      have := hr.lt (by omega) h1
      omega
    · simp only [e1, if_false] at h1
      simp only [e2, if_false] at h2
      exact hr.inj k k' b (by omega) (by omega) h1 h2
  · by_cases c : l = k
    · subst c
      simp [lt_of_get? hl] at hk
      subst hk
      intro b hb
      simp [St.regrow] at hb ⊢
      omega
    · rw [List.getElem?_set_ne c] at hk
      refine (hr.obj k y hk).step hst (by simp [St.regrow, Ne.symm c]) fun b hb => ?_
      have hlt := hr.lt (lt_of_get? hk) hb
      exact ⟨by simp [St.regrow]; omega, fun _ => ⟨hao s.w o b hlt, by simp [St.regrow, Nat.ne_of_lt hlt]⟩⟩
  · simp [St.regrow] at hb ⊢
    rw [if_neg (by omega)]
    exact hr.fresh b (by omega)
/-- The row goes on where it lies. -/
def St.extend (s : St) (g : Nat) (vs : Array Value) (h0 : Nat) : St := ⟨s.w.setRow g vs, fun b => if b = g then h0 else s.H b, s.π⟩
theorem Step.extend (hr : RelH P s hp) {l g : Nat} {e : TypeId} {n n' : Nat} (hl : hp[l]? = some (.buf e n)) (hn : n < n') (hg : s.π l = some g) {cur : Array Value} {t : TypeId} (hcur : s.w.heap[g]? = some (.cells cur t (0, 0))) (vs : Array Value) (h0 : Nat) (hH : s.H g ≤ h0)
    (hsame : ∀ k v, k < s.H g → cur[k]? = some v → vs[k]? = some v) : Step s hp (s.extend g vs h0) (hp.set l (.buf e n')) where
  os := rfl
  tape := rfl
  output := rfl
  size := by simp [St.extend]
  seal_ := ⟨fun b => by
    simp only [St.extend]
    split
    · rename_i h; subst h; exact hH
    · exact Nat.le_refl _, fun b off v ho hc => by
    by_cases c : b = g
    · subst c
      rw [cell_of_row s.w b off cur t (0, 0) hcur] at hc
      have h2 := setRow_heap s.w b cur vs t (0, 0) hcur
      show (s.w.setRow b vs).cell? _ = _
      rw [cell_of_row _ b off vs t (0, 0) h2]
      exact hsame off v ho hc
    · have := setRow_other s.w g b vs c
      simp only [World.cell?, St.extend] at hc ⊢
      rw [this]; exact hc⟩
  foreign := fun b hb hf => by
    have c : b ≠ g := by rintro rfl; exact hf l (lt_of_get? hl) hg
    exact ⟨setRow_other s.w g b vs c, by simp [St.extend, c]⟩
  from_ := fun k b hk hb => .inr ⟨k, by simpa using hk, hb⟩
  len := by simp
  buf := fun k e' m hk => by
    by_cases c : l = k
    · subst c
      rw [hl] at hk
      injection hk with hk
      injection hk with h1 h2
      subst h1 h2
      exact ⟨n', by simp [lt_of_get? hl], by omega, fun h => by omega⟩
    · refine ⟨m, by rw [List.getElem?_set_ne c]; exact hk, Nat.le_refl _, fun _ => ⟨rfl, fun b hb => ?_⟩⟩
      have c2 : b ≠ g := by rintro rfl; exact c (hr.inj l k b (lt_of_get? hl) (lt_of_get? hk) hg hb)
      exact ⟨setRow_other s.w g b vs c2, by simp [St.extend, c2]⟩
  obj := fun k o' hk ho => by
    have c : l ≠ k := by rintro rfl; rw [hl] at hk; injection hk with hk; subst hk; simp [AObj.isBuf] at ho
    exact ⟨⟨o', by rw [List.getElem?_set_ne c]; exact hk, ho⟩, rfl⟩
theorem RelH.extend (hr : RelH P s hp) {l g : Nat} {e : TypeId} {n n' : Nat} (hl : hp[l]? = some (.buf e n)) (hn : n < n') (hg : s.π l = some g) {cur : Array Value} {t : TypeId} (hcur : s.w.heap[g]? = some (.cells cur t (0, 0))) (vs : Array Value) (h0 : Nat) (hH : s.H g ≤ h0)
    (hsame : ∀ k v, k < s.H g → cur[k]? = some v → vs[k]? = some v) : RelH P (s.extend g vs h0) (hp.set l (.buf e n')) := by
  have hst := Step.extend hr hl hn hg hcur vs h0 hH hsame
  have hgl := hr.lt (lt_of_get? hl) hg
  refine ⟨fun k k' b hk hk' h1 h2 => hr.inj k k' b (by simpa using hk) (by simpa using hk') h1 h2, fun k y hk => ?_, fun b hb => ?_⟩
  · by_cases c : l = k
    · subst c
      simp [lt_of_get? hl] at hk
      subst hk
      intro b hb
      simp only [St.extend] at hb ⊢
      simpa using hr.lt (lt_of_get? hl) hb
    · rw [List.getElem?_set_ne c] at hk
      refine (hr.obj k y hk).step hst rfl fun b hb => ?_
      have hlt := hr.lt (lt_of_get? hk) hb
      have c2 : b ≠ g := by rintro rfl; exact c (hr.inj l k b (lt_of_get? hl) (lt_of_get? hk) hg hb)
      exact ⟨by simpa [St.extend] using hlt, fun _ => ⟨setRow_other s.w g b vs c2, by simp [St.extend, c2]⟩⟩
  · simp [St.extend] at hb ⊢
    rw [if_neg (by omega)]
    exact hr.fresh b hb
end
end Go.Pg
set_option linter.unusedVariables false
namespace Go.Pg
/-- A list of cells reads as these rows. -/
def RowsL (P : Program) (w : World) (H : Nat → Nat) (sz : Nat) (rows : List (List AV)) (L : List Value) : Prop :=
  L.length = rows.length * sz ∧ ∀ i (hi : i < rows.length), rows[i].length = sz ∧ ∀ j (hj : j < rows[i].length), ∃ u, L[i * sz + j]? = some u ∧ u.oneCell' = true ∧ RepA P w H rows[i][j] u
section
variable {P : Program} {w : World} {H : Nat → Nat} {sz : Nat}
theorem RowsL.append {rows rows' : List (List AV)} {L L' : List Value} (h : RowsL P w H sz rows L) (h' : RowsL P w H sz rows' L') : RowsL P w H sz (rows ++ rows') (L ++ L') := by
  obtain ⟨a1, a2⟩ := h
  obtain ⟨b1, b2⟩ := h'
  refine ⟨by simp [a1, b1, Nat.add_mul], fun i hi => ?_⟩
  by_cases c : i < rows.length
  · obtain ⟨k1, k2⟩ := a2 i c
    simp only [List.getElem_append_left c]
    refine ⟨k1, fun j hj => ?_⟩
    obtain ⟨u, k3, k4⟩ := k2 j hj
    refine ⟨u, ?_, k4⟩
    rw [List.getElem?_append_left (lt_of_get? k3)]
    exact k3
  · have hi2 : i - rows.length < rows'.length := by simp at hi; omega
    obtain ⟨k1, k2⟩ := b2 _ hi2
    simp only [List.getElem_append_right (Nat.le_of_not_lt c)]
    refine ⟨k1, fun j hj => ?_⟩
    obtain ⟨u, k3, k4⟩ := k2 j hj
    refine ⟨u, ?_, k4⟩
    have e : i * sz = rows.length * sz + (i - rows.length) * sz := by rw [← Nat.add_mul]; congr 1; omega
    rw [List.getElem?_append_right (by omega), ← k3]
    congr 1
    omega
theorem RowsL.mono {w' : World} {H' : Nat → Nat} (hs : Seal w H w' H') {rows : List (List AV)} {L : List Value} (h : RowsL P w H sz rows L) : RowsL P w' H' sz rows L :=
  ⟨h.1, fun i hi => ⟨(h.2 i hi).1, fun j hj => by obtain ⟨u, k1, k2, k3⟩ := (h.2 i hi).2 j hj; exact ⟨u, k1, k2, k3.mono hs⟩⟩⟩
theorem RowsL.one {rows : List (List AV)} {L : List Value} (h : RowsL P w H sz rows L) : ∀ u ∈ L, u.oneCell' = true := by
  intro u hu
  obtain ⟨k, hk, rfl⟩ := List.getElem_of_mem hu
  have hk2 := hk
  rw [h.1] at hk2
  have hs : 0 < sz := by rcases Nat.eq_zero_or_pos sz with e | e; (rw [e] at hk2; simp at hk2); exact e
  have hi : k / sz < rows.length := (Nat.div_lt_iff_lt_mul hs).2 hk2
  obtain ⟨k1, k2⟩ := h.2 _ hi
  obtain ⟨u, k3, k4, _⟩ := k2 (k % sz) (by rw [k1]; exact Nat.mod_lt _ hs)
  have e : k / sz * sz + k % sz = k := by rw [Nat.mul_comm]; exact Nat.div_add_mod k sz
  rw [e, List.getElem?_eq_getElem hk] at k3
  injection k3 with k3
  rw [k3]; exact k4
theorem rowsL_of {e : TypeId} {rows : List (List AV)} {b off n c : Nat} (hes : esize P e = sz) (hs : 0 < sz) (h : RepA P w H (.sl e rows) (.slice (some ⟨b, off, none⟩) n c)) :
    ∃ L, RowsL P w H sz rows L ∧ ∀ k u, L[k]? = some u → w.cell? ⟨b, off + k, none⟩ = some u ∧ off + k < H b := by
  cases h with
  | sl0 => exact ⟨[], ⟨by simp, fun i hi => by simp at hi⟩, fun k u hk => by simp at hk⟩
  | sl _ _ _ _ _ _ cell hn hc hb hcm hw hr hH h1 h =>
    subst hes
    refine ⟨(List.range (rows.length * esize P e)).map fun k => cell (k / esize P e) (k % esize P e), ⟨by simp, fun i hi => ⟨hw i hi, fun j hj => ?_⟩⟩, fun k u hk => ?_⟩
    · have hj2 : j < esize P e := by rw [← hw i hi]; exact hj
      have hlt : i * esize P e + j < rows.length * esize P e := by
        have : i * esize P e + esize P e ≤ rows.length * esize P e := by rw [← Nat.succ_mul]; exact Nat.mul_le_mul_right _ hi
        omega
      have e1 : (i * esize P e + j) / esize P e = i := by
        rw [Nat.mul_comm, Nat.mul_add_div hs, Nat.div_eq_of_lt hj2]; rfl
      have e2 : (i * esize P e + j) % esize P e = j := by
        rw [Nat.mul_comm, Nat.mul_add_mod, Nat.mod_eq_of_lt hj2]
      exact ⟨cell i j, by simp [hlt, e1, e2], h1 i hi j hj, h i hi j hj⟩
    · have hlt := lt_of_get? hk
      simp at hlt
      simp [hlt] at hk
      subst hk
      have hi : k / esize P e < rows.length := (Nat.div_lt_iff_lt_mul hs).2 hlt
      have hj : k % esize P e < rows[k / esize P e].length := by rw [hw _ hi]; exact Nat.mod_lt _ hs
      have q1 := hr _ hi _ hj
      have q2 := hH _ hi _ hj
      have e : k / esize P e * esize P e + k % esize P e = k := by rw [Nat.mul_comm]; exact Nat.div_add_mod k _
      rw [e] at q1 q2
      exact ⟨q1, q2⟩
theorem rep_rowsL {e g n cap : Nat} {t : TypeId} {rows : List (List AV)} {L : List Value} {cur : Array Value} (hes : esize P e = sz) (h : RowsL P w H sz rows L) (hn : rows.length = n) (hb : w.heap[g]? = some (.cells cur t (0, 0))) (hcur : cur.toList.take (n * sz) = L) (hH : H g = n * sz)
    (hc : n ≤ cap) (hcm : cap ≤ maxLen) (hroom : n * ebytes P e ≤ roomB) : RepA P w H (.sl e rows) (.slice (some ⟨g, 0, none⟩) n cap) := by
  subst hes hn
  have hget : ∀ i (hi : i < rows.length) j (hj : j < rows[i].length), ∃ u, cur[i * esize P e + j]? = some u ∧ i * esize P e + j < rows.length * esize P e ∧ u.oneCell' = true ∧ RepA P w H rows[i][j] u := by
    intro i hi j hj
    obtain ⟨u, k1, k2, k3⟩ := (h.2 i hi).2 j hj
    have hlt := lt_of_get? k1
    rw [h.1] at hlt
    refine ⟨u, ?_, hlt, k2, k3⟩
    rw [← hcur, List.getElem?_take, if_pos hlt] at k1
    simpa using k1
  refine .sl e rows g 0 _ cap (fun i j => (cur[i * esize P e + j]?).getD undef) rfl hc hroom hcm (fun i hi => (h.2 i hi).1) (fun i hi j hj => ?_) (fun i hi j hj => ?_) (fun i hi j hj => ?_) (fun i hi j hj => ?_)
  · obtain ⟨u, k1, k2, k3, k4⟩ := hget i hi j hj
    rw [Nat.zero_add, cell_of_row w g _ cur t (0, 0) hb, k1]; rfl
  · obtain ⟨u, k1, k2, k3, k4⟩ := hget i hi j hj
    rw [hH]; omega
  · obtain ⟨u, k1, k2, k3, k4⟩ := hget i hi j hj
    simpa [k1] using k3
  · obtain ⟨u, k1, k2, k3, k4⟩ := hget i hi j hj
    simpa [k1] using k4
end
section
variable {P : Program} {N : Nat} {s : St} {fr : Fr} {hp : AHeap} {a : Act} {o : Oper} {next : Act → World → Prop} {Q : Exit → Act → World → Prop}
variable {K : FV → AHeap → Prop} (hr : Rel P N s fr hp a) (hK : Gives P N s fr hp a o K next)
include hr hK
theorem ok_app {t e : TypeId} {ie : TypeInfo} {z : Value} {sz bytes : Nat} {x y : Operand} {x' y' : Arg} (ho : o.op = .call { callee := .builtin .append, args := #[x, y], argTypes := #[t, t] }) (ht : P.underlying t = some (.slice e)) (hi : P.info? e = some ie) (hz : ie.zero = some z)
    (hsz : ie.size = sz) (hby : ie.bytes = bytes) (hzs : z.cells.size = sz) (hs0 : 0 < sz) (hb0 : 0 < bytes) (hx : ArgOK P x x') (hy : ArgOK P y y') (h : rop P (.app e sz bytes x' y') fr hp K) : o.wp P a s.w next Q := by
  have hes : esize P e = sz := by simp [esize, hi, hsz]
  have heb : ebytes P e = bytes := by simp [ebytes, hi, hby]
  simp only [rop] at h
  split at h
  case h_2 => exact h.elim
  rename_i e2 news hnews
  obtain ⟨rfl, h⟩ := h
  have hA := rowsOf_eval hr hy hnews
  have hop : ∀ v w', (Builtin.append_ #[t, t] o.type #[a.eval x, a.eval y]).run P s.w = .ok v w' → (execOp a.eval o).run P s.w = .ok (.value v) w' := by
    intro v w' hrun
    unfold execOp
    simp only [ho, resolve, invoke, builtin, Sem.run_bind, Sem.run_pure, Result.andThen_ok, List.map_toArray, List.map_cons, List.map_nil, hrun]
  obtain ⟨A, c, hvy, hcy⟩ := (rows_bound hA).2
  have hbm : ∀ m : Nat, m * bytes ≤ roomB → (m : Int) ≤ 9223372036854775807 ∧ m * ie.bytes ≤ 281474976710656 ∧ m ≤ maxLen := by
    intro m hm
    have : m ≤ m * bytes := Nat.le_mul_of_pos_right _ hb0
    simp only [roomB] at hm
    rw [hby]
    simp only [maxLen]
    omega
  have h0 := hx N s fr hp a hr
  by_cases hm0 : news.length = 0
  · -- nothing
    have hnil : news = [] := List.eq_nil_of_length_eq_zero hm0
    subst hnil
    have hrun0 : ∀ B n cap, n ≤ cap → a.eval x = .slice B n cap → (execOp a.eval o).run P s.w = .ok (.value (.slice B n cap)) s.w := by
      intro B n cap hle hv
      refine hop _ _ ?_
      rw [hv, hvy]
      have hfc : ∀ w : World, (Builtin.firstCells sz 0 (.slice A 0 c)).run P w = .ok #[] w := by
        intro w
        cases A with
        | none => simp [Builtin.firstCells]
        | some A => simp [Builtin.firstCells, loadCells, loadCellsFrom]
      cases B <;> simp [Builtin.append_, run_underlying ht, sizeOf, typeInfo, hi, hsz, Builtin.lenOf, hle, hfc, storeCells]
    split at h
    · rename_i e1 rows l hown
      obtain ⟨rfl, hbuf, hroom, h⟩ := h
      rw [hown] at h0
      have h0' := h0
      generalize hv : a.eval x = v at h0
      cases h0 with
      | own _ _ _ _ n hrep hb hle tip =>
        obtain ⟨_, B, cap, rfl, hcap⟩ := rows_bound hrep
        have e1 : hp.set l (.buf e1 (rows.length + ([] : List (List AV)).length)) = hp := by
          apply List.ext_getElem?
          intro k
          by_cases ck : l = k
          · subst ck; rw [List.getElem?_set_self (lt_of_get? hbuf), hbuf]; rfl
          · rw [List.getElem?_set_ne ck]
        rw [e1, List.append_nil] at h
        refine wp_value (hrun0 B _ cap hcap hv) (hK _ _ s hp ?_ hr (.refl _ _) h)
        rw [hv] at h0'; exact h0'
    · rename_i e1 hown
      obtain ⟨rfl, hroom, h⟩ := h
      rw [hown] at h0
      generalize hv : a.eval x = v at h0
      cases h0
      have hst := Step.ghost hr.heap (.buf e1 0)
      refine wp_value (hrun0 none 0 0 (Nat.le_refl _) hv) (hK _ _ (s.ghost hp) _ ?_ (hr.step hst (hr.heap.ghost e1 0)) hst h)
      exact .own e1 [] hp.length _ 0 (.sl0 _ _ _) (by simp) (Nat.le_refl _) fun _ => .inl ⟨rfl, rfl, by simp [St.ghost]⟩
    · exact h.elim
  · -- something
    have hm : 0 < news.length := by omega
    rw [hvy] at hA
    obtain ⟨b, off, rfl⟩ : ∃ b off, A = some ⟨b, off, none⟩ := by
      cases hA with
      | sl0 => simp at hm
      | sl _ _ b off => exact ⟨b, off, rfl⟩
    obtain ⟨L, hL, hLc⟩ := rowsL_of hes hs0 hA
    have hLl : L.length = news.length * ie.size := by rw [hL.1, hsz]
    have hLcells : ∀ j u, L[j]? = some u → s.w.cell? ((⟨b, off, none⟩ : Addr).add j) = some u := fun j u hj => by rw [Addr.add_lit]; exact (hLc j u hj).1
    split at h
    · rename_i e1 rows l hown
      obtain ⟨rfl, hbuf, hroom, h⟩ := h
      obtain ⟨q1, q2, q3⟩ := hbm _ hroom
      rw [hown] at h0
      generalize hv : a.eval x = v at h0
      cases h0 with
      | own _ _ _ _ n hrep hb hle tip =>
        rw [hbuf] at hb; injection hb with hb; injection hb with _ hb; subst hb
        rcases tip rfl with ⟨t1, rfl, t3⟩ | ⟨g, cap, cur, rfl, t2, t3, t4, t5, t6, t7⟩
        · have hrows : rows = [] := List.eq_nil_of_length_eq_zero t1
          subst hrows
          simp only [List.length_nil, Nat.zero_add, List.nil_append] at h q1 q2 q3 hroom hbuf
          have hrun := run_append_nil (P := P) s.w t o.type e1 ie z ht hi hz ⟨b, off, none⟩ news.length c L hLl hLcells hm q1 q2
          rw [← hv, ← hvy] at hrun
          have hstd := Step.drew s hp
          have hrd := hr.heap.drew
          have hst := Step.regrow hrd hbuf (n' := news.length) hm (.cells (L.toArray ++ Builtin.zeroCells z.cells (grownCap s.w news.length 0 e1 - news.length)) e1) (news.length * sz)
          have hrl := hrd.regrow hbuf (n' := news.length) hm (.cells (L.toArray ++ Builtin.zeroCells z.cells (grownCap s.w news.length 0 e1 - news.length)) e1) (news.length * sz)
          have hge := grownCap_ge s.w news.length 0 e1
          have hcm := grownCap_le_maxLen s.w news.length 0 e1 q3
          have hall := hstd.trans hst
          refine wp_value (hop _ _ hrun) (hK _ _ (s.drew.regrow l _ (news.length * sz)) _ ?_ (hr.step hall hrl) hall h)
          have hblk : (s.drew.regrow l (.cells (L.toArray ++ Builtin.zeroCells z.cells (grownCap s.w news.length 0 e1 - news.length)) e1) (news.length * sz)).w.heap[s.w.heap.size]? = some (.cells (L.toArray ++ Builtin.zeroCells z.cells (grownCap s.w news.length 0 e1 - news.length)) e1 (0, 0)) := heap_alloc_new s.w.drew _
          have hHn : (s.drew.regrow l (.cells (L.toArray ++ Builtin.zeroCells z.cells (grownCap s.w news.length 0 e1 - news.length)) e1) (news.length * sz)).H s.w.heap.size = news.length * sz := by simp [St.regrow, St.drew]
          refine .own e1 news l _ news.length (rep_rowsL hes (hL.mono hall.seal_) rfl hblk ?_ hHn hge hcm (by rw [heb]; exact hroom)) (by simp [lt_of_get? hbuf]) (Nat.le_refl _) fun _ => .inr ⟨s.w.heap.size, _, _, rfl, by simp [St.regrow, St.drew], hblk, hge, hcm, ?_, by rw [hes]; exact hHn⟩
          · have : news.length * sz = L.length := by rw [hLl, hsz]
            rw [this]; simp
          · rw [hes]
            simp only [Array.size_append, List.size_toArray, hLl, hsz, size_zeroCells, hzs]
            rw [← Nat.add_mul]; congr 1; omega
        · rw [hes] at t6 t7
          obtain ⟨L0, hL0, hL0c⟩ := rowsL_of hes hs0 hrep
          have hL0l : L0.length = rows.length * sz := hL0.1
          have htake : cur.toList.take (rows.length * sz) = L0 := by
            apply List.ext_getElem?
            intro k
            rw [List.getElem?_take]
            split
            · rename_i hk
              have hk2 : k < L0.length := by omega
              have := (hL0c k L0[k] (List.getElem?_eq_getElem hk2)).1
              rw [Nat.zero_add, cell_of_row s.w g k cur e1 (0, 0) t3] at this
              rw [List.getElem?_eq_getElem hk2, ← this]
              simp
            · rename_i hk
              rw [List.getElem?_eq_none (by omega)]
          have happ := hL0.append hL
          have hnew : (rows ++ news).length = rows.length + news.length := List.length_append
          by_cases hfit : rows.length + news.length ≤ cap
          · have hlen : rows.length * ie.size + L.length ≤ cur.size := by
              rw [hLl, hsz, t6, ← Nat.add_mul]; exact Nat.mul_le_mul_right _ hfit
            have hrun := run_append_room (P := P) s.w t o.type e1 ie ht hi g rows.length cap cur t3 ⟨b, off, none⟩ news.length c L hLl hLcells hL.one hfit hlen
            rw [← hv, ← hvy] at hrun
            rw [hsz] at hrun hlen
            have hvs : (cur.toList.take (rows.length * sz) ++ L ++ cur.toList.drop (rows.length * sz + L.length)).toArray = (cur.toList.take (rows.length * sz) ++ L ++ cur.toList.drop (rows.length * sz + L.length)).toArray := rfl
            generalize hvsd : (cur.toList.take (rows.length * sz) ++ L ++ cur.toList.drop (rows.length * sz + L.length)).toArray = vs at hrun
            have hvsl : vs.toList = L0 ++ L ++ cur.toList.drop (rows.length * sz + L.length) := by rw [← hvsd, htake]
            have hsame : ∀ k v, k < s.H g → cur[k]? = some v → vs[k]? = some v := by
              intro k v hk hc
              rw [t7] at hk
              rw [← Array.getElem?_toList, hvsl, ← htake, List.append_assoc, List.getElem?_append_left (by simp; have := (Array.getElem?_eq_some_iff.1 hc).1; omega), List.getElem?_take, if_pos hk]
              simpa using hc
            have hHle : s.H g ≤ (rows.length + news.length) * sz := by rw [t7]; exact Nat.mul_le_mul_right _ (by omega)
            have hst := Step.extend hr.heap hbuf (n' := rows.length + news.length) (by omega) t2 t3 vs ((rows.length + news.length) * sz) hHle hsame
            have hrl := hr.heap.extend hbuf (n' := rows.length + news.length) (by omega) t2 t3 vs ((rows.length + news.length) * sz) hHle hsame
            refine wp_value (hop _ _ hrun) (hK _ _ (s.extend g vs ((rows.length + news.length) * sz)) _ ?_ (hr.step hst hrl) hst h)
            have hblk : (s.extend g vs ((rows.length + news.length) * sz)).w.heap[g]? = some (.cells vs e1 (0, 0)) := setRow_heap s.w g cur vs e1 (0, 0) t3
            have hHn : (s.extend g vs ((rows.length + news.length) * sz)).H g = (rows.length + news.length) * sz := by simp [St.extend]
            refine .own e1 (rows ++ news) l _ _ (rep_rowsL hes (happ.mono hst.seal_) hnew hblk ?_ hHn hfit t5 (by rw [heb]; exact hroom)) (by simp [lt_of_get? hbuf]) (by omega) fun _ => .inr ⟨g, cap, vs, rfl, t2, hblk, hfit, t5, ?_, by rw [hes]; exact hHn⟩
            · have e3 : (rows.length + news.length) * sz = (L0 ++ L).length := by rw [List.length_append, hL0l, hLl, hsz, Nat.add_mul]
              rw [e3, hvsl]; exact List.take_left
            · rw [hes, ← Array.length_toList, hvsl]
              simp only [List.length_append, List.length_drop, Array.length_toList, hL0l, t6]
              rw [t6] at hlen
              omega
          · have hrun := run_append_grow (P := P) s.w t o.type e1 ie z ht hi hz ⟨g, 0, none⟩ rows.length cap L0 (by rw [hL0l, hsz]) (fun j u hj => by rw [Addr.add_lit]; exact (hL0c j u hj).1) ⟨b, off, none⟩ news.length c L hLl hLcells (by omega) (by omega) (growslice_fits (by omega) (by rw [hby]; exact hroom))
            rw [← hv, ← hvy] at hrun
            have hstd := Step.drew s hp
            have hrd := hr.heap.drew
            generalize hcells : (L0.toArray ++ L.toArray ++ Builtin.zeroCells z.cells (grownCap s.w (rows.length + news.length) cap e1 - (rows.length + news.length))) = cells at hrun
            have hst := Step.regrow hrd hbuf (n' := rows.length + news.length) (by omega) (.cells cells e1) ((rows.length + news.length) * sz)
            have hrl := hrd.regrow hbuf (n' := rows.length + news.length) (by omega) (.cells cells e1) ((rows.length + news.length) * sz)
            have hge := grownCap_ge s.w (rows.length + news.length) cap e1
            have hcm := grownCap_le_maxLen s.w (rows.length + news.length) cap e1 q3
            have hall := hstd.trans hst
            refine wp_value (hop _ _ hrun) (hK _ _ (s.drew.regrow l (.cells cells e1) ((rows.length + news.length) * sz)) _ ?_ (hr.step hall hrl) hall h)
            have hblk : (s.drew.regrow l (.cells cells e1) ((rows.length + news.length) * sz)).w.heap[s.w.heap.size]? = some (.cells cells e1 (0, 0)) := heap_alloc_new s.w.drew _
            have hHn : (s.drew.regrow l (.cells cells e1) ((rows.length + news.length) * sz)).H s.w.heap.size = (rows.length + news.length) * sz := by simp [St.regrow, St.drew]
            refine .own e1 (rows ++ news) l _ _ (rep_rowsL hes (happ.mono hall.seal_) hnew hblk ?_ hHn hge hcm (by rw [heb]; exact hroom)) (by simp [lt_of_get? hbuf]) (by omega) fun _ => .inr ⟨s.w.heap.size, _, cells, rfl, by simp [St.regrow, St.drew], hblk, hge, hcm, ?_, by rw [hes]; exact hHn⟩
            · have e3 : (rows.length + news.length) * sz = (L0 ++ L).length := by rw [List.length_append, hL0l, hLl, hsz, Nat.add_mul]
              rw [e3, ← hcells]; simp only [Array.toList_append]; exact List.take_left
            · rw [hes, ← hcells]
              simp only [Array.size_append, List.size_toArray, hL0l, hLl, hsz, size_zeroCells, hzs]
              rw [← Nat.add_mul, ← Nat.add_mul]; congr 1; omega
    · rename_i e1 hown
      obtain ⟨rfl, hroom, h⟩ := h
      obtain ⟨q1, q2, q3⟩ := hbm _ hroom
      rw [hown] at h0
      generalize hv : a.eval x = v at h0
      cases h0
      have hrun := run_append_nil (P := P) s.w t o.type e1 ie z ht hi hz ⟨b, off, none⟩ news.length c L hLl hLcells hm q1 q2
      rw [← hv, ← hvy] at hrun
      have hstd := Step.drew s hp
      have hrd := hr.heap.drew
      generalize hcells : (L.toArray ++ Builtin.zeroCells z.cells (grownCap s.w news.length 0 e1 - news.length)) = cells at hrun
      have hst := Step.push hrd (.cells cells e1) (news.length * sz) (.buf e1 news.length)
      have hrl := hrd.push (.cells cells e1) (news.length * sz) (.buf e1 news.length) (fun b hb => by simp [St.push] at hb ⊢; omega)
      have hge := grownCap_ge s.w news.length 0 e1
      have hcm := grownCap_le_maxLen s.w news.length 0 e1 q3
      have hall := hstd.trans hst
      refine wp_value (hop _ _ hrun) (hK _ _ (s.drew.push hp (.cells cells e1) (news.length * sz)) _ ?_ (hr.step hall hrl) hall h)
      have hblk : (s.drew.push hp (.cells cells e1) (news.length * sz)).w.heap[s.w.heap.size]? = some (.cells cells e1 (0, 0)) := heap_alloc_new s.w.drew _
      have hHn : (s.drew.push hp (.cells cells e1) (news.length * sz)).H s.w.heap.size = news.length * sz := by simp [St.push, St.drew]
      refine .own e1 news hp.length _ news.length (rep_rowsL hes (hL.mono hall.seal_) rfl hblk ?_ hHn hge hcm (by rw [heb]; exact hroom)) (by simp) (Nat.le_refl _) fun _ => .inr ⟨s.w.heap.size, _, cells, rfl, by simp [St.push, St.drew], hblk, hge, hcm, ?_, by rw [hes]; exact hHn⟩
      · have : news.length * sz = L.length := by rw [hLl, hsz]
        rw [this, ← hcells]; simp
      · rw [hes, ← hcells]
        simp only [Array.size_append, List.size_toArray, hLl, hsz, size_zeroCells, hzs]
        rw [← Nat.add_mul]; congr 1; omega
    · exact h.elim
end
end Go.Pg
set_option linter.unusedVariables false
namespace Go.Pg
section
variable {P : Program} {s : St} {hp : AHeap}
/-- One part laid into cells. -/
theorem fill_one {cs ys : List FV} {vs : Array Value} {v : Value} (h : Cells P s hp cs vs) (k : Cells P s hp ys v.cells) (off : Nat) (hle : off + ys.length ≤ cs.length) :
    Cells P s hp (splice cs off ys) (v.cells.zipIdx.foldl (fun cs (c, j) => cs.setIfInBounds (off + j) c) vs) := by
  obtain ⟨g1, g2⟩ := Great.foldl_set off v.cells.toList 0 vs
  have e : v.cells.zipIdx.foldl (fun cs (c, j) => cs.setIfInBounds (off + j) c) vs = (v.cells.toList.zipIdx 0).foldl (fun cs (x : Value × Nat) => cs.setIfInBounds (off + x.2) x.1) vs := by
    rw [← Array.foldl_toList, Array.toList_zipIdx]
  have hsp := h.splice k off hle
  have e2 : v.cells.zipIdx.foldl (fun cs (c, j) => cs.setIfInBounds (off + j) c) vs = vs.extract 0 off ++ v.cells ++ vs.extract (off + v.cells.size) vs.size := by
    rw [e]
    have hk : v.cells.size = ys.length := k.1
    have hv : vs.size = cs.length := h.1
    apply Array.ext_getElem?
    intro i
    rw [g2 i]
    simp only [Nat.add_zero, Array.length_toList]
    by_cases c1 : i < off
    · rw [if_neg (by omega), Array.getElem?_append_left (by simp; omega), Array.getElem?_append_left (by simp; omega)]
      simp only [Array.getElem?_extract]
      rw [if_pos (by omega)]
      simp
    · by_cases c2 : i < off + v.cells.size
      · rw [if_pos ⟨by omega, by omega, by omega⟩, Array.getElem?_append_left (by simp; omega), Array.getElem?_append_right (by simp; omega)]
        simp only [Array.size_extract, Array.getElem?_toList]
        congr 1
        omega
      · rw [if_neg (by omega), Array.getElem?_append_right (by simp; omega)]
        simp only [Array.size_append, Array.size_extract, Array.getElem?_extract]
        by_cases c3 : i < vs.size
        · rw [if_pos (by omega)]
          congr 1
          omega
        · rw [if_neg (by omega), Array.getElem?_eq_none (by omega)]
  rw [e2]
  exact hsp
theorem fill_spec (place : Nat → Option (Nat × Nat)) : ∀ (xs : List (Nat × Value)) (ys : List (Nat × Nat × FV)) (cs out : List FV) (vs : Array Value), Cells P s hp cs vs → xs.length = ys.length →
    (∀ i (h1 : i < xs.length) (h2 : i < ys.length), place xs[i].1 = some (ys[i].1, ys[i].2.1) ∧ RepF P s hp ys[i].2.2 xs[i].2) → fillC cs ys = some out → ∃ us, Instr.fill place vs xs = some us ∧ Cells P s hp out us
  | [], [], cs, out, vs, hc, _, _, h => by simp [fillC] at h; subst h; exact ⟨vs, rfl, hc⟩
  | [], _ :: _, _, _, _, _, hl, _, _ => by simp at hl
  | _ :: _, [], _, _, _, _, hl, _, _ => by simp at hl
  | (i, v) :: xs, (off, sz, y) :: ys, cs, out, vs, hc, hl, hp', h => by
    obtain ⟨h1, h2⟩ := hp' 0 (by simp) (by simp)
    simp only [List.getElem_cons_zero] at h1 h2
    simp only [fillC] at h
    split at h
    · rename_i zs hzs
      split at h
      · rename_i hc2
        have hcz := h2.cells hzs
        obtain ⟨us, h3, h4⟩ := fill_spec place xs ys _ out _ (fill_one hc hcz off hc2.2) (by simpa using hl) (fun j j1 j2 => by have := hp' (j + 1) (by simpa using j1) (by simpa using j2); simp only [List.getElem_cons_succ] at this; exact this) h
        refine ⟨us, ?_, h4⟩
        unfold Instr.fill
        simp only [h1]
        have e1 : v.cells.size = sz := by rw [hcz.1]; exact hc2.1
        have e2 : off + v.cells.size ≤ vs.size := by rw [hc.1, hcz.1]; exact hc2.2
        rw [if_neg (by simp; omega)]
        exact h3
      · cases h
    · cases h
theorem run_mapM {α β : Type} (f : α → Sem β) (g : α → β) : ∀ (l : List α), (∀ x ∈ l, ∀ w : World, (f x).run P w = .ok (g x) w) → ∀ w : World, (l.mapM f).run P w = .ok (l.map g) w
  | [], _, w => rfl
  | x :: l, h, w => by
    have h1 := h x (by simp) w
    have h2 := run_mapM f g l (fun y hy => h y (by simp [hy])) w
    simp only [List.mapM_cons, Sem.run_bind, h1, Result.andThen_ok, h2, Sem.run_pure, List.map_cons]
theorem run_mapMA {α β : Type} (f : α → Sem β) (g : α → β) (l : Array α) (h : ∀ x ∈ l.toList, ∀ w : World, (f x).run P w = .ok (g x) w) (w : World) : (l.mapM f).run P w = .ok (l.map g) w := by
  rw [Array.mapM_eq_mapM_toList]
  have := run_mapM (P := P) f g l.toList h w
  simp [this]
  apply Array.toList_inj.1
  simp
end
section
variable {P : Program} {N : Nat} {s : St} {fr : Fr} {hp : AHeap} {a : Act} {o : Oper} {next : Act → World → Prop} {Q : Exit → Act → World → Prop}
variable {K : FV → AHeap → Prop} (hr : Rel P N s fr hp a) (hK : Gives P N s fr hp a o K next)
include hr hK
theorem ok_build {t : TypeId} {fs : Array Field} {zs : List FV} {xs : List (Nat × Operand)} {ys : List (Nat × Nat × Arg)} (ho : o.op = .build t xs.toArray) (ht : P.underlying t = some (.struct fs)) (hz : ZeroOK P t zs) (hfs : ∀ f ∈ fs.toList, (P.info? f.type).isSome = true)
    (hl : xs.length = ys.length) (hy : ∀ i (h1 : i < xs.length) (h2 : i < ys.length), (fs[xs[i].1]?).map (fun f => (f.offset, esize P f.type)) = some (ys[i].1, ys[i].2.1) ∧ ArgOK P xs[i].2 ys[i].2.2) (h : rop P (.build zs ys) fr hp K) : o.wp P a s.w next Q := by
  obtain ⟨iz, z, hiz, hzz, hc0⟩ := hz
  simp only [rop] at h
  split at h
  · rename_i out hout
    obtain ⟨us, h1, h2⟩ := fill_spec (P := P) (s := s) (hp := hp) ((fs.map fun f => (f.offset, esize P f.type))[·]?) (xs.map fun x => (x.1, a.eval x.2)) (ys.map fun (o, sz, x) => (o, sz, ev fr x)) zs out z.cells (hc0 s hp) (by simpa using hl) (fun i h1 h2 => by
      obtain ⟨k1, k2⟩ := hy i (by simpa using h1) (by simpa using h2)
      simp only [List.getElem_map, Array.getElem?_map]
      exact ⟨k1, k2 N s fr hp a hr⟩) hout
    refine wp_value (v := .agg us) (w' := s.w) ?_ (hK _ _ s hp (RepF.mkAgg h2) hr (.refl _ _) h)
    have hpl2 := run_mapMA (P := P) (fun f : Field => (do pure (f.offset, ← sizeOf f.type) : Sem (Nat × Nat))) (fun f => (f.offset, esize P f.type)) fs (fun f hf w => by
      obtain ⟨i, hi⟩ := Option.isSome_iff_exists.1 (hfs f hf)
      simp [sizeOf, typeInfo, hi, esize]) s.w
    have hzv : ∀ w : World, (zeroValue t).run P w = .ok z w := fun w => by simp [zeroValue, typeInfo, hiz, hzz]
    have e : (List.map (fun x => (x.1, a.eval x.2)) xs) = (xs.toArray.map fun (i, x) => (i, a.eval x)).toList := by simp
    rw [e] at h1
    simp only [execOp, ho, Instr.build, Sem.run_bind, hzv, Result.andThen_ok, run_underlying ht, hpl2, h1, Sem.run_pure]
  · exact h.elim
end
end Go.Pg
