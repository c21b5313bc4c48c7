/- Part F3 of the proof: the laws and contracts that the last text joins. Own work; no condition of its own. -/
import Derived.Test.YtfdkncmlnfenjaaGreatDoorF2
set_option linter.all false
set_option linter.unusedVariables false
namespace Go.Pg
def plainE (e : Edge) : Bool := match e.ground with | .textOnly _ | .gcOnly _ => false | _ => true
/-- x stands ahead of i, whatever is drawn. -/
inductive Anc (ops : Array Oper) : Nat → Nat → Prop
  | one {i : Nat} {o : Oper} {e : Edge} (h : ops[i]? = some o) (he : e ∈ o.after) (hp : plainE e = true) : Anc ops e.on i
  | step {x j i : Nat} {o : Oper} {e : Edge} (h : ops[i]? = some o) (he : e ∈ o.after) (hp : plainE e = true) (hj : e.on = j) (hx : Anc ops x j) : Anc ops x i
theorem binds_plain (m : Region.Mode) {e : Edge} (h : plainE e = true) : Region.binds m e = true := by
  unfold plainE at h
  unfold Region.binds
  split at h
  · cases h
  · cases h
  · rename_i h1 h2
    split <;> first | rfl | (rename_i r hr; first | exact absurd hr (h1 r) | exact absurd hr (h2 r))
theorem filter_lt {α : Type} {p q : α → Bool} (h : ∀ x, q x = true → p x = true) : ∀ {l : List α} {x : α}, x ∈ l → p x = true → q x = false → (l.filter q).length < (l.filter p).length
  | [], x, hx, _, _ => by simp at hx
  | y :: l, x, hx, hp, hq => by
    have mono : ∀ l : List α, (l.filter q).length ≤ (l.filter p).length := by
      intro l
      induction l with
      | nil => simp
      | cons z l ih =>
        simp only [List.filter_cons]
        by_cases hz : q z = true
        · simp [hz, h z hz, ih]
        · by_cases hz2 : p z = true
          · simp [hz, hz2]; omega
          · simp [hz, hz2, ih]
    simp only [List.filter_cons]
    rcases List.mem_cons.1 hx with rfl | hx
    · simp [hp, hq]
      have := mono l
      omega
    · have ih := filter_lt h hx hp hq
      by_cases hz : q y = true
      · simp [hz, h y hz, ih]
      · by_cases hz2 : p y = true
        · simp [hz, hz2]; omega
        · simp [hz, hz2, ih]
section
variable {ops : Array Oper} {m : Region.Mode}
structure Listed (ops : Array Oper) (listed : Array Bool) (acc : List Nat) : Prop where
  size : listed.size = ops.size
  mem : ∀ j, j < ops.size → (listed.getD j false = true ↔ j ∈ acc)
  nodup : acc.Nodup
  lt : ∀ j ∈ acc, j < ops.size
  pair : acc.Pairwise fun x i => ¬ Anc ops x i
  closed : ∀ j ∈ acc, ∀ x, Anc ops x j → x ∈ acc
theorem lin_go (rank : Nat → Nat) (hrank : ∀ i o e, ops[i]? = some o → e ∈ o.after → Region.binds m e = true → e.on < ops.size ∧ rank e.on < rank i) :
    ∀ (fuel t : Nat) (listed : Array Bool) (acc : List Nat), Listed ops listed acc → ((List.range ops.size).filter fun i => !acc.contains i).length ≤ fuel →
      ∃ l, Region.linearise.go m ops fuel t listed acc = l ∧ l.Nodup ∧ (∀ i, i ∈ l ↔ i < ops.size) ∧ l.Pairwise fun i x => ¬ Anc ops x i := by
  have done : ∀ (listed : Array Bool) (acc : List Nat), Listed ops listed acc → (∀ i, i < ops.size → i ∈ acc) → acc.reverse.Nodup ∧ (∀ i, i ∈ acc.reverse ↔ i < ops.size) ∧ acc.reverse.Pairwise fun i x => ¬ Anc ops x i := by
    intro listed acc hl hall
    refine ⟨List.pairwise_reverse.2 (List.Pairwise.imp (fun h => Ne.symm h) hl.nodup), fun i => ⟨fun h => hl.lt i (by simpa using h), fun h => by simpa using hall i h⟩, ?_⟩
    exact List.pairwise_reverse.2 hl.pair
  intro fuel
  induction fuel with
  | zero =>
    intro t listed acc hl hc
    have hall : ∀ i, i < ops.size → i ∈ acc := by
      intro i hi
      have h0 : ((List.range ops.size).filter fun i => !acc.contains i) = [] := List.eq_nil_of_length_eq_zero (by omega)
      have := List.filter_eq_nil_iff.1 h0 i (by simpa using hi)
      simpa using this
    exact ⟨_, rfl, done listed acc hl hall⟩
  | succ fuel ih =>
    intro t listed acc hl hc
    simp only [Region.linearise.go]
    generalize hrs : ((List.range ops.size).filter fun i => !listed.getD i true && ((ops[i]?).map (·.after.all fun e => !Region.binds m e || listed.getD e.on false)).getD false) = rs
    have hgd : ∀ i, i < ops.size → listed.getD i true = listed.getD i false := by
      intro i hi
      have : i < listed.size := by rw [hl.size]; exact hi
      simp [Array.getD, this]
    have hready : ∀ i, i ∈ rs ↔ i < ops.size ∧ i ∉ acc ∧ ∃ o, ops[i]? = some o ∧ ∀ e ∈ o.after, Region.binds m e = true → listed.getD e.on false = true := by
      intro i
      rw [← hrs]
      simp only [List.mem_filter, List.mem_range, Bool.and_eq_true, Bool.not_eq_true']
      constructor
      · rintro ⟨h1, h2, h3⟩
        refine ⟨h1, fun hm => ?_, ?_⟩
        · rw [hgd i h1, (hl.mem i h1).2 hm] at h2; cases h2
        · rw [Array.getElem?_eq_getElem h1] at h3
          refine ⟨_, Array.getElem?_eq_getElem h1, fun e he hb => ?_⟩
          simp only [Option.map_some, Option.getD_some] at h3
          have := Array.all_eq_true'.1 h3 e he
          simpa [hb] using this
      · rintro ⟨h1, h2, o, ho, h3⟩
        refine ⟨h1, ?_, ?_⟩
        · rw [hgd i h1]
          cases hx : listed.getD i false with
          | true => exact absurd ((hl.mem i h1).1 hx) h2
          | false => rfl
        · rw [ho]
          simp only [Option.map_some, Option.getD_some]
          refine Array.all_eq_true'.2 fun e he => ?_
          cases hb : Region.binds m e with
          | true => simp only [Bool.not_true, Bool.false_or]; exact h3 e he hb
          | false => simp
    by_cases hrs0 : rs = []
    · have hall : ∀ i, i < ops.size → i ∈ acc := by
        have key : ∀ k i, rank i = k → i < ops.size → i ∈ acc := by
          intro k
          induction k using Nat.strongRecOn with
          | _ k ihk =>
            intro i hk hi
            by_cases hm : i ∈ acc
            · exact hm
            · exfalso
              have : i ∈ rs := (hready i).2 ⟨hi, hm, _, Array.getElem?_eq_getElem hi, fun e he hb => by
                obtain ⟨q1, q2⟩ := hrank i _ e (Array.getElem?_eq_getElem hi) he hb
                exact (hl.mem e.on q1).2 (ihk (rank e.on) (by omega) e.on rfl q1)⟩
              rw [hrs0] at this
              simp at this
        exact fun i hi => key _ i rfl hi
      rw [hrs0]
      simp only [List.length_nil, Nat.mod_zero, List.getElem?_nil]
      exact ⟨_, rfl, done listed acc hl hall⟩
    · have hpos : 0 < rs.length := List.length_pos_iff.2 hrs0
      have hlt : t % rs.length < rs.length := Nat.mod_lt _ hpos
      rw [List.getElem?_eq_getElem hlt]
      simp only
      have hi := List.getElem_mem hlt
      generalize rs[t % rs.length] = i at hi
      obtain ⟨h1, h2, o, ho, h3⟩ := (hready i).1 hi
      have hdir : ∀ e ∈ o.after, plainE e = true → e.on ∈ acc := fun e he hp => by
        have hb := binds_plain m hp
        exact (hl.mem e.on (hrank i o e ho he hb).1).1 (h3 e he hb)
      have hancs : ∀ x, Anc ops x i → x ∈ acc := by
        intro x hx
        cases hx with
        | one h he hp => rw [ho] at h; injection h with h; subst h; exact hdir _ he hp
        | step h he hp hj hx => rw [ho] at h; injection h with h; subst h; subst hj; exact hl.closed _ (hdir _ he hp) _ hx
      refine ih _ _ _ ⟨by simpa using hl.size, fun j hj => ?_, List.nodup_cons.2 ⟨h2, hl.nodup⟩, fun j hj => ?_, List.pairwise_cons.2 ⟨fun j hj ha => h2 (hl.closed j hj i ha), hl.pair⟩, fun j hj x hx => ?_⟩ ?_
      · have hjl : j < listed.size := by rw [hl.size]; exact hj
        by_cases e : i = j
        · subst e
          simp [Array.getD, hjl]
        · have := hl.mem j hj
          simp only [List.mem_cons]
          rw [← this]
          simp [Array.getD, hjl, e, Ne.symm e]
      · rcases List.mem_cons.1 hj with e | e
        · subst e; exact h1
        · exact hl.lt j e
      · rcases List.mem_cons.1 hj with e | e
        · subst e; exact List.mem_cons_of_mem _ (hancs x hx)
        · exact List.mem_cons_of_mem _ (hl.closed j e x hx)
      · have := filter_lt (p := fun j => !acc.contains j) (q := fun j => !(i :: acc).contains j) (l := List.range ops.size) (x := i) (fun x hx => by simp at hx ⊢; exact hx.2) (by simpa using h1) (by simpa using h2) (by simp)
        omega
theorem lin_spec (rank : Nat → Nat) (hrank : ∀ i o e, ops[i]? = some o → e ∈ o.after → Region.binds m e = true → e.on < ops.size ∧ rank e.on < rank i) (t : Nat) :
    (Region.linearise m ops t).Nodup ∧ (∀ i, i ∈ Region.linearise m ops t ↔ i < ops.size) ∧ (Region.linearise m ops t).Pairwise fun i x => ¬ Anc ops x i := by
  obtain ⟨l, h1, h2⟩ := lin_go rank hrank ops.size t (Array.replicate ops.size false) [] ⟨by simp, fun j hj => by simp [Array.getD, hj], List.nodup_nil, fun j hj => by simp at hj, List.Pairwise.nil, fun j hj => by simp at hj⟩ (Nat.le_trans (List.length_filter_le _ _) (by simp))
  unfold Region.linearise
  rw [h1]
  exact h2
/-- Each binding edge leads down in rank. -/
def rankB (m : Region.Mode) (ops : List Oper) (n : Nat) (rk : List Nat) : Nat → Bool
  | i => match ops with
    | [] => true
    | o :: r => (o.after.toList.all fun e => !Region.binds m e || (decide (e.on < n) && decide (rk.getD e.on 0 < rk.getD i 0))) && rankB m r n rk (i + 1)
theorem rankB_ok {n : Nat} {rk : List Nat} : ∀ {l : List Oper} {k : Nat}, rankB m l n rk k = true → ∀ j o e, l[j]? = some o → e ∈ o.after → Region.binds m e = true → e.on < n ∧ rk.getD e.on 0 < rk.getD (k + j) 0
  | [], k, h, j, o, e, ho, _, _ => by simp at ho
  | p :: r, k, h, j, o, e, ho, he, hb => by
    simp only [rankB, Bool.and_eq_true] at h
    cases j with
    | zero =>
      simp at ho; subst ho
      have := List.all_eq_true.1 h.1 e (by simpa using he)
      simp [hb] at this
      simpa using this
    | succ j =>
      have := rankB_ok h.2 j o e (by simpa using ho) he hb
      rw [show k + (j + 1) = k + 1 + j by omega]
      exact this
/-- What stands ahead of each, as bits. -/
def ancBits : List Oper → List Nat → List Nat
  | [], acc => acc
  | o :: r, acc => ancBits r (acc ++ [o.after.toList.foldl (fun b e => if plainE e then b ||| 2 ^ e.on ||| acc.getD e.on 0 else b) 0])
theorem fold_bits {acc : List Nat} {x : Nat} : ∀ (es : List Edge) (b : Nat), (es.foldl (fun b e => if plainE e then b ||| 2 ^ e.on ||| acc.getD e.on 0 else b) b).testBit x = true → b.testBit x = true ∨ ∃ e ∈ es, plainE e = true ∧ (e.on = x ∨ (acc.getD e.on 0).testBit x = true)
  | [], b, h => .inl h
  | e :: es, b, h => by
    simp only [List.foldl_cons] at h
    rcases fold_bits es _ h with h | ⟨e', h1, h2⟩
    · split at h
      · rename_i hp
        simp only [Nat.testBit_or, Bool.or_eq_true, Nat.testBit_two_pow] at h
        rcases h with (h | h) | h
        · exact .inl h
        · exact .inr ⟨e, by simp, hp, .inl (by simpa using h)⟩
        · exact .inr ⟨e, by simp, hp, .inr h⟩
      · exact .inl h
    · exact .inr ⟨e', by simp [h1], h2⟩
theorem ancBits_ok : ∀ (l : List Oper) (acc : List Nat), (∀ j, l[j]? = ops[acc.length + j]?) → (∀ i b, acc[i]? = some b → ∀ x, b.testBit x = true → Anc ops x i) → ∀ i b, (ancBits l acc)[i]? = some b → ∀ x, b.testBit x = true → Anc ops x i
  | [], acc, _, h => h
  | o :: r, acc, hl, h => by
    refine ancBits_ok r _ (fun j => ?_) (fun i b hi x hx => ?_)
    · have := hl (j + 1)
      simp only [List.length_append, List.length_singleton]
      rw [show acc.length + 1 + j = acc.length + (j + 1) by omega, ← this]
      simp
    · by_cases c : i < acc.length
      · rw [List.getElem?_append_left c] at hi
        exact h i b hi x hx
      · have hi2 : i = acc.length := by
          have := lt_of_get? hi
          simp at this; omega
        subst hi2
        rw [List.getElem?_append_right (Nat.le_refl _)] at hi
        simp only [Nat.sub_self, List.getElem?_cons_zero, Option.some.injEq] at hi
        subst hi
        have ho : ops[acc.length]? = some o := by have := hl 0; simpa using this.symm
        rcases fold_bits _ _ hx with h0 | ⟨e, he, hp, hx⟩
        · simp at h0
        · rcases hx with hx | hx
          · subst hx; exact .one ho (by simpa using he) hp
          · refine .step ho (by simpa using he) hp rfl (h e.on _ ?_ x hx)
            have : e.on < acc.length := by
              rcases Nat.lt_or_ge e.on acc.length with h | h
              · exact h
              · simp [List.getD, List.getElem?_eq_none h] at hx
            simp [List.getD, List.getElem?_eq_getElem this]
/-- Whatever isn't ordered may change places. -/
def commRow (bits : Nat) (o : ROper) : List ROper → Nat → Bool
  | [], _ => true
  | x :: r, k => (bits.testBit k || swapOK x o) && commRow bits o r (k + 1)
def commAll (bits : List Nat) (all : List ROper) : List ROper → Nat → Bool
  | [], _ => true
  | o :: r, i => commRow (bits.getD i 0) o (all.take i) 0 && commAll bits all r (i + 1)
theorem commRow_ok {bits : Nat} {o : ROper} : ∀ {l : List ROper} {k : Nat}, commRow bits o l k = true → ∀ j x, l[j]? = some x → bits.testBit (k + j) = true ∨ swapOK x o = true
  | [], _, _, j, x, hx => by simp at hx
  | y :: r, k, h, j, x, hx => by
    simp only [commRow, Bool.and_eq_true, Bool.or_eq_true] at h
    cases j with
    | zero => simp at hx; subst hx; simpa using h.1
    | succ j =>
      have := commRow_ok h.2 j x (by simpa using hx)
      rw [show k + (j + 1) = k + 1 + j by omega]
      exact this
theorem commAll_ok {bits : List Nat} {all : List ROper} : ∀ {l : List ROper} {k : Nat}, commAll bits all l k = true → ∀ j o, l[j]? = some o → ∀ i x, i < k + j → all[i]? = some x → (bits.getD (k + j) 0).testBit i = true ∨ swapOK x o = true
  | [], _, _, j, o, ho => by simp at ho
  | y :: r, k, h, j, o, ho => by
    simp only [commAll, Bool.and_eq_true] at h
    intro i x hi hx
    cases j with
    | zero =>
      simp at ho; subst ho
      have := commRow_ok h.1 i x (by rw [List.getElem?_take, if_pos (by omega)]; exact hx)
      simpa using this
    | succ j =>
      have := commAll_ok h.2 j o (by simpa using ho) i x (by omega) hx
      rw [show k + (j + 1) = k + 1 + j by omega]
      exact this
def posIn (l : List Nat) (n : Nat) : List Nat := (List.range n).map fun i => l.idxOf i
/-- The look at a region whose order is drawn. -/
def commB (ops : Array Oper) (rops : List ROper) : Bool :=
  rankB .any ops.toList ops.size (List.range ops.size) 0 && rankB .text ops.toList ops.size (List.range ops.size) 0 && rankB .gc ops.toList ops.size (posIn (Region.linearise .gc ops 0) ops.size) 0 &&
    commAll (ancBits ops.toList []) rops rops 0
theorem sched_spec' (h : (rankB .any ops.toList ops.size (List.range ops.size) 0 && rankB .text ops.toList ops.size (List.range ops.size) 0 && rankB .gc ops.toList ops.size (posIn (Region.linearise .gc ops 0) ops.size) 0) = true) (mixed : Bool) (t : Nat) :
    (Region.schedule mixed ops t).Nodup ∧ (∀ i, i ∈ Region.schedule mixed ops t ↔ i < ops.size) ∧ (Region.schedule mixed ops t).Pairwise fun i x => ¬ Anc ops x i := by
  simp only [Bool.and_eq_true] at h
  obtain ⟨⟨h1, h2⟩, h3⟩ := h
  have conv : ∀ {m : Region.Mode} {rk : List Nat}, rankB m ops.toList ops.size rk 0 = true → ∀ i o e, ops[i]? = some o → e ∈ o.after → Region.binds m e = true → e.on < ops.size ∧ (fun i => rk.getD i 0) e.on < (fun i => rk.getD i 0) i := by
    intro m rk h i o e ho he hb
    have := rankB_ok h i o e (by simpa using ho) he hb
    simpa using this
  unfold Region.schedule
  split
  · exact lin_spec (fun i => (List.range ops.size).getD i 0) (conv h1) t
  · split
    · exact lin_spec (fun i => (List.range ops.size).getD i 0) (conv h2) _
    · exact lin_spec (fun i => (posIn (Region.linearise .gc ops 0) ops.size).getD i 0) (conv h3) _
theorem sched_spec {rops : List ROper} (h : commB ops rops = true) (mixed : Bool) (t : Nat) :
    (Region.schedule mixed ops t).Nodup ∧ (∀ i, i ∈ Region.schedule mixed ops t ↔ i < ops.size) ∧ (Region.schedule mixed ops t).Pairwise fun i x => ¬ Anc ops x i := by
  simp only [commB, Bool.and_eq_true] at h
  exact sched_spec' (by simp only [Bool.and_eq_true]; exact h.1) mixed t
end
end Go.Pg
set_option linter.unusedVariables false
namespace Go.Pg
def firstOK (bits : List Nat) (rs : List ROper) (rem : List Nat) (c : Nat) : Bool :=
  match rs[c]? with
  | some oc => rem.all fun x => x == c || (bits.getD x 0).testBit c || (match rs[x]? with | some ox => swapOK oc ox | none => false)
  | none => false
def readyB (bits : List Nat) (rem : List Nat) (i : Nat) : Bool := rem.all fun x => x == i || !(bits.getD i 0).testBit x
/-- All orders that matter. -/
def ordsOf (bits : List Nat) (rs : List ROper) : Nat → List Nat → List (List Nat)
  | 0, rem => match rem with | [] => [[]] | _ :: _ => []
  | f + 1, rem => match rem with
    | [] => [[]]
    | x :: r => match (x :: r).find? (firstOK bits rs (x :: r)) with
      | some c => (ordsOf bits rs f ((x :: r).erase c)).map (c :: ·)
      | none => ((x :: r).filter (readyB bits (x :: r))).flatMap fun i => (ordsOf bits rs f ((x :: r).erase i)).map (i :: ·)
theorem ords_spec {bits : List Nat} {rs : List ROper} {An : Nat → Nat → Prop} (hbits : ∀ i x, (bits.getD i 0).testBit x = true → An x i) {A : Nat → Nat → Prop} {d : ROper} : ∀ (f : Nat) (rem l : List Nat), rem.length ≤ f → rem.Nodup → l.Nodup → (∀ i, i ∈ l ↔ i ∈ rem) → l.Pairwise A → l.Pairwise (fun i x => ¬ An x i) →
    ∃ T ∈ ordsOf bits rs f rem, T.Nodup ∧ (∀ i, i ∈ T ↔ i ∈ rem) ∧ T.Pairwise (fun x i => A x i ∨ swapOK (rs[x]?.getD d) (rs[i]?.getD d) = true)
  | f, [], l, _, _, _, _, _, _ => by
    refine ⟨[], ?_, List.nodup_nil, fun i => Iff.rfl, List.Pairwise.nil⟩
    cases f <;> simp [ordsOf]
  | 0, x :: r, l, h, _, _, _, _, _ => by simp at h
  | f + 1, x :: r, l, hf, hn, hln, hm, hA, hAn => by
    generalize hrem : x :: r = rem at hf hn hm
    have step : ∀ (c : Nat), c ∈ rem → ∃ T ∈ ordsOf bits rs f (rem.erase c), T.Nodup ∧ (∀ i, i ∈ T ↔ i ∈ rem.erase c) ∧ T.Pairwise (fun x i => A x i ∨ swapOK (rs[x]?.getD d) (rs[i]?.getD d) = true) := by
      intro c hc
      refine ords_spec hbits f (rem.erase c) (l.erase c) (by rw [List.length_erase_of_mem hc]; omega) (hn.erase c) (hln.erase c) (fun i => ?_) (hA.sublist List.erase_sublist) (hAn.sublist List.erase_sublist)
      rw [hln.mem_erase_iff, hn.mem_erase_iff, hm]
    have build : ∀ c, c ∈ rem → (∀ i, i ∈ rem → i ≠ c → A c i ∨ swapOK (rs[c]?.getD d) (rs[i]?.getD d) = true) → ∀ T, T.Nodup → (∀ i, i ∈ T ↔ i ∈ rem.erase c) → T.Pairwise (fun x i => A x i ∨ swapOK (rs[x]?.getD d) (rs[i]?.getD d) = true) →
        (c :: T).Nodup ∧ (∀ i, i ∈ c :: T ↔ i ∈ rem) ∧ (c :: T).Pairwise (fun x i => A x i ∨ swapOK (rs[x]?.getD d) (rs[i]?.getD d) = true) := by
      intro c hc hci T h1 h2 h3
      have hcT : c ∉ T := fun h => by
        have := (h2 c).1 h
        rw [hn.mem_erase_iff] at this
        exact this.1 rfl
      refine ⟨List.nodup_cons.2 ⟨hcT, h1⟩, fun i => ?_, List.pairwise_cons.2 ⟨fun i hi => ?_, h3⟩⟩
      · rw [List.mem_cons, h2, hn.mem_erase_iff]
        constructor
        · rintro (rfl | h)
          · exact hc
          · exact h.2
        · intro h
          by_cases e : i = c
          · exact .inl e
          · exact .inr ⟨e, h⟩
      · have := (h2 i).1 hi
        rw [hn.mem_erase_iff] at this
        exact hci i this.2 this.1
    have hord : ordsOf bits rs (f + 1) rem = match rem.find? (firstOK bits rs rem) with
      | some c => (ordsOf bits rs f (rem.erase c)).map (c :: ·)
      | none => (rem.filter (readyB bits rem)).flatMap fun i => (ordsOf bits rs f (rem.erase i)).map (i :: ·) := by
      subst hrem; rfl
    rw [hord]
    cases hp : rem.find? (firstOK bits rs rem) with
    | some c =>
      have hc := List.mem_of_find?_eq_some hp
      have hok := List.find?_some hp
      obtain ⟨T, t1, t2, t3, t4⟩ := step c hc
      refine ⟨c :: T, List.mem_map.2 ⟨T, t1, rfl⟩, build c hc (fun i hi hne => ?_) T t2 t3 t4⟩
      unfold firstOK at hok
      split at hok
      · rename_i oc hoc
        have := List.all_eq_true.1 hok i hi
        simp only [Bool.or_eq_true, beq_iff_eq] at this
        rcases this with (h | h) | h
        · exact absurd h hne
        · left
          have hci := hbits i c h
          obtain ⟨l1, l2, hl⟩ := List.append_of_mem ((hm c).2 hc)
          have hil := (hm i).2 hi
          rw [hl] at hil hA hAn
          rcases List.mem_append.1 hil with h1 | h1
          · exact absurd hci ((List.pairwise_append.1 hAn).2.2 i h1 c (by simp))
          · rcases List.mem_cons.1 h1 with h2 | h2
            · exact absurd h2 hne
            · exact (List.pairwise_cons.1 (List.pairwise_append.1 hA).2.1).1 i h2
        · right
          split at h
          · rename_i ox hox
            rw [hoc, hox]; exact h
          · cases h
      · cases hok
    | none =>
      cases l with
      | nil =>
        have := (hm x).2 (by rw [← hrem]; simp)
        simp at this
      | cons i l' =>
        have hi : i ∈ rem := (hm i).1 (by simp)
        have hrd : readyB bits rem i = true := by
          unfold readyB
          refine List.all_eq_true.2 fun y hy => ?_
          simp only [Bool.or_eq_true, Bool.not_eq_true', beq_iff_eq]
          rcases List.mem_cons.1 ((hm y).2 hy) with e | e
          · exact .inl e
          · right
            cases hb : (bits.getD i 0).testBit y with
            | false => rfl
            | true => exact absurd (hbits i y hb) ((List.pairwise_cons.1 hAn).1 y e)
        obtain ⟨T, t1, t2, t3, t4⟩ := step i hi
        refine ⟨i :: T, List.mem_flatMap.2 ⟨i, List.mem_filter.2 ⟨hi, hrd⟩, List.mem_map.2 ⟨T, t1, rfl⟩⟩, build i hi (fun j hj hne => ?_) T t2 t3 t4⟩
        rcases List.mem_cons.1 ((hm j).2 hj) with e | e
        · exact absurd e hne
        · exact .inl ((List.pairwise_cons.1 hA).1 j e)
section
variable {P : Program} {N : Nat} {mt : List Nat} {ops : Array Oper}
/-- In whatever order. -/
theorem run_any2 {Q : AExit → Fr → AHeap → Prop} (hQ : ∀ fr fr' hp, (∀ t, fr.get t = fr'.get t) → Q .normal fr hp → Q .normal fr' hp) {s0 : St} {hp0 : AHeap} {r : Nat → ROper} {A : Nat → Nat → Prop} :
    ∀ (l T : List Nat), l.Nodup → (∀ i, i ∈ l ↔ i ∈ T) → T.Nodup → T.Pairwise (fun x i => A x i ∨ swapOK (r x) (r i) = true) → l.Pairwise (fun i x => ¬ A x i) → (∀ i ∈ T, i < ops.size ∧ ResAt P mt N ops i (r i)) →
      ∀ (s : St) (fr : Fr) (hp : AHeap) (a : Act), Rel P N s fr hp a → Step s0 hp0 s hp → vcOps P (Q .normal) (T.map r) fr hp → wpOps P ops (Post P N s0 hp0 Q) l a s.w
  | [], T, _, hm, _, _, _, _, s, fr, hp, a, hr, hs, h => by
    have : T = [] := List.eq_nil_iff_forall_not_mem.2 fun i hi => by simpa using (hm i).2 hi
    subst this
    exact ⟨.normal, s, fr, hp, rfl, rfl, hr, hs, h⟩
  | i :: l, T, hn, hm, hTn, hT, hl, hres, s, fr, hp, a, hr, hs, h => by
    have hiT : i ∈ T := (hm i).1 (by simp)
    obtain ⟨T1, T2, rfl⟩ := split_mem hiT
    obtain ⟨hn1, hn2⟩ := List.nodup_cons.1 hn
    obtain ⟨hl1, hl2⟩ := List.pairwise_cons.1 hl
    have hsw : ∀ x ∈ T1, A x i ∨ swapOK (r x) (r i) = true := fun x hx => (List.pairwise_append.1 hT).2.2 x hx i (by simp)
    have hlt : ∀ x ∈ T1, x ≠ i := fun x hx => (List.pairwise_append.1 hTn).2.2 x hx i (by simp)
    have hgt : ∀ x ∈ T2, i ≠ x := fun x hx => (List.pairwise_cons.1 (List.pairwise_append.1 hTn).2.1).1 x hx
    have hin : ∀ x, x ∈ T1 → x ∈ l := fun x hx => by
      have := (hm x).2 (by simp [hx])
      rcases List.mem_cons.1 this with e | e
      · exact absurd e (hlt x hx)
      · exact e
    have hmv := move (mt := mt) (ops := ops) hQ (i := r i) (T2 := T2.map r) (T1.map r) fr hp s a hr (fun x hx => by
      obtain ⟨y, hy, rfl⟩ := List.mem_map.1 hx
      refine ⟨?_, y, (hres y (by simp [hy])).2⟩
      rcases hsw y hy with h | h
      · exact absurd h (hl1 y (hin y hy))
      · exact h) (by simpa using h)
    obtain ⟨o, ho, hop, hdst, hdN, hg⟩ := (hres i hiT).2
    have hm2 : ∀ j, j ∈ l ↔ j ∈ T1 ++ T2 := by
      intro j
      have hj := hm j
      constructor
      · intro hjl
        have := hj.1 (by simp [hjl])
        have hne : j ≠ i := fun e => hn1 (e ▸ hjl)
        simp [hne] at this ⊢
        exact this
      · intro hjT
        have := hj.2 (by simp at hjT ⊢; rcases hjT with h | h <;> simp [h])
        rcases List.mem_cons.1 this with e | e
        · subst e
          rcases List.mem_append.1 hjT with h | h
          · exact absurd rfl (hlt _ h)
          · exact absurd rfl (hgt _ h)
        · exact e
    have hT2 : (T1 ++ T2).Pairwise (fun x i => A x i ∨ swapOK (r x) (r i) = true) := by
      have h1 := List.pairwise_append.1 hT
      exact List.pairwise_append.2 ⟨h1.1, (List.pairwise_cons.1 h1.2.1).2, fun x hx y hy => h1.2.2 x hx y (by simp [hy])⟩
    have hTn2 : (T1 ++ T2).Nodup := by
      have h1 := List.pairwise_append.1 hTn
      exact List.pairwise_append.2 ⟨h1.1, (List.pairwise_cons.1 h1.2.1).2, fun x hx y hy => h1.2.2 x hx y (by simp [hy])⟩
    simp only [wpOps, ho]
    have next : ∀ x v s' hp', RepF P s' hp' x v → Rel P N s' fr hp' a → Step s hp s' hp' → vcOps P (Q .normal) (T1.map r ++ T2.map r) (fr.put (r i).dst x) hp' → wpOps P ops (Post P N s0 hp0 Q) l (a.put o.dst v) s'.w := by
      intro x v s' hp' hx hr' hs' hk
      rw [hdst] at hk
      exact run_any2 hQ l (T1 ++ T2) hn2 hm2 hTn2 hT2 hl2 (fun j hj => hres j (by simp at hj ⊢; rcases hj with h | h <;> simp [h])) s' _ hp' _ (hr'.put o.dst hdN hx) (hs.trans hs') (by simpa using hk)
    have run : rop P (r i).op fr hp (fun u hp' => vcOps P (Q .normal) (T1.map r ++ T2.map r) (fr.put (r i).dst u) hp') → o.wp P a s.w (wpOps P ops (Post P N s0 hp0 Q) l) (Post P N s0 hp0 Q) := fun h => resOp'_ok hop hr next h
    have skip : vcOps P (Q .normal) (T1.map r ++ T2.map r) (fr.put (r i).dst undefV) hp → wpOps P ops (Post P N s0 hp0 Q) l (a.put o.dst undef) s.w := fun h => next undefV undef s hp rep_undef hr (.refl _ _) h
    rcases hg with ⟨hg1, hg2⟩ | ⟨j, want, t, hg1, hg2, hg3⟩
    · have hw : Region.wanted o (yielded ops a.tmps) = true := by simp [Region.wanted, hg1]
      rw [if_pos hw]
      simp only [ropG, hg2] at hmv
      exact .inl (run hmv)
    · simp only [ropG, hg3, condG] at hmv
      split at hmv
      · rename_i b hb
        have hy := yielded_of hr hg2 hb
        have hw : Region.wanted o (yielded ops a.tmps) = (b == want) := by simp [Region.wanted, hg1, hy]
        rw [hw]
        cases b <;> cases want <;> simp at hmv ⊢
        · exact .inl (run hmv)
        · exact skip hmv
        · exact skip hmv
        · exact .inl (run hmv)
      · rename_i hb
        have hy := yielded_undef hr hg2 hb
        have hw : Region.wanted o (yielded ops a.tmps) = false := by simp [Region.wanted, hg1, hy]
        rw [hw]
        simpa using skip hmv
      · exact hmv.elim
end
end Go.Pg
set_option linter.unusedVariables false
namespace Go.Pg
inductive RCode where
  | skip
  | region (ops : List ROper) (draw : Bool)
  | regions (os : List (List ROper))
  | seq (a b : RCode)
  | cond (c : Arg) (a b : RCode)
  | block (id : Nat) (b : RCode)
  | loop (b : RCode)
  | exit (id : Nat)
  | ret
  | label (l : Nat)
  | bad
def resGuard (all : Array Oper) : Option (Nat × Bool) → Option (Option (Nat × Bool))
  | none => some none
  | some (j, want) => match (all[j]?).bind (·.dst) with
    | some t => some (some (t, want))
    | none => none
def resOper (P : Program) (mt : List Nat) (N : Nat) (all : Array Oper) (o : Oper) : Option ROper :=
  match resOp' P mt o, resGuard all o.guard with
  | some r, some g => if o.dst.all (fun d => decide (d < N)) then some ⟨o.dst, r, g⟩ else none
  | _, _ => none
def resOpers (P : Program) (mt : List Nat) (N : Nat) (all : Array Oper) : List Oper → Option (List ROper)
  | [] => some []
  | o :: r => match resOper P mt N all o, resOpers P mt N all r with
    | some x, some xs => some (x :: xs)
    | _, _ => none
def pickAll (rs : List ROper) : List Nat → List ROper
  | [] => []
  | i :: r => (rs[i]?.getD ⟨none, .bad, none⟩) :: pickAll rs r
/-- The orders in which a drawn region is to be looked at. -/
def ordersOf (ops : Array Oper) (rs : List ROper) : List (List Nat) := ordsOf (ancBits ops.toList []) rs rs.length (List.range rs.length)
def ranksB (ops : Array Oper) : Bool :=
  rankB .any ops.toList ops.size (List.range ops.size) 0 && rankB .text ops.toList ops.size (List.range ops.size) 0 && rankB .gc ops.toList ops.size (posIn (Region.linearise .gc ops 0) ops.size) 0
def resCode (P : Program) (mt : List Nat) (N : Nat) : Code → Option RCode
  | .skip => some .skip
  | .region _ ops draw => match resOpers P mt N ops ops.toList with
    | some rs => if draw = false ∨ commB ops rs = true then some (.region rs draw) else if ranksB ops = true then some (.regions ((ordersOf ops rs).map (pickAll rs))) else some .bad
    | none => some .bad
  | .seq a b => match resCode P mt N a, resCode P mt N b with
    | some x, some y => some (.seq x y)
    | _, _ => none
  | .cond c a b => match resArg P 0 c, resCode P mt N a, resCode P mt N b with
    | some c', some x, some y => some (.cond c' x y)
    | _, _, _ => none
  | .block id b => (resCode P mt N b).map (.block id)
  | .loop b => (resCode P mt N b).map .loop
  | .exit id => some (.exit id)
  | .ret => some .ret
  | .label l => some (.label l)
  | _ => some .bad
section
variable {P : Program} {N : Nat} {mt : List Nat}
theorem upon_mono {o : Oper} {a : Act} {K K' : Act → World → Prop} {Q Q' : Exit → Act → World → Prop} (hk : ∀ a w, K a w → K' a w) (hq : ∀ e a w, Q e a w → Q' e a w) {r : Result Next} (h : o.upon P a K Q r) : o.upon P a K' Q' r := by
  unfold Oper.upon at h ⊢
  split at h
  · exact hk _ _ h
  · exact hk _ _ h
  · exact hk _ _ h
  · refine h.mono fun e w' k => ?_
    cases e with
    | returned v => exact hk _ _ k
    | panicked c => exact hq _ _ _ k
    | outgrown => obtain ⟨a, w, k⟩ := k; exact ⟨a, w, hq _ _ _ k⟩
  · exact h.mono fun v w' k => hk _ _ k
  · exact hq _ _ _ h
  · exact h
theorem wpOps_mono {ops : Array Oper} {Q Q' : Exit → Act → World → Prop} (hq : ∀ e a w, Q e a w → Q' e a w) : ∀ (l : List Nat) (a : Act) (w : World), wpOps P ops Q l a w → wpOps P ops Q' l a w
  | [], a, w, h => hq _ _ _ h
  | i :: l, a, w, h => by
    simp only [wpOps] at h ⊢
    split at h
    · exact wpOps_mono hq l a w h
    · rename_i o ho
      by_cases hw : Region.wanted o (yielded ops a.tmps) = true
      · rw [if_pos hw] at h ⊢
        rcases h with h | ⟨h1, a0, w0, h2⟩
        · exact .inl (upon_mono (fun a w k => wpOps_mono hq l a w k) hq h)
        · exact .inr ⟨h1, a0, w0, hq _ _ _ h2⟩
      · rw [if_neg hw] at h ⊢
        exact wpOps_mono hq l _ w h
theorem resOper_ok {ops : Array Oper} {i : Nat} {o : Oper} {r : ROper} (ho : ops[i]? = some o) (h : resOper P mt N ops o = some r) : ResAt P mt N ops i r := by
  unfold resOper at h
  split at h
  · rename_i rr g hr hg
    split at h
    · rename_i hd
      injection h with h; subst h
      refine ⟨o, ho, hr, rfl, fun d hdd => by rw [hdd] at hd; simpa using hd, ?_⟩
      cases hgg : o.guard with
      | none => rw [hgg] at hg; simp [resGuard] at hg; subst hg; exact .inl ⟨rfl, rfl⟩
      | some p =>
        obtain ⟨j, want⟩ := p
        rw [hgg] at hg
        simp only [resGuard] at hg
        split at hg
        · rename_i t ht
          injection hg with hg; subst hg
          exact .inr ⟨j, want, t, rfl, ht, rfl⟩
        · cases hg
    · cases h
  · cases h
theorem resOpers_ok {ops : Array Oper} : ∀ {l : List Oper} {rs : List ROper} {k : Nat}, (∀ j, l[j]? = ops[k + j]?) → resOpers P mt N ops l = some rs → rs.length = l.length ∧ ∀ j (h : j < rs.length), ResAt P mt N ops (k + j) rs[j]
  | [], rs, k, _, h => by simp [resOpers] at h; subst h; exact ⟨rfl, fun j h => by simp at h⟩
  | o :: l, rs, k, hl, h => by
    simp only [resOpers] at h
    split at h
    · rename_i x xs hx hxs
      injection h with h; subst h
      obtain ⟨k1, k2⟩ := resOpers_ok (k := k + 1) (fun j => by have := hl (j + 1); rw [show k + 1 + j = k + (j + 1) by omega, ← this]; simp) hxs
      refine ⟨by simp [k1], fun j hj => ?_⟩
      cases j with
      | zero => exact resOper_ok (by have := hl 0; simpa using this.symm) hx
      | succ j =>
        have := k2 j (by simpa using hj)
        rw [show k + 1 + j = k + (j + 1) by omega] at this
        simpa using this
    · cases h
def AWPr (P : Program) (mt : List Nat) (N : Nat) (rc : RCode) (Q : AExit → Fr → AHeap → Prop) (fr : Fr) (hp : AHeap) : Prop :=
  ∀ c, resCode P mt N c = some rc → AWP P N c Q fr hp
variable {Q Q' : AExit → Fr → AHeap → Prop} {fr fr' : Fr} {hp hp' : AHeap} {x y : RCode}
theorem AWPr.mono (h : AWPr P mt N x Q fr hp) (hq : ∀ e fr hp, Q e fr hp → Q' e fr hp) : AWPr P mt N x Q' fr hp := fun c hc => (h c hc).mono hq
theorem AWPr.keep (l : List Nat) (h : AWPr P mt N x Q (fr.keep l) hp) : AWPr P mt N x Q fr hp := fun c hc => (h c hc).keep l
theorem AWPr.le (hl : Fr.le fr fr') (h : AWPr P mt N x Q fr' hp) : AWPr P mt N x Q fr hp := fun c hc => (h c hc).le hl
/-- Where a resolved piece comes from. -/
def FromCode (P : Program) (mt : List Nat) (N : Nat) (c : Code) : RCode → Prop
  | .skip => c = .skip
  | .region rs draw => ∃ id ops, c = .region id ops draw ∧ resOpers P mt N ops ops.toList = some rs ∧ (draw = false ∨ commB ops rs = true)
  | .regions os => ∃ id ops rs, c = .region id ops true ∧ resOpers P mt N ops ops.toList = some rs ∧ ranksB ops = true ∧ os = (ordersOf ops rs).map (pickAll rs)
  | .seq x y => ∃ a b, c = .seq a b ∧ resCode P mt N a = some x ∧ resCode P mt N b = some y
  | .cond c' x y => ∃ v a b, c = .cond v a b ∧ resArg P 0 v = some c' ∧ resCode P mt N a = some x ∧ resCode P mt N b = some y
  | .block id x => ∃ b, c = .block id b ∧ resCode P mt N b = some x
  | .loop x => ∃ b, c = .loop b ∧ resCode P mt N b = some x
  | .exit id => c = .exit id
  | .ret => c = .ret
  | .label l => c = .label l
  | .bad => True
theorem fromCode {c : Code} {rc : RCode} (h : resCode P mt N c = some rc) : FromCode P mt N c rc := by
  cases c with
  | skip => simp only [resCode] at h; injection h with h; subst h; rfl
  | region id ops draw =>
    simp only [resCode] at h
    split at h
    · split at h
      · injection h with h; subst h; exact ⟨id, ops, rfl, by assumption, by assumption⟩
      · rename_i hd
        split at h
        · rename_i hrk
          injection h with h; subst h
          cases draw with
          | false => exact absurd (.inl rfl) hd
          | true => exact ⟨id, ops, _, rfl, by assumption, hrk, rfl⟩
        · injection h with h; subst h; trivial
    · injection h with h; subst h; trivial
  | seq a b =>
    simp only [resCode] at h
    split at h
    · injection h with h; subst h; exact ⟨a, b, rfl, by assumption, by assumption⟩
    · cases h
  | cond c a b =>
    simp only [resCode] at h
    split at h
    · injection h with h; subst h; exact ⟨c, a, b, rfl, by assumption, by assumption, by assumption⟩
    · cases h
  | block id b =>
    simp only [resCode] at h
    obtain ⟨x, hx, rfl⟩ := Option.map_eq_some_iff.1 h
    exact ⟨b, rfl, hx⟩
  | loop b =>
    simp only [resCode] at h
    obtain ⟨x, hx, rfl⟩ := Option.map_eq_some_iff.1 h
    exact ⟨b, rfl, hx⟩
  | rangeFunc => simp only [resCode] at h; injection h with h; subst h; trivial
  | exit id => simp only [resCode] at h; injection h with h; subst h; rfl
  | scope b => simp only [resCode] at h; injection h with h; subst h; trivial
  | label l => simp only [resCode] at h; injection h with h; subst h; rfl
  | goto l => simp only [resCode] at h; injection h with h; subst h; trivial
  | ret => simp only [resCode] at h; injection h with h; subst h; rfl
  | refuse w => simp only [resCode] at h; injection h with h; subst h; trivial
theorem AWPr.skip (h : Q .normal fr hp) : AWPr P mt N .skip Q fr hp := fun c hc => by
  have := fromCode hc; simp only [FromCode] at this; subst this; exact .skip h
theorem AWPr.ret (h : Q .ret fr hp) : AWPr P mt N .ret Q fr hp := fun c hc => by
  have := fromCode hc; simp only [FromCode] at this; subst this; exact .ret h
theorem AWPr.exit {id : Nat} (h : Q (.exit id) fr hp) : AWPr P mt N (.exit id) Q fr hp := fun c hc => by
  have := fromCode hc; simp only [FromCode] at this; subst this; exact .exit h
theorem AWPr.label {l : Nat} (h : Q .normal fr hp) : AWPr P mt N (.label l) Q fr hp := fun c hc => by
  have := fromCode hc; simp only [FromCode] at this; subst this; exact .label h
theorem AWPr.seq (h : AWPr P mt N x (thenQ (AWPr P mt N y Q) Q) fr hp) : AWPr P mt N (.seq x y) Q fr hp := fun c hc => by
  obtain ⟨a, b, rfl, ha, hb⟩ := fromCode hc
  refine .seq ((h a ha).mono fun e f g hq => ?_)
  cases e with
  | normal => exact hq b hb
  | exit id => exact hq
  | ret => exact hq
theorem AWPr.block {id : Nat} (h : AWPr P mt N x (blockQ id Q) fr hp) : AWPr P mt N (.block id x) Q fr hp := fun c hc => by
  obtain ⟨b, rfl, hb⟩ := fromCode hc
  exact .block (h b hb)
theorem AWPr.cond {c : Arg} (h : condP (ev fr c) (AWPr P mt N x Q fr hp) (AWPr P mt N y Q fr hp)) : AWPr P mt N (.cond c x y) Q fr hp := fun c' hc => by
  obtain ⟨v, a, b, rfl, hv, ha, hb⟩ := fromCode hc
  intro s act hr
  have h1 := resArg_ok hv N s fr hp act hr
  unfold condP at h
  split at h
  · rename_i t ht
    rw [ht] at h1
    have hv := h1.bool
    refine wp_cond (t := t) hv ?_
    cases t with
    | true => exact h.1 rfl a ha s act hr
    | false => exact h.2 rfl b hb s act hr
  · exact h.elim
theorem AWPr.loop {σ : Type} (F : σ → Fr) (G : σ → AHeap) (I : σ → Prop) (μ : σ → Nat) (i0 : σ) (h0 : I i0) (hF : Fr.le fr (F i0)) (hG : hp = G i0)
    (round : ∀ i, I i → AWPr P mt N x (thenQ (fun fr' hp' => ∃ j, I j ∧ μ j < μ i ∧ Fr.le fr' (F j) ∧ hp' = G j) Q) (F i) (G i)) :
    AWPr P mt N (.loop x) Q fr hp := fun c hc => by
  obtain ⟨b, rfl, hb⟩ := fromCode hc
  exact .loop F G I μ i0 h0 hF hG fun i hi => round i hi b hb
/-- A guard's two ways; behind it its slot is known. -/
def guardB (x : FV) (t : Nat) (fr : Fr) (A B C : Fr → Prop) : Prop :=
  match x with
  | .d (.bool b) => condB b (A ((t, .d (.bool true)) :: fr)) (B ((t, .d (.bool false)) :: fr))
  | .tup [] => C fr
  | _ => False
/-- One operation, run or left out, and what follows. -/
def vcRun (P : Program) (o : ROper) (k : Fr → AHeap → Prop) (hp : AHeap) (fr : Fr) : Prop := rop P o.op fr hp (vcNext k fr o.dst)
def vcLeave (o : ROper) (k : Fr → AHeap → Prop) (hp : AHeap) (fr : Fr) : Prop := k (fr.put o.dst undefV) hp
/-- A region's operations, in the text's order. -/
def vcG (P : Program) (Q : Fr → AHeap → Prop) : List ROper → Fr → AHeap → Prop
  | [], fr, hp => Q fr hp
  | ⟨d, op, none⟩ :: rest, fr, hp => rop P op fr hp (vcNext (vcG P Q rest) fr d)
  | ⟨d, op, some (t, true)⟩ :: rest, fr, hp => guardB (fr.get t) t fr (vcRun P ⟨d, op, none⟩ (vcG P Q rest) hp) (vcLeave ⟨d, op, none⟩ (vcG P Q rest) hp) (vcLeave ⟨d, op, none⟩ (vcG P Q rest) hp)
  | ⟨d, op, some (t, false)⟩ :: rest, fr, hp => guardB (fr.get t) t fr (vcLeave ⟨d, op, none⟩ (vcG P Q rest) hp) (vcRun P ⟨d, op, none⟩ (vcG P Q rest) hp) (vcLeave ⟨d, op, none⟩ (vcG P Q rest) hp)
theorem same_bool {fr : Fr} {t : Nat} {b : Bool} (h : fr.get t = .d (.bool b)) (i : Nat) : Fr.get ((t, .d (.bool b)) :: fr) i = fr.get i := by
  simp only [Fr.get]
  by_cases e : i = t
  · subst e; simp [h]
  · simp [e]
theorem vcG_ok {Qa Qb : Fr → AHeap → Prop} (hQ : ∀ fr fr' hp, (∀ t, fr.get t = fr'.get t) → Qb fr hp → Qb fr' hp) (hab : ∀ fr hp, Qa fr hp → Qb fr hp) : ∀ (l : List ROper) (fr : Fr) (hp : AHeap), vcG P Qa l fr hp → vcOps P Qb l fr hp
  | [], fr, hp, h => hab _ _ h
  | ⟨d, op, none⟩ :: rest, fr, hp, h => by
    rw [vcOps_cons]
    simp only [vcG] at h
    exact rop_mono (fun v hp' hk => vcG_ok hQ hab rest _ _ hk) h
  | ⟨d, op, some (t, want)⟩ :: rest, fr, hp, h => by
    rw [vcOps_cons]
    have run : ∀ b, fr.get t = .d (.bool b) → vcRun P ⟨d, op, none⟩ (vcG P Qa rest) hp ((t, .d (.bool b)) :: fr) → rop P op fr hp (vcNext (vcOps P Qb rest) fr d) := by
      intro b hb h
      simp only [vcRun] at h
      rw [rop_alike (fr' := fr) (fun i _ => same_bool hb i)] at h
      refine rop_mono (fun v hp' hk => ?_) h
      refine vcOps_congr hQ rest _ _ hp' (fun i => ?_) (vcG_ok hQ hab rest _ _ hk)
      cases d with
      | none => exact same_bool hb i
      | some d => simp only [Fr.put, Fr.get]; have := same_bool hb i; simp only [Fr.get] at this; rw [this]
    have leave : ∀ b, fr.get t = .d (.bool b) → vcLeave ⟨d, op, none⟩ (vcG P Qa rest) hp ((t, .d (.bool b)) :: fr) → vcNext (vcOps P Qb rest) fr d undefV hp := by
      intro b hb h
      simp only [vcLeave] at h
      refine vcOps_congr hQ rest _ _ hp (fun i => ?_) (vcG_ok hQ hab rest _ _ h)
      cases d with
      | none => exact same_bool hb i
      | some d => simp only [Fr.put, Fr.get]; have := same_bool hb i; simp only [Fr.get] at this; rw [this]
    have leave' : vcLeave ⟨d, op, none⟩ (vcG P Qa rest) hp fr → vcNext (vcOps P Qb rest) fr d undefV hp := fun h => vcG_ok hQ hab rest _ _ h
    cases want with
    | true =>
      simp only [vcG, guardB] at h
      simp only [ropG, condG, if_true]
      split at h
      · rename_i b hb
        rw [hb]
        exact ⟨fun e => run true (by rw [hb, e]) (h.1 e), fun e => leave false (by rw [hb, e]) (h.2 e)⟩
      · rename_i hb
        rw [hb]; exact leave' h
      · exact h.elim
    | false =>
      simp only [vcG, guardB] at h
      simp only [ropG, condG, Bool.false_eq_true, if_false]
      split at h
      · rename_i b hb
        rw [hb]
        exact ⟨fun e => leave true (by rw [hb, e]) (h.1 e), fun e => run false (by rw [hb, e]) (h.2 e)⟩
      · rename_i hb
        rw [hb]; exact leave' h
      · exact h.elim
theorem AWPr.region {rs : List ROper} {draw : Bool} (h : vcG P (Q .normal) rs fr hp) : AWPr P mt N (.region rs draw) Q fr hp := fun c hc => by
  obtain ⟨id, ops, rfl, hrs, hd⟩ := fromCode hc
  obtain ⟨k1, k2⟩ := resOpers_ok (ops := ops) (k := 0) (fun j => by simp) hrs
  have hn : rs.length = ops.size := by rw [k1]; simp
  intro s a hr
  let Q2 : AExit → Fr → AHeap → Prop := fun e fr hp => ∃ fr0, (∀ t, fr0.get t = fr.get t) ∧ Q e fr0 hp
  have hQ2 : ∀ e a w, Post P N s hp Q2 e a w → Post P N s hp Q e a w := by
    rintro e a w ⟨ae, s', fr', hp', h1, h2, h3, h4, fr0, h5, h6⟩
    exact ⟨ae, s', fr0, hp', h1, h2, ⟨h3.defers, h3.size, fun i => by rw [h5]; exact h3.slot i, h3.heap⟩, h4, h6⟩
  have hcongr : ∀ fr fr' hp, (∀ t, fr.get t = fr'.get t) → Q2 .normal fr hp → Q2 .normal fr' hp := fun f f' g hh ⟨f0, h1, h2⟩ => ⟨f0, fun t => (h1 t).trans (hh t), h2⟩
  have hmap : (List.range ops.size).map (fun i => rs[i]?.getD ⟨none, .alloc 0 [], none⟩) = rs := by
    apply List.ext_getElem
    · simp [hn]
    · intro i h1 h2
      simp [h2]
  have hv : vcOps P (Q2 .normal) ((List.range ops.size).map (fun i => rs[i]?.getD ⟨none, .alloc 0 [], none⟩)) fr hp := by
    rw [hmap]
    exact vcG_ok hcongr (fun fr hp h => ⟨fr, fun _ => rfl, h⟩) _ _ _ h
  have hres : ∀ i ∈ List.range ops.size, i < ops.size ∧ ResAt P mt N ops i (rs[i]?.getD ⟨none, .alloc 0 [], none⟩) := by
    intro i hi
    have hi : i < ops.size := by simpa using hi
    refine ⟨hi, ?_⟩
    have := k2 i (by omega)
    rw [Nat.zero_add] at this
    rw [List.getElem?_eq_getElem (by omega)]
    exact this
  have hsorted : (List.range ops.size).Pairwise (· < ·) := List.pairwise_lt_range
  have run : ∀ l : List Nat, (∀ A : Nat → Nat → Prop, (∀ x i, x < i → i < ops.size → A x i ∨ swapOK (rs[x]?.getD ⟨none, .alloc 0 [], none⟩) (rs[i]?.getD ⟨none, .alloc 0 [], none⟩) = true) → l.Nodup → (∀ i, i ∈ l ↔ i ∈ List.range ops.size) → l.Pairwise (fun i x => ¬ A x i) →
      ∀ s' a', Rel P N s' fr hp a' → Step s hp s' hp → wpOps P ops (Post P N s hp Q2) l a' s'.w) := by
    intro l A hA h1 h2 h3 s' a' hr' hs'
    exact run_any hcongr hA l (List.range ops.size) h1 h2 hsorted h3 hres s' fr hp a' hr' hs' hv
  cases draw with
  | false =>
    refine wp_region (Q := Post P N s hp Q) ?_
    have := run (List.range ops.size) (fun x i => x < i) (fun x i h _ => .inl h) List.nodup_range (fun i => Iff.rfl) (List.Pairwise.imp (fun {a b} h => by omega) hsorted) s a hr (.refl _ _)
    exact wpOps_mono hQ2 _ _ _ this
  | true =>
    have hc : commB ops rs = true := by rcases hd with h | h; cases h; exact h
    refine wp_region_draw (Q := Post P N s hp Q) fun t => ?_
    obtain ⟨g1, g2, g3⟩ := sched_spec hc (P.follows .mixedOrders) t
    have hbits := ancBits_ok (ops := ops) ops.toList [] (fun j => by simp) (fun i b hi => by simp at hi)
    have hcm : commAll (ancBits ops.toList []) rs rs 0 = true := by
      simp only [commB, Bool.and_eq_true] at hc
      exact hc.2
    have := run (Region.schedule (P.follows .mixedOrders) ops t) (Anc ops) (fun x i hxi hi => by
      have hi2 : i < rs.length := by omega
      have hx2 : x < rs.length := by omega
      have := commAll_ok hcm i rs[i] (by simp [hi2]) x rs[x] (by omega) (by simp [hx2])
      rw [Nat.zero_add] at this
      rcases this with h | h
      · left
        cases hb : (ancBits ops.toList [])[i]? with
        | none => simp [List.getD, hb] at h
        | some b => simp [List.getD, hb] at h; exact hbits i b hb x h
      · right
        rw [List.getElem?_eq_getElem hi2, List.getElem?_eq_getElem hx2]
        exact h) g1 (fun i => by rw [g2]; simp) g3 s.drew a (hr.step (Step.drew s hp) hr.heap.drew) (Step.drew s hp)
    exact wpOps_mono hQ2 _ _ _ this
theorem pickAll_eq (rs : List ROper) : ∀ T : List Nat, pickAll rs T = T.map fun i => rs[i]?.getD ⟨none, .bad, none⟩
  | [] => rfl
  | i :: r => by simp only [pickAll, List.map_cons, pickAll_eq rs r]
theorem AWPr.regions {os : List (List ROper)} (h : ∀ rs ∈ os, vcG P (Q .normal) rs fr hp) : AWPr P mt N (.regions os) Q fr hp := fun c hc => by
  obtain ⟨id, ops, rs, rfl, hrs, hrk, rfl⟩ := fromCode hc
  obtain ⟨k1, k2⟩ := resOpers_ok (ops := ops) (k := 0) (fun j => by simp) hrs
  have hn : rs.length = ops.size := by rw [k1]; simp
  intro s a hr
  let Q2 : AExit → Fr → AHeap → Prop := fun e fr hp => ∃ fr0, (∀ t, fr0.get t = fr.get t) ∧ Q e fr0 hp
  have hQ2 : ∀ e a w, Post P N s hp Q2 e a w → Post P N s hp Q e a w := by
    rintro e a w ⟨ae, s', fr', hp', h1, h2, h3, h4, fr0, h5, h6⟩
    exact ⟨ae, s', fr0, hp', h1, h2, ⟨h3.defers, h3.size, fun i => by rw [h5]; exact h3.slot i, h3.heap⟩, h4, h6⟩
  have hcongr : ∀ fr fr' hp, (∀ t, fr.get t = fr'.get t) → Q2 .normal fr hp → Q2 .normal fr' hp := fun f f' g hh ⟨f0, h1, h2⟩ => ⟨f0, fun t => (h1 t).trans (hh t), h2⟩
  have hres : ∀ i, i < ops.size → ResAt P mt N ops i (rs[i]?.getD ⟨none, .bad, none⟩) := by
    intro i hi
    have := k2 i (by omega)
    rw [Nat.zero_add] at this
    rw [List.getElem?_eq_getElem (by omega)]
    exact this
  refine wp_region_draw (Q := Post P N s hp Q) fun t => ?_
  obtain ⟨g1, g2, g3⟩ := sched_spec' hrk (P.follows .mixedOrders) t
  generalize hl : Region.schedule (P.follows .mixedOrders) ops t = l at g1 g2 g3
  have hbits := ancBits_ok (ops := ops) ops.toList [] (fun j => by simp) (fun i b hi => by simp at hi)
  have hA : l.Pairwise (fun x i => l.idxOf x < l.idxOf i) := by
    rw [List.pairwise_iff_getElem]
    intro i j hi hj hij
    rw [List.Nodup.idxOf_getElem g1 i hi, List.Nodup.idxOf_getElem g1 j hj]
    exact hij
  have hA2 : l.Pairwise (fun i x => ¬ l.idxOf x < l.idxOf i) := hA.imp fun h => by omega
  obtain ⟨T, t1, t2, t3, t4⟩ := ords_spec (bits := ancBits ops.toList []) (rs := rs) (An := Anc ops) (fun i x hb => by
    cases hg : (ancBits ops.toList [])[i]? with
    | none => simp [List.getD, hg] at hb
    | some b => simp [List.getD, hg] at hb; exact hbits i b hg x hb) (d := ⟨none, .bad, none⟩) rs.length (List.range rs.length) l (by simp) List.nodup_range g1 (fun i => by rw [g2]; simp [hn]) hA g3
  have hv := h (pickAll rs T) (List.mem_map.2 ⟨T, t1, rfl⟩)
  rw [pickAll_eq] at hv
  have hv2 : vcOps P (Q2 .normal) (T.map fun i => rs[i]?.getD ⟨none, .bad, none⟩) fr hp := vcG_ok hcongr (fun fr hp h => ⟨fr, fun _ => rfl, h⟩) _ _ _ hv
  have hTm : ∀ i, i ∈ T → i < ops.size := fun i hi => by have := (t3 i).1 hi; simpa [hn] using this
  have := run_any2 (mt := mt) (ops := ops) (Q := Q2) hcongr (s0 := s) (hp0 := hp) l T g1 (fun i => by rw [g2, t3]; simp [hn]) t2 t4 hA2 (fun i hi => ⟨hTm i hi, hres i (hTm i hi)⟩) s.drew fr hp a (hr.step (Step.drew s hp) hr.heap.drew) (Step.drew s hp) hv2
  exact wpOps_mono hQ2 _ _ _ this
/-! ### a function's call -/
/-- A result, resolved. -/
inductive RRes where
  | tmp (t : Nat)
  | cell (agg : Bool) (sz : Nat) (t : Nat)
def resRes (P : Program) : ResultVar → Option RRes
  | .tmp t => some (.tmp t)
  | .cell t ty => match P.underlying ty, esz? P ty with
    | some d, some sz => if isAggB d = true ∨ sz = 1 then some (.cell (isAggB d) sz t) else none
    | _, _ => none
def RRes.val (fr : Fr) (hp : AHeap) : RRes → Option FV
  | .tmp t => some (fr.get t)
  | .cell agg sz t => match fr.get t with
    | .vp l off => match hp[l]? with
      | some (.var _ cs) => if off + sz ≤ cs.length then (if agg then some (mkAgg ((cs.drop off).take sz)) else (cs.drop off).head?) else none
      | _ => none
    | _ => none
def valsOf (fr : Fr) (hp : AHeap) : List RRes → Option (List FV)
  | [] => some []
  | r :: rs => match r.val fr hp, valsOf fr hp rs with
    | some v, some vs => some (v :: vs)
    | _, _ => none
/-- What a function hands back. -/
def resultOf (fr : Fr) (hp : AHeap) (rs : List RRes) : Option FV :=
  match valsOf fr hp rs with
  | some [v] => some v
  | some vs => some (.tup vs)
  | none => none
/-- How a result is read. -/
def resSem (tmps : Array Value) : ResultVar → Sem Value
  | .tmp t => pure (tmps.getD t undef)
  | .cell a t => do loadVar t (← asAddr (tmps.getD a undef))
theorem RRes.val_ok {rv : ResultVar} {r : RRes} {s : St} {a : Act} {v : FV} (hr : Rel P N s fr hp a) (h1 : resRes P rv = some r) (h2 : r.val fr hp = some v) :
    ∃ u, (resSem a.tmps rv).run P s.w = .ok u s.w ∧ RepF P s hp v u := by
  cases rv with
  | tmp t =>
    simp only [resRes] at h1; injection h1 with h1; subst h1
    simp only [RRes.val] at h2; injection h2 with h2; subst h2
    exact ⟨_, rfl, hr.slot t⟩
  | cell t ty =>
    simp only [resRes] at h1
    split at h1
    · rename_i d sz hd hs
      split at h1
      · rename_i hc
        injection h1 with h1; subst h1
        simp only [RRes.val] at h2
        split at h2
        · rename_i l off hfr
          split at h2
          · rename_i cs hcs
            split at h2
            · rename_i hle
              have h0 := hr.slot t
              rw [hfr] at h0
              generalize hv0 : a.tmps.getD t undef = v0 at h0
              cases h0 with
              | vp _ _ b ob hl hob hb =>
                obtain ⟨b', vs, k1, k2, k3, k4⟩ := hr.heap.obj l _ hcs
                rw [hb] at k1; injection k1 with k1; subst k1
                have hcell : ∀ j, (hj : j < vs.size) → s.w.cell? ⟨b, j, none⟩ = some vs[j] := fun j hj => by
                  rw [cell_of_row s.w b j vs _ (0, 0) k2]; simp [hj]
                obtain ⟨i0, hi0, hs0⟩ := Option.map_eq_some_iff.1 hs
                have hv1 : a.tmps[t]?.getD undef = .pointer (some ⟨b, off, none⟩) := by rw [← hv0, Array.getD_eq_getD_getElem?]
                have hsz2 : off + sz ≤ vs.size := by rw [k4.1]; exact hle
                cases hag : isAggB d with
                | true =>
                  simp only [hag, if_true] at h2
                  injection h2 with h2; subst h2
                  have hrun := run_load_cells (P := P) s.w b off sz (fun j => vs.getD (off + j) undef) (fun j hj => by
                    rw [hcell (off + j) (by omega)]; simp [show off + j < vs.size by omega])
                  refine ⟨.agg (vs.extract off (off + sz)), ?_, RepF.mkAgg (k4.take off sz hle)⟩
                  have e : ((List.range sz).map fun j => vs.getD (off + j) undef).toArray = vs.extract off (off + sz) := by
                    apply Array.ext
                    · simp; omega
                    · intro i hi1 hi2
                      simp at hi1 hi2
                      simp [show off + i < vs.size by omega]
                  rw [e] at hrun
                  simp [resSem, hv1, asAddr, loadVar, run_isAgg hd, hag, sizeOf, typeInfo, hi0, hs0, hrun]
                | false =>
                  simp only [hag, Bool.false_eq_true, if_false] at h2
                  cases hdrop : cs.drop off with
                  | nil => rw [hdrop] at h2; cases h2
                  | cons y r =>
                    rw [hdrop] at h2; injection h2 with h2; subst h2
                    obtain ⟨hlt, _, hrep⟩ := k4.at_ hdrop
                    refine ⟨vs[off], ?_, hrep⟩
                    simp [resSem, hv1, asAddr, loadVar, run_isAgg hd, hag, hcell off hlt]
            · cases h2
          · cases h2
        · cases h2
      · cases h1
    · cases h1
/-- Nothing beyond the first k objects is spoken of. -/
def OkIn (k : Nat) : FV → Prop
  | .own _ _ l => l < k
  | .vp l _ => l < k
  | .map l => l < k
  | .ms _ l _ _ => l < k
  | .sd _ _ l => l < k
  | .raw _ l _ => l < k
  | .ep l _ => l < k
  | .clo _ a b => (∀ x ∈ a, OkIn k x) ∧ ∀ x ∈ b, OkIn k x
  | .agg cs => ∀ x ∈ cs, OkIn k x
  | .tup cs => ∀ x ∈ cs, OkIn k x
  | _ => True
def ObjOk (k : Nat) : AObj → Prop
  | .var _ cs => ∀ x ∈ cs, OkIn k x
  | .map es => ∀ x ∈ es, OkIn k x.2
  | _ => True
theorem RepF.okIn {s : St} {x : FV} {v : Value} (h : RepF P s hp x v) {k : Nat} (hk : hp.length ≤ k) : OkIn k x := by
  induction h with
  | own e rows l v n h hb hle tip => simp only [OkIn]; have := lt_of_get? hb; omega
  | vp l off b o hl ho hb => simp only [OkIn]; have := lt_of_get? hl; omega
  | map l b o hl ho hb => simp only [OkIn]; have := lt_of_get? hl; omega
  | ms e l lo n b c o hl => simp only [OkIn]; have := lt_of_get? hl; omega
  | sd e rows l v p n h hb => simp only [OkIn]; have := lt_of_get? hb; omega
  | raw e l n g c m hb => simp only [OkIn]; have := lt_of_get? hb; omega
  | ep l off b o hl ho hb => simp only [OkIn]; have := lt_of_get? hl; omega
  | clo f first cap vf vc h1 h2 _ _ ih1 ih2 =>
    simp only [OkIn]
    exact ⟨fun x hx => by obtain ⟨i, hi, rfl⟩ := List.getElem_of_mem hx; exact ih1 i hi (by omega), fun x hx => by obtain ⟨i, hi, rfl⟩ := List.getElem_of_mem hx; exact ih2 i hi (by omega)⟩
  | agg cs vs hl h1 _ ih =>
    simp only [OkIn]
    exact fun x hx => by obtain ⟨i, hi, rfl⟩ := List.getElem_of_mem hx; exact ih i hi (by omega)
  | tup cs vs hl _ ih =>
    simp only [OkIn]
    exact fun x hx => by obtain ⟨i, hi, rfl⟩ := List.getElem_of_mem hx; exact ih i hi (by omega)
  | _ => simp only [OkIn]
theorem RepF.cut {s : St} {g junk : AHeap} {x : FV} {v : Value} (h : RepF P s (g ++ junk) x v) (hk : OkIn g.length x) : RepF P s g x v := by
  induction h with
  | d x v h => exact .d x v h
  | nil e => exact .nil e
  | own e rows l v n h hb hle tip =>
    simp only [OkIn] at hk
    rw [List.getElem?_append_left hk] at hb
    exact .own e rows l v n h hb hle tip
  | vp l off b o hl ho hb =>
    simp only [OkIn] at hk
    rw [List.getElem?_append_left hk] at hl
    exact .vp l off b o hl ho hb
  | cp cs b off cell hr hH h1 h => exact .cp cs b off cell hr hH h1 h
  | nilp => exact .nilp
  | clo f first cap vf vc h1 h2 _ _ ih1 ih2 =>
    simp only [OkIn] at hk
    exact .clo f first cap vf vc h1 h2 (fun i hx hv => ih1 i hx hv (hk.1 _ (List.getElem_mem hx))) (fun i hx hv => ih2 i hx hv (hk.2 _ (List.getElem_mem hx)))
  | agg cs vs hl h1 _ ih =>
    simp only [OkIn] at hk
    exact .agg cs vs hl h1 fun i hx hv => ih i hx hv (hk _ (List.getElem_mem hx))
  | tup cs vs hl _ ih =>
    simp only [OkIn] at hk
    exact .tup cs vs hl fun i hx hv => ih i hx hv (hk _ (List.getElem_mem hx))
  | map l b o hl ho hb =>
    simp only [OkIn] at hk
    rw [List.getElem?_append_left hk] at hl
    exact .map l b o hl ho hb
  | nilmap => exact .nilmap
  | ms e l lo n b c o hl ho hb h1 h2 h3 =>
    simp only [OkIn] at hk
    rw [List.getElem?_append_left hk] at hl
    exact .ms e l lo n b c o hl ho hb h1 h2 h3
  | sd e rows l v p n h hb hle hp' tip =>
    simp only [OkIn] at hk
    rw [List.getElem?_append_left hk] at hb
    exact .sd e rows l v p n h hb hle hp' tip
  | raw e l n g c m hb hc hcm hr tip =>
    simp only [OkIn] at hk
    rw [List.getElem?_append_left hk] at hb
    exact .raw e l n g c m hb hc hcm hr tip
  | ep l off b o hl ho hb =>
    simp only [OkIn] at hk
    rw [List.getElem?_append_left hk] at hl
    exact .ep l off b o hl ho hb
  | any v => exact .any v
theorem ObjRep.okIn {s : St} {l : Nat} {o : AObj} (h : ObjRep P s hp l o) {k : Nat} (hk : hp.length ≤ k) : ObjOk k o := by
  cases o with
  | var t cs =>
    obtain ⟨b, vs, h1, h2, h3, h4, h5, h6⟩ := h
    exact fun x hx => by obtain ⟨i, hi, rfl⟩ := List.getElem_of_mem hx; exact (h6 i hi (by omega)).okIn hk
  | map es =>
    obtain ⟨b, mes, c, h1, h2, h3, h4, h5⟩ := h
    exact fun x hx => by obtain ⟨i, hi, rfl⟩ := List.getElem_of_mem hx; exact (h5 i hi (by omega)).2.okIn hk
  | buf e n => trivial
  | siter s p => trivial
  | dead => trivial
  | glob g cs => trivial
theorem RelH.cut {s : St} {g junk : AHeap} (h : RelH P s (g ++ junk)) (hk : ∀ (l : Nat) (o : AObj), g[l]? = some o → ObjOk g.length o) : RelH P s g := by
  refine ⟨fun l l' b h1 h2 => h.inj l l' b (by simp; omega) (by simp; omega), fun l o hl => ?_, h.fresh⟩
  have hlt := lt_of_get? hl
  have ho := h.obj l o (by rw [List.getElem?_append_left hlt]; exact hl)
  have hok := hk l o hl
  cases o with
  | var t cs =>
    obtain ⟨b, vs, h1, h2, h3, h4, h5, h6⟩ := ho
    exact ⟨b, vs, h1, h2, h3, h4, h5, fun i hi hj => (h6 i hi hj).cut (hok _ (List.getElem_mem hi))⟩
  | map es =>
    obtain ⟨b, mes, c, h1, h2, h3, h4, h5⟩ := ho
    exact ⟨b, mes, c, h1, h2, h3, h4, fun i hi hj => ⟨(h5 i hi hj).1, (h5 i hi hj).2.cut (hok _ (List.getElem_mem hi))⟩⟩
  | buf e n => exact ho
  | siter s p => exact ho
  | dead => exact ho
  | glob g cs => exact ho
theorem Step.cut {s s' : St} {g junk : AHeap} (h : Step s hp s' (g ++ junk)) (hl : hp.length ≤ g.length) : Step s hp s' g where
  os := h.os
  tape := h.tape
  output := h.output
  size := h.size
  seal_ := h.seal_
  foreign := h.foreign
  from_ := fun l b h1 h2 => h.from_ l b (by simp; omega) h2
  len := hl
  buf := fun l e n hn => by
    obtain ⟨n', h1, h2⟩ := h.buf l e n hn
    rw [List.getElem?_append_left (by have := lt_of_get? hn; omega)] at h1
    exact ⟨n', h1, h2⟩
  obj := fun l o ho hb => by
    obtain ⟨⟨o', h1, h2⟩, h3⟩ := h.obj l o ho hb
    rw [List.getElem?_append_left (by have := lt_of_get? ho; omega)] at h1
    exact ⟨⟨o', h1, h2⟩, h3⟩
/-- What a function's end is to come to: g is what remains of what may change. -/
def retQ (hp : AHeap) (rs : List RRes) (Q : FV → AHeap → Prop) (e : AExit) (fr : Fr) (hp' : AHeap) : Prop :=
  (e = .normal ∨ e = .ret) ∧ ∃ (g junk : AHeap) (r : FV), hp' = g ++ junk ∧ hp.length ≤ g.length ∧ (∀ (l : Nat) (o : AObj), g[l]? = some o → hp[l]? = some o ∨ ObjOk g.length o) ∧ resultOf fr hp' rs = some r ∧ OkIn g.length r ∧ Q r g
def argFr (args : List FV) : Fr := args.zipIdx.map fun (x, i) => (i, x)
theorem get_argFr : ∀ (args : List FV) (k i : Nat), Fr.get ((args.zipIdx k).map fun (x, i) => (i, x)) i = if k ≤ i then (args[i - k]?).getD .any else .any
  | [], k, i => by simp [Fr.get]
  | x :: args, k, i => by
    simp only [List.zipIdx_cons, List.map_cons, Fr.get]
    by_cases h : i = k
    · subst h; simp
    · simp only [h, if_false]
      rw [get_argFr args (k + 1) i]
      by_cases h2 : k ≤ i
      · have h3 : k + 1 ≤ i := by omega
        rw [if_pos h2, if_pos h3, show i - k = (i - (k + 1)) + 1 by omega, List.getElem?_cons_succ]
      · rw [if_neg h2, if_neg (by omega)]
def resResults (P : Program) : List ResultVar → Option (List RRes)
  | [] => some []
  | r :: rs => match resRes P r, resResults P rs with
    | some x, some xs => some (x :: xs)
    | _, _ => none
/-- A function, resolved. -/
structure RFn where
  body : RCode
  results : List RRes
  ntmps : Nat
  mt : List Nat
def FnOK (P : Program) (f : FuncId) (g : RFn) : Prop :=
  ∃ fn c, P.funcs[f]? = some fn ∧ fn.body = some c ∧ (fn.name == "runtime.NumGoroutine") = false ∧ fn.ntmps = g.ntmps ∧ resCode P g.mt g.ntmps c = some g.body ∧ resResults P fn.results.toList = some g.results
theorem vals_ok {s : St} {a : Act} (hr : Rel P N s fr hp a) : ∀ {rvs : List ResultVar} {rs : List RRes} {vs : List FV}, resResults P rvs = some rs → valsOf fr hp rs = some vs →
    ∃ us : List Value, (rvs.mapM (resSem a.tmps)).run P s.w = .ok us s.w ∧ us.length = vs.length ∧ ∀ i (h1 : i < vs.length) (h2 : i < us.length), RepF P s hp vs[i] us[i]
  | [], rs, vs, h1, h2 => by
    simp [resResults] at h1; subst h1
    simp [valsOf] at h2; subst h2
    exact ⟨[], rfl, rfl, fun i h => by simp at h⟩
  | r :: rvs, rs, vs, h1, h2 => by
    simp only [resResults] at h1
    split at h1
    · rename_i x xs hx hxs
      injection h1 with h1; subst h1
      simp only [valsOf] at h2
      split at h2
      · rename_i v vs' hv hvs
        injection h2 with h2; subst h2
        obtain ⟨u, k1, k2⟩ := RRes.val_ok hr hx hv
        obtain ⟨us, k3, k4, k5⟩ := vals_ok hr hxs hvs
        refine ⟨u :: us, ?_, by simp [k4], fun i h1 h2 => ?_⟩
        · simp only [List.mapM_cons, Sem.run_bind]
          rw [k1]
          simp only [Result.andThen_ok]
          rw [k3]
          rfl
        · cases i with
          | zero => exact k2
          | succ i => simp only [List.getElem_cons_succ]; exact k5 i (by simpa using h1) (by simpa using h2)
      · cases h2
    · cases h1
theorem results_ok {s : St} {a : Act} {fn : Func} {rs : List RRes} {r : FV} (hr : Rel P N s fr hp a) (h1 : resResults P fn.results.toList = some rs) (h2 : resultOf fr hp rs = some r) : ∃ v, (results fn a.tmps).run P s.w = .ok v s.w ∧ RepF P s hp r v := by
  unfold resultOf at h2
  have key : ∀ vs, valsOf fr hp rs = some vs → ∃ us : Array Value, us.size = vs.length ∧ (∀ i (h1 : i < vs.length) (h2 : i < us.size), RepF P s hp vs[i] us[i]) ∧ (results fn a.tmps).run P s.w = .ok (if h : us.size = 1 then us[0] else .tuple us) s.w := by
    intro vs hvs
    obtain ⟨us, k1, k2, k3⟩ := vals_ok hr h1 hvs
    refine ⟨us.toArray, by simp [k2], fun i h1 h2 => by simp only [List.getElem_toArray]; exact k3 i h1 (by simpa using h2), ?_⟩
    have e : results fn a.tmps = (do let vs ← fn.results.mapM (resSem a.tmps); pure (if h : vs.size = 1 then vs[0] else .tuple vs)) := rfl
    rw [e, Array.mapM_eq_mapM_toList]
    simp only [Sem.run_bind, Sem.run_map]
    rw [k1]
    rfl
  split at h2
  · rename_i v hv
    injection h2 with h2; subst h2
    obtain ⟨us, k1, k2, k3⟩ := key _ hv
    simp at k1
    rw [dif_pos k1] at k3
    exact ⟨_, k3, k2 0 (by simp) (by omega)⟩
  · rename_i vs hne hv
    injection h2 with h2; subst h2
    obtain ⟨us, k1, k2, k3⟩ := key _ hv
    rw [dif_neg (by rw [k1]; intro h; obtain ⟨x, hx⟩ := List.length_eq_one_iff.1 h; exact hne x hx)] at k3
    exact ⟨_, k3, .tup _ _ k1 k2⟩
  · cases h2
theorem acalls_of {f : FuncId} {g : RFn} (hf : FnOK P f g) {args : List FV} {Q : FV → AHeap → Prop} (hn : args.length ≤ g.ntmps) (h : AWPr P g.mt g.ntmps g.body (retQ hp g.results Q) (argFr args) hp) : ACalls P f args hp Q := by
  obtain ⟨fn, c, h1, h2, h3, h4, h5, h6⟩ := hf
  refine ⟨⟨fn, h1, by simp [h2], h3⟩, fun s vs hr hl hrep => ?_⟩
  refine calls_of_wp h1 h2 ?_
  have hrel : Rel P g.ntmps s (argFr args) hp { tmps := vs ++ Array.replicate (fn.ntmps - vs.size) undef, defers := [] } := by
    refine ⟨rfl, by simp [h4]; omega, fun i => ?_, hr⟩
    unfold argFr
    rw [get_argFr args 0 i, if_pos (Nat.zero_le _), Nat.sub_zero]
    by_cases hi : i < args.length
    · have hi2 : i < vs.size := by omega
      have e : (vs ++ Array.replicate (fn.ntmps - vs.size) undef).getD i undef = vs[i] := by
        simp [Array.getD, Array.getElem_append_left hi2]
        omega
      rw [e, List.getElem?_eq_getElem hi]
      exact hrep i hi hi2
    · rw [List.getElem?_eq_none (by omega)]
      exact .any _
  refine wp_mono (h c h5 s _ hrel) ?_
  rintro e a' w' ⟨ae, s', fr', hp', rfl, rfl, k1, k2, k3, gg, junk, r, rfl, k4, k5, k6, k7, k8⟩
  obtain ⟨v, hv, hrv⟩ := results_ok k1 h6 k6
  have hcut : RelH P s' gg := k1.heap.cut fun l o hl => by
    rcases k5 l o hl with h | h
    · exact (hr.obj l o h).okIn k4
    · exact h
  have fin : ∃ v', (results fn a'.tmps).run P s'.w = .ok v' s'.w ∧ ∃ s2 hp2 r v, s2.w = s'.w ∧ Ending.returned v' = .returned v ∧ RelH P s2 hp2 ∧ RepF P s2 hp2 r v ∧ Step s hp s2 hp2 ∧ Q r hp2 :=
    ⟨v, hv, s', gg, r, v, rfl, rfl, hcut, hrv.cut k7, k2.cut k4, k8⟩
  rcases k3 with rfl | rfl
  · exact ⟨k1.defers, fin⟩
  · exact ⟨k1.defers, fin⟩
end
attribute [irreducible] retQ
end Go.Pg
set_option linter.unusedVariables false
namespace Go.Pg
def forceA : AV → (AV → Prop) → Prop
  | .int k n, f => f (.int k n)
  | .bool b, f => f (.bool b)
  | .str s, f => f (.str s)
  | .sl e rows, f => f (.sl e rows)
  | .agg cs, f => f (.agg cs)
  | .any, f => f .any
def force : FV → (FV → Prop) → Prop
  | .d x, f => forceA x fun y => f (.d y)
  | .nil e, f => f (.nil e)
  | .own e rows l, f => f (.own e rows l)
  | .vp l o, f => f (.vp l o)
  | .cp cs, f => f (.cp cs)
  | .nilp, f => f .nilp
  | .clo g a b, f => f (.clo g a b)
  | .agg cs, f => f (.agg cs)
  | .tup cs, f => f (.tup cs)
  | .map l, f => f (.map l)
  | .nilmap, f => f .nilmap
  | .ms e l lo n, f => f (.ms e l lo n)
  | .sd e r l, f => f (.sd e r l)
  | .raw e l n, f => f (.raw e l n)
  | .ep l n, f => f (.ep l n)
  | .any, f => f .any
theorem forceA_eq (v : AV) (f : AV → Prop) : forceA v f = f v := by cases v <;> rfl
theorem force_eq (v : FV) (f : FV → Prop) : force v f = f v := by
  cases v <;> first | rfl | exact forceA_eq _ _
def forceL : List FV → (List FV → Prop) → Prop
  | [], f => f []
  | x :: r, f => force x fun y => forceL r fun s => f (y :: s)
theorem forceL_eq : ∀ (l : List FV) (f : List FV → Prop), forceL l f = f l
  | [], f => rfl
  | x :: r, f => by simp only [forceL, force_eq, forceL_eq r]
/-- A call, closed to reduction. -/
structure AC (P : Program) (f : FuncId) (args : List FV) (hp : AHeap) (Q : FV → AHeap → Prop) : Prop where
  out : ACalls P f args hp Q
/-- Code, closed to reduction. -/
structure W (P : Program) (mt : List Nat) (N : Nat) (rc : RCode) (Q : AExit → Fr → AHeap → Prop) (fr : Fr) (hp : AHeap) : Prop where
  out : AWPr P mt N rc Q fr hp
theorem AC.mono {P : Program} {f : FuncId} {args : List FV} {hp : AHeap} {Q Q' : FV → AHeap → Prop} (h : AC P f args hp Q) (hq : ∀ r hp', Q r hp' → Q' r hp') : AC P f args hp Q' := ⟨h.out.mono hq⟩
/-- A test's two ways; it stays closed where the test isn't decided. -/
def condM (b : Bool) (A B : Prop) : Prop :=
  match b with
  | true => A
  | false => B
theorem condM_intro {b : Bool} {A B : Prop} (h1 : b = true → A) (h2 : b = false → B) : condM b A B := by
  cases b
  · exact h2 rfl
  · exact h1 rfl
theorem condM_elim {b : Bool} {A B : Prop} (h : condM b A B) : (b = true → A) ∧ (b = false → B) := by
  cases b
  · exact ⟨(fun e => by cases e), fun _ => h⟩
  · exact ⟨fun _ => h, (fun e => by cases e)⟩
/-- Two numbers of one kind. -/
def intW (op : BinOp) (k : IntKind) (a b : Int) (K : FV → Prop) : Prop :=
  match op with
  | .add => K (.d (.int k (k.wrap (a + b))))
  | .sub => K (.d (.int k (k.wrap (a - b))))
  | .mul => K (.d (.int k (k.wrap (a * b))))
  | .quo => b ≠ 0 ∧ K (.d (.int k (k.wrap (a.tdiv b))))
  | .rem => b ≠ 0 ∧ K (.d (.int k (a.tmod b)))
  | .eql => K (.d (.bool (a == b)))
  | .neq => K (.d (.bool (a != b)))
  | .lss => K (.d (.bool (decide (a < b))))
  | .leq => K (.d (.bool (decide (a ≤ b))))
  | .gtr => K (.d (.bool (decide (a > b))))
  | .geq => K (.d (.bool (decide (a ≥ b))))
  | _ => False
theorem intW_ok {isB : Bool} {op : BinOp} {k k' : IntKind} {a b : Int} {K : FV → Prop} (e : k = k') (h : intW op k a b K) : binP isB op (.d (.int k a)) (.d (.int k' b)) K := by
  subst e
  unfold binP
  refine ⟨rfl, ?_⟩
  cases op <;> exact h
/-- What an operation asks, run by reduction. -/
def ropW (P : Program) (r : ROp) (fr : Fr) (hp : AHeap) (K : FV → AHeap → Prop) : Prop :=
  match r with
  | .pr k xs => match prV k (xs.map (ev fr)) with
    | some v => force v fun v => K v hp
    | none => False
  | .mv x => force (ev fr x) fun v => K v hp
  | .pick c a b => match ev fr c with
    | .d (.bool t) => condM t (force (ev fr a) fun v => K v hp) (force (ev fr b) fun v => K v hp)
    | _ => False
  | .ldc agg sz p => match ev fr p with
    | .cp cs => match agg with
      | true => match Nat.beq sz cs.length with
        | true => K (.d (.agg cs)) hp
        | false => match Nat.ble sz cs.length with
          | true => K (.d (.agg (cs.take sz))) hp
          | false => False
      | false => match sz, cs with
        | 1, y :: _ => forceA y fun z => K (.d z) hp
        | _, _ => False
    | _ => False
  | .ld agg sz p => match ev fr p with
    | .cp cs => match agg with
      | true => match Nat.beq sz cs.length with
        | true => K (.d (.agg cs)) hp
        | false => match Nat.ble sz cs.length with
          | true => K (.d (.agg (cs.take sz))) hp
          | false => False
      | false => match sz, cs with
        | 1, y :: _ => forceA y fun z => K (.d z) hp
        | _, _ => False
    | .vp l off => match hp[l]? with
      | some (.var _ cs) => match agg with
        | true => match Nat.ble (off + sz) cs.length with
          | true => forceL ((cs.drop off).take sz) fun vs => force (mkAgg vs) fun v => K v hp
          | false => False
        | false => match sz, cs.drop off with
          | 1, y :: _ => force y fun v => K v hp
          | _, _ => False
      | _ => False
    | .ep l off => rop P (.ld agg sz p) fr hp K
    | _ => False
  | .fa off p => match ev fr p with
    | .cp cs => K (.cp (cs.drop off)) hp
    | .vp l o => K (.vp l (o + off)) hp
    | _ => False
  | .nck p => match ev fr p with
    | .cp cs => K (.cp cs) hp
    | .vp l o => K (.vp l o) hp
    | _ => False
  | .bin isB op x y => match ev fr x with
    | .d (.int k a) => match ev fr y with
      | .d (.int k' b) => match decide (k = k') with
        | true => intW op k a b fun v => K v hp
        | false => False
      | _ => False
    | .d (.str a) => match ev fr y with
      | .d (.str b) => (match op with
        | .add => a.length + b.length ≤ 9223372036854775807 ∧ K (.d (.str (a ++ b))) hp
        | .eql => K (.d (.bool (a == b))) hp
        | .neq => K (.d (.bool (a != b))) hp
        | .lss => K (.d (.bool (Op.bytesLess a b))) hp
        | _ => False)
      | _ => False
    | .d (.bool a) => match ev fr y with
      | .d (.bool b) => match isB with
        | true => (match op with
          | .eql => K (.d (.bool (a == b))) hp
          | .neq => K (.d (.bool (!(a == b)))) hp
          | _ => False)
        | false => False
      | _ => False
    | _ => False
  | .call f xs => forceL (xs.map fun x => (ev fr x).arg) fun vs => AC P f vs hp K
  | .callv x xs => match ev fr x with
    | .clo f first cap => forceL (first ++ (xs.map fun x => (ev fr x).arg) ++ cap) fun vs => AC P f vs hp K
    | _ => False
  | .ext i x => match ev fr x with
    | .tup vs => match vs[i]? with
      | some v => force v fun v => K v hp
      | none => False
    | _ => False
  | .mkf f first cap => forceL (first.map (ev fr)) fun a => forceL (cap.map (ev fr)) fun b => K (.clo f a b) hp
  | .fld agg off sz x => match (ev fr x).aggC with
    | some cs => match Nat.ble (off + sz) cs.length with
      | true => match agg with
        | true => forceL ((cs.drop off).take sz) fun vs => force (mkAgg vs) fun v => K v hp
        | false => match cs.drop off with
          | y :: _ => force y fun v => K v hp
          | [] => False
      | false => False
    | none => False
  | .st sz p x => match ev fr p with
    | .vp l off => match (ev fr x).cells with
      | some ys => match hp[l]? with
        | some (.var t cs) => match Nat.beq ys.length sz, Nat.ble (off + sz) cs.length with
          | true, true => forceL (splice cs off ys) fun cs' => K .any (hp.set l (.var t cs'))
          | _, _ => False
        | _ => False
      | none => False
    | .ep l off => rop P (.st sz p x) fr hp K
    | _ => False
  | .build zero parts => match fillC zero (parts.map fun (o, s, x) => (o, s, ev fr x)) with
    | some cs => forceL cs fun cs => force (mkAgg cs) fun v => K v hp
    | none => False
  | r => rop P r fr hp K
theorem ropW_ok {P : Program} {r : ROp} {fr : Fr} {hp : AHeap} {K : FV → AHeap → Prop} (h : ropW P r fr hp K) : rop P r fr hp K := by
  cases r with
  | pr k xs => simp only [ropW, force_eq] at h; exact h
  | ef k xs => exact h
  | bad => exact h.elim
  | mv x => simp only [ropW, force_eq] at h; exact h
  | pick c a b =>
    simp only [ropW, force_eq] at h
    simp only [rop, condP]
    split at h
    · rename_i t ht
      rw [ht]; exact condM_elim h
    · exact h.elim
  | ldc agg sz p =>
    simp only [ropW, forceA_eq] at h
    simp only [rop]
    split at h
    · rename_i cs hcs
      rw [hcs]
      cases agg
      · simp only at h
        split at h
        · rename_i y r hcs
          simp only [Bool.false_eq_true, if_false]
          exact ⟨by simp, h⟩
        · exact h.elim
      · simp only at h
        simp only [if_true]
        split at h
        · rename_i e
          have e := Nat.eq_of_beq_eq_true e
          rw [if_pos e]; exact ⟨by omega, h⟩
        · rename_i e
          split at h
          · rename_i e2
            rw [if_neg (fun h => by rw [h] at e; simp at e)]
            exact ⟨Nat.le_of_ble_eq_true e2, h⟩
          · exact h.elim
    · exact h.elim
  | ld agg sz p =>
    simp only [ropW, forceA_eq, force_eq, forceL_eq] at h
    split at h
    · rename_i cs hcs
      simp only [rop]
      rw [hcs]
      cases agg
      · simp only at h
        split at h
        · rename_i y r hcs
          simp only [Bool.false_eq_true, if_false]
          exact ⟨by simp, h⟩
        · exact h.elim
      · simp only at h
        simp only [if_true]
        split at h
        · rename_i e
          have e := Nat.eq_of_beq_eq_true e
          rw [if_pos e]; exact ⟨by omega, h⟩
        · rename_i e
          split at h
          · rename_i e2
            rw [if_neg (fun h => by rw [h] at e; simp at e)]
            exact ⟨Nat.le_of_ble_eq_true e2, h⟩
          · exact h.elim
    · rename_i l off hvp
      simp only [rop]
      rw [hvp]
      split at h
      · rename_i cs hcs
        simp only [hcs]
        cases agg
        · simp only at h
          split at h
          · rename_i y r hd
            simp only [Bool.false_eq_true, if_false, hd]
            refine ⟨?_, h⟩
            have : off < cs.length := by
              rcases Nat.lt_or_ge off cs.length with h | h
              · exact h
              · rw [List.drop_eq_nil_of_le h] at hd; cases hd
            omega
          · exact h.elim
        · simp only at h
          simp only [if_true]
          split at h
          · rename_i e
            exact ⟨Nat.le_of_ble_eq_true e, h⟩
          · exact h.elim
      · exact h.elim
    · exact h
    · exact h.elim
  | fa off p => exact h
  | nck p => exact h
  | bin isB op x y =>
    simp only [ropW] at h
    simp only [rop]
    split at h
    · rename_i k a hx
      split at h
      · rename_i k' b hy
        split at h
        · rename_i e
          rw [hx, hy]
          exact intW_ok (of_decide_eq_true e) h
        · exact h.elim
      · exact h.elim
    · rename_i a hx
      split at h
      · rename_i b hy
        rw [hx, hy]
        unfold binP
        cases op <;> exact h
      · exact h.elim
    · rename_i a hx
      split at h
      · rename_i b hy
        split at h
        · rw [hx, hy]
          unfold binP
          refine ⟨rfl, ?_⟩
          cases op <;> exact h
        · exact h.elim
      · exact h.elim
    · exact h.elim
  | call f xs => simp only [ropW, forceL_eq] at h; exact h.out
  | callv x xs =>
    simp only [ropW, forceL_eq] at h
    simp only [rop]
    split at h
    · rename_i g a b hx; rw [hx]; exact h.out
    · exact h.elim
  | ext i x =>
    simp only [ropW, force_eq] at h
    exact h
  | mkf f a b => simp only [ropW, forceL_eq] at h; exact h
  | fld agg off sz x =>
    simp only [ropW, force_eq, forceL_eq] at h
    simp only [rop]
    split at h
    · rename_i cs hcs
      rw [hcs]
      split at h
      · rename_i e
        refine ⟨Nat.le_of_ble_eq_true e, ?_⟩
        cases agg
        · simp only [Bool.false_eq_true, if_false]
          simp only at h
          split at h
          · rename_i hd; rw [hd]; exact h
          · exact h.elim
        · simp only [if_true]; exact h
      · exact h.elim
    · exact h.elim
  | st sz p x =>
    simp only [ropW, forceL_eq] at h
    split at h
    · rename_i l off hp1
      split at h
      · rename_i ys hys
        split at h
        · rename_i cs hcs
          split at h
          · rename_i e1 e2
            simp only [rop]
            rw [hp1, hys]
            simp only [hcs]
            exact ⟨Nat.eq_of_beq_eq_true e1, Nat.le_of_ble_eq_true e2, h⟩
          · exact h.elim
        · exact h.elim
      · exact h.elim
    · exact h
    · exact h.elim
  | build zero parts => simp only [ropW, force_eq, forceL_eq] at h; exact h
  | boxI x => exact h
  | boxM t x => exact h
  | alloc t z => exact h
  | lit e sz xs => exact h
  | litO e sz xs => exact h
  | ia e sz x i => exact h
  | ixs x i => exact h
  | not x => exact h
  | neg x => exact h
  | conv k x => exact h
  | slS x lo hi => exact h
  | slR e sz x lo hi => exact h
  | lenS x => exact h
  | lenR e b x => exact h
  | app e sz b x y => exact h
  | max x y => exact h
  | min x y => exact h
/-- What follows, the frame told cell by cell. -/
def nextW (k : Fr → AHeap → Prop) (fr : Fr) (d : Option Nat) (v : FV) (hp : AHeap) : Prop :=
  match d with
  | none => k fr hp
  | some d => k ((d, v) :: fr) hp
/-- A region's operations, run by reduction. -/
def vcW (P : Program) (Q : Fr → AHeap → Prop) : List ROper → Fr → AHeap → Prop
  | [], fr, hp => Q fr hp
  | ⟨d, op, none⟩ :: rest, fr, hp => ropW P op fr hp (nextW (vcW P Q rest) fr d)
  | ⟨d, op, some (t, true)⟩ :: rest, fr, hp => match fr.get t with
    | .d (.bool b) => condM b (ropW P op ((t, .d (.bool true)) :: fr) hp (nextW (vcW P Q rest) ((t, .d (.bool true)) :: fr) d)) (nextW (vcW P Q rest) ((t, .d (.bool false)) :: fr) d undefV hp)
    | .tup [] => nextW (vcW P Q rest) fr d undefV hp
    | _ => False
  | ⟨d, op, some (t, false)⟩ :: rest, fr, hp => match fr.get t with
    | .d (.bool b) => condM b (nextW (vcW P Q rest) ((t, .d (.bool true)) :: fr) d undefV hp) (ropW P op ((t, .d (.bool false)) :: fr) hp (nextW (vcW P Q rest) ((t, .d (.bool false)) :: fr) d))
    | .tup [] => nextW (vcW P Q rest) fr d undefV hp
    | _ => False
theorem nextW_eq (k : Fr → AHeap → Prop) (fr : Fr) (d : Option Nat) : nextW k fr d = vcNext k fr d := by
  cases d <;> rfl
theorem vcW_ok {P : Program} {Q : Fr → AHeap → Prop} : ∀ (l : List ROper) (fr : Fr) (hp : AHeap), vcW P Q l fr hp → vcG P Q l fr hp
  | [], fr, hp, h => h
  | ⟨d, op, none⟩ :: rest, fr, hp, h => by
    simp only [vcW, nextW_eq] at h
    simp only [vcG]
    exact rop_mono (fun v hp' hk => vcW_ok rest _ _ hk) (ropW_ok h)
  | ⟨d, op, some (t, true)⟩ :: rest, fr, hp, h => by
    simp only [vcW, nextW_eq] at h
    simp only [vcG, guardB]
    split at h
    · rename_i b hb
      try rw [hb]
      obtain ⟨h1, h2⟩ := condM_elim h
      exact ⟨fun e => rop_mono (fun v hp' hk => vcW_ok rest _ _ hk) (ropW_ok (h1 e)), fun e => vcW_ok rest _ _ (h2 e)⟩
    · rename_i hb
      try rw [hb]
      exact vcW_ok rest _ _ h
    · exact h.elim
  | ⟨d, op, some (t, false)⟩ :: rest, fr, hp, h => by
    simp only [vcW, nextW_eq] at h
    simp only [vcG, guardB]
    split at h
    · rename_i b hb
      try rw [hb]
      obtain ⟨h1, h2⟩ := condM_elim h
      exact ⟨fun e => vcW_ok rest _ _ (h1 e), fun e => rop_mono (fun v hp' hk => vcW_ok rest _ _ hk) (ropW_ok (h2 e))⟩
    · rename_i hb
      try rw [hb]
      exact vcW_ok rest _ _ h
    · exact h.elim
section
variable {P : Program} {N : Nat} {mt : List Nat} {Q Q' : AExit → Fr → AHeap → Prop} {fr fr' : Fr} {hp : AHeap} {x y : RCode}
/-- Behind a piece, the next. -/
def thenW (P : Program) (mt : List Nat) (N : Nat) (y : RCode) (Q : AExit → Fr → AHeap → Prop) : AExit → Fr → AHeap → Prop
  | .normal, fr, hp => W P mt N y Q fr hp
  | .exit id, fr, hp => Q (.exit id) fr hp
  | .ret, fr, hp => Q .ret fr hp
/-- In a block. -/
def blockW (id : Nat) (Q : AExit → Fr → AHeap → Prop) : AExit → Fr → AHeap → Prop
  | .normal, fr, hp => Q .normal fr hp
  | .exit id', fr, hp => match Nat.beq id' id with
    | true => Q .normal fr hp
    | false => Q (.exit id') fr hp
  | .ret, fr, hp => Q .ret fr hp
theorem W.mono (h : W P mt N x Q fr hp) (hq : ∀ e fr hp, Q e fr hp → Q' e fr hp) : W P mt N x Q' fr hp := ⟨h.out.mono hq⟩
theorem W.keep (l : List Nat) (h : W P mt N x Q (fr.keep l) hp) : W P mt N x Q fr hp := ⟨h.out.keep l⟩
theorem W.le (hl : Fr.le fr fr') (h : W P mt N x Q fr' hp) : W P mt N x Q fr hp := ⟨h.out.le hl⟩
theorem W.skip (h : Q .normal fr hp) : W P mt N .skip Q fr hp := ⟨.skip h⟩
theorem W.ret (h : Q .ret fr hp) : W P mt N .ret Q fr hp := ⟨.ret h⟩
theorem W.exit {id : Nat} (h : Q (.exit id) fr hp) : W P mt N (.exit id) Q fr hp := ⟨.exit h⟩
theorem W.label {l : Nat} (h : Q .normal fr hp) : W P mt N (.label l) Q fr hp := ⟨.label h⟩
theorem W.seq (h : W P mt N x (thenW P mt N y Q) fr hp) : W P mt N (.seq x y) Q fr hp := ⟨.seq (h.out.mono fun e f g hq => by
  cases e with
  | normal => exact W.out hq
  | exit id => exact hq
  | ret => exact hq)⟩
theorem W.block {id : Nat} (h : W P mt N x (blockW id Q) fr hp) : W P mt N (.block id x) Q fr hp := ⟨.block (h.out.mono fun e f g hq => by
  cases e with
  | normal => exact hq
  | ret => exact hq
  | exit id' =>
    simp only [blockW] at hq
    simp only [blockQ]
    split at hq
    · rename_i e; rw [if_pos (Nat.eq_of_beq_eq_true e)]; exact hq
    · rename_i e; rw [if_neg (fun h => by rw [h] at e; simp at e)]; exact hq)⟩
theorem W.region {rs : List ROper} {draw : Bool} (h : vcW P (Q .normal) rs fr hp) : W P mt N (.region rs draw) Q fr hp := ⟨.region (vcW_ok _ _ _ h)⟩
theorem W.regions2 {r1 r2 : List ROper} (h1 : vcW P (Q .normal) r1 fr hp) (h2 : vcW P (Q .normal) r2 fr hp) : W P mt N (.regions [r1, r2]) Q fr hp := ⟨.regions fun rs hrs => by
  simp only [List.mem_cons, List.not_mem_nil, or_false] at hrs
  rcases hrs with rfl | rfl
  · exact vcW_ok _ _ _ h1
  · exact vcW_ok _ _ _ h2⟩
theorem W.regions3 {r1 r2 r3 : List ROper} (h1 : vcW P (Q .normal) r1 fr hp) (h2 : vcW P (Q .normal) r2 fr hp) (h3 : vcW P (Q .normal) r3 fr hp) : W P mt N (.regions [r1, r2, r3]) Q fr hp := ⟨.regions fun rs hrs => by
  simp only [List.mem_cons, List.not_mem_nil, or_false] at hrs
  rcases hrs with rfl | rfl | rfl
  · exact vcW_ok _ _ _ h1
  · exact vcW_ok _ _ _ h2
  · exact vcW_ok _ _ _ h3⟩
theorem W.regions4 {r1 r2 r3 r4 : List ROper} (h1 : vcW P (Q .normal) r1 fr hp) (h2 : vcW P (Q .normal) r2 fr hp) (h3 : vcW P (Q .normal) r3 fr hp) (h4 : vcW P (Q .normal) r4 fr hp) : W P mt N (.regions [r1, r2, r3, r4]) Q fr hp := ⟨.regions fun rs hrs => by
  simp only [List.mem_cons, List.not_mem_nil, or_false] at hrs
  rcases hrs with rfl | rfl | rfl | rfl
  · exact vcW_ok _ _ _ h1
  · exact vcW_ok _ _ _ h2
  · exact vcW_ok _ _ _ h3
  · exact vcW_ok _ _ _ h4⟩
theorem W.regions5 {r1 r2 r3 r4 r5 : List ROper} (h1 : vcW P (Q .normal) r1 fr hp) (h2 : vcW P (Q .normal) r2 fr hp) (h3 : vcW P (Q .normal) r3 fr hp) (h4 : vcW P (Q .normal) r4 fr hp) (h5 : vcW P (Q .normal) r5 fr hp) : W P mt N (.regions [r1, r2, r3, r4, r5]) Q fr hp := ⟨.regions fun rs hrs => by
  simp only [List.mem_cons, List.not_mem_nil, or_false] at hrs
  rcases hrs with rfl | rfl | rfl | rfl | rfl
  · exact vcW_ok _ _ _ h1
  · exact vcW_ok _ _ _ h2
  · exact vcW_ok _ _ _ h3
  · exact vcW_ok _ _ _ h4
  · exact vcW_ok _ _ _ h5⟩
theorem W.regions6 {r1 r2 r3 r4 r5 r6 : List ROper} (h1 : vcW P (Q .normal) r1 fr hp) (h2 : vcW P (Q .normal) r2 fr hp) (h3 : vcW P (Q .normal) r3 fr hp) (h4 : vcW P (Q .normal) r4 fr hp) (h5 : vcW P (Q .normal) r5 fr hp) (h6 : vcW P (Q .normal) r6 fr hp) : W P mt N (.regions [r1, r2, r3, r4, r5, r6]) Q fr hp := ⟨.regions fun rs hrs => by
  simp only [List.mem_cons, List.not_mem_nil, or_false] at hrs
  rcases hrs with rfl | rfl | rfl | rfl | rfl | rfl
  · exact vcW_ok _ _ _ h1
  · exact vcW_ok _ _ _ h2
  · exact vcW_ok _ _ _ h3
  · exact vcW_ok _ _ _ h4
  · exact vcW_ok _ _ _ h5
  · exact vcW_ok _ _ _ h6⟩
theorem W.regions7 {r1 r2 r3 r4 r5 r6 r7 : List ROper} (h1 : vcW P (Q .normal) r1 fr hp) (h2 : vcW P (Q .normal) r2 fr hp) (h3 : vcW P (Q .normal) r3 fr hp) (h4 : vcW P (Q .normal) r4 fr hp) (h5 : vcW P (Q .normal) r5 fr hp) (h6 : vcW P (Q .normal) r6 fr hp) (h7 : vcW P (Q .normal) r7 fr hp) : W P mt N (.regions [r1, r2, r3, r4, r5, r6, r7]) Q fr hp := ⟨.regions fun rs hrs => by
  simp only [List.mem_cons, List.not_mem_nil, or_false] at hrs
  rcases hrs with rfl | rfl | rfl | rfl | rfl | rfl | rfl
  · exact vcW_ok _ _ _ h1
  · exact vcW_ok _ _ _ h2
  · exact vcW_ok _ _ _ h3
  · exact vcW_ok _ _ _ h4
  · exact vcW_ok _ _ _ h5
  · exact vcW_ok _ _ _ h6
  · exact vcW_ok _ _ _ h7⟩
/-- A test's two ways, the tested slot known in each. -/
def condW (P : Program) (mt : List Nat) (N : Nat) (c : Arg) (x y : RCode) (Q : AExit → Fr → AHeap → Prop) (fr : Fr) (hp : AHeap) : Prop :=
  match ev fr c with
  | .d (.bool b) => condM b (W P mt N x Q fr hp) (W P mt N y Q fr hp)
  | _ => False
theorem W.cond {c : Arg} (h : condW P mt N c x y Q fr hp) : W P mt N (.cond c x y) Q fr hp := ⟨.cond (by
  unfold condW at h
  unfold condP
  split at h
  · rename_i b hb
    obtain ⟨h1, h2⟩ := condM_elim h
    rw [hb]
    exact ⟨fun e => (h1 e).out, fun e => (h2 e).out⟩
  · exact h.elim)⟩
theorem W.loop {σ : Type} (F : σ → Fr) (G : σ → AHeap) (I : σ → Prop) (μ : σ → Nat) (i0 : σ) (h0 : I i0) (hF : Fr.le fr (F i0)) (hG : hp = G i0)
    (round : ∀ i, I i → W P mt N x (fun e fr' hp' => match e with
      | .normal => ∃ j, I j ∧ μ j < μ i ∧ Fr.le fr' (F j) ∧ hp' = G j
      | e => Q e fr' hp') (F i) (G i)) :
    W P mt N (.loop x) Q fr hp := ⟨.loop F G I μ i0 h0 hF hG fun i hi => (round i hi).out.mono fun e f g hq => by
  cases e with
  | normal => exact hq
  | exit id => exact hq
  | ret => exact hq⟩
theorem ac_of {f : FuncId} {g : RFn} (hf : FnOK P f g) {args : List FV} {Q : FV → AHeap → Prop} {b : RCode} {rs : List RRes} {n : Nat} {mt : List Nat} (hg : g = ⟨b, rs, n, mt⟩) (hn : Nat.ble args.length n = true) (h : W P mt n b (retQ hp rs Q) (argFr args) hp) : AC P f args hp Q := by
  subst hg
  exact ⟨acalls_of hf (Nat.le_of_ble_eq_true hn) h.out⟩
/-- The end, nothing of one's own handed back. -/
theorem fin0 {rs : List RRes} {Q : FV → AHeap → Prop} {r : AV} {e : AExit} (he : e = .normal ∨ e = .ret) (h : resultOf fr hp rs = some (.d r)) (hq : Q (.d r) hp) : retQ hp rs Q e fr hp := by
  unfold retQ
  exact ⟨he, hp, [], .d r, by simp, Nat.le_refl _, fun l o h => .inl h, h, by simp [OkIn], hq⟩
theorem finJ {rs : List RRes} {Q : FV → AHeap → Prop} {r : FV} {e : AExit} {junk : AHeap} (he : e = .normal ∨ e = .ret) (h : resultOf fr (hp ++ junk) rs = some r) (hk : OkIn hp.length r) (hq : Q r hp) : retQ hp rs Q e fr (hp ++ junk) := by
  unfold retQ
  exact ⟨he, hp, junk, r, rfl, Nat.le_refl _, fun l o h => .inl h, h, hk, hq⟩
theorem SlotLe.of_eq {x y : FV} (h : x = y) : SlotLe x y := h ▸ .same x
theorem wr {n : Int} (h1 : -9223372036854775808 ≤ n) (h2 : n ≤ 9223372036854775807) : IntKind.i64.wrap n = n := by
  unfold IntKind.wrap
  simp [IntKind.bits, IntKind.signed]
  split <;> omega
end
end Go.Pg
set_option linter.unusedVariables false
namespace Go.Pg
mutual
def FV.ren (ρ : Nat → Nat) : FV → FV
  | .own e rows l => .own e rows (ρ l)
  | .vp l off => .vp (ρ l) off
  | .ep l off => .ep (ρ l) off
  | .map l => .map (ρ l)
  | .ms e l lo n => .ms e (ρ l) lo n
  | .sd e rows l => .sd e rows (ρ l)
  | .raw e l n => .raw e (ρ l) n
  | .clo f a b => .clo f (renL ρ a) (renL ρ b)
  | .agg cs => .agg (renL ρ cs)
  | .tup cs => .tup (renL ρ cs)
  | .d x => .d x
  | .nil e => .nil e
  | .cp cs => .cp cs
  | .nilp => .nilp
  | .nilmap => .nilmap
  | .any => .any
def renL (ρ : Nat → Nat) : List FV → List FV
  | [] => []
  | x :: r => x.ren ρ :: renL ρ r
end
theorem renL_eq (ρ : Nat → Nat) : ∀ l : List FV, renL ρ l = l.map (FV.ren ρ)
  | [] => rfl
  | x :: r => by simp only [renL, List.map_cons, renL_eq ρ r]
mutual
/-- Each object spoken of is one of these. -/
def FV.all (p : Nat → Prop) : FV → Prop
  | .own _ _ l => p l
  | .vp l _ => p l
  | .ep l _ => p l
  | .map l => p l
  | .ms _ l _ _ => p l
  | .sd _ _ l => p l
  | .raw _ l _ => p l
  | .clo _ a b => allL p a ∧ allL p b
  | .agg cs => allL p cs
  | .tup cs => allL p cs
  | _ => True
def allL (p : Nat → Prop) : List FV → Prop
  | [] => True
  | x :: r => x.all p ∧ allL p r
end
theorem allL_iff {p : Nat → Prop} : ∀ {l : List FV}, allL p l ↔ ∀ x ∈ l, x.all p
  | [] => by simp [allL]
  | x :: r => by simp only [allL, allL_iff (l := r), List.forall_mem_cons]
def AObj.ren (ρ : Nat → Nat) : AObj → AObj
  | .var t cs => .var t (renL ρ cs)
  | .map es => .map (es.map fun x => (x.1, x.2.ren ρ))
  | o => o
def AObj.all (p : Nat → Prop) : AObj → Prop
  | .var _ cs => allL p cs
  | .map es => ∀ x ∈ es, x.2.all p
  | _ => True
mutual
theorem FV.ren_all {p q : Nat → Prop} {ρ : Nat → Nat} (h : ∀ l, p l → q (ρ l)) : ∀ {x : FV}, x.all p → (x.ren ρ).all q
  | .own _ _ l, k => h l k
  | .vp l _, k => h l k
  | .ep l _, k => h l k
  | .map l, k => h l k
  | .ms _ l _ _, k => h l k
  | .sd _ _ l, k => h l k
  | .raw _ l _, k => h l k
  | .clo _ a b, k => ⟨renL_all h k.1, renL_all h k.2⟩
  | .agg cs, k => renL_all h (l := cs) k
  | .tup cs, k => renL_all h (l := cs) k
  | .d _, _ => trivial
  | .nil _, _ => trivial
  | .cp _, _ => trivial
  | .nilp, _ => trivial
  | .nilmap, _ => trivial
  | .any, _ => trivial
theorem renL_all {p q : Nat → Prop} {ρ : Nat → Nat} (h : ∀ l, p l → q (ρ l)) : ∀ {l : List FV}, allL p l → allL q (renL ρ l)
  | [], _ => trivial
  | x :: r, k => ⟨FV.ren_all h k.1, renL_all h k.2⟩
end
mutual
theorem FV.ren_back {p : Nat → Prop} {ρ σ : Nat → Nat} (h : ∀ l, p l → σ (ρ l) = l) : ∀ {x : FV}, x.all p → (x.ren ρ).ren σ = x
  | .own _ _ l, k => by simp only [FV.ren, h l k]
  | .vp l _, k => by simp only [FV.ren, h l k]
  | .ep l _, k => by simp only [FV.ren, h l k]
  | .map l, k => by simp only [FV.ren, h l k]
  | .ms _ l _ _, k => by simp only [FV.ren, h l k]
  | .sd _ _ l, k => by simp only [FV.ren, h l k]
  | .raw _ l _, k => by simp only [FV.ren, h l k]
  | .clo _ a b, k => by simp only [FV.ren, renL_back h k.1, renL_back h k.2]
  | .agg cs, k => by simp only [FV.ren, renL_back h (l := cs) k]
  | .tup cs, k => by simp only [FV.ren, renL_back h (l := cs) k]
  | .d _, _ => rfl
  | .nil _, _ => rfl
  | .cp _, _ => rfl
  | .nilp, _ => rfl
  | .nilmap, _ => rfl
  | .any, _ => rfl
theorem renL_back {p : Nat → Prop} {ρ σ : Nat → Nat} (h : ∀ l, p l → σ (ρ l) = l) : ∀ {l : List FV}, allL p l → renL σ (renL ρ l) = l
  | [], _ => rfl
  | x :: r, k => by simp only [renL, FV.ren_back h k.1, renL_back h k.2]
end
mutual
theorem FV.ren_congr {p : Nat → Prop} {ρ σ : Nat → Nat} (h : ∀ l, p l → ρ l = σ l) : ∀ {x : FV}, x.all p → x.ren ρ = x.ren σ
  | .own _ _ l, k => by simp only [FV.ren, h l k]
  | .vp l _, k => by simp only [FV.ren, h l k]
  | .ep l _, k => by simp only [FV.ren, h l k]
  | .map l, k => by simp only [FV.ren, h l k]
  | .ms _ l _ _, k => by simp only [FV.ren, h l k]
  | .sd _ _ l, k => by simp only [FV.ren, h l k]
  | .raw _ l _, k => by simp only [FV.ren, h l k]
  | .clo _ a b, k => by simp only [FV.ren, renL_congr h k.1, renL_congr h k.2]
  | .agg cs, k => by simp only [FV.ren, renL_congr h (l := cs) k]
  | .tup cs, k => by simp only [FV.ren, renL_congr h (l := cs) k]
  | .d _, _ => rfl
  | .nil _, _ => rfl
  | .cp _, _ => rfl
  | .nilp, _ => rfl
  | .nilmap, _ => rfl
  | .any, _ => rfl
theorem renL_congr {p : Nat → Prop} {ρ σ : Nat → Nat} (h : ∀ l, p l → ρ l = σ l) : ∀ {l : List FV}, allL p l → renL ρ l = renL σ l
  | [], _ => rfl
  | x :: r, k => by simp only [renL, FV.ren_congr h k.1, renL_congr h k.2]
end
mutual
theorem FV.ren_id : ∀ (x : FV), x.ren id = x
  | .own _ _ _ => rfl
  | .vp _ _ => rfl
  | .ep _ _ => rfl
  | .map _ => rfl
  | .ms _ _ _ _ => rfl
  | .sd _ _ _ => rfl
  | .raw _ _ _ => rfl
  | .clo _ a b => by simp only [FV.ren, renL_id a, renL_id b]
  | .agg cs => by simp only [FV.ren, renL_id cs]
  | .tup cs => by simp only [FV.ren, renL_id cs]
  | .d _ => rfl
  | .nil _ => rfl
  | .cp _ => rfl
  | .nilp => rfl
  | .nilmap => rfl
  | .any => rfl
theorem renL_id : ∀ (l : List FV), renL id l = l
  | [] => rfl
  | x :: r => by simp only [renL, FV.ren_id x, renL_id r]
end
section
variable {P : Program}
theorem RepF.inAll {s : St} {hp : AHeap} {x : FV} {v : Value} (h : RepF P s hp x v) : x.all (· < hp.length) := by
  have L : ∀ (cs : List FV) (vs : Array Value), vs.size = cs.length → (∀ i (h1 : i < cs.length) (h2 : i < vs.size), (cs[i]).all (· < hp.length)) → allL (· < hp.length) cs := by
    intro cs vs hl h
    rw [allL_iff]
    intro x hx
    obtain ⟨i, hi, rfl⟩ := List.getElem_of_mem hx
    exact h i hi (by omega)
  induction h with
  | d => trivial
  | nil => trivial
  | own e rows l v n h hb => exact lt_of_get? hb
  | vp l off b o hl => exact lt_of_get? hl
  | cp => trivial
  | nilp => trivial
  | clo f first cap vf vc h1 h2 _ _ ih1 ih2 => exact ⟨L _ _ h1 ih1, L _ _ h2 ih2⟩
  | agg cs vs hl h1 _ ih => exact L _ _ hl ih
  | tup cs vs hl _ ih => exact L _ _ hl ih
  | map l b o hl => exact lt_of_get? hl
  | nilmap => trivial
  | ms e l lo n b c o hl => exact lt_of_get? hl
  | sd e rows l v p n h hb => exact lt_of_get? hb
  | raw e l n g c m hb => exact lt_of_get? hb
  | ep l off b o hl => exact lt_of_get? hl
  | any => trivial
/-- One object stands where the other does. -/
def Like (s s' : St) (hp hp' : AHeap) (ρ : Nat → Nat) (l : Nat) : Prop :=
  s'.π (ρ l) = s.π l ∧ (∀ e n, hp[l]? = some (.buf e n) → hp'[ρ l]? = some (.buf e n)) ∧ ∀ o, hp[l]? = some o → o.isBuf = false → ∃ o', hp'[ρ l]? = some o' ∧ o'.isBuf = false
theorem RepF.ren {s s' : St} {hp hp' : AHeap} {ρ : Nat → Nat} {p : Nat → Prop} (hw : s'.w = s.w) (hH : s'.H = s.H) (hl : ∀ l, p l → Like s s' hp hp' ρ l) {x : FV} {v : Value} (h : RepF P s hp x v) (hx : x.all p) : RepF P s' hp' (x.ren ρ) v := by
  obtain ⟨w, H, π⟩ := s
  obtain ⟨w', H', π'⟩ := s'
  simp only at hw hH
  subst hw hH
  have L : ∀ (cs : List FV) (vs : Array Value), vs.size = cs.length → allL p cs → (∀ i (h1 : i < cs.length) (h2 : i < vs.size), (cs[i]).all p → RepF P ⟨w', H', π'⟩ hp' (cs[i].ren ρ) vs[i]) →
      ∀ i (h1 : i < (renL ρ cs).length) (h2 : i < vs.size), RepF P ⟨w', H', π'⟩ hp' (renL ρ cs)[i] vs[i] := by
    intro cs vs hl ha h i h1 h2
    have h3 : i < cs.length := by omega
    have := h i h3 h2 (allL_iff.1 ha _ (List.getElem_mem h3))
    simpa [renL_eq] using this
  induction h with
  | d x v h => exact .d x v h
  | nil e => exact .nil e
  | own e rows l v n h hb hle tip =>
    obtain ⟨k1, k2, k3⟩ := hl l hx
    refine .own e rows (ρ l) v n h (k2 _ _ hb) hle fun he => ?_
    rcases tip he with ⟨t1, t2, t3⟩ | ⟨g, cap, cur, t1, t2, t3⟩
    · exact .inl ⟨t1, t2, k1.trans t3⟩
    · exact .inr ⟨g, cap, cur, t1, k1.trans t2, t3⟩
  | vp l off b o hlk ho hb =>
    obtain ⟨k1, k2, k3⟩ := hl l hx
    obtain ⟨o', h1, h2⟩ := k3 o hlk ho
    exact .vp _ off b o' h1 h2 (k1.trans hb)
  | cp cs b off cell hr hH h1 h => exact .cp cs b off cell hr hH h1 h
  | nilp => exact .nilp
  | clo f first cap vf vc h1 h2 _ _ ih1 ih2 =>
    exact .clo f _ _ vf vc (by simp [renL_eq, h1]) (by simp [renL_eq, h2]) (L first vf h1 hx.1 ih1) (L cap vc h2 hx.2 ih2)
  | agg cs vs hl' h1 _ ih => exact .agg _ vs (by simp [renL_eq, hl']) h1 (L cs vs hl' hx ih)
  | tup cs vs hl' _ ih => exact .tup _ vs (by simp [renL_eq, hl']) (L cs vs hl' hx ih)
  | map l b o hlk ho hb =>
    obtain ⟨k1, k2, k3⟩ := hl l hx
    obtain ⟨o', h1, h2⟩ := k3 o hlk ho
    exact .map _ b o' h1 h2 (k1.trans hb)
  | nilmap => exact .nilmap
  | ms e l lo n b c o hlk ho hb h3 h4 h5 =>
    obtain ⟨k1, k2, k3⟩ := hl l hx
    obtain ⟨o', h1, h2⟩ := k3 o hlk ho
    exact .ms e _ lo n b c o' h1 h2 (k1.trans hb) h3 h4 h5
  | sd e rows l v q n h hb hle hpp tip =>
    obtain ⟨k1, k2, k3⟩ := hl l hx
    refine .sd e rows (ρ l) v q n h (k2 _ _ hb) hle hpp fun he => ?_
    rcases tip he with ⟨t1, t2, t3⟩ | ⟨g, cap, cur, t1, t2, t3⟩
    · exact .inl ⟨t1, t2, k1.trans t3⟩
    · exact .inr ⟨g, cap, cur, t1, k1.trans t2, t3⟩
  | raw e l n g c m hb hc hcm hr tip =>
    obtain ⟨k1, k2, k3⟩ := hl l hx
    refine .raw e (ρ l) n g c m (k2 _ _ hb) hc hcm hr fun he => ?_
    obtain ⟨cur, t2, t3⟩ := tip he
    exact ⟨cur, k1.trans t2, t3⟩
  | ep l off b o hlk ho hb =>
    obtain ⟨k1, k2, k3⟩ := hl l hx
    obtain ⟨o', h1, h2⟩ := k3 o hlk ho
    exact .ep _ off b o' h1 h2 (k1.trans hb)
  | any v => exact .any v
theorem ObjRep.inAll {s : St} {hp : AHeap} {l : Nat} {o : AObj} (h : ObjRep P s hp l o) : o.all (· < hp.length) := by
  cases o with
  | var t cs =>
    obtain ⟨b, vs, h1, h2, h3, h4, h5, h6⟩ := h
    simp only [AObj.all, allL_iff]
    exact fun x hx => by obtain ⟨i, hi, rfl⟩ := List.getElem_of_mem hx; exact (h6 i hi (by omega)).inAll
  | map es =>
    obtain ⟨b, mes, c, h1, h2, h3, h4, h5⟩ := h
    exact fun x hx => by obtain ⟨i, hi, rfl⟩ := List.getElem_of_mem hx; exact (h5 i hi (by omega)).2.inAll
  | _ => trivial
theorem ObjRep.ren {s s' : St} {hp hp' : AHeap} {ρ : Nat → Nat} {p : Nat → Prop} (hw : s'.w = s.w) (hH : s'.H = s.H) (hl : ∀ l, p l → Like s s' hp hp' ρ l) {l : Nat} {o : AObj} (h : ObjRep P s hp l o) (hx : o.all p) (hπ : s'.π (ρ l) = s.π l) : ObjRep P s' hp' (ρ l) (o.ren ρ) := by
  cases o with
  | var t cs =>
    obtain ⟨b, vs, h1, h2, h3, h4, h5, h6⟩ := h
    refine ⟨b, vs, hπ.trans h1, by rw [hw]; exact h2, by rw [hH]; exact h3, by simp [renL_eq, h4], h5, fun i hi hj => ?_⟩
    have hi' : i < cs.length := by simpa [renL_eq] using hi
    have := (h6 i hi' hj).ren hw hH hl (allL_iff.1 hx _ (List.getElem_mem hi'))
    simpa [renL_eq] using this
  | map es =>
    obtain ⟨b, mes, c, h1, h2, h3, h4, h5⟩ := h
    refine ⟨b, mes, c, hπ.trans h1, by rw [hw]; exact h2, by rw [hH]; exact h3, by simp [h4], fun i hi hj => ?_⟩
    have hi' : i < es.length := by simpa using hi
    have := h5 i hi' hj
    refine ⟨by simpa using this.1, ?_⟩
    have k := this.2.ren hw hH hl (hx _ (List.getElem_mem hi'))
    simpa using k
  | buf e n => intro b hb; rw [hw]; exact h b (hπ.symm.trans hb)
  | siter st pos =>
    obtain ⟨b, h1, h2, h3, h4⟩ := h
    exact ⟨b, hπ.trans h1, by rw [hw]; exact h2, by rw [hH]; exact h3, h4⟩
  | dead => intro b hb; rw [hw]; exact h b (hπ.symm.trans hb)
  | glob g cs =>
    obtain ⟨w, H, π⟩ := s
    obtain ⟨w', H', π'⟩ := s'
    simp only at hw hH
    subst hw hH
    exact ⟨hπ.trans h.1, h.2⟩
end
end Go.Pg
set_option linter.unusedVariables false
namespace Go.Pg
/-- The great heap, where the small one's objects stand at these places. -/
def putAll : AHeap → List Nat → List AObj → AHeap
  | hp, l :: ls, o :: os => putAll (hp.set l o) ls os
  | hp, _, _ => hp
/-- Small names to great ones; the new objects stand behind. -/
def renTo (n : Nat) : List Nat → Nat → Nat
  | [], i => n + i
  | l :: _, 0 => l
  | _ :: ls, i + 1 => renTo n ls i
def mergeH (hp : AHeap) (ls : List Nat) (g : AHeap) : AHeap :=
  putAll hp ls ((g.take ls.length).map (AObj.ren (renTo hp.length ls))) ++ (g.drop ls.length).map (AObj.ren (renTo hp.length ls))
theorem renTo_lt {n : Nat} : ∀ {ls : List Nat} {i : Nat} (h : i < ls.length), renTo n ls i = ls[i]
  | l :: ls, 0, _ => rfl
  | l :: ls, i + 1, h => by simp only [renTo, List.getElem_cons_succ]; exact renTo_lt (by simpa using h)
  | [], i, h => by simp at h
theorem renTo_ge {n : Nat} : ∀ {ls : List Nat} {i : Nat} (h : ls.length ≤ i), renTo n ls i = n + (i - ls.length)
  | [], i, _ => by simp [renTo]
  | l :: ls, 0, h => by simp at h
  | l :: ls, i + 1, h => by simp only [renTo]; rw [renTo_ge (by simpa using h)]; simp
theorem putAll_length : ∀ (hp : AHeap) (ls : List Nat) (os : List AObj), (putAll hp ls os).length = hp.length
  | hp, [], _ => by simp [putAll]
  | hp, _ :: _, [] => by simp [putAll]
  | hp, l :: ls, o :: os => by simp only [putAll]; rw [putAll_length]; simp
theorem putAll_other : ∀ (hp : AHeap) (ls : List Nat) (os : List AObj) (j : Nat), j ∉ ls → (putAll hp ls os)[j]? = hp[j]?
  | hp, [], _, j, _ => by simp [putAll]
  | hp, _ :: _, [], j, _ => by simp [putAll]
  | hp, l :: ls, o :: os, j, h => by
    simp only [putAll]
    rw [putAll_other _ ls os j (fun k => h (List.mem_cons_of_mem _ k)), List.getElem?_set_ne (fun e => h (by simp [e]))]
theorem putAll_at : ∀ (hp : AHeap) (ls : List Nat) (os : List AObj) (i : Nat) (h1 : i < ls.length) (h2 : i < os.length), ls.Nodup → (∀ l ∈ ls, l < hp.length) → (putAll hp ls os)[ls[i]]? = some os[i]
  | hp, [], _, i, h1, _, _, _ => by simp at h1
  | hp, _ :: _, [], i, _, h2, _, _ => by simp at h2
  | hp, l :: ls, o :: os, 0, _, _, nd, hb => by
    simp only [putAll, List.getElem_cons_zero]
    rw [putAll_other _ ls os l (List.nodup_cons.1 nd).1]
    simp [hb l (by simp)]
  | hp, l :: ls, o :: os, i + 1, h1, h2, nd, hb => by
    simp only [putAll, List.getElem_cons_succ]
    exact putAll_at _ ls os i (by simpa using h1) (by simpa using h2) (List.nodup_cons.1 nd).2 (fun x hx => by simpa using hb x (by simp [hx]))
theorem AObj.ren_buf {ρ : Nat → Nat} {o : AObj} {e : TypeId} {n : Nat} : o.ren ρ = .buf e n ↔ o = .buf e n := by
  cases o <;> simp [AObj.ren]
theorem AObj.ren_isBuf {ρ : Nat → Nat} {o : AObj} : (o.ren ρ).isBuf = o.isBuf := by
  cases o <;> rfl
theorem AObj.ren_back {p : Nat → Prop} {ρ σ : Nat → Nat} (h : ∀ l, p l → σ (ρ l) = l) {o : AObj} (ho : o.all p) : (o.ren ρ).ren σ = o := by
  cases o with
  | var t cs => simp only [AObj.ren, renL_back h ho]
  | map es =>
    simp only [AObj.ren, List.map_map]
    congr 1
    conv => rhs; rw [← List.map_id es]
    apply List.map_congr_left
    intro x hx
    simp [FV.ren_back h (ho x hx)]
  | _ => rfl
theorem AC.lift {P : Program} {f : FuncId} {args0 args : List FV} {hp0 hp : AHeap} {Q0 Q : FV → AHeap → Prop} (ls : List Nat) (h : AC P f args0 hp0 Q0) (hlen : ls.length = hp0.length) (nd : ls.Nodup)
    (hh : ∀ i (h1 : i < ls.length) (h2 : i < hp0.length), hp[ls[i]]? = some (hp0[i].ren (renTo hp.length ls))) (ha : args = renL (renTo hp.length ls) args0)
    (inA : allL (· < hp0.length) args0) (inH : ∀ o ∈ hp0, o.all (· < hp0.length))
    (hQ : ∀ r g, hp0.length ≤ g.length → Q0 r g → Q (r.ren (renTo hp.length ls)) (mergeH hp ls g)) : AC P f args hp Q := by
  refine ⟨h.out.1, fun s vs hr hvs hrep => ?_⟩
  have hlt : ∀ l ∈ ls, l < hp.length := fun l hl => by
    obtain ⟨i, hi, rfl⟩ := List.getElem_of_mem hl
    exact lt_of_get? (hh i hi (by omega))
  obtain ⟨ρ, hρe⟩ : ∃ ρ, ρ = renTo hp.length ls := ⟨_, rfl⟩
  rw [← hρe] at hh ha hQ
  have hρ : ∀ i (h : i < ls.length), ρ i = ls[i] := fun i h => by rw [hρe]; exact renTo_lt h
  obtain ⟨s0, hw0, hH0, hπ0⟩ : ∃ s0 : St, s0.w = s.w ∧ s0.H = s.H ∧ ∀ i, i < ls.length → s0.π i = s.π (ρ i) :=
    ⟨⟨s.w, s.H, fun i => if i < ls.length then s.π (ρ i) else none⟩, rfl, rfl, fun i hi => by simp [hi]⟩
  obtain ⟨σ, hσe⟩ : ∃ σ : Nat → Nat, ∀ l, σ l = ls.idxOf l := ⟨_, fun l => rfl⟩
  have hσ : ∀ i, i < hp0.length → σ (ρ i) = i := fun i hi => by
    have hi' : i < ls.length := by omega
    rw [hρ i hi', hσe]
    exact List.Nodup.idxOf_getElem nd i hi'
  have like0 : ∀ l, (∃ i, i < hp0.length ∧ l = ρ i) → Like s s0 hp hp0 σ l := by
    rintro l ⟨i, hi, rfl⟩
    have hi' : i < ls.length := by omega
    have e := hh i hi' hi
    rw [← hρ i hi'] at e
    refine ⟨by rw [hσ i hi]; exact hπ0 i hi', fun t n hb => ?_, fun o ho hb => ?_⟩
    · rw [e] at hb
      injection hb with hb
      rw [hσ i hi, List.getElem?_eq_getElem hi, AObj.ren_buf.1 hb]
    · rw [e] at ho
      injection ho with ho
      subst ho
      exact ⟨hp0[i], by rw [hσ i hi, List.getElem?_eq_getElem hi], by rw [← hb, AObj.ren_isBuf]⟩
  have hr0 : RelH P s0 hp0 := by
    refine ⟨fun l l' b h1 h2 e1 e2 => ?_, fun l o hl => ?_, fun b hb => by rw [hH0]; exact hr.fresh b (by rw [← hw0]; exact hb)⟩
    · have h1' : l < ls.length := by omega
      have h2' : l' < ls.length := by omega
      rw [hπ0 l h1'] at e1
      rw [hπ0 l' h2'] at e2
      have := hr.inj _ _ b (by rw [hρ l h1']; exact hlt _ (List.getElem_mem h1')) (by rw [hρ l' h2']; exact hlt _ (List.getElem_mem h2')) e1 e2
      rw [← hσ l (by omega), this, hσ l' (by omega)]
    · have hi := lt_of_get? hl
      have hi' : l < ls.length := by omega
      have e : hp0[l] = o := by rw [List.getElem?_eq_getElem hi] at hl; injection hl
      have ho := hr.obj (ρ l) _ (by rw [hρ l hi']; exact hh l hi' hi)
      rw [e] at ho
      have hall : o.all (· < hp0.length) := inH o (by rw [← e]; exact List.getElem_mem hi)
      have hall2 : (o.ren ρ).all (fun l => ∃ i, i < hp0.length ∧ l = ρ i) := by
        cases o with
        | var t cs => exact renL_all (fun l hl => ⟨l, hl, rfl⟩) hall
        | map es =>
          intro x hx
          obtain ⟨y, hy, rfl⟩ := List.mem_map.1 hx
          exact FV.ren_all (fun l hl => ⟨l, hl, rfl⟩) (hall y hy)
        | _ => trivial
      have := ObjRep.ren (s' := s0) (hp' := hp0) hw0 hH0 like0 ho hall2 (by rw [hσ l hi]; exact hπ0 l hi')
      rw [hσ l hi, AObj.ren_back hσ hall] at this
      exact this
  subst ha
  have hal : (renL ρ args0).length = args0.length := by simp [renL_eq]
  rw [← hw0]
  refine (h.out.2 s0 vs hr0 (by rw [hvs]; exact hal) (fun i h1 h2 => ?_)).mono ?_
  · have := hrep i (by rw [← hal] at h1; exact h1) h2
    simp only [renL_eq, List.getElem_map] at this
    have hx := allL_iff.1 inA _ (List.getElem_mem h1)
    have k := RepF.ren (s' := s0) (hp' := hp0) hw0 hH0 like0 this (FV.ren_all (fun l hl => ⟨l, hl, rfl⟩) hx)
    rw [FV.ren_back hσ hx] at k
    exact k
  · rintro e w' ⟨s1, g, r, v, rfl, rfl, hr1, hrep1, hst, hq⟩
    have hgl : ls.length ≤ g.length := by have := hst.len; omega
    have hml : (mergeH hp ls g).length = hp.length + (g.length - ls.length) := by simp [mergeH, putAll_length]
    have hm1 : ∀ i (h : i < ls.length), (mergeH hp ls g)[ls[i]]? = (g[i]?).map (AObj.ren ρ) := fun i hi => by
      have h1 : ls[i] < hp.length := hlt _ (List.getElem_mem hi)
      have h2 : i < ((g.take ls.length).map (AObj.ren ρ)).length := by simp; omega
      unfold mergeH
      rw [← hρe, List.getElem?_append_left (by rw [putAll_length]; exact h1), putAll_at _ _ _ i hi h2 nd hlt]
      have h3 : i < g.length := by omega
      simp [h3, hρe]
    have hm2 : ∀ j, j < hp.length → j ∉ ls → (mergeH hp ls g)[j]? = hp[j]? := fun j h1 h2 => by
      unfold mergeH
      rw [List.getElem?_append_left (by rw [putAll_length]; exact h1), putAll_other _ _ _ j h2]
    have hm3 : ∀ i, ls.length ≤ i → (mergeH hp ls g)[hp.length + (i - ls.length)]? = (g[i]?).map (AObj.ren ρ) := fun i hi => by
      unfold mergeH
      rw [← hρe, List.getElem?_append_right (by rw [putAll_length]; omega), putAll_length, List.getElem?_map, List.getElem?_drop, show ls.length + (hp.length + (i - ls.length) - hp.length) = i by omega]
    have hmρ : ∀ i, i < g.length → (mergeH hp ls g)[ρ i]? = (g[i]?).map (AObj.ren ρ) := fun i hi => by
      rcases Nat.lt_or_ge i ls.length with h1 | h1
      · rw [hρ i h1]; exact hm1 i h1
      · rw [hρe, renTo_ge h1, ← hρe]; exact hm3 i h1
    obtain ⟨s', hw', hH', hπρ, hπo⟩ : ∃ s' : St, s'.w = s1.w ∧ s'.H = s1.H ∧ (∀ i, i < g.length → s'.π (ρ i) = s1.π i) ∧ ∀ j, j < hp.length → j ∉ ls → s'.π j = s.π j := by
      refine ⟨⟨s1.w, s1.H, fun j => if j < hp.length then (if j ∈ ls then s1.π (ls.idxOf j) else s.π j) else s1.π (j - hp.length + ls.length)⟩, rfl, rfl, fun i hi => ?_, fun j h1 h2 => ?_⟩
      · rcases Nat.lt_or_ge i ls.length with h1 | h1
        · rw [hρ i h1]
          simp only [hlt _ (List.getElem_mem h1), if_true, List.getElem_mem h1, List.Nodup.idxOf_getElem nd i h1]
        · have e : ρ i = hp.length + (i - ls.length) := by rw [hρe]; exact renTo_ge h1
          rw [e]
          simp only [show ¬ hp.length + (i - ls.length) < hp.length by omega, if_false]
          congr 1; omega
      · simp only [h1, h2, if_true, if_false]
    have split : ∀ j, j < (mergeH hp ls g).length → (∃ i, i < g.length ∧ j = ρ i) ∨ (j < hp.length ∧ j ∉ ls) := fun j hj => by
      by_cases h1 : j < hp.length
      · by_cases h2 : j ∈ ls
        · obtain ⟨i, hi, rfl⟩ := List.getElem_of_mem h2
          exact .inl ⟨i, by omega, (hρ i hi).symm⟩
        · exact .inr ⟨h1, h2⟩
      · refine .inl ⟨j - hp.length + ls.length, by omega, ?_⟩
        rw [hρe, renTo_ge (by omega)]; omega
    have ρlt : ∀ i, i < ls.length → ρ i < hp.length := fun i hi => by rw [hρ i hi]; exact hlt _ (List.getElem_mem hi)
    have far : ∀ j b, j < hp.length → j ∉ ls → s.π j = some b → b < s.w.heap.size ∧ s1.w.heap[b]? = s.w.heap[b]? ∧ s1.H b = s.H b := fun j b h1 h2 h3 => by
      have hb := hr.lt h1 h3
      have hfo := hst.foreign b (by rw [hw0]; exact hb) fun l hl e => ?_
      · rw [hw0, hH0] at hfo; exact ⟨hb, hfo⟩
      have hl' : l < ls.length := by omega
      rw [hπ0 l hl'] at e
      have := hr.inj _ _ b h1 (ρlt l hl') h3 e
      exact h2 (by rw [this, hρ l hl']; exact List.getElem_mem hl')
    have hstep : Step s hp s' (mergeH hp ls g) := by
      refine ⟨by rw [hw', hst.os, hw0], by rw [hw', hst.tape, hw0], by rw [hw', hst.output, hw0], by rw [hw', ← hw0]; exact hst.size, by rw [hw', hH', ← hw0, ← hH0]; exact hst.seal_, fun b hb hf => ?_, fun l b hl hb => ?_, by omega, fun l e n hl => ?_, fun l o hl ho => ?_⟩
      · rw [hw', hH', ← hw0, ← hH0]
        refine hst.foreign b (by rw [hw0]; exact hb) fun l hl e => ?_
        have hl' : l < ls.length := by omega
        rw [hπ0 l hl'] at e
        exact hf (ρ l) (ρlt l hl') e
      · rcases split l hl with ⟨i, hi, rfl⟩ | ⟨h1, h2⟩
        · rw [hπρ i hi] at hb
          rcases hst.from_ i b hi hb with h | ⟨l2, h3, h4⟩
          · exact .inl (by rw [← hw0]; exact h)
          · have hl' : l2 < ls.length := by omega
            rw [hπ0 l2 hl'] at h4
            exact .inr ⟨ρ l2, ρlt l2 hl', h4⟩
        · rw [hπo l h1 h2] at hb
          exact .inr ⟨l, h1, hb⟩
      · have hlh := lt_of_get? hl
        by_cases h2 : l ∈ ls
        · obtain ⟨i, hi, rfl⟩ := List.getElem_of_mem h2
          have hi0 : i < hp0.length := by omega
          rw [hh i hi hi0] at hl
          injection hl with hl
          have hb0 : hp0[i]? = some (.buf e n) := by rw [List.getElem?_eq_getElem hi0, AObj.ren_buf.1 hl]
          obtain ⟨n', h3, h4, h5⟩ := hst.buf i e n hb0
          refine ⟨n', by rw [hm1 i hi, h3]; rfl, h4, fun en => ?_⟩
          obtain ⟨h6, h7⟩ := h5 en
          have hπ1 := hπρ i (by omega)
          rw [hρ i hi] at hπ1
          have hπ2 := hπ0 i hi
          rw [hρ i hi] at hπ2
          exact ⟨by rw [hπ1, h6, hπ2], fun b hb => by rw [hw', hH', ← hw0, ← hH0]; exact h7 b (by rw [hπ2]; exact hb)⟩
        · refine ⟨n, by rw [hm2 l hlh h2]; exact hl, Nat.le_refl _, fun _ => ⟨hπo l hlh h2, fun b hb => ?_⟩⟩
          rw [hw', hH']; exact (far l b hlh h2 hb).2
      · have hlh := lt_of_get? hl
        by_cases h2 : l ∈ ls
        · obtain ⟨i, hi, rfl⟩ := List.getElem_of_mem h2
          have hi0 : i < hp0.length := by omega
          rw [hh i hi hi0] at hl
          injection hl with hl
          subst hl
          rw [AObj.ren_isBuf] at ho
          obtain ⟨⟨o', h3, h4⟩, h5⟩ := hst.obj i hp0[i] (List.getElem?_eq_getElem hi0) ho
          have hπ1 := hπρ i (by omega)
          rw [hρ i hi] at hπ1
          have hπ2 := hπ0 i hi
          rw [hρ i hi] at hπ2
          exact ⟨⟨o'.ren ρ, by rw [hm1 i hi, h3]; rfl, by rw [AObj.ren_isBuf]; exact h4⟩, by rw [hπ1, h5, hπ2]⟩
        · exact ⟨⟨o, by rw [hm2 l hlh h2]; exact hl, ho⟩, hπo l hlh h2⟩
    have like1 : ∀ l, l < g.length → Like s1 s' g (mergeH hp ls g) ρ l := fun l hl =>
      ⟨hπρ l hl, fun e n hb => by rw [hmρ l hl, hb]; rfl, fun o ho hb => ⟨o.ren ρ, by rw [hmρ l hl, ho]; rfl, by rw [AObj.ren_isBuf]; exact hb⟩⟩
    have ρinj : ∀ i i', i < g.length → i' < g.length → s1.π i = s1.π i' → ∀ b, s1.π i = some b → i = i' := fun i i' h1 h2 h3 b hb => hr1.inj i i' b h1 h2 hb (h3 ▸ hb)
    have hrel : RelH P s' (mergeH hp ls g) := by
      refine ⟨fun l l' b h1 h2 e1 e2 => ?_, fun l o hl => ?_, fun b hb => by rw [hH']; exact hr1.fresh b (by rw [← hw']; exact hb)⟩
      · have cross : ∀ i j, i < g.length → j < hp.length → j ∉ ls → s1.π i = some b → s.π j = some b → False := fun i j k1 k2 k3 k4 k5 => by
          rcases hst.from_ i b k1 k4 with k6 | ⟨l2, k6, k7⟩
          · have := (far j b k2 k3 k5).1
            rw [hw0] at k6; omega
          · have hl' : l2 < ls.length := by omega
            rw [hπ0 l2 hl'] at k7
            have := hr.inj _ _ b k2 (ρlt l2 hl') k5 k7
            exact k3 (by rw [this, hρ l2 hl']; exact List.getElem_mem hl')
        rcases split l h1 with ⟨i, hi, rfl⟩ | ⟨k1, k2⟩ <;> rcases split l' h2 with ⟨i', hi', rfl⟩ | ⟨k3, k4⟩
        · rw [hπρ i hi] at e1
          rw [hπρ i' hi'] at e2
          rw [hr1.inj i i' b hi hi' e1 e2]
        · rw [hπρ i hi] at e1
          rw [hπo l' k3 k4] at e2
          exact (cross i l' hi k3 k4 e1 e2).elim
        · rw [hπo l k1 k2] at e1
          rw [hπρ i' hi'] at e2
          exact (cross i' l hi' k1 k2 e2 e1).elim
        · rw [hπo l k1 k2] at e1
          rw [hπo l' k3 k4] at e2
          exact hr.inj l l' b k1 k3 e1 e2
      · rcases split l (lt_of_get? hl) with ⟨i, hi, rfl⟩ | ⟨k1, k2⟩
        · rw [hmρ i hi, List.getElem?_eq_getElem hi] at hl
          simp only [Option.map_some] at hl
          injection hl with hl
          subst hl
          have ho := hr1.obj i _ (List.getElem?_eq_getElem hi)
          exact ObjRep.ren (s' := s') (hp' := mergeH hp ls g) hw' hH' like1 ho ho.inAll (hπρ i hi)
        · rw [hm2 l k1 k2] at hl
          refine (hr.obj l o hl).step hstep (hπo l k1 k2) fun b hb => ?_
          obtain ⟨k3, k4, k5⟩ := far l b k1 k2 hb
          exact ⟨by rw [hw']; exact Nat.lt_of_lt_of_le k3 (by rw [← hw0]; exact hst.size), fun _ => by rw [hw', hH']; exact ⟨k4, k5⟩⟩
    exact ⟨s', mergeH hp ls g, r.ren ρ, v, hw', rfl, hrel, RepF.ren (s' := s') (hp' := mergeH hp ls g) hw' hH' like1 hrep1 hrep1.inAll, hstep, hQ r g (by omega) hq⟩
/-- Of data alone, with nothing of one's own: over any heap. -/
theorem AC.any {P : Program} {f : FuncId} {args : List FV} {hp : AHeap} {Q0 Q : FV → AHeap → Prop} (h : AC P f args [] Q0) (inA : allL (· < 0) args)
    (hQ : ∀ r g, Q0 r g → Q (r.ren (renTo hp.length [])) (hp ++ g.map (AObj.ren (renTo hp.length [])))) : AC P f args hp Q := by
  refine AC.lift [] h rfl List.nodup_nil (fun i h1 => by simp at h1) ?_ inA (fun o ho => by simp at ho) (fun r g _ hq => ?_)
  · rw [renL_eq]
    conv => lhs; rw [← List.map_id args]
    apply List.map_congr_left
    intro x hx
    have := FV.ren_congr (p := (· < 0)) (ρ := renTo hp.length []) (σ := id) (fun l hl => by omega) (allL_iff.1 inA x hx)
    rw [this, FV.ren_id]; rfl
  · simpa [mergeH, putAll] using hQ r g hq
end Go.Pg
set_option linter.unusedVariables false
namespace Go.Pg
def rows1 (ds : List AV) (lo n : Nat) : List (List AV) := ((ds.drop lo).take n).map fun x => [x]
/-- What a slot says once object l is sealed. -/
def frzV (e : TypeId) (l : Nat) (ds : List AV) : FV → FV
  | .ms e' l' lo n => match Nat.beq e' e, Nat.beq l' l, Nat.ble (lo + n) ds.length with
    | true, true, true => .d (.sl e (rows1 ds lo n))
    | _, _, _ => .ms e' l' lo n
  | x => x
def frzFr (e : TypeId) (l : Nat) (ds : List AV) : Fr → Fr
  | [] => []
  | (i, v) :: r => (i, frzV e l ds v) :: frzFr e l ds r
theorem get_frzFr (e : TypeId) (l : Nat) (ds : List AV) : ∀ (fr : Fr) (i : Nat), (frzFr e l ds fr).get i = frzV e l ds (fr.get i)
  | [], i => rfl
  | (j, v) :: r, i => by
    simp only [frzFr, Fr.get]
    split
    · rfl
    · exact get_frzFr e l ds r i
section
variable {P : Program} {s : St} {hp : AHeap}
/-- Its block, sealed. -/
def St.froze (s : St) (b n : Nat) : St := ⟨s.w, fun c => if c = b then n else s.H c, s.π⟩
theorem Step.froze (hr : RelH P s hp) {l b n : Nat} {t : TypeId} {cs : List FV} (hl : hp[l]? = some (.var t cs)) (hb : s.π l = some b) : Step s hp (s.froze b n) (hp.set l .dead) := by
  obtain ⟨b', vs, h1, h2, h3, h4⟩ := hr.obj l _ hl
  rw [hb] at h1; injection h1 with h1; subst h1
  have hlt := lt_of_get? hl
  refine ⟨rfl, rfl, rfl, Nat.le_refl _, ⟨fun c => ?_, fun c off v ho hc => hc⟩, fun c hc hf => ?_, fun l' c hl' hc => .inr ⟨l', by simpa using hl', hc⟩, by simp, fun l' e n hl' => ?_, fun l' o hl' ho => ?_⟩
  · simp only [St.froze]
    split
    · rename_i e; subst e; rw [h3]; exact Nat.zero_le _
    · exact Nat.le_refl _
  · have hne : c ≠ b := by rintro rfl; exact hf l hlt hb
    exact ⟨rfl, by simp [St.froze, hne]⟩
  · have hne : l ≠ l' := by rintro rfl; rw [hl] at hl'; cases hl'
    refine ⟨n, by rw [List.getElem?_set_ne hne]; exact hl', Nat.le_refl _, fun _ => ⟨rfl, fun c hc => ⟨rfl, ?_⟩⟩⟩
    have : c ≠ b := by
      rintro rfl
      exact hne (hr.inj l l' c hlt (lt_of_get? hl') hb hc)
    simp [St.froze, this]
  · by_cases e : l = l'
    · subst e
      exact ⟨⟨.dead, by simp [hlt], rfl⟩, rfl⟩
    · exact ⟨⟨o, by rw [List.getElem?_set_ne e]; exact hl', ho⟩, rfl⟩
theorem RelH.froze (hr : RelH P s hp) {l b n : Nat} {t : TypeId} {cs : List FV} (hl : hp[l]? = some (.var t cs)) (hb : s.π l = some b) : RelH P (s.froze b n) (hp.set l .dead) := by
  have hst := Step.froze (n := n) hr hl hb
  have hlt := lt_of_get? hl
  have hblt := hr.lt hlt hb
  refine ⟨fun l1 l2 c a1 a2 => hr.inj l1 l2 c (by simpa using a1) (by simpa using a2), fun l' y hl' => ?_, fun c hcc => ?_⟩
  · by_cases e : l = l'
    · subst e
      simp [hlt] at hl'
      subst hl'
      intro c hc
      exact hr.lt hlt hc
    · rw [List.getElem?_set_ne e] at hl'
      refine (hr.obj l' y hl').step hst rfl fun c hcc => ?_
      have hne : c ≠ b := by
        rintro rfl
        exact e (hr.inj l l' c hlt (lt_of_get? hl') hb hcc)
      exact ⟨hr.lt (lt_of_get? hl') hcc, fun _ => ⟨rfl, by simp [St.froze, hne]⟩⟩
  · have : c ≠ b := by rintro rfl; exact absurd hblt (Nat.not_lt.2 hcc)
    simp [St.froze, this]
    exact hr.fresh c hcc
theorem allCellD_get {cs : List FV} {ds : List AV} (h : allCellD cs = some ds) : ds.length = cs.length ∧ ∀ i (h1 : i < cs.length) (h2 : i < ds.length), cs[i].cellD = some ds[i] := allCellD_spec h
theorem RepF.froze (hr : RelH P s hp) {l b : Nat} {t : TypeId} {cs : List FV} {ds : List AV} {e : TypeId} (hl : hp[l]? = some (.var t cs)) (hb : s.π l = some b) (hds : allCellD cs = some ds) (he : esize P e = 1) {x : FV} {v : Value} (h : RepF P s hp x v) :
    RepF P (s.froze b cs.length) (hp.set l .dead) (frzV e l ds x) v := by
  have hst := Step.froze (n := cs.length) hr hl hb
  have h' := h.step hst
  unfold frzV
  split
  · rename_i e' l' lo n
    split
    · rename_i h1 h2 h3
      have h1 := Nat.eq_of_beq_eq_true h1
      have h2 := Nat.eq_of_beq_eq_true h2
      have h3 := Nat.le_of_ble_eq_true h3
      subst h1 h2
      obtain ⟨d1, d2⟩ := allCellD_get hds
      obtain ⟨b', vs, k1, k2, k3, k4, k5, k6⟩ := hr.obj l' _ hl
      rw [hb] at k1; injection k1 with k1; subst k1
      cases h with
      | ms _ _ _ _ b2 c o hl2 ho hb2 hc hcm hroom =>
        rw [hb] at hb2; injection hb2 with hb2; subst hb2
        have hlen : (rows1 ds lo n).length = n := by simp [rows1]; omega
        have hrow : ∀ i (hi : i < (rows1 ds lo n).length), (rows1 ds lo n)[i] = [ds[lo + i]'(by omega)] := fun i hi => by simp [rows1]
        have hcell : ∀ i, (hi : lo + i < vs.size) → s.w.cell? ⟨b, lo + i, none⟩ = some vs[lo + i] := fun i hi => by
          rw [cell_of_row s.w b _ vs t (0, 0) k2]; simp [hi]
        refine .d _ _ (.sl e' (rows1 ds lo n) b lo n c (fun i _ => vs.getD (lo + i) undef) hlen hc hroom hcm (fun i hi => by rw [hrow i hi, he]; rfl) (fun i hi j hj => ?_) (fun i hi j hj => ?_) (fun i hi j hj => ?_) (fun i hi j hj => ?_))
        all_goals
          rw [hrow i hi] at hj
          have hj0 : j = 0 := by simpa using hj
          subst hj0
          have hlt : lo + i < vs.size := by omega
        · rw [he, Nat.mul_one, Nat.add_zero]
          show s.w.cell? _ = _
          rw [hcell i hlt]; simp [hlt]
        · rw [he]; simp [St.froze]; omega
        · have := k5 (lo + i) hlt
          simpa [hlt] using this
        · have := (k6 (lo + i) (by omega) hlt).cellD (d2 (lo + i) (by omega) (by omega))
          have := this.mono hst.seal_
          simp only [hrow i hi, List.getElem_singleton]
          simpa [hlt] using this
    · exact h'
  · exact h'
theorem W.freeze {N : Nat} {mt : List Nat} {rc : RCode} {Q : AExit → Fr → AHeap → Prop} {fr : Fr} (l : Nat) (e : TypeId) {t : TypeId} {cs : List FV} {ds : List AV} (hl : hp[l]? = some (.var t cs)) (hds : allCellD cs = some ds) (he : esize P e = 1)
    (h : W P mt N rc Q (frzFr e l ds fr) (hp.set l .dead)) : W P mt N rc Q fr hp := ⟨fun c hc s a hr => by
  obtain ⟨b, vs, h1, h2, h3, h4⟩ := hr.heap.obj l _ hl
  have hst := Step.froze (n := cs.length) hr.heap hl h1
  have hrel : Rel P N (s.froze b cs.length) (frzFr e l ds fr) (hp.set l .dead) a := ⟨hr.defers, hr.size, fun i => by rw [get_frzFr]; exact (hr.slot i).froze hr.heap hl h1 hds he, hr.heap.froze hl h1⟩
  exact wp_mono (h.out c hc (s.froze b cs.length) a hrel) fun _ _ _ hq => hq.of_step hst⟩
end
end Go.Pg
set_option linter.unusedVariables false
namespace Go.Pg
theorem get_all {p : FV → Prop} (h0 : p .any) : ∀ {fr : Fr}, (∀ x ∈ fr, p x.2) → ∀ i, p (fr.get i)
  | [], _, i => h0
  | (j, v) :: r, h, i => by
    simp only [Fr.get]
    split
    · exact h (j, v) (by simp)
    · exact get_all h0 (fun x hx => h x (by simp [hx])) i
section
variable {P : Program} {N : Nat} {Q : AExit → Fr → AHeap → Prop} {fr : Fr} {hp : AHeap}
theorem Rel.cut {s : St} {g junk : AHeap} {a : Act} (h : Rel P N s fr (g ++ junk) a) (hf : ∀ x ∈ fr, OkIn g.length x.2) (hg : ∀ o ∈ g, ObjOk g.length o) : Rel P N s fr g a :=
  ⟨h.defers, h.size, fun i => (h.slot i).cut (get_all (p := OkIn g.length) (by simp [OkIn]) hf i), h.heap.cut fun l o ho => hg o (List.mem_of_getElem? ho)⟩
theorem AWP.loopJ {c : Code} {σ : Type} (F : σ → Fr) (G : σ → AHeap) (I : σ → Prop) (μ : σ → Nat) (i0 : σ) (h0 : I i0) (hF : Fr.le fr (F i0)) (hG : hp = G i0)
    (hok : ∀ i, I i → (∀ x ∈ F i, OkIn (G i).length x.2) ∧ ∀ o ∈ G i, ObjOk (G i).length o)
    (round : ∀ i, I i → AWP P N c (thenQ (fun fr' hp' => ∃ j junk, I j ∧ μ j < μ i ∧ Fr.le fr' (F j) ∧ hp' = G j ++ junk ∧ (G i).length ≤ (G j).length) Q) (F i) (G i)) :
    AWP P N (.loop c) Q fr hp := fun s a hr => by
  subst hG
  refine wp_loop_ghost (fun n a' w' => ∃ i s', n = μ i ∧ I i ∧ s'.w = w' ∧ Rel P N s' (F i) (G i) a' ∧ Step s (G i0) s' (G i)) (μ i0) ?_ ?_
  · exact ⟨i0, s, rfl, h0, rfl, hr.le hF, .refl _ _⟩
  · rintro n a' w' ⟨i, s', rfl, hi, rfl, hr', hs⟩
    refine wp_mono (round i hi s' a' hr') ?_
    rintro e a2 w2 ⟨ae, s2, fr2, hp2, rfl, rfl, h3, h4, h5⟩
    cases ae with
    | normal =>
      obtain ⟨j, junk, hj, hm, hle, rfl, hlen⟩ := h5
      obtain ⟨k1, k2⟩ := hok j hj
      exact ⟨μ j, hm, j, s2, rfl, hj, rfl, (h3.le hle).cut k1 k2, hs.trans (h4.cut hlen)⟩
    | exit id => exact ⟨.exit id, s2, fr2, hp2, rfl, rfl, h3, hs.trans h4, h5⟩
    | ret => exact ⟨.ret, s2, fr2, hp2, rfl, rfl, h3, hs.trans h4, h5⟩
end
section
variable {P : Program} {N : Nat} {mt : List Nat} {Q : AExit → Fr → AHeap → Prop} {fr : Fr} {hp : AHeap} {x : RCode}
theorem AWPr.loopJ {σ : Type} (F : σ → Fr) (G : σ → AHeap) (I : σ → Prop) (μ : σ → Nat) (i0 : σ) (h0 : I i0) (hF : Fr.le fr (F i0)) (hG : hp = G i0)
    (hok : ∀ i, I i → (∀ x ∈ F i, OkIn (G i).length x.2) ∧ ∀ o ∈ G i, ObjOk (G i).length o)
    (round : ∀ i, I i → AWPr P mt N x (thenQ (fun fr' hp' => ∃ j junk, I j ∧ μ j < μ i ∧ Fr.le fr' (F j) ∧ hp' = G j ++ junk ∧ (G i).length ≤ (G j).length) Q) (F i) (G i)) :
    AWPr P mt N (.loop x) Q fr hp := fun c hc => by
  obtain ⟨y, rfl, hy⟩ := fromCode hc
  exact AWP.loopJ F G I μ i0 h0 hF hG hok fun i hi => round i hi y hy
theorem W.loopJ {σ : Type} (F : σ → Fr) (G : σ → AHeap) (I : σ → Prop) (μ : σ → Nat) (i0 : σ) (h0 : I i0) (hF : Fr.le fr (F i0)) (hG : hp = G i0)
    (hok : ∀ i, I i → (∀ x ∈ F i, OkIn (G i).length x.2) ∧ ∀ o ∈ G i, ObjOk (G i).length o)
    (round : ∀ i, I i → W P mt N x (fun e fr' hp' => match e with
      | .normal => ∃ j junk, I j ∧ μ j < μ i ∧ Fr.le fr' (F j) ∧ hp' = G j ++ junk ∧ (G i).length ≤ (G j).length
      | e => Q e fr' hp') (F i) (G i)) :
    W P mt N (.loop x) Q fr hp := ⟨.loopJ F G I μ i0 h0 hF hG hok fun i hi => (round i hi).out.mono fun e f g hq => by
  cases e with
  | normal => exact hq
  | exit id => exact hq
  | ret => exact hq⟩
end
end Go.Pg
