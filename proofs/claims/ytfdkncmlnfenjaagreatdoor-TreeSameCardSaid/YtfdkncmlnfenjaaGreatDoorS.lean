/- Part S of the proof: the laws and contracts that the last text joins. Own work; no condition of its own. -/
import Derived.Test.YtfdkncmlnfenjaaGreatDoorD
import Derived.Deep.DeepHandedRow
import Derived.ChangeSame
import Derived.ChangeArms
import Derived.Carry
import Derived.Lib.LaidTab
import Derived.LaidSub
import Derived.Test.YtfdkncmlnfenjaaGreatDoorRows
import Derived.Deep.DeepWitnessRowRef
import Derived.Deep.DeepLaidRun
import Derived.JoinedCond
set_option linter.all false
set_option linter.unusedVariables false
set_option maxRecDepth 100000
namespace Go.Pg
open Go.Proofs
def fieldTs (P : Program) (t : TypeId) : Option (List TypeId) := match P.underlying t with
  | some (.struct fs) => some (fs.toList.map (·.type))
  | _ => none
mutual
inductive TypedL (P : Program) : TypeId → List AV → Prop
  | int {t k n} (h : P.underlying t = some (.int k)) : TypedL P t [.int k n]
  | bool {t b} (h : P.underlying t = some .bool) : TypedL P t [.bool b]
  | str {t s} (h : P.underlying t = some .string) : TypedL P t [.str s]
  | sl {t e rows} (h : P.underlying t = some (.slice e)) (hr : ∀ row ∈ rows, TypedL P e row) : TypedL P t [.sl e rows]
  | struct {t ts xs} (h : fieldTs P t = some ts) (hf : TypedF P ts xs) : TypedL P t xs
inductive TypedF (P : Program) : List TypeId → List AV → Prop
  | nil : TypedF P [] []
  | cons {t ts xs ys} (h : TypedL P t xs) (k : TypedF P ts ys) : TypedF P (t :: ts) (xs ++ ys)
end
section
variable {P : Program}
theorem TypedL.isInt {t : TypeId} {xs : List AV} {k : IntKind} (h : TypedL P t xs) (ht : P.underlying t = some (.int k)) : ∃ n, xs = [.int k n] := by
  cases h <;> simp_all [fieldTs]
theorem TypedL.isBool {t : TypeId} {xs : List AV} (h : TypedL P t xs) (ht : P.underlying t = some .bool) : ∃ b, xs = [.bool b] := by
  cases h <;> simp_all [fieldTs]
theorem TypedL.isStr {t : TypeId} {xs : List AV} (h : TypedL P t xs) (ht : P.underlying t = some .string) : ∃ s, xs = [.str s] := by
  cases h <;> simp_all [fieldTs]
theorem TypedL.isSl {t e : TypeId} {xs : List AV} (h : TypedL P t xs) (ht : P.underlying t = some (.slice e)) : ∃ rows, xs = [.sl e rows] ∧ ∀ row ∈ rows, TypedL P e row := by
  cases h <;> simp_all [fieldTs]
theorem TypedL.isStruct {t : TypeId} {ts : List TypeId} {xs : List AV} (h : TypedL P t xs) (ht : fieldTs P t = some ts) : TypedF P ts xs := by
  cases h with
  | struct h hf => rw [ht] at h; injection h with h; subst h; exact hf
  | _ h => simp [fieldTs, h] at ht
theorem TypedF.isCons {t : TypeId} {ts : List TypeId} {xs : List AV} (h : TypedF P (t :: ts) xs) : ∃ a b, xs = a ++ b ∧ TypedL P t a ∧ TypedF P ts b := by
  cases h with
  | cons h k => exact ⟨_, _, rfl, h, k⟩
theorem TypedF.isNil {xs : List AV} (h : TypedF P [] xs) : xs = [] := by cases h; rfl
def consecB (P : Program) : List Field → Nat → Nat → Bool
  | [], o, n => o == n
  | f :: r, o, n => f.offset == o && consecB P r (o + P.cellsOf f.type) n
def plainB (P : Program) (S : List TypeId) : Bool := S.all fun t => match P.underlying t with
  | some (.int _) | some .bool | some .string => true
  | some (.slice e) => S.contains e && decide (0 < P.cellsOf e) && decide (P.cellsOf e = esize P e) && decide (P.bytesOf e = ebytes P e)
  | some (.struct fs) => fs.toList.all (fun f => S.contains f.type) && consecB P fs.toList 0 (P.cellsOf t)
  | _ => false
/-- Cells and what stands for them. -/
structure LRep (P : Program) (w : World) (H : Nat → Nat) (xs : List AV) (cs : List Value) : Prop where
  len : xs.length = cs.length
  one : ∀ i (hi : i < cs.length), Pg.one cs[i] = true
  rep : ∀ i (hx : i < xs.length) (hc : i < cs.length), RepA P w H xs[i] cs[i]
theorem LRep.nil {w : World} {H : Nat → Nat} : LRep P w H [] [] := ⟨rfl, fun i hi => by simp at hi, fun i hi => by simp at hi⟩
theorem LRep.single {w : World} {H : Nat → Nat} {x : AV} {c : Value} (h1 : Pg.one c = true) (h : RepA P w H x c) : LRep P w H [x] [c] :=
  ⟨rfl, fun i hi => by have : i = 0 := by simpa using hi
                       subst this; exact h1, fun i hi _ => by have : i = 0 := by simpa using hi
                                                              subst this; exact h⟩
theorem LRep.app {w : World} {H : Nat → Nat} {xs ys : List AV} {cs ds : List Value} (h : LRep P w H xs cs) (k : LRep P w H ys ds) : LRep P w H (xs ++ ys) (cs ++ ds) := by
  refine ⟨by simp [h.len, k.len], fun i hi => ?_, fun i hx hc => ?_⟩
  · rw [List.getElem_append]
    split
    · exact h.one i _
    · exact k.one _ _
  · rw [List.getElem_append, List.getElem_append]
    have := h.len
    split
    · rw [dif_pos (by omega)]; exact h.rep i _ _
    · rw [dif_neg (by omega)]
      have := k.rep (i - xs.length) (by simp at hx; omega) (by simp at hc; omega)
      simpa [h.len] using this
/-- All that is there when the call begins is sealed. -/
def St.start (w : World) : St := ⟨w, fun b => match w.heap[b]? with | some (.cells c _ _) => c.size | _ => 0, fun _ => none⟩
theorem start_lt {w : World} {b o : Nat} {v : Value} (h : w.cell? ⟨b, o, none⟩ = some v) : o < (St.start w).H b := by
  unfold World.cell? at h
  simp only [St.start]
  split at h
  · rename_i c _ _ hb
    rw [hb]
    simp at h
    exact (Array.getElem?_eq_some_iff.1 h).1
  · cases h
section
variable {T : Type} {enc : TypeId × Value → T} {w : World} {S : List TypeId}
theorem weightsAll_mem {e : TypeId} {n : Nat} : ∀ {l : List (DataW T)} {d : DataW T}, d ∈ l → n ∈ d.weights P e → n ∈ DataW.weightsAll P e l
  | x :: l, d, hd, hn => by
    simp only [DataW.weightsAll, List.mem_append]
    rcases List.mem_cons.1 hd with rfl | hd
    · exact .inl hn
    · exact .inr (weightsAll_mem hd hn)
theorem struct_go {fuel n : Nat} {cs : List Value} (hcs : cs.length = n)
    (main : ∀ (t : TypeId) (cs : List Value) (x : DataW T × List MemPlace), t ∈ S → DataW.trod enc P w 0 (fun _ => true) true fuel t cs = some x → (∀ n ∈ x.1.weights P t, n ≤ reachBytes) → ∃ xs, LRep P w (St.start w).H xs cs ∧ TypedL P t xs) :
    ∀ (fl : List Field) (ys : List (DataW T × List MemPlace)) (o : Nat), consecB P fl o n = true → fl.length = ys.length → (∀ (i : Nat) (f : Field), fl[i]? = some f → DataW.trod enc P w 0 (fun _ => true) true fuel f.type ((cs.drop f.offset).take (P.cellsOf f.type)) = ys[i]?) →
      (∀ f ∈ fl, f.type ∈ S) → (∀ n ∈ DataW.weightsEach P (fl.map (·.type)) (ys.map (·.1)), n ≤ reachBytes) → ∃ xs, LRep P w (St.start w).H xs (cs.drop o) ∧ TypedF P (fl.map (·.type)) xs
  | [], ys, o, hc, hl, ht, hm, hwt => by
    simp only [consecB, beq_iff_eq] at hc
    refine ⟨[], ?_, .nil⟩
    rw [List.drop_eq_nil_of_le (by omega)]
    exact .nil
  | f :: fl, [], o, hc, hl, ht, hm, hwt => by simp at hl
  | f :: fl, y :: ys, o, hc, hl, ht, hm, hwt => by
    simp only [consecB, Bool.and_eq_true, beq_iff_eq] at hc
    obtain ⟨ho, hc⟩ := hc
    simp only [List.map_cons, DataW.weightsEach, List.mem_append] at hwt
    obtain ⟨xs1, h1, h2⟩ := main f.type _ y (hm f (by simp)) (by have := ht 0 f rfl; simpa using this) fun n hn => hwt n (.inl hn)
    obtain ⟨xs2, h3, h4⟩ := struct_go hcs main fl ys (o + P.cellsOf f.type) hc (by simpa using hl) (fun i g hg => by have := ht (i + 1) g (by simpa using hg); simpa using this) (fun g hg => hm g (by simp [hg])) fun n hn => hwt n (.inr hn)
    refine ⟨xs1 ++ xs2, ?_, .cons h2 h4⟩
    have := h1.app h3
    rw [ho, ← List.drop_drop, List.take_append_drop] at this
    exact this
theorem trod_typed (hS : plainB P S = true) : ∀ (fuel : Nat) (t : TypeId) (cs : List Value) (x : DataW T × List MemPlace), t ∈ S → DataW.trod enc P w 0 (fun _ => true) true fuel t cs = some x →
    (∀ n ∈ x.1.weights P t, n ≤ reachBytes) → ∃ xs, LRep P w (St.start w).H xs cs ∧ TypedL P t xs
  | 0, t, cs, x, _, h, _ => by simp [DataW.trod] at h
  | fuel + 1, t, cs, x, ht, h, hwt => by
    have hp := List.all_eq_true.1 hS t ht
    cases hu : P.underlying t with
    | none => rw [hu] at hp; simp at hp
    | some u =>
      rw [hu] at hp
      cases u with
      | int k =>
        obtain ⟨n, rfl, _, _⟩ := DataW.trod_int hu h
        exact ⟨[.int k n], .single rfl (.int k n), .int hu⟩
      | bool =>
        obtain ⟨b, rfl, _⟩ := DataW.trod_bool hu h
        exact ⟨[.bool b], .single rfl (.bool b), .bool hu⟩
      | string =>
        obtain ⟨s, rfl, _, hs⟩ := DataW.trod_string hu h
        refine ⟨[.str s.data.toList], .single rfl ?_, .str hu⟩
        have := RepA.str (P := P) (w := w) (H := (St.start w).H) s.data.toList (by
          have : maxLen ≤ 9223372036854775807 := by decide
          have h2 : s.data.toList.length = s.size := Array.length_toList
          omega)
        simpa using this
      | slice e =>
        simp only [Bool.and_eq_true, List.contains_iff_mem, decide_eq_true_eq] at hp
        obtain ⟨⟨⟨he, hpos⟩, hsz⟩, hby⟩ := hp
        rcases DataW.trod_slice hu h with ⟨rfl, _⟩ | ⟨a, len, cap, elems, rest, n, hn, rfl, rfl, _, hlc, hcm, hel, hcells, hrest, _⟩
        · exact ⟨[.sl e []], .single rfl (.sl0 e none 0), .sl hu (by simp)⟩
        · injection hn with hn
          subst hn
          rcases Nat.eq_zero_or_pos len with h0 | hl0
          · subst h0
            exact ⟨[.sl e []], .single rfl (.sl0 e (some a) cap), .sl hu (by simp)⟩
          · have hwt2 : (elems.length + rest.length) * P.bytesOf e ≤ reachBytes := hwt _ (by simp [DataW.weights, hu])
            have key : ∀ i, ∃ q : List Value × List AV, i < len → (∀ j, j < P.cellsOf e → w.cell? ((a.add (i * P.cellsOf e)).add j) = q.1[j]?) ∧ q.1.length = P.cellsOf e ∧ LRep P w (St.start w).H q.2 q.1 ∧ TypedL P e q.2 := by
              intro i
              by_cases hi : i < len
              · have h1 := hcells i hi
                have hie : i < elems.length := by omega
                rw [List.getElem?_eq_getElem hie] at h1
                obtain ⟨ci, hci, htr⟩ := Option.bind_eq_some_iff.1 h1
                obtain ⟨_, hlen, hcell⟩ := World.cells?_some hci
                obtain ⟨xi, h2, h3⟩ := trod_typed hS fuel e ci elems[i] he htr fun n hn => hwt n (by
                  simp only [DataW.weights, hu, List.mem_cons, List.mem_append]
                  exact .inr (.inl (weightsAll_mem (List.mem_map.2 ⟨elems[i], List.getElem_mem hie, rfl⟩) hn)))
                exact ⟨(ci, xi), fun _ => ⟨hcell, hlen, h2, h3⟩⟩
              · exact ⟨([], []), fun h => absurd h hi⟩
            obtain ⟨b, off, spot⟩ := a
            obtain ⟨q0, hq0⟩ := key 0
            obtain ⟨g1, g2, _, _⟩ := hq0 hl0
            have g0 := g1 0 hpos
            rw [List.getElem?_eq_getElem (by omega)] at g0
            have hspot : spot = none := by simpa [Addr.add] using World.cell?_spot g0
            subst hspot
            let pf := fun i => Classical.choose (key i)
            have hpf : ∀ i, i < len → (∀ j, j < P.cellsOf e → w.cell? (((⟨b, off, none⟩ : Addr).add (i * P.cellsOf e)).add j) = (pf i).1[j]?) ∧ (pf i).1.length = P.cellsOf e ∧ LRep P w (St.start w).H (pf i).2 (pf i).1 ∧ TypedL P e (pf i).2 := fun i hi => Classical.choose_spec (key i) hi
            have hcl : ∀ i, i < len → ∀ j (hj : j < (pf i).1.length), w.cell? ⟨b, off + (i * esize P e + j), none⟩ = some ((pf i).1[j]) := by
              intro i hi j hj
              have h1 := (hpf i hi).1 j (by have := (hpf i hi).2.1; omega)
              rw [List.getElem?_eq_getElem hj] at h1
              rw [WideShapes.add_plain, WideShapes.add_plain, Nat.add_assoc] at h1
              rw [← hsz]
              exact h1
            have hpl : ∀ i, i < len → (pf i).2.length = (pf i).1.length := fun i hi => (hpf i hi).2.2.1.len
            refine ⟨[.sl e ((List.range len).map fun i => (pf i).2)], .single rfl ?_, .sl hu ?_⟩
            · refine .sl e _ b off len cap (fun i j => ((pf i).1[j]?).getD undef) (by simp) hlc ?_ hcm ?_ ?_ ?_ ?_ ?_
              · rw [← hby]
                have : len * P.bytesOf e ≤ (elems.length + rest.length) * P.bytesOf e := Nat.mul_le_mul_right _ (by omega)
                have h2 : reachBytes ≤ roomB := by decide
                omega
              · intro i hi
                simp only [List.length_map, List.length_range] at hi
                simp only [List.getElem_map, List.getElem_range]
                rw [hpl i hi, (hpf i hi).2.1, hsz]
              · intro i hi j hj
                simp only [List.length_map, List.length_range] at hi
                simp only [List.getElem_map, List.getElem_range] at hj
                rw [hpl i hi] at hj
                rw [hcl i hi j hj, List.getElem?_eq_getElem hj]; rfl
              · intro i hi j hj
                simp only [List.length_map, List.length_range] at hi
                simp only [List.getElem_map, List.getElem_range] at hj
                rw [hpl i hi] at hj
                exact start_lt (hcl i hi j hj)
              · intro i hi j hj
                simp only [List.length_map, List.length_range] at hi
                simp only [List.getElem_map, List.getElem_range] at hj
                rw [hpl i hi] at hj
                rw [List.getElem?_eq_getElem hj]
                exact (hpf i hi).2.2.1.one j hj
              · intro i hi j hj
                simp only [List.length_map, List.length_range] at hi
                simp only [List.getElem_map, List.getElem_range] at hj ⊢
                have hj' := hj
                rw [hpl i hi] at hj'
                rw [List.getElem?_eq_getElem hj']
                exact (hpf i hi).2.2.1.rep j hj hj'
            · intro row hrow
              obtain ⟨i, hi, rfl⟩ := List.mem_map.1 hrow
              exact (hpf i (List.mem_range.1 hi)).2.2.2
      | struct fs =>
        simp only [Bool.and_eq_true, List.all_eq_true, List.contains_iff_mem] at hp
        obtain ⟨ys, n, hn, rfl, hlen, hsz, hf⟩ := DataW.trod_struct hu h
        injection hn with hn
        subst hn
        obtain ⟨xs, h1, h2⟩ := struct_go hlen (fun t cs x => trod_typed hS fuel t cs x) fs.toList ys 0 hp.2 (by simpa using hsz.symm) (fun i f hfi => hf i f (by simpa using hfi)) (fun f hf => hp.1 f hf) (fun n hn => hwt n (by simp only [DataW.weights, hu]; exact hn))
        exact ⟨xs, by simpa using h1, .struct (by simp [fieldTs, hu]) h2⟩
      | _ => simp at hp
end
end
end Go.Pg
set_option linter.unusedVariables false
set_option maxRecDepth 100000
namespace Go.Pg
open Go.Proofs Go.Proofs.YtfdkncmlnfenjaaGreatDoor Go.ChangeShapes Go.RowKit
def spaceInts : List Int := (List.range 256).map fun i => if spaceAt i then 1 else 0
theorem gSpaceN : Tryz.prog.globalNamed "strings.asciiSpace" = some 0 := by kernel_rfl
theorem laid_space : (Rows.laid_strings_asciiSpace : DataW Unit) = Lib.tabData .u8 spaceInts := by kernel_rfl
theorem space_tab {W : World} {l : List (String × DataW Unit)} (hl : l.filter (fun x => x.1 == "strings.asciiSpace") = [("strings.asciiSpace", Rows.laid_strings_asciiSpace)]) (h : laidMetH Tryz.prog l W) : Lib.TabIs Tryz.prog W "strings.asciiSpace" .u8 spaceInts := by
  have h1 := h.filter fun x => x.1 == "strings.asciiSpace"
  rw [hl, laid_space] at h1
  have h2 : laidMet Tryz.prog [("strings.asciiSpace", Lib.tabData .u8 spaceInts)] W := h1
  exact Lib.tabIs_of_head (t := 199) (e := 5) (n := 256) gSpaceN (by kernel_rfl) (by kernel_rfl) (by kernel_rfl) (by kernel_rfl) (by kernel_rfl) h2
theorem start_rel {W : World} (h : Lib.TabIs Tryz.prog W "strings.asciiSpace" .u8 spaceInts) : RelH Tryz.prog (St.start W) gl := by
  have hc : ∀ j, j < 256 → W.cell? ⟨0, j, none⟩ = some (.int .u8 (spaceInts.getD j 0)) := fun j hj => h.cell gSpaceN j (by simp [spaceInts]; exact hj)
  refine ⟨fun l l' b _ _ h1 => by simp [St.start] at h1, ?_, fun b hb => ?_⟩
  · intro l o hl
    have hlt := lt_of_get? hl
    have : l = 0 := by simp [gl] at hlt; exact hlt
    subst this
    simp only [gl, List.getElem?_cons_zero, Option.some.injEq] at hl
    subst hl
    refine ⟨rfl, ?_, fun j => .int .u8 (spaceInts.getD j 0), ?_, ?_, ?_, ?_⟩
    · have := hc 0 (by omega)
      unfold World.cell? at this
      split at this
      · rename_i hb
        exact (Array.getElem?_eq_some_iff.1 hb).1
      · cases this
    · intro j hj
      rw [spaceCells_len] at hj
      exact hc j hj
    · intro j hj
      rw [spaceCells_len] at hj
      exact start_lt (hc j hj)
    · intro j hj; rfl
    · intro j hj
      have h1 := List.getElem?_eq_getElem hj
      have h2 := spaceCells_at h1
      rw [h2]
      rw [spaceCells_len] at hj
      have : spaceInts.getD j 0 = if spaceAt j then 1 else 0 := by simp [spaceInts, List.getD, hj]
      show RepA _ _ _ _ (.int .u8 (spaceInts.getD j 0))
      rw [this]
      exact .int _ _
  · have hb' : W.heap.size ≤ b := hb
    simp only [St.start]
    rw [Array.getElem?_eq_none hb']
/-- A contract, as a call. -/
theorem Ret.calls {f : FuncId} {args : List FV} {b : Bool} {W : World} {vs : Array Value} (h : Ret Tryz.prog f args (.bool b)) (hW : RelH Tryz.prog (St.start W) gl) (hsz : vs.size = args.length)
    (hv : ∀ i (hi : i < args.length) (hx : i < vs.size), RepF Tryz.prog (St.start W) gl args[i] vs[i]) :
    Calls Tryz.prog f vs W fun e W' => e = .returned (.bool b) ∧ Below W.heap.size W W' := by
  refine (h.out.2 (St.start W) vs hW hsz hv).mono ?_
  rintro e W' ⟨s', hp', r, v, rfl, rfl, _, hr, hs, rfl, _⟩
  cases hr with
  | d _ _ h1 =>
    cases h1
    exact ⟨rfl, hs.os, hs.tape, hs.output, hs.size, fun k hk => (hs.foreign k hk fun l _ e => by simp [St.start] at e).1⟩
section
variable {H : Type} {enc : TypeId × Value → H} {P : Program}
theorem keptBut_below {W W' : World} (h : Below W.heap.size W W') (may : MemPlace → Prop) : W.keptBut W' may := by
  refine ⟨h.os, h.output, fun i hi => ?_⟩
  rw [h.block i hi]
  cases W.heap[i]? with
  | none => rfl
  | some o => cases o with
    | cells c t f => exact ⟨rfl, rfl, rfl, fun _ _ => rfl⟩
    | map es c => exact .inr ⟨rfl, rfl⟩
    | _ => rfl
theorem trodAll_stays (hl : laidOutB P = true) {W W' : World} (hb : Below W.heap.size W W') {sp : Nat → Bool} : ∀ {ts : List TypeId} {vs : List Value} {ds : List (DataW H)} {ps : List MemPlace}, (∀ t ∈ ts, P.readableRec t = true ∧ t < P.types.size) →
    DataW.TrodAll enc P W 0 (fun _ => true) true ts vs ds ps → (∀ x ∈ ps, x.block < W.heap.size) → (∀ x ∈ ps, sp x.block = true) → DataW.TrodAll enc P W' 0 sp true ts vs ds ps
  | [], _, _, _, _, h, _, _ => by
    obtain ⟨rfl, rfl, rfl⟩ := trodAll_nil h
    exact trodAll_mk0
  | t :: ts, _, _, _, ht, h, hlt, hs => by
    obtain ⟨v, vs, d, ds, p, q, rfl, rfl, rfl, h1, h2⟩ := trodAll_cons h
    exact ⟨p, q, WideElems.Trod_stays hl (ht t (by simp)).1 (ht t (by simp)).2 h1 (fun x hx => hb.same (hlt x (by simp [hx]))) (fun x hx => hs x (by simp [hx])),
      trodAll_stays hl hb (fun t ht' => ht t (by simp [ht'])) h2 (fun x hx => hlt x (by simp [hx])) (fun x hx => hs x (by simp [hx])), rfl⟩
/-- A law's post: true, all that was there as it was. -/
theorem law_post {f : Func} {s : ChangeSpec} {apart fresh handsOn again : Bool} {W W' : World} {args : Array Value} {ds : List (DataW H)} {before : List MemPlace} {tb : TypeId}
    (hl : laidOutB P = true) (htb : P.underlying tb = some .bool) (hres : f.resultTypes = #[tb]) (hvars : s.vars = []) (hrow : ∀ t ∈ f.params.toList, P.readableRec t = true ∧ t < P.types.size)
    (hW : DataW.Whole enc P f.params.toList s.vars apart W args.toList ds [] before) (hfn : s.fn H ds = { results := [.lit (.bool true)], args := ds }) (hb : Below W.heap.size W W') :
    s.post enc P f apart fresh handsOn again W args (.bool true) W' := by
  have hlt : ∀ x ∈ before, x.block < W.heap.size := fun x hx => hW.lt x hx
  have hW0 := hW
  obtain ⟨p, q, hA, hV, rfl, hz, hn⟩ := hW
  rw [hvars] at hV
  obtain ⟨-, rfl⟩ := trodVars_none hV
  rw [List.append_nil] at hlt hz hn hW0
  have hargs : ∀ sp : Nat → Bool, (∀ x ∈ p, sp x.block = true) → DataW.TrodAll enc P W' 0 sp true f.params.toList args.toList ds p := fun sp hs => trodAll_stays hl hb hrow hA hlt hs
  have hr : ∀ (b : Nat) (sp : Nat → Bool) (hd : Bool), DataW.TrodAll enc P W' b sp hd f.resultTypes.toList ((Value.bool true).resultList f.resultTypes.size) [.lit (.bool true)] [] := by
    intro b sp hd
    rw [hres]
    exact trodAll_mk1 ⟨1, by simp [DataW.trod, Value.cells, htb]⟩
  have hfz : ∀ b off, MemPlace.cell b off ∈ p → W'.frozen? ⟨b, off, none⟩ = W.frozen? ⟨b, off, none⟩ := by
    intro b off hm
    have := hb.block b (hlt _ hm)
    simp only [World.frozen?]
    rw [this]
  have hfn' : s.fn H (ds ++ []) = { results := [.lit (.bool true)], args := ds } := by rw [List.append_nil]; exact hfn
  refine ⟨ds, [], p, [], p, [], hW0, ?_, ?_, ?_, keptBut_below hb _, fun _ => ?_⟩
  · rw [hfn']; exact hr _ _ _
  · rw [hfn']
    exact hargs _ fun x hx => by simpa using hlt x hx
  · rw [hfn', hvars]; rfl
  · refine ⟨?_, [.lit (.bool true)] ++ ds, [], ([] ++ p) ++ [], ⟨[] ++ p, [], ?_, ?_, rfl, ?_, ?_⟩, ?_⟩
    · intro j t r h1 h2
      rw [hres] at h1 h2
      have hj : j = 0 := by
        have := (Array.getElem?_eq_some_iff.1 h1).1
        simpa using this
      subst hj
      simp at h1
      subst h1
      have hr : r = .bool true := by simpa [Value.resultList] using h2.symm
      subst hr
      simp [Value.okWide, htb, Cell.okWide, Cell.ok]
    · exact trodAll_append (hargs _ (fun _ _ => rfl)) (hr _ _ _)
    · rw [hvars]; rfl
    · intro b off hp
      simp only [List.nil_append, List.append_nil] at hp
      rw [hfz b off hp]
      exact hz b off hp
    · intro ha
      simpa using hn ha
    · intro x hx _
      simpa using hx
end
end Go.Pg
set_option linter.unusedVariables false
set_option maxRecDepth 100000
namespace Go.Pg
open Go.Proofs Go.Proofs.YtfdkncmlnfenjaaGreatDoor Go.ChangeShapes Go.RowKit
theorem list_of {α : Type} (f : α → List AV) : ∀ (rows : List (List AV)), (∀ row ∈ rows, ∃ x, row = f x) → ∃ l : List α, rows = l.map f
  | [], _ => ⟨[], rfl⟩
  | r :: rows, h => by
    obtain ⟨x, rfl⟩ := h r (by simp)
    obtain ⟨l, rfl⟩ := list_of f rows fun row hr => h row (by simp [hr])
    exact ⟨x :: l, rfl⟩
def plainS : List TypeId := [28, 9, 22, 59, 23, 56, 69, 57, 98, 24, 96, 103, 25, 145, 101, 107, 26, 44, 42, 3, 2, 4]
theorem plain_ok : plainB Tryz.prog plainS = true := by kernel_rfl
theorem uInt : Tryz.prog.underlying 3 = some (.int .i64) := by kernel_rfl
theorem uInt64 : Tryz.prog.underlying 2 = some (.int .i64) := by kernel_rfl
theorem uBool : Tryz.prog.underlying 4 = some .bool := by kernel_rfl
theorem uStr : Tryz.prog.underlying 9 = some .string := by kernel_rfl
theorem uSlTxt : Tryz.prog.underlying 22 = some (.slice 9) := by kernel_rfl
theorem uSlE : Tryz.prog.underlying 42 = some (.slice 44) := by kernel_rfl
theorem uSlF : Tryz.prog.underlying 57 = some (.slice 69) := by kernel_rfl
theorem uSlC : Tryz.prog.underlying 23 = some (.slice 59) := by kernel_rfl
theorem uSlV : Tryz.prog.underlying 24 = some (.slice 98) := by kernel_rfl
theorem uSlP : Tryz.prog.underlying 101 = some (.slice 145) := by kernel_rfl
theorem uSlS : Tryz.prog.underlying 26 = some (.slice 107) := by kernel_rfl
theorem uSlR : Tryz.prog.underlying 25 = some (.slice 103) := by kernel_rfl
theorem tM : fieldTs Tryz.prog 56 = some [22, 22] := by kernel_rfl
theorem tY : fieldTs Tryz.prog 96 = some [3, 3, 9] := by kernel_rfl
theorem tE : fieldTs Tryz.prog 44 = some [3, 2, 9, 9, 42] := by kernel_rfl
theorem tF : fieldTs Tryz.prog 69 = some [56, 9, 3] := by kernel_rfl
theorem tC : fieldTs Tryz.prog 59 = some [56, 9, 57, 22] := by kernel_rfl
theorem tV : fieldTs Tryz.prog 98 = some [56, 9, 96] := by kernel_rfl
theorem tP : fieldTs Tryz.prog 145 = some [9, 96, 3] := by kernel_rfl
theorem tS : fieldTs Tryz.prog 107 = some [56, 3, 9, 44, 42, 4, 4, 26, 26, 22, 22] := by kernel_rfl
theorem tR : fieldTs Tryz.prog 103 = some [56, 9, 3, 101, 24, 25, 26, 22] := by kernel_rfl
theorem tG : fieldTs Tryz.prog 28 = some [9, 22, 22, 22, 23, 24, 25, 26, 22] := by kernel_rfl
section
variable {xs : List AV}
theorem in_T (h : TypedL Tryz.prog 22 xs) : ∃ l : List Txt, xs = [aT l] := by
  obtain ⟨rows, rfl, hr⟩ := h.isSl uSlTxt
  obtain ⟨l, rfl⟩ := list_of sT rows fun row hrow => (hr row hrow).isStr uStr
  exact ⟨l, rfl⟩
theorem in_M (h : TypedL Tryz.prog 56 xs) : ∃ a b : List Txt, xs = [aT a, aT b] := by
  obtain ⟨a, b, rfl, h1, h⟩ := (h.isStruct tM).isCons
  obtain ⟨b, c, rfl, h2, h⟩ := h.isCons
  obtain rfl := h.isNil
  obtain ⟨l, rfl⟩ := in_T h1
  obtain ⟨m, rfl⟩ := in_T h2
  exact ⟨l, m, rfl⟩
theorem in_Y (h : TypedL Tryz.prog 96 xs) : ∃ t : Ty, xs = sY t := by
  obtain ⟨a, b, rfl, h1, h⟩ := (h.isStruct tY).isCons
  obtain ⟨b, c, rfl, h2, h⟩ := h.isCons
  obtain ⟨c, d, rfl, h3, h⟩ := h.isCons
  obtain rfl := h.isNil
  obtain ⟨k, rfl⟩ := h1.isInt uInt
  obtain ⟨z, rfl⟩ := h2.isInt uInt
  obtain ⟨s, rfl⟩ := h3.isStr uStr
  exact ⟨⟨k, z, s⟩, rfl⟩
theorem in_V (h : TypedL Tryz.prog 98 xs) : ∃ v : Vr, xs = sV v := by
  obtain ⟨a, b, rfl, h1, h⟩ := (h.isStruct tV).isCons
  obtain ⟨b, c, rfl, h2, h⟩ := h.isCons
  obtain ⟨c, d, rfl, h3, h⟩ := h.isCons
  obtain rfl := h.isNil
  obtain ⟨k, m, rfl⟩ := in_M h1
  obtain ⟨s, rfl⟩ := h2.isStr uStr
  obtain ⟨t, rfl⟩ := in_Y h3
  exact ⟨⟨k, m, s, t⟩, rfl⟩
theorem in_P (h : TypedL Tryz.prog 145 xs) : ∃ v : Pm, xs = sP v := by
  obtain ⟨a, b, rfl, h1, h⟩ := (h.isStruct tP).isCons
  obtain ⟨b, c, rfl, h2, h⟩ := h.isCons
  obtain ⟨c, d, rfl, h3, h⟩ := h.isCons
  obtain rfl := h.isNil
  obtain ⟨s, rfl⟩ := h1.isStr uStr
  obtain ⟨t, rfl⟩ := in_Y h2
  obtain ⟨k, rfl⟩ := h3.isInt uInt
  exact ⟨⟨s, t, k⟩, rfl⟩
theorem in_F (h : TypedL Tryz.prog 69 xs) : ∃ v : Fld, xs = sF v := by
  obtain ⟨a, b, rfl, h1, h⟩ := (h.isStruct tF).isCons
  obtain ⟨b, c, rfl, h2, h⟩ := h.isCons
  obtain ⟨c, d, rfl, h3, h⟩ := h.isCons
  obtain rfl := h.isNil
  obtain ⟨k, m, rfl⟩ := in_M h1
  obtain ⟨s, rfl⟩ := h2.isStr uStr
  obtain ⟨z, rfl⟩ := h3.isInt uInt
  exact ⟨⟨k, m, s, z⟩, rfl⟩
theorem ins_V (h : TypedL Tryz.prog 24 xs) : ∃ l : List Vr, xs = [.sl 98 (rV l)] := by
  obtain ⟨rows, rfl, hr⟩ := h.isSl uSlV
  obtain ⟨l, rfl⟩ := list_of sV rows fun row hrow => in_V (hr row hrow)
  exact ⟨l, rfl⟩
theorem ins_P (h : TypedL Tryz.prog 101 xs) : ∃ l : List Pm, xs = [.sl 145 (rP l)] := by
  obtain ⟨rows, rfl, hr⟩ := h.isSl uSlP
  obtain ⟨l, rfl⟩ := list_of sP rows fun row hrow => in_P (hr row hrow)
  exact ⟨l, rfl⟩
theorem ins_F (h : TypedL Tryz.prog 57 xs) : ∃ l : List Fld, xs = [.sl 69 (rF l)] := by
  obtain ⟨rows, rfl, hr⟩ := h.isSl uSlF
  obtain ⟨l, rfl⟩ := list_of sF rows fun row hrow => in_F (hr row hrow)
  exact ⟨l, rfl⟩
theorem in_C (h : TypedL Tryz.prog 59 xs) : ∃ v : Rc, xs = sC v := by
  obtain ⟨a, b, rfl, h1, h⟩ := (h.isStruct tC).isCons
  obtain ⟨b, c, rfl, h2, h⟩ := h.isCons
  obtain ⟨c, d, rfl, h3, h⟩ := h.isCons
  obtain ⟨d, e, rfl, h4, h⟩ := h.isCons
  obtain rfl := h.isNil
  obtain ⟨k, m, rfl⟩ := in_M h1
  obtain ⟨s, rfl⟩ := h2.isStr uStr
  obtain ⟨l, rfl⟩ := ins_F h3
  obtain ⟨t, rfl⟩ := in_T h4
  exact ⟨⟨k, m, s, l, t⟩, rfl⟩
theorem ins_C (h : TypedL Tryz.prog 23 xs) : ∃ l : List Rc, xs = [.sl 59 (rC l)] := by
  obtain ⟨rows, rfl, hr⟩ := h.isSl uSlC
  obtain ⟨l, rfl⟩ := list_of sC rows fun row hrow => in_C (hr row hrow)
  exact ⟨l, rfl⟩
end
theorem in_Eind : ∀ (n : Nat) (xs : List AV), SizeOf.sizeOf xs ≤ n → TypedL Tryz.prog 44 xs → ∃ e : Expr, xs = sE e
  | 0, xs, hn, _ => by cases xs <;> simp at hn
  | n + 1, xs, hn, h => by
    obtain ⟨a, b, rfl, h1, h⟩ := (h.isStruct tE).isCons
    obtain ⟨b, c, rfl, h2, h⟩ := h.isCons
    obtain ⟨c, d, rfl, h3, h⟩ := h.isCons
    obtain ⟨d, e, rfl, h4, h⟩ := h.isCons
    obtain ⟨e, f, rfl, h5, h⟩ := h.isCons
    obtain rfl := h.isNil
    obtain ⟨k, rfl⟩ := h1.isInt uInt
    obtain ⟨z, rfl⟩ := h2.isInt uInt64
    obtain ⟨s, rfl⟩ := h3.isStr uStr
    obtain ⟨t, rfl⟩ := h4.isStr uStr
    obtain ⟨rows, rfl, hr⟩ := h5.isSl uSlE
    obtain ⟨l, rfl⟩ := list_of sE rows fun row hrow => in_Eind n row (by
      have := List.sizeOf_lt_of_mem hrow
      simp at hn
      omega) (hr row hrow)
    exact ⟨⟨k, z, s, t, l⟩, by simp [sE, rE_eq]⟩
section
variable {xs : List AV}
theorem in_E (h : TypedL Tryz.prog 44 xs) : ∃ e : Expr, xs = sE e := in_Eind _ _ (Nat.le_refl _) h
theorem ins_E (h : TypedL Tryz.prog 42 xs) : ∃ l : List Expr, xs = [.sl 44 (rE l)] := by
  obtain ⟨rows, rfl, hr⟩ := h.isSl uSlE
  obtain ⟨l, rfl⟩ := list_of sE rows fun row hrow => in_E (hr row hrow)
  exact ⟨l, by rw [rE_eq]⟩
end
theorem in_Sind : ∀ (n : Nat) (xs : List AV), SizeOf.sizeOf xs ≤ n → TypedL Tryz.prog 107 xs → ∃ e : Stm, xs = sS e
  | 0, xs, hn, _ => by cases xs <;> simp at hn
  | n + 1, xs, hn, h => by
    obtain ⟨a, b, rfl, h1, h⟩ := (h.isStruct tS).isCons
    obtain ⟨b, c, rfl, h2, h⟩ := h.isCons
    obtain ⟨c, d, rfl, h3, h⟩ := h.isCons
    obtain ⟨d, e, rfl, h4, h⟩ := h.isCons
    obtain ⟨e, f, rfl, h5, h⟩ := h.isCons
    obtain ⟨f, g, rfl, h6, h⟩ := h.isCons
    obtain ⟨g, i, rfl, h7, h⟩ := h.isCons
    obtain ⟨i, j, rfl, h8, h⟩ := h.isCons
    obtain ⟨j, k, rfl, h9, h⟩ := h.isCons
    obtain ⟨k, m, rfl, h10, h⟩ := h.isCons
    obtain ⟨m, o, rfl, h11, h⟩ := h.isCons
    obtain rfl := h.isNil
    obtain ⟨m1, m2, rfl⟩ := in_M h1
    obtain ⟨op, rfl⟩ := h2.isInt uInt
    obtain ⟨nm, rfl⟩ := h3.isStr uStr
    obtain ⟨p, rfl⟩ := in_E h4
    obtain ⟨es, rfl⟩ := ins_E h5
    obtain ⟨dn, rfl⟩ := h6.isBool uBool
    obtain ⟨mo, rfl⟩ := h7.isBool uBool
    obtain ⟨rows, rfl, hr⟩ := h8.isSl uSlS
    obtain ⟨rows2, rfl, hr2⟩ := h9.isSl uSlS
    obtain ⟨f1, rfl⟩ := in_T h10
    obtain ⟨f2, rfl⟩ := in_T h11
    simp [sE] at hn
    obtain ⟨l, rfl⟩ := list_of sS rows fun row hrow => in_Sind n row (by
      have := List.sizeOf_lt_of_mem hrow
      omega) (hr row hrow)
    obtain ⟨l2, rfl⟩ := list_of sS rows2 fun row hrow => in_Sind n row (by
      have := List.sizeOf_lt_of_mem hrow
      omega) (hr2 row hrow)
    exact ⟨⟨m1, m2, op, nm, p, es, dn, mo, l, l2, f1, f2⟩, by simp [sS, sE, rS_eq]⟩
section
variable {xs : List AV}
theorem in_S (h : TypedL Tryz.prog 107 xs) : ∃ e : Stm, xs = sS e := in_Sind _ _ (Nat.le_refl _) h
theorem ins_S (h : TypedL Tryz.prog 26 xs) : ∃ l : List Stm, xs = [.sl 107 (rS l)] := by
  obtain ⟨rows, rfl, hr⟩ := h.isSl uSlS
  obtain ⟨l, rfl⟩ := list_of sS rows fun row hrow => in_S (hr row hrow)
  exact ⟨l, by rw [rS_eq]⟩
end
theorem in_Rind : ∀ (n : Nat) (xs : List AV), SizeOf.sizeOf xs ≤ n → TypedL Tryz.prog 103 xs → ∃ e : Rtn, xs = sR e
  | 0, xs, hn, _ => by cases xs <;> simp at hn
  | n + 1, xs, hn, h => by
    obtain ⟨a, b, rfl, h1, h⟩ := (h.isStruct tR).isCons
    obtain ⟨b, c, rfl, h2, h⟩ := h.isCons
    obtain ⟨c, d, rfl, h3, h⟩ := h.isCons
    obtain ⟨d, e, rfl, h4, h⟩ := h.isCons
    obtain ⟨e, f, rfl, h5, h⟩ := h.isCons
    obtain ⟨f, g, rfl, h6, h⟩ := h.isCons
    obtain ⟨g, i, rfl, h7, h⟩ := h.isCons
    obtain ⟨i, j, rfl, h8, h⟩ := h.isCons
    obtain rfl := h.isNil
    obtain ⟨m1, m2, rfl⟩ := in_M h1
    obtain ⟨nm, rfl⟩ := h2.isStr uStr
    obtain ⟨rs, rfl⟩ := h3.isInt uInt
    obtain ⟨ps, rfl⟩ := ins_P h4
    obtain ⟨vs, rfl⟩ := ins_V h5
    obtain ⟨rows, rfl, hr⟩ := h6.isSl uSlR
    obtain ⟨ss, rfl⟩ := ins_S h7
    obtain ⟨f1, rfl⟩ := in_T h8
    simp at hn
    obtain ⟨l, rfl⟩ := list_of sR rows fun row hrow => in_Rind n row (by
      have := List.sizeOf_lt_of_mem hrow
      omega) (hr row hrow)
    exact ⟨⟨m1, m2, nm, rs, ps, vs, l, ss, f1⟩, by simp [sR, rR_eq]⟩
section
variable {xs : List AV}
theorem in_R (h : TypedL Tryz.prog 103 xs) : ∃ e : Rtn, xs = sR e := in_Rind _ _ (Nat.le_refl _) h
theorem ins_R (h : TypedL Tryz.prog 25 xs) : ∃ l : List Rtn, xs = [.sl 103 (rR l)] := by
  obtain ⟨rows, rfl, hr⟩ := h.isSl uSlR
  obtain ⟨l, rfl⟩ := list_of sR rows fun row hrow => in_R (hr row hrow)
  exact ⟨l, by rw [rR_eq]⟩
theorem in_G (h : TypedL Tryz.prog 28 xs) : ∃ p : Pgm, xs = sG p := by
  obtain ⟨a, b, rfl, h1, h⟩ := (h.isStruct tG).isCons
  obtain ⟨b, c, rfl, h2, h⟩ := h.isCons
  obtain ⟨c, d, rfl, h3, h⟩ := h.isCons
  obtain ⟨d, e, rfl, h4, h⟩ := h.isCons
  obtain ⟨e, f, rfl, h5, h⟩ := h.isCons
  obtain ⟨f, g, rfl, h6, h⟩ := h.isCons
  obtain ⟨g, i, rfl, h7, h⟩ := h.isCons
  obtain ⟨i, j, rfl, h8, h⟩ := h.isCons
  obtain ⟨j, k, rfl, h9, h⟩ := h.isCons
  obtain rfl := h.isNil
  obtain ⟨nm, rfl⟩ := h1.isStr uStr
  obtain ⟨t1, rfl⟩ := in_T h2
  obtain ⟨t2, rfl⟩ := in_T h3
  obtain ⟨t3, rfl⟩ := in_T h4
  obtain ⟨cs, rfl⟩ := ins_C h5
  obtain ⟨vs, rfl⟩ := ins_V h6
  obtain ⟨rs, rfl⟩ := ins_R h7
  obtain ⟨ss, rfl⟩ := ins_S h8
  obtain ⟨t4, rfl⟩ := in_T h9
  exact ⟨⟨nm, t1, t2, t3, cs, vs, rs, ss, t4⟩, rfl⟩
end
section
variable {T : Type} {enc : TypeId × Value → T} {W : World} {base : Nat}
/-- A struct that came in. -/
theorem open_agg {t : TypeId} {ts : List TypeId} {v : Value} {d : DataW T} {ps : List MemPlace} (ht : t ∈ plainS) (hts : fieldTs Tryz.prog t = some ts) (hval : Value.okWide Tryz.prog W .any base t v) (hd : DataW.Trod enc Tryz.prog W 0 (fun _ => true) true t v d ps)
    (hw : ∀ n ∈ d.weights Tryz.prog t, n ≤ reachBytes) : ∃ xs, TypedL Tryz.prog t xs ∧ RepF Tryz.prog (St.start W) gl (.d (.agg xs)) v := by
  unfold fieldTs at hts
  cases hu : Program.underlying Tryz.prog t with
  | none => simp [hu] at hts
  | some u =>
    cases u with
    | struct fs =>
      obtain ⟨fuel, hf⟩ := hd
      obtain ⟨xs, h1, h2⟩ := trod_typed plain_ok fuel t _ (d, ps) ht hf hw
      simp only [Value.okWide, hu] at hval
      obtain ⟨cs, rfl, _, _⟩ := hval
      refine ⟨xs, h2, .d _ _ (.agg xs cs ?_ ?_ ?_)⟩
      · have := h1.len; simpa [Value.cells] using this.symm
      · intro i hi; have := h1.one i (by simpa [Value.cells] using hi); simpa [Value.cells] using this
      · intro i hx hc; have := h1.rep i hx (by simpa [Value.cells] using hc); simp only [Value.cells, Array.getElem_toList] at this; exact this
    | _ => simp [hu] at hts
theorem open_G {v : Value} {d : DataW T} {ps : List MemPlace} (hval : Value.okWide Tryz.prog W .any base 28 v) (hd : DataW.Trod enc Tryz.prog W 0 (fun _ => true) true 28 v d ps)
    (hw : ∀ n ∈ d.weights Tryz.prog 28, n ≤ reachBytes) : ∃ p : Pgm, RepF Tryz.prog (St.start W) gl (.d (.agg (sG p))) v := by
  obtain ⟨xs, h1, h2⟩ := open_agg (by decide) tG hval hd hw
  obtain ⟨p, rfl⟩ := in_G h1
  exact ⟨p, h2⟩
theorem open_E {v : Value} {d : DataW T} {ps : List MemPlace} (hval : Value.okWide Tryz.prog W .any base 44 v) (hd : DataW.Trod enc Tryz.prog W 0 (fun _ => true) true 44 v d ps)
    (hw : ∀ n ∈ d.weights Tryz.prog 44, n ≤ reachBytes) : ∃ p : Expr, RepF Tryz.prog (St.start W) gl (.d (.agg (sE p))) v := by
  obtain ⟨xs, h1, h2⟩ := open_agg (by decide) tE hval hd hw
  obtain ⟨p, rfl⟩ := in_E h1
  exact ⟨p, h2⟩
end
end Go.Pg
set_option linter.unusedVariables false
set_option maxRecDepth 100000
namespace Go.Pg
open Go.Proofs Go.Proofs.YtfdkncmlnfenjaaGreatDoor Go.ChangeShapes Go.RowKit
theorem own : ownKnob Tryz.prog.godebug = none := by kernel_rfl
theorem laid_out : laidOutB Tryz.prog = true := by kernel_rfl
def whiteRows : List Int := [9, 13, 1, 32, 133, 101, 160, 5760, 5600, 8192, 8202, 1, 8232, 8233, 1, 8239, 8287, 48, 12288, 12288, 1]
def acceptRows : List Int := [128, 191, 160, 191, 128, 159, 144, 191, 128, 143, 0, 0, 0, 0, 0, 0, 0, 0, 0, 0, 0, 0, 0, 0, 0, 0, 0, 0, 0, 0, 0, 0]
def putC (h : Array Obj) (g : Nat) (cs : Array Value) : Array Obj := h.modify g fun
  | .cells _ t frozen => .cells cs t frozen
  | o => o
noncomputable def laidWorld (os : Os) : World :=
  let N := (World.settled Tryz.prog os).heap.size
  let w0 := World.holding Tryz.prog os ⟨#[.cells (whiteRows.map fun z => Value.int .u16 z).toArray 222, .cells #[.slice (some ⟨N, 0, none⟩) 7 7, .slice none 0 0, .int .i64 2] 219], #[], []⟩
  let h1 := putC w0.heap 0 (spaceInts.map fun z => Value.int .u8 z).toArray
  let h2 := putC h1 2 (Go.Pinned.utf8FirstZ.map fun (z : Nat) => Value.int .u8 (z : Int)).toArray
  let h3 := putC h2 3 (acceptRows.map fun z => Value.int .u8 z).toArray
  let h4 := putC h3 1 #[.pointer (some ⟨N + 1, 0, none⟩)]
  { w0 with heap := h4 }
def zeroG : Value := .agg #[.string ⟨#[]⟩, .slice none 0 0, .slice none 0 0, .slice none 0 0, .slice none 0 0, .slice none 0 0, .slice none 0 0, .slice none 0 0, .slice none 0 0]
def zeroE : Value := .agg #[.int .i64 0, .int .i64 0, .string ⟨#[]⟩, .string ⟨#[]⟩, .slice none 0 0]
theorem laid_met (os : Os) (args : Array Value) : laidMet Tryz.prog Rows.treeAlikeRow.laid ((laidWorld os).forCall (fun _ _ => 0) ⟨#[], args, []⟩).memory :=
  laidMet_of_run3 10 (by kernel_rfl) (by kernel_rfl) (by kernel_rfl)
end Go.Pg
