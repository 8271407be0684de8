/- Part of the proof of TopVerdictSaid. -/
import Derived.Test.YtidnojkijfinaaaQTpLawE
import Derived.Test.YtidnojkijfinaaaQTpSortE
import Derived.Maps.RangeWalk
namespace Go.Proofs.Ytidnojkijfinaaa.Fns
open Go.RowKit Go.Maps Go.Proofs.YtidnojkijfinaaaW.PrintWords Go.Proofs.YtidnojkijfinaaaW.PrintLast Go.Proofs.YtidnojkijfinaaaW.PrintMore
attribute [local go_sem] max2_int min2_int max_two min_two max_three min_three max_four min_four
set_option linter.unusedVariables false
set_option linter.unusedSimpArgs false
def SortedAs (w : World) (base : Nat) (ok : Nat → Prop) (v : Value) (zs : List Int) (e : Ending) (w' : World) : Prop := e = .returned (.tuple #[]) ∧ (Kd.int .u32).R 23 w' base ok v (zs.mergeSort fun x y => decide (x ≤ y)) ∧ w.grownBy w' v.ownBlock
theorem sort_calls (w : World) (base : Nat) (ok : Nat → Prop) (v : Value) (zs : List Int) (h : (Kd.int .u32).R 23 w base ok v zs) (hz : zs.length ≤ 100) : Calls Try.prog 40 #[v] w (SortedAs w base ok v zs) := by
  have hown := Kd.own_of_R h
  have h0 := h.1
  rcases hown.2 with ⟨rfl, hn⟩ | ⟨g, cap, cur, rfl, hbase, hb, h1, h2, h3, h4⟩
  · obtain rfl : zs = [] := List.eq_nil_of_length_eq_zero hn
    refine (Srt.u_Sort_int_nil none 0 w).mono ?_
    rintro e w' ⟨rfl, rfl⟩
    exact ⟨rfl, by simpa using h, World.grownBy.refl _ _⟩
  · have hg : g < w.heap.size := (Array.getElem?_eq_some_iff.1 hb).1
    have ht : cur.toList.take zs.length = zs.map (Value.int .u32) := by simpa [encs] using h4
    have hH : Sort.Holds (Value.int .u32) w g 0 zs.toArray := by
      intro j hj
      have hj' : j < zs.length := by simpa using hj
      refine ⟨?_, by simp [World.frozen?, hb]⟩
      have k1 : (cur.toList.take zs.length)[j]? = (zs.map (Value.int .u32))[j]? := by rw [ht]
      rw [List.getElem?_take_of_lt hj'] at k1
      simp only [World.cell?, hb, Nat.zero_add]
      simp only [Option.isSome_none, Bool.false_eq_true, if_false]
      rw [← Array.getElem?_toList, k1]
      simp [hj']
    refine (Srt.u_slices_Sort_int g 0 cap zs w hH hg (by omega)).mono ?_
    rintro e w' ⟨rfl, n, os, rfl⟩
    have hl : (zs.mergeSort fun x y => decide (x ≤ y)).length = zs.length := by simp
    unfold SortedAs
    generalize (zs.mergeSort fun x y => decide (x ≤ y)) = ts at hl ⊢
    have hh : (Sort.grow (Sort.putRow (Value.int .u32) (Sort.ahead w n) g 0 ts.toArray) os).heap[g]? = some (.cells (Sort.putCells (Value.int .u32) 0 ts.toArray cur) 23 (0, 0)) := by
      rw [Sort.heap_grow_old _ _ (by simpa using hg)]
      simp [Sort.putRow, Sort.mapBlock, Sort.ahead, Array.getElem?_modify, hb, Sort.onCells]
    have htk : (Sort.putCells (Value.int .u32) 0 ts.toArray cur).toList.take ts.length = ts.map (Value.int .u32) := by
      have h : ts.length ≤ cur.size := by omega
      apply List.ext_getElem?
      intro j
      by_cases hj : j < ts.length
      · rw [List.getElem?_take_of_lt hj, Array.getElem?_toList]
        simp [Sort.putCells, hj, show j < cur.size by omega]
      · rw [List.getElem?_take_eq_none (by omega), List.getElem?_eq_none (by simp; omega)]
    refine ⟨rfl, ?_, ?_⟩
    · rw [← hl]
      refine Kd.R_of_own ⟨by simp [encs], .inr ⟨g, cap, _, rfl, hbase, hh, by omega, h2, by simp [Sort.putCells, h3], by rw [Nat.mul_one]; exact htk⟩⟩ (fun k hk => h0 k (by simpa [Value.ownBlock] using hk))
    · refine ⟨rfl, rfl, rfl, by simp, fun k hk hne => ?_⟩
      rw [Sort.heap_grow_old _ _ (by simpa using hk)]
      have : g ≠ k := fun e => hne (by simp [Value.ownBlock, e])
      simp [Sort.putRow, Sort.mapBlock, Sort.ahead, Array.getElem?_modify, this]
theorem sorted_is {zs : List Int} {rs : List S72} (hn : zs.Nodup) (hm : ∀ n, n ∈ zs ↔ n ∈ numsR rs) : (zs.mergeSort fun x y => decide (x ≤ y)) = numsR rs := by
  have tr : ∀ a b c : Int, decide (a ≤ b) = true → decide (b ≤ c) = true → decide (a ≤ c) = true := fun a b c h1 h2 => by simp only [decide_eq_true_eq] at *; omega
  have tot : ∀ a b : Int, (decide (a ≤ b) || decide (b ≤ a)) = true := fun a b => by simp only [Bool.or_eq_true, decide_eq_true_eq]; omega
  have hp := List.mergeSort_perm zs (fun x y => decide (x ≤ y))
  refine nums_unique ?_ (hp.nodup_iff.2 hn) (fun n => by rw [hp.mem_iff]; exact hm n)
  exact (List.pairwise_mergeSort tr tot zs).imp (fun h => by simpa using h)
theorem nodup_len : ∀ (a b : List Int), a.Nodup → (∀ x ∈ a, x ∈ b) → a.length ≤ b.length
  | [], _, _, _ => Nat.zero_le _
  | x :: a, b, hn, hs => by
    obtain ⟨h1, h2⟩ := List.nodup_cons.1 hn
    have hx := hs x (List.mem_cons_self ..)
    have := nodup_len a (b.erase x) h2 (fun y hy => (List.mem_erase_of_ne (fun e => h1 (by rw [← e]; exact hy))).2 (hs y (List.mem_cons_of_mem _ hy)))
    rw [List.length_erase_of_mem hx] at this
    have := List.length_pos_of_mem hx
    simp only [List.length_cons]
    omega
section
variable {H : Type} {P : Program} (w : World) {ops : Array Oper} {rest : List Oper} {o : Oper} {a : Act} {Q : Exit → Act → World → Prop}
theorem wpList_next_ranges_ib (hg : o.guard = none) (it : Operand) (hop : o.op = Op.next it false) (k : TypeId) (qk : IntKind) (K : Keyed P k) (hk : P.underlying k = some (.int qk)) (R : Value → Option (DataW H × List MemPlace))
    (b r n : Nat) (D : DataW H) (left : Lit → Bool) (cnt : Nat) (hit : a.eval it = .pointer (some ⟨r, 0, none⟩)) (h : w.ranges P k R b r n D left cnt)
    (hDone : cnt = 0 → (∀ kl, left kl = false) → wpList P ops Q rest (a.put o.dst (.tuple #[.bool false])) w)
    (hMore : ∀ (x : Int) (v : Value) (y : DataW H) (w' : World) (cnt' : Nat), left (.int qk x) = true → (∀ zd, D.atKey (.int qk x) zd = y) → w'.ranges P k R b r n D (fun z => left z && !z.sameKey (.int qk x)) cnt' → cnt' < cnt →
      w.grownBy w' (some r) → w'.heap.size = w.heap.size → (Instr.entry (.pointer (some ⟨r, 0, none⟩))).run P w' = .ok (.tuple #[.int qk x, v]) w' → wpList P ops Q rest (a.put o.dst (.tuple #[.bool true, .int qk x, v])) w') :
    wpList P ops Q (o :: rest) a w :=
  wpList_next_ranges w hg it hop k K R (Value.int qk) id (fun key kl hkey => by obtain ⟨x, rfl, _⟩ := Maps.keyOf_int_inv hk hkey; exact ⟨x, rfl⟩) (fun v y hv => ⟨v, rfl⟩)
    b r n D left cnt hit h hDone (fun x c kl y w' cnt' hkey hlk hv hat hrg hlt hgr hsz hen => by
      obtain ⟨x', ex, rfl, hwx⟩ := Maps.keyOf_int_inv hk hkey
      cases ex
      exact hMore x c y.1 w' cnt' hlk hat hrg hlt hgr hsz hen)
end
def Sees (D : DataW Unit) (S : Int → Prop) : Prop := IsMap D ∧ ∀ x, has D (.int .u32 x) = true ↔ S x
theorem Sees.empty : Sees (.map []) (fun _ => False) := ⟨isMap_empty, fun x => ⟨fun h => (by cases h), fun h => False.elim h⟩⟩
theorem Sees.put {D : DataW Unit} {S : Int → Prop} (h : Sees D S) (n : Int) (d : DataW Unit) : Sees (D.put (.int .u32 n) d) (fun x => x = n ∨ S x) := by
  refine ⟨h.1.put _ _, fun x => ?_⟩
  by_cases e : x = n
  · subst e
    rw [has_put_same h.1 (show WideAt.IsKeyLit (.int .u32 x) from trivial)]
    simp
  · rw [has_put_other (by intro h; injection h with _ h; exact e h), h.2 x]
    simp [e]
theorem Sees.iff {D : DataW Unit} {S T : Int → Prop} (h : Sees D S) (he : ∀ x, S x ↔ T x) : Sees D T := ⟨h.1, fun x => (h.2 x).trans (he x)⟩
def MetI (D : DataW Unit) (left : Lit → Bool) (ss : List Int) : Prop := ss.Nodup ∧ ∀ x, x ∈ ss ↔ (has D (.int .u32 x) = true ∧ left (.int .u32 x) = false)
theorem MetI.start (D : DataW Unit) : MetI D (has D) [] := ⟨List.nodup_nil, fun x => by cases has D (.int .u32 x) <;> simp⟩
theorem MetI.step {D : DataW Unit} {left : Lit → Bool} {ss : List Int} (h : MetI D left ss) {x : Int} {y : DataW Unit} (hlk : left (.int .u32 x) = true) (hat : ∀ zd, D.atKey (.int .u32 x) zd = y) : MetI D (fun z => left z && !z.sameKey (.int .u32 x)) (ss ++ [x]) := by
  have hhas : has D (.int .u32 x) = true := has_true_of_atKey hat
  have hnew : x ∉ ss := fun hx => by have := ((h.2 x).1 hx).2; rw [hlk] at this; cases this
  refine ⟨List.nodup_append.2 ⟨h.1, by simp, fun a ha b hb => by simp at hb; subst hb; exact fun e => hnew (e ▸ ha)⟩, fun y => ?_⟩
  by_cases hy : y = x
  · subst hy; simp [hhas, Lit.sameKey]
  · simp [h.2 y, hy, Lit.sameKey]
theorem MetI.le {D : DataW Unit} {left : Lit → Bool} {ss : List Int} {rs : List S72} (h : MetI D left ss) (hs : Sees D (· ∈ numsR rs)) : ss.length ≤ 30 :=
  Nat.le_trans (nodup_len _ _ h.1 (fun x hx => (hs.2 x).1 ((h.2 x).1 hx).1)) (nums_len rs)
def SeenR (l : List S72) (k : Nat) (ns : List ByteArray) (j : Nat) (x : Int) : Prop := (∃ r ∈ l.take k, ∃ s ∈ r.f1, nrOf s.toList = some x) ∨ ∃ s ∈ ns.take j, nrOf s.toList = some x
theorem nrs_known {n : List UInt8} {v : Int} (h : nrOf n = some v) : (Lit.int .u32 v).wf = true := by
  unfold nrOf at h
  obtain ⟨e, hf, rfl⟩ := Option.map_eq_some_iff.1 h
  have h1 := tabn_u32 e (List.mem_of_find?_eq_some hf)
  simp only [Lit.wf, Bool.and_eq_true, decide_eq_true_eq]
  exact ⟨h1.1, by show e.f1 ≤ 4294967295; omega⟩
end Go.Proofs.Ytidnojkijfinaaa.Fns
