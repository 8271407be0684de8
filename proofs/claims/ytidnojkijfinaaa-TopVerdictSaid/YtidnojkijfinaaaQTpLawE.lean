/- Part of the proof of TopVerdictSaid. -/
import Derived.Test.YtidnojkijfinaaaQTpLawD
namespace Go.Proofs.Ytidnojkijfinaaa.Fns
open Go.RowKit Go.Proofs.YtidnojkijfinaaaW.PrintWords Go.Proofs.YtidnojkijfinaaaW.PrintLast Go.Proofs.YtidnojkijfinaaaW.PrintMore
set_option linter.unusedVariables false
set_option linter.unusedSimpArgs false
def usedB (rs : List S72) (e : S109) : Bool := rs.any (fun r => hasB r.f1 e.f0)
def numsR (rs : List S72) : List Int := (callsTab.filter (usedB rs)).map (·.f1)
def nameD (n : Int) : ByteArray := (nameOf n).getD ⟨#[]⟩
def leavesR (other : Int) (rs : List S72) : List (List S84) := (numsR rs).map (fun n => leafR other rs (nameD n))
theorem tab_sorted : callsTab.Pairwise (fun x y => x.f1 < y.f1) := by decide +kernel
theorem tabn_u32 : ∀ e ∈ callsTab, 0 ≤ e.f1 ∧ e.f1 < 4294967296 := by decide +kernel
theorem tab_name : ∀ e ∈ callsTab, nameOf e.f1 = some e.f0 := by decide +kernel
theorem nrOf_data (l : List UInt8) : nrOf l = (callsTab.find? (fun x => x.f0.data.toList == l)).map (·.f1) := by
  unfold nrOf
  have : (fun x : S109 => x.f0.toList == l) = (fun x : S109 => x.f0.data.toList == l) := by
    funext x
    rw [toList_data]
  rw [this]
theorem tab_nr0 : ∀ e ∈ callsTab, (callsTab.find? (fun x => x.f0.data.toList == e.f0.data.toList)).map (·.f1) = some e.f1 := by decide +kernel
theorem tab_nr (e : S109) (h : e ∈ callsTab) : nrOf e.f0.toList = some e.f1 := by
  rw [nrOf_data, toList_data]
  exact tab_nr0 e h
theorem mem_nums {rs : List S72} {n : Int} : n ∈ numsR rs ↔ ∃ e ∈ callsTab, usedB rs e = true ∧ e.f1 = n := by
  unfold numsR
  rw [List.mem_map]
  constructor
  · rintro ⟨e, he, rfl⟩
    obtain ⟨h1, h2⟩ := List.mem_filter.1 he
    exact ⟨e, h1, h2, rfl⟩
  · rintro ⟨e, h1, h2, rfl⟩
    exact ⟨e, List.mem_filter.2 ⟨h1, h2⟩, rfl⟩
theorem mem_nums_nr {rs : List S72} {n : Int} : n ∈ numsR rs ↔ ∃ r ∈ rs, ∃ s ∈ r.f1, nrOf s.toList = some n := by
  rw [mem_nums]
  constructor
  · rintro ⟨e, h1, h2, rfl⟩
    obtain ⟨r, hr, hb⟩ := List.any_eq_true.1 h2
    obtain ⟨s, hs, he⟩ := List.any_eq_true.1 hb
    rw [beq_iff_eq] at he
    exact ⟨r, hr, s, hs, by rw [← he]; exact tab_nr e h1⟩
  · rintro ⟨r, hr, s, hs, he⟩
    unfold nrOf at he
    obtain ⟨e, hf, rfl⟩ := Option.map_eq_some_iff.1 he
    have h1 := List.mem_of_find?_eq_some hf
    have h2 := List.find?_some hf
    rw [beq_iff_eq] at h2
    exact ⟨e, h1, List.any_eq_true.2 ⟨r, hr, List.any_eq_true.2 ⟨s, hs, by rw [beq_iff_eq]; exact h2⟩⟩, rfl⟩
theorem nums_sorted (rs : List S72) : (numsR rs).Pairwise (· < ·) := by
  unfold numsR
  rw [List.pairwise_map]
  exact tab_sorted.filter _
theorem nums_len (rs : List S72) : (numsR rs).length ≤ 30 := by
  unfold numsR
  rw [List.length_map]
  exact List.length_filter_le _ _
theorem nums_u32 {rs : List S72} {n : Int} (h : n ∈ numsR rs) : U32 n := by
  obtain ⟨e, he, _, rfl⟩ := mem_nums.1 h
  exact tabn_u32 e he
theorem strict_eq : ∀ (a b : List Int), a.Pairwise (· < ·) → b.Pairwise (· < ·) → (∀ n, n ∈ a ↔ n ∈ b) → a = b
  | [], [], _, _, _ => rfl
  | [], y :: b, _, _, h => by have := (h y).2 (List.mem_cons_self ..); cases this
  | x :: a, [], _, _, h => by have := (h x).1 (List.mem_cons_self ..); cases this
  | x :: a, y :: b, ha, hb, h => by
    obtain ⟨a1, a2⟩ := List.pairwise_cons.1 ha
    obtain ⟨b1, b2⟩ := List.pairwise_cons.1 hb
    have hxy : x = y := by
      rcases List.mem_cons.1 ((h x).1 (List.mem_cons_self ..)) with e | e
      · exact e
      · rcases List.mem_cons.1 ((h y).2 (List.mem_cons_self ..)) with e' | e'
        · exact e'.symm
        · have := b1 x e
          have := a1 y e'
          omega
    subst hxy
    rw [strict_eq a b a2 b2 (fun n => ⟨fun hn => ?_, fun hn => ?_⟩)]
    · rcases List.mem_cons.1 ((h n).1 (List.mem_cons_of_mem _ hn)) with e | e
      · have := a1 n hn
        omega
      · exact e
    · rcases List.mem_cons.1 ((h n).2 (List.mem_cons_of_mem _ hn)) with e | e
      · have := b1 n hn
        omega
      · exact e
theorem nums_unique {rs : List S72} {zs : List Int} (hs : zs.Pairwise (· ≤ ·)) (hn : zs.Nodup) (hm : ∀ n, n ∈ zs ↔ n ∈ numsR rs) : zs = numsR rs := by
  refine strict_eq _ _ ?_ (nums_sorted rs) hm
  have := hs.and hn
  exact this.imp (fun h => by have := h.1; have := h.2; omega)
theorem plan_ok {dk da : Int} {rs : List S72} (H : RulesOk dk da rs) : PlanOk (numsR rs) (leavesR (actV ⟨dk, da⟩) rs) (actV ⟨dk, da⟩) where
  len := by unfold leavesR; rw [List.length_map]
  few := nums_len rs
  nr := fun n hn => nums_u32 hn
  leaf := fun b hb => by
    obtain ⟨n, _, rfl⟩ := List.mem_map.1 hb
    obtain ⟨h1, h2⟩ := leafR_len (actV ⟨dk, da⟩) (nameD n) H.rule H.few
    exact ⟨h1, h2, leafR_fits (value_is H.dflt).2 (nameD n) H.rule, _, rfl⟩
  other := (value_is H.dflt).2
  sorted := fun i j hi hj => by
    have := List.pairwise_iff_getElem.1 (nums_sorted rs) i j (by omega) hj hi
    rw [List.getD_eq_getElem?_getD, List.getD_eq_getElem?_getD, List.getElem?_eq_getElem hj, List.getElem?_eq_getElem (show i < (numsR rs).length by omega)]
    exact this
theorem kill_ok : ActOk ⟨1, 0⟩ := by
  unfold ActOk act_Right.f
  rfl
def progR (dk da : Int) (rs : List S72) : List S84 := progC (actV ⟨1, 0⟩) (actV ⟨dk, da⟩) (numsR rs) (leavesR (actV ⟨dk, da⟩) rs)
theorem progR_ok {dk da : Int} {rs : List S72} (H : RulesOk dk da rs) (h : (progR dk da rs).length ≤ 4096) : ProgOk (progR dk da rs) := prog_ok (plan_ok H) (value_is kill_ok).2 h
theorem progR_runs {dk da : Int} {rs : List S72} (H : RulesOk dk da rs) {d : DT} (hd : d.Ok) : ∃ K, vmRun d (progR dk da rs) K 0 0 = some (actV (decideB dk da rs d)) := by
  have key := prog_runs hd (plan_ok H) (value_is kill_ok).2 (w := actV (match rs.find? (fun r => meetsB r d) with | some r => r.f0 | none => ⟨dk, da⟩)) ?_ ?_
  · have e : (if d.arch = 3221225534 then actV (match rs.find? (fun r => meetsB r d) with | some r => r.f0 | none => ⟨dk, da⟩) else actV ⟨1, 0⟩) = actV (decideB dk da rs d) := by
      unfold decideB
      split <;> rfl
    rw [e] at key
    exact key
  · intro m hm hnr P q a hc
    have hmem := getD_mem (numsR rs) m 0 hm
    rw [hnr] at hmem
    obtain ⟨e, he, _, hen⟩ := mem_nums.1 hmem
    have hname : nameOf d.nr = some e.f0 := by rw [← hen]; exact tab_name e he
    have hl : (leavesR (actV ⟨dk, da⟩) rs).getD m [] = leafR (actV ⟨dk, da⟩) rs (nameD d.nr) := by
      unfold leavesR
      rw [List.getD_eq_getElem?_getD, List.getElem?_map, List.getElem?_eq_getElem hm]
      rw [List.getD_eq_getElem?_getD, List.getElem?_eq_getElem hm] at hnr
      simp only [Option.getD_some] at hnr
      simp only [Option.map_some, Option.getD_some, hnr]
    rw [hl] at hc
    have hr := leaf_runs hd (value_is H.dflt).2 H.rule (nameD d.nr) (a := a) hc
    have hq : (fun r : S72 => meetsB r d) = (fun r => hasB r.f1 (nameD d.nr) && r.f2.all (fun c => holdsB c d)) := by
      funext r
      unfold meetsB nameD
      rw [hname]
      rfl
    rw [hq]
    unfold foundV at hr
    cases hf : rs.find? (fun r => hasB r.f1 (nameD d.nr) && r.f2.all (fun c => holdsB c d)) with
    | some r => rw [hf] at hr; exact hr
    | none => rw [hf] at hr; exact hr
  · intro hno
    have hf : rs.find? (fun r => meetsB r d) = none := by
      rw [List.find?_eq_none]
      intro r hr hb
      unfold meetsB at hb
      cases hn : nameOf d.nr with
      | none => rw [hn] at hb; cases hb
      | some nm =>
        rw [hn] at hb
        rw [Bool.and_eq_true] at hb
        unfold nameOf at hn
        obtain ⟨e, hfe, rfl⟩ := Option.map_eq_some_iff.1 hn
        have h1 := List.mem_of_find?_eq_some hfe
        have h2 := List.find?_some hfe
        rw [beq_iff_eq] at h2
        have hmem : d.nr ∈ numsR rs := mem_nums.2 ⟨e, h1, List.any_eq_true.2 ⟨r, hr, hb.1⟩, h2⟩
        obtain ⟨m, hm, hg⟩ := List.getElem_of_mem hmem
        refine hno m hm ?_
        rw [List.getD_eq_getElem?_getD, List.getElem?_eq_getElem hm]
        exact hg
    rw [hf]
theorem decide_ok {dk da : Int} {rs : List S72} (H : RulesOk dk da rs) (d : DT) : ActOk (decideB dk da rs d) := by
  unfold decideB
  split
  · cases hf : rs.find? (fun r => meetsB r d) with
    | some r => exact (H.rule r (List.mem_of_find?_eq_some hf)).act
    | none => exact H.dflt
  · exact kill_ok
end Go.Proofs.Ytidnojkijfinaaa.Fns
