/- Part of the proof of TopVerdictSaid. -/
import Derived.Test.YtidnojkijfinaaaQTpRun
import Derived.StillTailTactics
import Derived.WalkLawsBesides
namespace Go.Proofs.Ytidnojkijfinaaa.Fns
open Go.RowKit Go.Proofs.YtidnojkijfinaaaW.PrintWords Go.Proofs.YtidnojkijfinaaaW.PrintLast Go.Proofs.YtidnojkijfinaaaW.PrintMore
attribute [local go_sem] max2_int min2_int max_two min_two max_three min_three max_four min_four
set_option linter.unusedVariables false
set_option linter.unusedSimpArgs false
structure Rdr (w : World) (g : Nat) (A : Option Addr) (c : Nat) (l : List S68) (n : Nat) : Prop where
  blk : w.heap[g]? = some (.cells #[.slice A l.length c, .int .i64 (n : Int)] 63 (0, 0))
  le : l.length ≤ c
  row : Kd.F k68 w (fun k => k ≠ g) A l.length l
  lt : n < l.length
  last : ∀ (h : l.length - 1 < l.length), (l[l.length - 1]).f0 = 4
  short : l.length ≤ 9000
theorem Rdr.grown {w w1 : World} {g : Nat} {A : Option Addr} {c : Nat} {l : List S68} {n : Nat} (h : Rdr w g A c l n) (hb : Below w.heap.size w w1) : Rdr w1 g A c l n :=
  ⟨blk_below h.blk hb, h.le, Kd.F_below h.row hb, h.lt, h.last, h.short⟩
theorem Rdr.put {w : World} {g : Nat} {A : Option Addr} {c : Nat} {l : List S68} {n : Nat} (h : Rdr w g A c l n) (m : Nat) (hm : m < l.length) : Rdr (w.setCell ⟨g, 1, none⟩ (.int .i64 (m : Int))) g A c l m :=
  ⟨blk_put h.blk 1 _ rfl, h.le, Kd.F_far h.row (p := ⟨g, 1, none⟩) (fun k hk => hk) _, hm, h.last, h.short⟩
theorem Rdr.next {w : World} {g : Nat} {A : Option Addr} {c : Nat} {l : List S68} {n : Nat} (h : Rdr w g A c l n) (hk : (l.getD n z68).f0 ≠ 4) : n + 1 < l.length := by
  have h1 := h.lt
  rcases Nat.lt_or_ge (n + 1) l.length with h2 | h2
  · exact h2
  · exfalso
    have h3 := h.last (by omega)
    apply hk
    rw [List.getD_eq_getElem?_getD, List.getElem?_eq_getElem h1]
    have : n = l.length - 1 := by omega
    subst this
    exact h3
theorem gr_setCells (b : Nat) : ∀ (vs : List Value) (o : Nat) (W : World), W.grownBy (W.setCells b o vs) (some b)
  | [], _, W => gr_refl W _
  | v :: vs, o, W => (gr_set (gr_refl W _) o v).trans (gr_setCells b vs (o + 1) _)
section
variable {P : Program} {ops : Array Oper} {rest : List Oper} {o : Oper} {a : Act} {Q : Exit → Act → World → Prop} {W : World}
theorem store_all (hgd : o.guard = none) {ty : TypeId} {p : Tmp} {y : Operand} (ho : o.op = .store ty (.tmp p) y) (hN : o.dst = none)
    {b : Nat} {old cells : Array Value} (hx : a.eval (.tmp p) = .pointer (some ⟨b, 0, none⟩)) (hy : a.eval y = .agg cells) (hb : W.heap[b]? = some (.cells old ty (0, 0))) (hsz : old.size = cells.size)
    (hi : (P.info? ty).map (·.size) = some cells.size) (h1 : cells.all (·.oneCell') = true)
    (h : ∀ w1, w1.heap[b]? = some (.cells cells ty (0, 0)) → W.grownBy w1 (some b) → wpList P ops Q rest a w1) : wpList P ops Q (o :: rest) a W := by
  refine wpList_store_mid hgd ty (.tmp p) y ho b 0 cells hx hy (fun j hj => ?_) hi h1 ?_
  · rw [Nat.zero_add]
    refine ⟨?_, blk_frozen hb j⟩
    rw [blk_cell hb j]
    simp [hsz, hj]
  · rw [hN]
    refine h _ ?_ (gr_setCells b _ _ _)
    have := blk_setCells b ty cells.toList 0 W old hb
    rwa [putL_whole _ _ hsz] at this
end
theorem Rdr.at_ {w w2 : World} {g : Nat} {A : Option Addr} {c : Nat} {l : List S68} {n m : Nat} (h : Rdr w g A c l n) (hg : w.grownBy w2 (some g)) (hb : w2.heap[g]? = some (.cells #[.slice A l.length c, .int .i64 (m : Int)] 63 (0, 0))) (hm : m < l.length) : Rdr w2 g A c l m :=
  ⟨hb, h.le, Kd.F_step h.row (fun k hk hlt => hg.block k hlt (by simpa using hk)), hm, h.last, h.short⟩
def S68.cells (t : S68) : Array Value := #[.int .i64 t.f0, .int .i64 t.f1, .string t.f2, .int .u64 t.f3]
theorem one68 (t : S68) : t.cells.all (·.oneCell') = true := by simp [S68.cells, Value.oneCell']
theorem info68s (t : S68) : (Try.prog.info? 68).map (·.size) = some t.cells.size := by
  have h : (Try.prog.info? 68).map (·.size) = some 4 := by kernel_rfl
  exact h
set_option maxHeartbeats 8000000 in
set_option maxRecDepth 100000 in
theorem now_calls (w : World) (g : Nat) (A : Option Addr) (c : Nat) (l : List S68) (n : Nat) (h : Rdr w g A c l n) :
    Calls Try.prog 19 #[.pointer (some ⟨g, 0, none⟩)] w fun e w' => e = .returned (.agg (l.getD n z68).cells) ∧ Below w.heap.size w w' := by
  have hlt := h.lt
  obtain ⟨ad, ea, z0, z1, z2, z3⟩ := at_T68 (Kd.F_now h.row) (n : Int) (by omega) (by omega)
  cases ea
  have hgd : rd_T68 l (n : Int) = l.getD n z68 := by simp [rd_T68]
  rw [hgd, Int.toNat_natCast] at z0 z1 z2 z3
  generalize l.getD n z68 = t at z0 z1 z2 z3
  have x0 : w.cell? ⟨g, 0, none⟩ = some (.slice (some ad) l.length c) := (blk_cell h.blk 0).trans rfl
  have x1 : w.cell? ⟨g, 1, none⟩ = some (.int .i64 (n : Int)) := (blk_cell h.blk 1).trans rfl
  have HS : Aside0 (∀ w1, Below w.heap.size w w1 → w1.cell? ⟨g, 0, none⟩ = some (.slice (some ad) l.length c) ∧ w1.cell? ⟨g, 1, none⟩ = some (.int .i64 (n : Int)) ∧ w1.cell? (ad.add (n * 4)) = some (.int .i64 t.f0) ∧ w1.cell? ⟨(ad.add (n * 4)).block, (ad.add (n * 4)).off + 1, none⟩ = some (.int .i64 t.f1) ∧ w1.cell? ⟨(ad.add (n * 4)).block, (ad.add (n * 4)).off + 2, none⟩ = some (.string t.f2) ∧ w1.cell? ⟨(ad.add (n * 4)).block, (ad.add (n * 4)).off + 3, none⟩ = some (.int .u64 t.f3)) :=
    ⟨fun w1 hb => ⟨pw_cell_below hb x0, pw_cell_below hb x1, pw_cell_below hb z0, pw_cell_below hb z1, pw_cell_below hb z2, pw_cell_below hb z3⟩⟩
  have p1 : (0 ≤ (n : Int)) = True := eq_true (by omega)
  have p2 : ((n : Int) < (l.length : Int)) = True := eq_true (by omega)
  have p3 : (n < l.length) = True := eq_true (by omega)
  clear x0 x1 z0 z1 z2 z3 h hlt hgd
  have hu68 := Try.underlying68
  go_enter Try.func19, Try.ntmps19
  go_upto_region 1 with (fail)
  obtain ⟨x0, x1, z0, z1, z2, z3⟩ := HS.out (w.alloc (.cells #[.int .i64 0, .int .i64 0, .string ⟨#[]⟩, .int .u64 0] 68 (0, 0))) (below_alloc (Below.refl _ _) _)
  have hb1 := below_alloc (Below.refl w.heap.size w) (.cells #[.int .i64 0, .int .i64 0, .string ⟨#[]⟩, .int .u64 0] 68 (0, 0))
  have k1 := blk_new w (.cells #[.int .i64 0, .int .i64 0, .string ⟨#[]⟩, .int .u64 0] 68 (0, 0))
  generalize w.alloc (.cells #[.int .i64 0, .int .i64 0, .string ⟨#[]⟩, .int .u64 0] 68 (0, 0)) = w1 at x0 x1 z0 z1 z2 z3 hb1 k1 ⊢
  have HB1 := Aside0.mk (below_drew hb1)
  have K1 := Aside0.mk (blk_drew k1)
  clear hb1 k1
  go_still_tail 10, (by kernel_rfl)
  change wpList _ _ _ _ _ w1.drew
  clear x0 x1 z0 z1 z2 z3
  generalize w1.drew = w2 at HB1 K1 ⊢
  have c0 : w2.cell? ⟨w.heap.size, 0, none⟩ = some (.int .i64 0) := (blk_cell K1.out 0).trans rfl
  have c1 : w2.cell? ⟨w.heap.size, 1, none⟩ = some (.int .i64 0) := (blk_cell K1.out 1).trans rfl
  have c2 : w2.cell? ⟨w.heap.size, 2, none⟩ = some (.string ⟨#[]⟩) := (blk_cell K1.out 2).trans rfl
  have c3 : w2.cell? ⟨w.heap.size, 3, none⟩ = some (.int .u64 0) := (blk_cell K1.out 3).trans rfl
  have f0 := blk_frozen K1.out 0
  have f1 := blk_frozen K1.out 1
  have f2 := blk_frozen K1.out 2
  have f3 := blk_frozen K1.out 3
  go_wp2_with fail
  exact bodyPost_ret (results_cell_row rfl _ _ w.heap.size 68 t.cells (0, 0) _ rfl (blk_put (blk_put (blk_put (blk_put K1.out 0 _ rfl) 1 _ rfl) 2 _ rfl) 3 _ rfl) Try.underlying68 rfl (info68s t)) rfl ⟨rfl, (((HB1.out.setCell (Nat.le_refl _) _).setCell (Nat.le_refl _) _).setCell (Nat.le_refl _) _).setCell (Nat.le_refl _) _⟩
theorem one_size {t : TypeId} (h : (Try.prog.info? t).map (·.size) = some 1) : ∃ i, Try.prog.info? t = some i ∧ i.size = 1 := by
  cases hq : Try.prog.info? t with
  | none => rw [hq] at h; cases h
  | some i => exact ⟨i, rfl, by rw [hq] at h; simpa using h⟩
theorem run_field68_0 (t : S68) (W : World) : (Instr.field 68 (.agg t.cells) 0).run Try.prog W = .ok (.int .i64 t.f0) W := by
  obtain ⟨i, hq, hz⟩ := one_size (t := 3) (by kernel_rfl)
  simp [Instr.field, run_underlying Try.underlying68, part, isAgg, run_underlying Try.underlying3, sizeOf, typeInfo, hq, hz, asAgg, S68.cells]
theorem run_field68_1 (t : S68) (W : World) : (Instr.field 68 (.agg t.cells) 1).run Try.prog W = .ok (.int .i64 t.f1) W := by
  obtain ⟨i, hq, hz⟩ := one_size (t := 3) (by kernel_rfl)
  simp [Instr.field, run_underlying Try.underlying68, part, isAgg, run_underlying Try.underlying3, sizeOf, typeInfo, hq, hz, asAgg, S68.cells]
theorem run_field68_2 (t : S68) (W : World) : (Instr.field 68 (.agg t.cells) 2).run Try.prog W = .ok (.string t.f2) W := by
  obtain ⟨i, hq, hz⟩ := one_size (t := 9) (by kernel_rfl)
  simp [Instr.field, run_underlying Try.underlying68, part, isAgg, run_underlying Try.underlying9, sizeOf, typeInfo, hq, hz, asAgg, S68.cells]
theorem run_field68_3 (t : S68) (W : World) : (Instr.field 68 (.agg t.cells) 3).run Try.prog W = .ok (.int .u64 t.f3) W := by
  obtain ⟨i, hq, hz⟩ := one_size (t := 24) (by kernel_rfl)
  simp [Instr.field, run_underlying Try.underlying68, part, isAgg, run_underlying Try.underlying24, sizeOf, typeInfo, hq, hz, asAgg, S68.cells]
set_option maxHeartbeats 8000000 in
set_option maxRecDepth 100000 in
theorem fail_calls (er : Int) (w : World) (g : Nat) (A : Option Addr) (c : Nat) (l : List S68) (n : Nat) (h : Rdr w g A c l n) :
    Calls Try.prog 17 #[.pointer (some ⟨g, 0, none⟩), .int .i64 er] w fun e w' => e = .panicked [{ v := .iface 59 (.agg #[.int .i64 er, .int .i64 (l.getD n z68).f1]), recovered := false }] ∧ Below w.heap.size w w' := by
  have H := Aside0.mk h
  clear h
  have hfd := run_field68_1
  go_enter Try.func17, Try.ntmps17
  go_wp2_with fail
  refine (now_calls w g A c l n H.out).mono ?_
  rintro e w1 ⟨rfl, hb⟩
  have HB := Aside0.mk hb
  clear hb
  go_wp2_with fail
  exact ⟨rfl, rfl, HB.out⟩
def takeB (l : List S68) (kind : Int) (text : ByteArray) (n : Nat) : Bool := (l.getD n z68).f0 == kind && (l.getD n z68).f2.toList == text.toList
def takeN (l : List S68) (kind : Int) (text : ByteArray) (n : Nat) : Nat := if takeB l kind text n then n + 1 else n
set_option maxHeartbeats 8000000 in
set_option maxRecDepth 100000 in
theorem take_calls (kind : Int) (text : ByteArray) (w : World) (g : Nat) (A : Option Addr) (c : Nat) (l : List S68) (n : Nat) (h : Rdr w g A c l n) (hk : kind ≠ 4) :
    Calls Try.prog 16 #[.pointer (some ⟨g, 0, none⟩), .int .i64 kind, .string text] w fun e w' => e = .returned (.bool (takeB l kind text n)) ∧ Rdr w' g A c l (takeN l kind text n) ∧ w.grownBy w' (some g) := by
  have H := Aside0.mk h
  have HT : Aside0 (takeB l kind text n = ((l.getD n z68).f0 == kind && (l.getD n z68).f2.toList == text.toList)) := ⟨rfl⟩
  have HNX := Aside0.mk (fun (e : (l.getD n z68).f0 = kind) => h.next (by rw [e]; exact hk))
  clear h hk
  go_enter Try.func16, Try.ntmps16
  go_wp2_with fail
  refine (now_calls w g A c l n H.out).mono ?_
  rintro e w1 ⟨rfl, hb⟩
  have HB := Aside0.mk hb
  have H1 := Aside0.mk (H.out.grown hb)
  clear hb H
  generalize l.getD n z68 = t at HT HNX
  obtain ⟨b, hb⟩ : ∃ b, takeB l kind text n = b := ⟨_, rfl⟩
  rw [hb] at HT
  have HTB := Aside0.mk hb
  clear hb
  obtain ⟨tk, ta, ts, tn⟩ := t
  unfold S68.cells
  simp only at HT HNX
  have x1 : ∀ o, (w1.alloc o).cell? ⟨g, 1, none⟩ = some (.int .i64 (n : Int)) := fun o => (blk_cell (blk_alloc H1.out.blk o) 1).trans rfl
  have f1 : ∀ o, (w1.alloc o).frozen? ⟨g, 1, none⟩ = false := fun o => blk_frozen (blk_alloc H1.out.blk o) 1
  by_cases hk : tk = kind
  · have e1 : (tk != kind) = false := by simpa using hk
    have HN := Aside0.mk (HNX.out hk)
    clear HNX
    have HKW := Aside0.mk (show wrap64 ((n : Int) + 1) = ((n + 1 : Nat) : Int) by have := H1.out.lt; have := H1.out.short; rw [IntWalk.wrap64_in _ (by omega)]; rfl)
    subst hk
    by_cases hs : ts.toList = text.toList
    · obtain rfl : b = true := by rw [HT.out]; simp [hs]
      go_wp2_with fail
      rw [HKW.out]
      go_ret
      exact ⟨by rw [HTB.out]; rfl, by unfold takeN; rw [HTB.out, if_pos rfl]; exact (H1.out.grown (below_alloc (Below.refl _ _) _)).put (n + 1) HN.out, gr_set (gr_alloc (gr_below (gr_refl _ _) HB.out) _) _ _⟩
    · obtain rfl : b = false := by rw [HT.out]; simp [hs]
      have hs' : (ts.toList == text.toList) = false := by simpa using hs
      clear hs
      go_wp2_with fail
      go_ret
      exact ⟨by rw [HTB.out]; rfl, by unfold takeN; rw [HTB.out, if_neg (by simp)]; exact H1.out.grown (below_alloc (Below.refl _ _) _), gr_alloc (gr_below (gr_refl _ _) HB.out) _⟩
  · have e1 : (tk != kind) = true := by simpa using hk
    obtain rfl : b = false := by rw [HT.out]; simp [hk]
    clear hk HNX
    go_wp2_with fail
    go_ret
    exact ⟨by rw [HTB.out]; rfl, by unfold takeN; rw [HTB.out, if_neg (by simp)]; exact H1.out.grown (below_alloc (Below.refl _ _) _), gr_alloc (gr_below (gr_refl _ _) HB.out) _⟩
def pan (er at_ : Int) : PanicEntry := { v := .iface 59 (.agg #[.int .i64 er, .int .i64 at_]), recovered := false }
abbrev PR (α : Type) := Except (Int × Int) (α × Nat)
def Parsed {α : Type} (enc : World → Value → α → Prop) (w : World) (g : Nat) (A : Option Addr) (c : Nat) (l : List S68) (r : PR α) (e : Ending) (w' : World) : Prop := match r with
  | .ok (a, n) => ∃ v, e = .returned v ∧ enc w' v a ∧ Rdr w' g A c l n ∧ w.grownBy w' (some g)
  | .error (er, at_) => e = .panicked [pan er at_] ∧ w.grownBy w' (some g)
def mustR (l : List S68) (kind : Int) (n : Nat) : PR S68 := if (l.getD n z68).f0 = kind then .ok (l.getD n z68, n + 1) else .error (7, (l.getD n z68).f1)
def enc68 : World → Value → S68 → Prop := fun _ v t => v = .agg t.cells
set_option maxHeartbeats 8000000 in
set_option maxRecDepth 100000 in
theorem must_calls (kind : Int) (w : World) (g : Nat) (A : Option Addr) (c : Nat) (l : List S68) (n : Nat) (h : Rdr w g A c l n) (hk : kind ≠ 4) :
    Calls Try.prog 35 #[.pointer (some ⟨g, 0, none⟩), .int .i64 kind] w fun e w' => Parsed enc68 w g A c l (mustR l kind n) e w' := by
  have H := Aside0.mk h
  have HT : Aside0 (mustR l kind n = if (l.getD n z68).f0 = kind then .ok (l.getD n z68, n + 1) else .error (7, (l.getD n z68).f1)) := ⟨rfl⟩
  have HNX := Aside0.mk (fun (e : (l.getD n z68).f0 = kind) => h.next (by rw [e]; exact hk))
  clear h hk
  go_enter Try.func35, Try.ntmps35
  go_wp2_with fail
  refine (now_calls _ g A c l n (H.out.grown (below_alloc (Below.refl _ _) _))).mono ?_
  rintro e w1 ⟨rfl, hb⟩
  have HB := Aside0.mk (below_then (below_alloc (Below.refl w.heap.size w) _) (by simp) hb)
  have H1 := Aside0.mk ((H.out.grown (below_alloc (Below.refl _ _) _)).grown hb)
  have K1 := Aside0.mk (blk_below (blk_new w (.cells #[.int .i64 0, .int .i64 0, .string ⟨#[]⟩, .int .u64 0] 68 (0, 0))) hb)
  clear hb
  obtain ⟨t, htt⟩ : ∃ t, l.getD n z68 = t := ⟨_, rfl⟩
  rw [htt] at HT HNX
  rw [htt]
  have HTT := Aside0.mk htt
  clear htt
  obtain ⟨r, hr⟩ : ∃ r, mustR l kind n = r := ⟨_, rfl⟩
  rw [hr] at HT
  have HTB := Aside0.mk hr
  clear hr
  obtain ⟨tk, ta, ts, tn⟩ := t
  simp only at HT HNX
  unfold S68.cells
  have x1 : ∀ o, (w1.alloc o).cell? ⟨g, 1, none⟩ = some (.int .i64 (n : Int)) := fun o => (blk_cell (blk_alloc H1.out.blk o) 1).trans rfl
  have f1 : ∀ o, (w1.alloc o).frozen? ⟨g, 1, none⟩ = false := fun o => blk_frozen (blk_alloc H1.out.blk o) 1
  by_cases hk : tk = kind
  · have e1 : (tk != kind) = false := by simpa using hk
    have HN := Aside0.mk (HNX.out hk)
    have ht := HT.out
    rw [if_pos hk] at ht
    subst ht
    clear HNX HT
    have HKW := Aside0.mk (show wrap64 ((n : Int) + 1) = ((n + 1 : Nat) : Int) by have := H1.out.lt; have := H1.out.short; rw [IntWalk.wrap64_in _ (by omega)]; rfl)
    subst hk
    have hne : g ≠ w1.heap.size := by have := blk_lt H1.out.blk; omega
    have hne2 : w.heap.size ≠ g := by have := blk_lt H.out.blk; omega
    have HNE := Aside0.mk hne
    have HNE2 := Aside0.mk hne2
    clear hne hne2
    go_wp2_with (first
      | ((with_reducible refine gate_dst (N := 21) rfl ?_); refine wpList_load_row rfl 68 (.tmp 5) rfl w1.heap.size rfl 68 _ (0, 0) _ (blk_far (blk_new w1 _) (Ne.symm HNE.out) _) Try.underlying68 rfl (info68s ⟨tk, ta, ts, tn⟩) ?_)
      | ((with_reducible refine gate_store (p := 4) rfl ?_); refine store_all (ty := 68) (p := 4) (y := .tmp 21) (b := w.heap.size) (old := z68.cells) (cells := S68.cells ⟨tk, ta, ts, tn⟩) rfl rfl rfl rfl rfl (blk_far (blk_alloc K1.out _) HNE2.out _) rfl (info68s ⟨tk, ta, ts, tn⟩) (one68 ⟨tk, ta, ts, tn⟩) ?_; intro w2 hk2 hb2; have HK2 := Aside0.mk hk2; have HB2 := Aside0.mk hb2; clear hk2 hb2))
    rw [HKW.out] at HB2
    have hgw := (gr_set (gr_alloc (gr_below (gr_refl w (some g)) HB.out) (.cells #[.int .i64 tk, .int .i64 ta, .string ts, .int .u64 tn] 68 (0, 0))) 1 (.int .i64 ((n + 1 : Nat) : Int))).andThen HB2.out (fun j hj => .inl (by cases hj; exact Nat.le_refl _))
    have hbg := gr_blk HB2.out (blk_put (blk_alloc H1.out.blk (.cells #[.int .i64 tk, .int .i64 ta, .string ts, .int .u64 tn] 68 (0, 0))) 1 (.int .i64 ((n + 1 : Nat) : Int)) rfl) (fun e => HNE2.out (by cases e; rfl))
    refine bodyPost_ret (results_cell_row rfl _ _ w.heap.size 68 (S68.cells ⟨tk, ta, ts, tn⟩) (0, 0) _ rfl HK2.out Try.underlying68 rfl (info68s ⟨tk, ta, ts, tn⟩)) rfl ?_
    rw [HTB.out]
    exact ⟨_, rfl, rfl, H.out.at_ hgw hbg HN.out, hgw⟩
  · have e1 : (tk != kind) = true := by simpa using hk
    have ht := HT.out
    rw [if_neg hk] at ht
    subst ht
    clear HNX hk HT
    go_wp2_with fail
    refine (fail_calls 7 _ g A c l n (H1.out.grown (below_alloc (Below.refl _ _) _))).mono ?_
    rintro e w2 ⟨rfl, hb⟩
    refine ⟨rfl, ?_⟩
    rw [HTB.out]
    refine ⟨?_, gr_below (gr_alloc (gr_below (gr_refl w (some g)) HB.out) _) hb⟩
    rw [HTT.out]
    rfl
end Go.Proofs.Ytidnojkijfinaaa.Fns
