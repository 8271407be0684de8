/- The document's tables: how one lies in memory, and the contracts of its functions. -/
import Derived.Test.YtlohaefhigbdjaaFdsBack
import Derived.Deep.RegionLaw
import Derived.Laws.OwnMore
namespace Go.Proofs.Ytlohaefhigbdjaa.Fds
open Go.RowKit Go.Proofs.YtlohaefhigbdjaaW.PrintWords Go.Proofs.YtlohaefhigbdjaaW.PrintLast Go.Proofs.YtlohaefhigbdjaaW.PrintMore
set_option linter.unusedVariables false
set_option linter.unusedSimpArgs false

theorem info3 : (Try.prog.info? 3).map (fun i => (i.zero, i.size, i.bytes)) = some (some (.int .i64 0), 1, 8) := by kernel_rfl

/-- Which blocks a row may be. -/
def okOf (r : Nat) (g : Nat → Prop) (v : Value) : Nat → Prop := fun k => k ≠ r ∧ ¬ g k ∧ some k ≠ v.ownBlock
/-- Block r is the document's table: places F, what lies there L; B: from where on the call's own memory lies; g: the blocks that are none of it. -/
structure RefAt (w : World) (B r : Nat) (g : Nat → Prop) (vF vV : Value) (F L : List Int) : Prop where
  blk : w.heap[r]? = some (.cells #[vF, vV] 38 (0, 0))
  f : Kd.R (Kd.int .i64) 3 w B (okOf r g vV) vF F
  v : Kd.R (Kd.int .i64) 3 w B (okOf r g vF) vV L
  br : B ≤ r
  gr : ¬ g r
  gl : ∀ k, g k → k < w.heap.size
def Ref (w : World) (B r : Nat) (g : Nat → Prop) (F L : List Int) : Prop := ∃ vF vV, RefAt w B r g vF vV F L ∧ F.length = L.length ∧ F.length ≤ 20
theorem RefAt.lt {w : World} {B r : Nat} {g : Nat → Prop} {vF vV : Value} {F L : List Int} (h : RefAt w B r g vF vV F L) : r < w.heap.size := blk_lt h.blk
theorem okOf_fresh {w : World} {r : Nat} {g : Nat → Prop} {v : Value} (hr : r < w.heap.size) (hg : ∀ k, g k → k < w.heap.size) (hv : ∀ k, v.ownBlock = some k → k < w.heap.size) : ∀ k, w.heap.size ≤ k → okOf r g v k :=
  fun k hk => ⟨by omega, fun hG => by have := hg k hG; omega, fun e => by have := hv k e.symm; omega⟩
theorem RefAt.ltF {w : World} {B r : Nat} {g : Nat → Prop} {vF vV : Value} {F L : List Int} (h : RefAt w B r g vF vV F L) : ∀ k, vF.ownBlock = some k → k < w.heap.size := fun k hk => Kd.R_lt h.f k hk
theorem RefAt.ltV {w : World} {B r : Nat} {g : Nat → Prop} {vF vV : Value} {F L : List Int} (h : RefAt w B r g vF vV F L) : ∀ k, vV.ownBlock = some k → k < w.heap.size := fun k hk => Kd.R_lt h.v k hk

/-- A world in which only a block that is none of it has been turned keeps the document's table. -/
theorem Ref.of_kept {w w' : World} {B r : Nat} {g : Nat → Prop} {x : Nat} {F L : List Int} (h : Ref w B r g F L) (k : Kept x w w') (hx : g x) : Ref w' B r g F L := by
  obtain ⟨vF, vV, h, hl, hs⟩ := h
  refine ⟨vF, vV, ⟨(k.block r h.lt (fun e => h.gr (e ▸ hx))).trans h.blk, ?_, ?_, h.br, h.gr, fun j hj => Nat.lt_of_lt_of_le (h.gl j hj) k.size⟩, hl, hs⟩
  · exact Kd.R_step h.f (fun j hj hl => k.block j hl (fun e => hj.2.1 (e ▸ hx)))
  · exact Kd.R_step h.v (fun j hj hl => k.block j hl (fun e => hj.2.1 (e ▸ hx)))
/-- Another set of blocks that are none of it. -/
theorem Ref.other {w : World} {B r : Nat} {g g' : Nat → Prop} {F L : List Int} (h : Ref w B r g F L) (hg : ∀ k, g' k → g k ∨ w.heap.size ≤ k) (hl' : ∀ k, g' k → k < w.heap.size) : Ref w B r g' F L := by
  obtain ⟨vF, vV, h, hl, hs⟩ := h
  have hh : ∀ k, g' k → g k := fun k hk => by
    rcases hg k hk with h1 | h1
    · exact h1
    · have := hl' k hk; omega
  exact ⟨vF, vV, ⟨h.blk, Kd.R_mono h.f (fun k hk => ⟨hk.1, fun e => hk.2.1 (hh k e), hk.2.2⟩), Kd.R_mono h.v (fun k hk => ⟨hk.1, fun e => hk.2.1 (hh k e), hk.2.2⟩), h.br, fun e => h.gr (hh r e), hl'⟩, hl, hs⟩
theorem Ref.of_below {w w' : World} {B r : Nat} {g : Nat → Prop} {F L : List Int} (h : Ref w B r g F L) (k : Below w.heap.size w w') : Ref w' B r g F L := by
  obtain ⟨vF, vV, h, hl, hs⟩ := h
  exact ⟨vF, vV, ⟨(k.block r h.lt).trans h.blk, Kd.R_below h.f k, Kd.R_below h.v k, h.br, h.gr, fun j hj => Nat.lt_of_lt_of_le (h.gl j hj) k.size⟩, hl, hs⟩

theorem RefAt.of_below {w w' : World} {B r : Nat} {g : Nat → Prop} {vF vV : Value} {F L : List Int} (h : RefAt w B r g vF vV F L) (k : Below w.heap.size w w') : RefAt w' B r g vF vV F L :=
  ⟨(k.block r h.lt).trans h.blk, Kd.R_below h.f k, Kd.R_below h.v k, h.br, h.gr, fun j hj => Nat.lt_of_lt_of_le (h.gl j hj) k.size⟩
theorem RefAt.drew {w : World} {B r : Nat} {g : Nat → Prop} {vF vV : Value} {F L : List Int} (h : RefAt w B r g vF vV F L) : RefAt w.drew B r g vF vV F L := h.of_below (below_drew (Below.refl _ _))
theorem RefAt.cell0 {w : World} {B r : Nat} {g : Nat → Prop} {vF vV : Value} {F L : List Int} (h : RefAt w B r g vF vV F L) : w.cell? ⟨r, 0, none⟩ = some vF := by rw [blk_cell h.blk]; rfl
theorem RefAt.cell1 {w : World} {B r : Nat} {g : Nat → Prop} {vF vV : Value} {F L : List Int} (h : RefAt w B r g vF vV F L) : w.cell? ⟨r, 1, none⟩ = some vV := by rw [blk_cell h.blk]; rfl

set_option maxHeartbeats 4000000 in
set_option maxRecDepth 100000 in
theorem rnew_is (w : World) (B : Nat) (g : Nat → Prop) (hB : B ≤ w.heap.size) (hg : ∀ k, g k → k < w.heap.size) :
    Calls Try.prog 11 #[] w fun e w' => e = .returned (.pointer (some ⟨w.heap.size + 1 + 1, 0, none⟩)) ∧ Below w.heap.size w w' ∧ Ref w' B (w.heap.size + 1 + 1) g [0, 1, 2] [0, 1, 2] := by
  have hl : ∀ W : World, B ≤ W.heap.size → (W.alloc (.cells #[.int .i64 0, .int .i64 1, .int .i64 2] 3)).ownsRow B 3 1 (.slice (some ⟨W.heap.size, 0, none⟩) 3 3) 3 [.int .i64 0, .int .i64 1, .int .i64 2] := by
    intro W hW
    have := World.ownsRow_lit (base := B) (e := 3) (size := 1) W #[.int .i64 0, .int .i64 1, .int .i64 2] 3 hW (by simp [maxLen]) (by simp)
    simpa using this
  have h1 := hl w hB
  have h2 := hl (w.alloc (.cells #[.int .i64 0, .int .i64 1, .int .i64 2] 3)) (by simp; omega)
  have hR : Ref (((w.alloc (.cells #[.int .i64 0, .int .i64 1, .int .i64 2] 3)).alloc (.cells #[.int .i64 0, .int .i64 1, .int .i64 2] 3)).alloc (.cells #[.slice (some ⟨w.heap.size, 0, none⟩) 3 3, .slice (some ⟨w.heap.size + 1, 0, none⟩) 3 3] 38)) B (w.heap.size + 1 + 1) g [0, 1, 2] [0, 1, 2] := by
    refine ⟨.slice (some ⟨w.heap.size, 0, none⟩) 3 3, .slice (some ⟨w.heap.size + 1, 0, none⟩) 3 3, ⟨?_, ?_, ?_, by omega, fun e => by have := hg _ e; omega, fun k hk => by have := hg k hk; simp; omega⟩, rfl, by simp⟩
    · have := blk_new ((w.alloc (.cells #[.int .i64 0, .int .i64 1, .int .i64 2] 3)).alloc (.cells #[.int .i64 0, .int .i64 1, .int .i64 2] 3)) (.cells #[.slice (some ⟨w.heap.size, 0, none⟩) 3 3, .slice (some ⟨w.heap.size + 1, 0, none⟩) 3 3] 38)
      simpa using this
    · refine Kd.R_alloc (Kd.R_alloc (Kd.R_of_own (h1 := fun _ => rfl) (xs := [0, 1, 2]) h1 (fun k hk => ?_)) _) _
      have : w.heap.size = k := by simpa [Value.ownBlock] using hk
      subst this
      exact ⟨by omega, fun e => by have := hg _ e; omega, by simp [Value.ownBlock]⟩
    · refine Kd.R_alloc (Kd.R_of_own (h1 := fun _ => rfl) (xs := [0, 1, 2]) (by simpa [encs] using h2) (fun k hk => ?_)) _
      have : w.heap.size + 1 = k := by simpa [Value.ownBlock] using hk
      subst this
      exact ⟨by omega, fun e => by have := hg _ e; omega, by simp [Value.ownBlock]⟩
  have HR := Aside0.mk hR
  clear hl h1 h2 hR
  go_enter Try.func11, Try.ntmps11
  go_wp2
  go_ret
  exact ⟨rfl, below_alloc (below_alloc (below_alloc (Below.refl _ _) _) _) _, HR.out⟩

/-- The first place in a list where x stands. -/
def at_ (F : List Int) (x : Int) : Nat := (F.takeWhile (fun y => !(y == x))).length
theorem at_spec (F : List Int) (x : Int) : (∀ j, j < at_ F x → F.getD j 0 ≠ x) ∧ (at_ F x < F.length → F.getD (at_ F x) 0 = x) ∧ at_ F x ≤ F.length := by
  unfold at_
  induction F with
  | nil => simp
  | cons b F ih =>
    by_cases e : b = x
    · subst e; simp
    · have hb : (!(b == x)) = true := by simpa using e
      simp only [List.takeWhile_cons, hb, if_true, List.length_cons]
      refine ⟨fun j hj => ?_, fun h => ?_, by omega⟩
      · cases j with
        | zero => simpa using e
        | succ j => exact ih.1 j (by omega)
      · exact ih.2.1 (by omega)
def rV (F L : List Int) (x : Int) : Int := if at_ F x < F.length then L.getD (at_ F x) 0 else 0
def rI (F : List Int) (x : Int) : Bool := decide (at_ F x < F.length)

set_option maxHeartbeats 4000000 in
set_option maxRecDepth 100000 in
theorem rget_is (w : World) (B r : Nat) (g : Nat → Prop) (F L : List Int) (x : Int) (h : Ref w B r g F L) :
    Calls Try.prog 14 #[.pointer (some ⟨r, 0, none⟩), .int .i64 x] w fun e w' => e = .returned (.tuple #[.int .i64 (rV F L x), .bool (rI F x)]) ∧ w = w' := by
  obtain ⟨vF, vV, h, hlen, hsm⟩ := h
  have k0 : w.cell? ⟨r, 0, none⟩ = some vF := by rw [blk_cell h.blk]; rfl
  have k1 : w.cell? ⟨r, 1, none⟩ = some vV := by rw [blk_cell h.blk]; rfl
  obtain ⟨A, c, e⟩ := Kd.R_slice h.f
  subst e
  obtain ⟨A', c', e'⟩ := Kd.R_slice h.v
  subst e'
  rw [← hlen] at k1
  have HF := Aside0.mk (Kd.R_reads' h.f).2.2
  have HV := Aside0.mk (Kd.R_reads' h.v).2.2
  rw [← hlen] at HV
  have hsp := at_spec F x
  unfold rV rI
  have HE := Aside0.mk hlen
  clear h hlen
  have HE2 := Aside0.mk (show L.length = F.length from HE.out.symm)
  generalize hn : F.length = n at *
  have HN := Aside0.mk hn
  generalize hm : at_ F x = m at *
  have HS := Aside0.mk hsp
  have hmn : m ≤ n := hsp.2.2
  clear hsp hn hm
  go_enter Try.func14, Try.ntmps14
  go_wp2_with fail
  go_loop [6] (fun i => ∃ k : Nat, k ≤ m ∧ i = .int .i64 k) (fun i => n + 1 - (intOf i).toNat)
  case atStart => exact ⟨0, by omega, rfl⟩
  case round =>
    obtain ⟨k, hk, rfl⟩ := hrel
    by_cases hkn : k < n
    · obtain ⟨ad, e, hc⟩ := Kd.at_int HF.out (k : Int) (by omega) (by omega)
      obtain ⟨ad', e', hc'⟩ := Kd.at_int HV.out (k : Int) (by omega) (by omega)
      cases e
      cases e'
      simp only [Int.toNat_natCast] at hc hc'
      have q0 : (0 : Int) ≤ (k : Int) := by omega
      have q1 : (k : Int) < (n : Int) := by omega
      by_cases hkm : k < m
      · have hne := HS.out.1 k hkm
        have e1 : (rd F (k : Int) == x) = false := by simpa [rd] using hne
        generalize rd F (k : Int) = y at *
        go_wp2_with fail
        go_round
        case rel => exact ⟨k + 1, by omega, by go_num⟩
        case measure => simp [intOf]; omega
      · obtain rfl : m = k := by omega
        have heq := HS.out.2.1 (by omega)
        have e1 : rd F (m : Int) = x := by simpa [rd] using heq
        have e2 : rd L (m : Int) = L.getD m 0 := by simp [rd]
        rw [e1] at hc
        rw [e2] at hc'
        clear e1 e2
        have HK := Aside0.mk hkn
        go_wp2_with fail
        go_ret2
        exact ⟨by simp [HK.out], rfl⟩
    · obtain rfl : m = k := by omega
      have HK := Aside0.mk hkn
      go_wp2_with fail
      go_ret2
      exact ⟨by simp [HK.out], rfl⟩

section
variable {P : Program} {ops : Array Oper} {rest : List Oper} {o : Oper} {a : Act} {Q : Exit → Act → World → Prop}
/-- append(v, ys...) of ints, at the list of a plain region. -/
theorem app_list {w0 W : World} (B : Nat) (hgd : o.guard = none) (s x : Operand)
    (ho : o.op = .call { callee := .builtin .append, args := #[s, x], argTypes := #[36, 36] }) (hP : P = Try.prog)
    (v : Value) (xs ys : List Int) (A : Option Addr) (m c : Nat) (ok : Nat → Prop) (hs : a.eval s = v) (hx : a.eval x = .slice A m c) (hfresh : ∀ k, W.heap.size ≤ k → ok k)
    (HO : Kd.R (Kd.int .i64) 3 W B ok v xs) (HR : Kd.C (Kd.int .i64) W A m ys) (HB : Below B w0 W) (hbase : B ≤ W.heap.size) (hl : (xs.length + m) * 8 ≤ 140737488355328)
    (h : ∀ v1 w1, Kd.R (Kd.int .i64) 3 w1 B ok v1 (xs ++ ys) → Below B w0 w1 → W.grownBy w1 v.ownBlock → (v1.ownBlock = v.ownBlock ∨ ∃ b, v1.ownBlock = some b ∧ W.heap.size ≤ b) → wpList P ops Q rest (a.put o.dst v1) w1) :
    wpList P ops Q (o :: rest) a W := by
  subst hP
  exact Kd.R_append_row (w0 := w0) (Value.int .i64) 0 (h1 := fun _ => rfl) B hgd s x 36 3 (.int .i64 0) 8 ho Try.underlying36 info3 rfl (by decide) v xs ys A m c ok hs hx hfresh HO HR HB hbase hl h
end
theorem lit_int (W : World) (N : Nat) (x : Int) (hN : W.heap.size = N) : Kd.C (Kd.int .i64) (W.alloc (.cells #[.int .i64 x] 3)) (some ⟨N, 0, none⟩) 1 [x] := by
  subst hN
  refine Kd.C_of_reads (d := (0 : Int)) (h1 := fun _ => rfl) ⟨rfl, by simp, fun _ => ⟨_, rfl, fun j hj => ?_⟩⟩
  obtain rfl : j = 0 := by omega
  rw [Go.Proofs.YtlohaefhigbdjaaW.PrintWords.add_plain]
  simp

theorem hat_of {v v1 : Value} {n : Nat} (hat : v1.ownBlock = v.ownBlock ∨ ∃ b, v1.ownBlock = some b ∧ n ≤ b) : ∀ k, v1.ownBlock = some k → v.ownBlock = some k ∨ n ≤ k := by
  intro k hk
  rcases hat with e | ⟨b, e, hb⟩
  · exact .inl (e ▸ hk)
  · rw [e] at hk
    injection hk with hk
    exact .inr (by omega)
theorem lower {B C : Nat} {w W : World} (h : Below C w W) (hBC : B ≤ C) : Below B w W := ⟨h.os, h.tape, h.output, h.size, fun k hk => h.block k (by omega)⟩
/-- The table whose first row has been put anew. -/
theorem RefAt.putF {w w1 : World} {B r : Nat} {g : Nat → Prop} {vF vV v1 : Value} {F L F1 : List Int} (h : RefAt w B r g vF vV F L) (hg : w.grownBy w1 vF.ownBlock) (h1 : Kd.R (Kd.int .i64) 3 w1 B (okOf r g vV) v1 F1)
    (hat : ∀ k, v1.ownBlock = some k → vF.ownBlock = some k ∨ w.heap.size ≤ k) :
    w1.cell? ⟨r, 0, none⟩ = some vF ∧ w1.frozen? ⟨r, 0, none⟩ = false ∧ RefAt (w1.setCell ⟨r, 0, none⟩ v1) B r g v1 vV F1 L ∧ (∀ k, g k → (w1.setCell ⟨r, 0, none⟩ v1).heap[k]? = w.heap[k]?) := by
  have hF := h.f.1
  have hr : w1.heap[r]? = some (.cells #[vF, vV] 38 (0, 0)) := (hg.block r h.lt (fun e => (hF r e.symm).1 rfl)).trans h.blk
  have hgg : ∀ k, g k → w1.heap[k]? = w.heap[k]? := fun k hk => hg.block k (h.gl k hk) (fun e => (hF k e.symm).2.1 hk)
  have hgg2 : ∀ k, g k → (w1.setCell ⟨r, 0, none⟩ v1).heap[k]? = w.heap[k]? := fun k hk => by rw [Below.heap_setCell _ _ _ _ (fun e : k = r => h.gr (e ▸ hk))]; exact hgg k hk
  refine ⟨by rw [blk_cell hr]; rfl, blk_frozen hr 0, ⟨?_, ?_, ?_, h.br, h.gr, ?_⟩, hgg2⟩
  · rw [blk_set hr]; rfl
  · exact Kd.R_far h1 (fun k hk => hk.1) _
  · refine Kd.R_far (p := ⟨r, 0, none⟩) ?_ (fun k hk => hk.1) _
    have hb := Kd.R_mono (Kd.R_bound h.v) (ok' := fun k => okOf r g vF k ∧ k < w.heap.size) (fun k hk => ⟨hk.1, hk.2.2.1⟩)
    refine Kd.R_mono (Kd.R_grown hb hg (fun k hk => hk.1.2.2)) (fun k hk => ⟨hk.1.1, hk.1.2.1, fun e => ?_⟩)
    rcases hat k e.symm with e1 | hb
    · exact hk.1.2.2 e1.symm
    · omega
  · rw [World.size_setCell]; exact fun k hk => Nat.lt_of_lt_of_le (h.gl k hk) hg.size
theorem RefAt.putV {w w1 : World} {B r : Nat} {g : Nat → Prop} {vF vV v1 : Value} {F L L1 : List Int} (h : RefAt w B r g vF vV F L) (hg : w.grownBy w1 vV.ownBlock) (h1 : Kd.R (Kd.int .i64) 3 w1 B (okOf r g vF) v1 L1)
    (hat : ∀ k, v1.ownBlock = some k → vV.ownBlock = some k ∨ w.heap.size ≤ k) :
    w1.cell? ⟨r, 1, none⟩ = some vV ∧ w1.frozen? ⟨r, 1, none⟩ = false ∧ RefAt (w1.setCell ⟨r, 1, none⟩ v1) B r g vF v1 F L1 ∧ (∀ k, g k → (w1.setCell ⟨r, 1, none⟩ v1).heap[k]? = w.heap[k]?) := by
  have hF := h.v.1
  have hr : w1.heap[r]? = some (.cells #[vF, vV] 38 (0, 0)) := (hg.block r h.lt (fun e => (hF r e.symm).1 rfl)).trans h.blk
  have hgg : ∀ k, g k → w1.heap[k]? = w.heap[k]? := fun k hk => hg.block k (h.gl k hk) (fun e => (hF k e.symm).2.1 hk)
  have hgg2 : ∀ k, g k → (w1.setCell ⟨r, 1, none⟩ v1).heap[k]? = w.heap[k]? := fun k hk => by rw [Below.heap_setCell _ _ _ _ (fun e : k = r => h.gr (e ▸ hk))]; exact hgg k hk
  refine ⟨by rw [blk_cell hr]; rfl, blk_frozen hr 1, ⟨?_, ?_, ?_, h.br, h.gr, ?_⟩, hgg2⟩
  · rw [blk_set hr]; rfl
  · refine Kd.R_far (p := ⟨r, 1, none⟩) ?_ (fun k hk => hk.1) _
    have hb := Kd.R_mono (Kd.R_bound h.f) (ok' := fun k => okOf r g vV k ∧ k < w.heap.size) (fun k hk => ⟨hk.1, hk.2.2.1⟩)
    refine Kd.R_mono (Kd.R_grown hb hg (fun k hk => hk.1.2.2)) (fun k hk => ⟨hk.1.1, hk.1.2.1, fun e => ?_⟩)
    rcases hat k e.symm with e1 | hb
    · exact hk.1.2.2 e1.symm
    · omega
  · exact Kd.R_far h1 (fun k hk => hk.1) _
  · rw [World.size_setCell]; exact fun k hk => Nat.lt_of_lt_of_le (h.gl k hk) hg.size
theorem below_set {B r : Nat} {w w1 : World} (h : Below B w w1) (hr : B ≤ r) (hB : B ≤ w1.heap.size) (j : Nat) (v : Value) : Below B w (w1.setCell ⟨r, j, none⟩ v) :=
  Kept.below h ((Kept.refl r w1).set j v) hr hB
end Go.Proofs.Ytlohaefhigbdjaa.Fds
