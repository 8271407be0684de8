/- The parts of a list, as it is halved; Walk: its iterator's contract. -/
import Derived.RangeFuncNested
import Derived.RangeFuncBound
import Derived.RangeFuncCalls
import Derived.RangeFuncLeaves
import Derived.Shelf.Abstract
import Derived.Shelf.RegionOpen
import Derived.WalkKit
import Derived.OwnWalkIn
import Derived.TacticsInMore
import Derived.LoopNIn
import Derived.LoopIn
import Derived.Laws.EntriesVeiled
import Derived.Test.YtioccjeiheejjaaFns1
namespace Go.Proofs.Ytioccjeiheejjaa.Tree
open Go.RowKit Go.Shelf Go.Proofs.YtioccjeiheejjaaW.PrintWords Go.Proofs.YtioccjeiheejjaaW.PrintLast Go.Proofs.YtioccjeiheejjaaW.PrintMore Go.Proofs.Ytioccjeiheejjaa.Fns
attribute [local go_sem] Oper.semAt_some
set_option linter.unusedVariables false
set_option linter.unusedSimpArgs false

/-- all parts, in order. -/
def parts : Nat → Nat → Nat → List (Int × Int)
  | 0, _, _ => []
  | d + 1, f, t => if t ≤ f then [] else if t - f = 1 then [((f : Int), (t : Int))] else ((f : Int), (t : Int)) :: (parts d f (f + (t - f) / 2) ++ parts d (f + (t - f) / 2) t)
/-- WHAT A ROUND KEEPS: the boxes of function values. -/
def KT (A B : World) : Prop := ∀ (i : Nat) (c : Array Value), A.heap[i]? = some (.cells c 36 (0, 0)) → B.heap[i]? = some (.cells c 36 (0, 0))
theorem KT.refl (A : World) : KT A A := fun _ _ h => h
theorem KT.trans {A B C : World} (h : KT A B) (k : KT B C) : KT A C := fun i c hc => k i c (h i c hc)
theorem KT.putObj (W : World) (l : Nat) (o o' : Obj) (h : W.heap[l]? = some o) (ho : o.isCells = false) : KT W (W.putObj l o') := fun i c hc => by
  by_cases e : i = l
  · subst e
    rw [hc] at h
    injection h with h
    subst h
    simp [Obj.isCells] at ho
  · exact (World.putObj_heap_other (by omega)).trans hc
theorem KT.drawn {A B : World} (h : Drawn0 A B) : KT A B := by
  obtain ⟨m, rfl⟩ := h
  exact fun _ _ h => h
theorem room_of_none {F : Fence} (hd : F.depth = none) (k : Nat) : F.room k := fun d h => by rw [hd] at h; cases h
theorem RoundIn.anyDepth {F : Fence} (hd : F.depth = none) {m m' : Nat} {P : Program} {l : Nat} {f : FuncId} {tmps : Array Value} {assign body : Code} {w : World} {R : Ending → World → Prop}
    (h : RoundIn F m P l f tmps assign body w R) : RoundIn F m' P l f tmps assign body w R := ⟨h.1, fun c cs _ => h.2 c cs (room_of_none hd _)⟩
theorem YieldAt.anyDepth {F : Fence} (hd : F.depth = none) {m : Nat} (m' : Nat) {P : Program} {l : Nat} {args : Array Value} {W : World} {R : Ending → World → Prop} (h : YieldAt F m P l args W R) : YieldAt F m' P l args W R := by
  obtain ⟨fn, tmps, assign, body, hy, hR⟩ := h
  exact ⟨fn, tmps, assign, body, hy, RoundIn.anyDepth hd hR⟩

/-- the box of yield, and that of part. -/
def Boxes (W : World) (l By Bp : Nat) : Prop :=
  W.heap[By]? = some (.cells #[.func (.yield l) #[] #[]] 36 (0, 0)) ∧ W.heap[Bp]? = some (.cells #[.func (.func 23) #[] #[.pointer (some ⟨By, 0, none⟩), .pointer (some ⟨Bp, 0, none⟩)]] 36 (0, 0))
theorem Boxes.kt {A B : World} {l By Bp : Nat} (h : Boxes A l By Bp) (k : KT A B) : Boxes B l By Bp := ⟨k _ _ h.1, k _ _ h.2⟩
theorem Boxes.cells {W : World} {l By Bp : Nat} (h : Boxes W l By Bp) : W.cell? ⟨By, 0, none⟩ = some (.func (.yield l) #[] #[]) ∧ W.cell? ⟨Bp, 0, none⟩ = some (.func (.func 23) #[] #[.pointer (some ⟨By, 0, none⟩), .pointer (some ⟨Bp, 0, none⟩)]) :=
  ⟨(blk_cell h.1 0).trans rfl, (blk_cell h.2 0).trans rfl⟩

set_option maxRecDepth 100000 in
set_option maxHeartbeats 4000000 in
theorem part_in (l By Bp N : Nat) (J Jx : List (Int × Int) → World → Prop)
    (hJd : ∀ pre W m, J pre W → J pre (World.drewN W m))
    (hY : ∀ m pre (x : Int × Int) W, J pre W → pre.length < N → YieldAt Fence.wide m Try.prog l #[.int .i64 x.1, .int .i64 x.2] W fun e W' =>
      (e = .returned (.bool true) ∧ J (pre ++ [x]) W' ∧ KT W W') ∨ (e = .returned (.bool false) ∧ Jx (pre ++ [x]) W')) :
    ∀ (d f t : Nat), t - f ≤ d → f < t → t ≤ 1000000 → ∀ (n : Nat) (pre : List (Int × Int)) (W : World), Boxes W l By Bp → J pre W → pre.length + (parts d f t).length ≤ N →
      CallsIn Fence.wide n Try.prog 23 #[.int .i64 (f : Int), .int .i64 (t : Int), .pointer (some ⟨By, 0, none⟩), .pointer (some ⟨Bp, 0, none⟩)] W fun e W' =>
        (e = .returned (.bool true) ∧ J (pre ++ parts d f t) W' ∧ KT W W') ∨ (e = .returned (.bool false) ∧ ∃ q, q <+: parts d f t ∧ Jx (pre ++ q) W') := by
  intro d
  induction d with
  | zero => intro f t h1 h2; omega
  | succ d ih =>
    intro f t hd hft ht n pre W hB hJ hN
    obtain ⟨hc1, hc2⟩ := hB.cells
    by_cases h1 : t - f = 1
    · have e : parts (d + 1) f t = [((f : Int), (t : Int))] := by rw [parts, if_neg (by omega), if_pos h1]
      rw [e] at hN ⊢
      have t1 : (((t : Int) - (f : Int)) == 1) = true := by have : (t : Int) - (f : Int) = 1 := by omega
                                                            rw [this]; rfl
      obtain ⟨fn, tmps, assign, body, hy, hR⟩ := hY (n - 1) pre ((f : Int), (t : Int)) W hJ (by simp at hN; omega)
      refine callsIn_of_wp Try.func23 rfl trivial ?_ rfl
      simp only [Try.ntmps23, List.size_toArray, List.length_cons, List.length_nil, Nat.reduceAdd, Nat.reduceSub, Array.replicate_succ, Array.replicate_zero, List.push_toArray, List.append_toArray, List.nil_append, List.cons_append]
      gi_wp2
      refine ⟨fun h => (by cases h), ?_⟩
      refine hR.mono ?_
      rintro e W2 (⟨rfl, hJ2, hk2⟩ | ⟨rfl, hJ2⟩)
      · gi_wp2
        go_ret
        exact .inl ⟨rfl, hJ2, hk2⟩
      · gi_wp2
        go_ret
        exact .inr ⟨rfl, _, List.prefix_refl _, hJ2⟩
    · have hm1 : f + (t - f) / 2 < t := by omega
      have hm2 : f < f + (t - f) / 2 := by omega
      obtain ⟨m, hm⟩ : ∃ m, f + (t - f) / 2 = m := ⟨_, rfl⟩
      have e : parts (d + 1) f t = ((f : Int), (t : Int)) :: (parts d f m ++ parts d m t) := by rw [parts, if_neg (by omega), if_neg h1, hm]
      rw [hm] at hm1 hm2
      rw [e] at hN ⊢
      simp only [List.length_cons, List.length_append] at hN
      have t1 : (((t : Int) - (f : Int)) == 1) = false := by
        have : ¬ (t : Int) - (f : Int) = 1 := by omega
        simpa using this
      have hmid : tree_middle.f (f : Int) (t : Int) = some (m : Int) := by
        unfold tree_middle.f
        rw [IntWalk.wrap64_in ((t : Int) - (f : Int)) (by omega), Int.tdiv_eq_ediv_of_nonneg (by omega), IntWalk.wrap64_in (((t : Int) - (f : Int)) / 2) (by omega), IntWalk.wrap64_in _ (by omega)]
        congr 1
        omega
      obtain ⟨fn, tmps, assign, body, hy, hR⟩ := hY (n - 1) pre ((f : Int), (t : Int)) W hJ (by omega)
      have ih1 := fun W1 hB1 hJ1 => ih f m (by omega) hm2 (by omega) (n - 1) (pre ++ [((f : Int), (t : Int))]) W1 hB1 hJ1 (by simp; omega)
      have ih2 := fun W1 hB1 hJ1 => ih m t (by omega) hm1 ht (n - 1) (pre ++ [((f : Int), (t : Int))] ++ parts d f m) W1 hB1 hJ1 (by simp; omega)
      have HI1 := Aside0.mk ih1
      have HI2 := Aside0.mk ih2
      have HB := Aside0.mk hB
      have HMD := Aside0.mk hmid
      clear ih ih1 ih2 hB hmid hN e
      refine callsIn_of_wp Try.func23 rfl trivial ?_ rfl
      simp only [Try.ntmps23, List.size_toArray, List.length_cons, List.length_nil, Nat.reduceAdd, Nat.reduceSub, Array.replicate_succ, Array.replicate_zero, List.push_toArray, List.append_toArray, List.nil_append, List.cons_append]
      gi_wp2
      refine ⟨fun h => (by cases h), ?_⟩
      refine hR.mono ?_
      rintro e W2 (⟨rfl, hJ2, hk2⟩ | ⟨rfl, hJ2⟩)
      · clear hR
        have HB2 := Aside0.mk (HB.out.kt hk2)
        gi_wp2
        refine ⟨trivial, fun h => (by cases h), ?_⟩
        refine (callsIn_wide.2 (tree_middle.calls _ _ _ W2 HMD.out)).mono ?_
        rintro e W3 ⟨rfl, ⟨md, rfl⟩⟩
        have HB3 := Aside0.mk (HB2.out.kt (KT.drawn ⟨md, rfl⟩))
        have hJ3 := hJd _ _ md hJ2
        have hk3 : KT W (W2.drewN md) := hk2.trans (KT.drawn ⟨md, rfl⟩)
        obtain ⟨d1, d2⟩ := HB3.out.cells
        gi_wp2
        refine ⟨trivial, fun h => (by cases h), ?_⟩
        refine (HI1.out _ HB3.out hJ3).mono ?_
        rintro e W4 (⟨rfl, hJ4, hk4⟩ | ⟨rfl, q, hq, hJ4⟩)
        · have HB4 := Aside0.mk (HB3.out.kt hk4)
          obtain ⟨g1, g2⟩ := HB4.out.cells
          gi_wp2
          refine ⟨trivial, fun h => (by cases h), ?_⟩
          refine (HI2.out _ HB4.out hJ4).mono ?_
          rintro e W5 (⟨rfl, hJ5, hk5⟩ | ⟨rfl, q, hq, hJ5⟩)
          · gi_wp2
            go_ret
            exact .inl ⟨rfl, by simpa [List.append_assoc] using hJ5, (hk3.trans hk4).trans hk5⟩
          · gi_wp2
            go_ret
            obtain ⟨r, hr'⟩ := hq
            exact .inr ⟨rfl, ((f : Int), (t : Int)) :: (parts d f m ++ q), ⟨r, by simp [← hr']⟩, by simpa [List.append_assoc] using hJ5⟩
        · gi_wp2
          refine ⟨fun _ h => (by cases h), ?_⟩
          gi_wp2
          go_ret
          obtain ⟨r, hr'⟩ := hq
          exact .inr ⟨rfl, ((f : Int), (t : Int)) :: q, ⟨r ++ parts d m t, by simp [← hr']⟩, by simpa [List.append_assoc] using hJ4⟩
      · gi_wp2
        go_ret
        exact .inr ⟨rfl, [((f : Int), (t : Int))], ⟨_, rfl⟩, hJ2⟩

theorem abides_drewN {β : Type} {B : Nat} {J : β → World → Prop} (h : AbidesFrom B J) (s : β) (W : World) (m : Nat) (hs : J s W) : J s (W.drewN m) :=
  h s W _ none hs ⟨rfl, rfl, rfl, Nat.le_refl _, fun _ _ _ => rfl⟩ (fun r e => by cases e)

set_option maxRecDepth 100000 in
set_option maxHeartbeats 4000000 in
/-- the closure that Walk hands back. -/
theorem walk1_in (l Bs : Nat) (size : Int) (hs : size ≤ 1000000) (J Jx : List (Int × Int) → World → Prop) (n : Nat) (W : World) (hJ : AbidesFrom W.heap.size J)
    (hY : ∀ pre (x : Int × Int) W1, J pre W1 → pre.length < (parts size.toNat 0 size.toNat).length → YieldAt Fence.wide (n - 1) Try.prog l #[.int .i64 x.1, .int .i64 x.2] W1 fun e W' =>
      (e = .returned (.bool true) ∧ J (pre ++ [x]) W' ∧ KT W1 W') ∨ (e = .returned (.bool false) ∧ Jx (pre ++ [x]) W'))
    (hc : W.cell? ⟨Bs, 0, none⟩ = some (.int .i64 size)) (h0 : J [] W) :
    CallsIn Fence.wide n Try.prog 22 #[.func (.yield l) #[] #[], .pointer (some ⟨Bs, 0, none⟩)] W fun e W' => (∃ v, e = .returned v) ∧
      ((∃ ys, ys = parts size.toNat 0 size.toNat ∧ J ys W') ∨ (∃ pre, pre <+: parts size.toNat 0 size.toNat ∧ Jx pre W')) := by
  have hlt : Bs < W.heap.size := World.block_lt_of_cell? W _ hc
  have hs1 : (W.alloc (.cells #[.func (.yield l) #[] #[]] 36 (0, 0))).heap.size = W.heap.size + 1 := by simp
  have hby := blk_below (blk_new W (.cells #[.func (.yield l) #[] #[]] 36 (0, 0))) (below_alloc (Below.refl _ _) (.cells #[.nilFunc] 36 (0, 0)))
  have hbp := blk_new (W.alloc (.cells #[.func (.yield l) #[] #[]] 36 (0, 0))) (.cells #[.nilFunc] 36 (0, 0))
  rw [hs1] at hbp
  have hb2 : Below W.heap.size W ((W.alloc (.cells #[.func (.yield l) #[] #[]] 36 (0, 0))).alloc (.cells #[.nilFunc] 36 (0, 0))) := below_alloc (below_alloc (Below.refl _ _) _) _
  have hc3 : ((W.alloc (.cells #[.func (.yield l) #[] #[]] 36 (0, 0))).alloc (.cells #[.nilFunc] 36 (0, 0))).cell? ⟨W.heap.size + 1, 0, none⟩ = some .nilFunc := (blk_cell hbp 0).trans rfl
  have hf3 := blk_frozen hbp 0
  have HJ := Aside0.mk hJ
  have HY := Aside0.mk hY
  have H0 := Aside0.mk h0
  have HC := Aside0.mk hc
  refine callsIn_of_wp Try.func22 rfl trivial ?_ rfl
  simp only [Try.ntmps22, List.size_toArray, List.length_cons, List.length_nil, Nat.reduceAdd, Nat.reduceSub, Array.replicate_succ, Array.replicate_zero, List.push_toArray, List.append_toArray, List.nil_append, List.cons_append]
  obtain ⟨W3, hW3⟩ : ∃ W3, ((W.alloc (.cells #[.func (.yield l) #[] #[]] 36 (0, 0))).alloc (.cells #[.nilFunc] 36 (0, 0))).setCell ⟨W.heap.size + 1, 0, none⟩ (.func (.func 23) #[] #[.pointer (some ⟨W.heap.size, 0, none⟩), .pointer (some ⟨W.heap.size + 1, 0, none⟩)]) = W3 := ⟨_, rfl⟩
  have hb3 : Below W.heap.size W W3 := by rw [← hW3]; exact Below.setCell hb2 (p := ⟨W.heap.size + 1, 0, none⟩) (Nat.le_succ _) _
  have hx3 : Boxes W3 l W.heap.size (W.heap.size + 1) := by
    rw [← hW3]
    refine ⟨(Below.heap_setCell _ _ _ _ (by simp)).trans hby, (blk_set hbp 0 _).trans (by simp)⟩
  have hcs : W3.cell? ⟨Bs, 0, none⟩ = some (.int .i64 size) := (hb3.cell (p := ⟨Bs, 0, none⟩) hlt).trans hc
  obtain ⟨hg1, hg2⟩ := hx3.cells
  have HX3 := Aside0.mk hx3
  have HJ3 := Aside0.mk (hJ [] W W3 none h0 ⟨hb3.os, hb3.tape, hb3.output, hb3.size, fun k hk _ => hb3.block k hk⟩ (fun r e => by cases e))
  clear hJ hY h0 hc hby hbp hb2 hb3 hx3
  by_cases hsz : 0 < size
  · obtain ⟨sn, rfl⟩ : ∃ sn : Nat, size = sn := ⟨size.toNat, by omega⟩
    have z0 : decide ((0 : Int) < (sn : Int)) = true := decide_eq_true hsz
    have z1 : decide (0 < sn) = true := decide_eq_true (by omega)
    have hp := part_in l W.heap.size (W.heap.size + 1) (parts sn 0 sn).length J Jx (fun pre W m h => abides_drewN HJ.out pre W m h) (fun m pre x W h hl => YieldAt.anyDepth rfl m (HY.out pre x W h (by simpa using hl))) sn 0 sn (by omega) (by omega) (by omega) (n - 1) [] W3 HX3.out HJ3.out (by simp)
    have HP := Aside0.mk hp
    clear hp
    gi_wp2
    refine ⟨trivial, fun h => (by cases h), ?_⟩
    refine HP.out.mono ?_
    rintro e W4 (⟨rfl, hJ4, hk4⟩ | ⟨rfl, q, hq, hJ4⟩)
    · gi_wp2
      go_end0
      exact ⟨⟨_, rfl⟩, .inl (by simpa using hJ4)⟩
    · gi_wp2
      go_end0
      exact ⟨⟨_, rfl⟩, .inr ⟨q, by simpa using hq, by simpa using hJ4⟩⟩
  · have z0 : decide ((0 : Int) < size) = false := decide_eq_false hsz
    gi_wp2
    go_end0
    have e0 : size.toNat = 0 := by omega
    exact ⟨⟨_, rfl⟩, .inl (by rw [e0]; exact HJ3.out)⟩

set_option maxRecDepth 100000 in
theorem walk_in (n : Nat) (size : Int) (w : World) :
    CallsIn Fence.wide n Try.prog 14 #[.int .i64 size] w fun e w' => e = .returned (.func (.func 22) #[] #[.pointer (some ⟨w.heap.size, 0, none⟩)]) ∧ w' = w.alloc (.cells #[.int .i64 size] 3) := by
  refine callsIn_of_wp Try.func14 rfl trivial ?_ rfl
  simp only [Try.ntmps14, List.size_toArray, List.length_cons, List.length_nil, Nat.reduceAdd, Nat.reduceSub, Array.replicate_succ, Array.replicate_zero, List.push_toArray, List.append_toArray, List.nil_append, List.cons_append]
  gi_wp2
  go_ret
  exact ⟨rfl, rfl⟩
/-- what Walk hands back gives all parts, in order. -/
theorem walk_stops (n Bs : Nat) (size : Int) (hs : size ≤ 1000000) (w : World) (hBs : Bs < w.heap.size) (hc : w.cell? ⟨Bs, 0, none⟩ = some (.int .i64 size)) :
    SeqStopsK Fence.wide n Try.prog 22 #[.pointer (some ⟨Bs, 0, none⟩)] (fun x : Int × Int => #[Value.int .i64 x.1, Value.int .i64 x.2]) KT (fun ys => ys = parts size.toNat 0 size.toNat) (fun pre => pre <+: parts size.toNat 0 size.toNat) (parts size.toNat 0 size.toNat).length w :=
  fun l J Jx W hW hJ _ hY h0 => walk1_in l Bs size hs J Jx n W hJ hY ((hW.cell (p := ⟨Bs, 0, none⟩) hBs).trans hc) h0
end Go.Proofs.Ytioccjeiheejjaa.Tree
