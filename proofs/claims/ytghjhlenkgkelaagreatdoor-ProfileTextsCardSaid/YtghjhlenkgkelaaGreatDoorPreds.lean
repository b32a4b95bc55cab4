/- DERIVED. The predicates of the collector: alike, touches, and the closures of put. -/
import Derived.Test.YtghjhlenkgkelaaGreatDoorDel
import Derived.Lib.QuietBelow
set_option linter.unusedSimpArgs false
set_option linter.unusedVariables false
namespace Go.Proofs.YtghjhlenkgkelaaGreatDoor
open Go.RowKit Go.Shelf Go.Sort

/-- a group: task, kind, locales, members -/
structure Grp where
  task : Int
  kind : Int
  frm : Int
  at' : Int
  mem : List Nat
  deriving Inhabited
/-- group g of the heap reads as x (but for its members) -/
def GrpAt (w : World) (g : Nat) (x : Grp) : Prop :=
  w.cell? ⟨g, 0, none⟩ = some (.int .i64 x.task) ∧ w.cell? ⟨g, 1, none⟩ = some (.int .i64 x.kind) ∧ w.cell? ⟨g, 2, none⟩ = some (.int .i64 x.frm) ∧ w.cell? ⟨g, 3, none⟩ = some (.int .i64 x.at')
def alikeB (x : Grp) (a : Acc) : Bool := x.task == a.task && x.frm == a.frm && x.at' == a.at'

theorem alike_any (g : Nat) (y : Grp) (x : Acc) (w : World) (hg : GrpAt w g y) :
    Calls Tryz.prog 55 #[.pointer (some ⟨g, 0, none⟩), .agg #[.int .i64 x.task, .int .i64 x.p0, .int .i64 x.p1, .int .i64 x.p2, .int .i64 x.kind, .int .i64 x.frm, .int .i64 x.at']] w fun e w' => e = .returned (.bool (alikeB y x)) ∧ Below w.heap.size w w' := by
  obtain ⟨g0, g1, g2, g3⟩ := hg
  have h0 := fun o => cell_alloc o g0
  have h2 := fun o => cell_alloc o g2
  have h3 := fun o => cell_alloc o g3
  go_enter Tryz.func55, Tryz.ntmps55
  go_wp2
  refine wp_region_quiet_lit (by kernel_rfl) (by kernel_rfl) ?_
  repeat (any_goals (first | go_big_quiet_step (fail) | quiet_step (fail) | (refine wpQuiet_step (fun K hK => ?_); go_simp; split <;> (refine hK _ ?_; clear hK K))))
  all_goals (refine wpQuiet_nil ?_; intro _ hw'; obtain ⟨nq, hw''⟩ := hw'; subst hw'')
  all_goals go_wp2
  all_goals go_ret
  all_goals refine ⟨ret_bool ?_, below_draw ((Below.refl _ _).alloc (Nat.le_refl _) _) _⟩
  all_goals (unfold alikeB; simp_all)

theorem put1_any (g ab : Nat) (y : Grp) (x : Acc) (w : World) (hg : GrpAt w g y) (ha : AccAt w ab 0 x) :
    Calls Tryz.prog 52 #[.pointer (some ⟨g, 0, none⟩), .pointer (some ⟨ab, 0, none⟩)] w fun e w' => e = .returned (.bool (y.task == x.task)) ∧ Below w.heap.size w w' := by
  obtain ⟨g0, g1, g2, g3⟩ := hg
  obtain ⟨a0, a1, a2, a3, a4, a5, a6⟩ := ha
  simp only [Nat.zero_add] at a1 a2 a3 a4 a5 a6
  go_enter Tryz.func52, Tryz.ntmps52
  go_wp2
  go_quiet (fail)
  go_wp2
  go_ret
  exact ⟨rfl, below_draw (Below.refl _ _) _⟩

theorem GrpAt.below {w w' : World} {g : Nat} {x : Grp} (h : GrpAt w g x) (hb : Below w.heap.size w w') : GrpAt w' g x :=
  ⟨cell_below hb (Nat.le_refl _) h.1, cell_below hb (Nat.le_refl _) h.2.1, cell_below hb (Nat.le_refl _) h.2.2.1, cell_below hb (Nat.le_refl _) h.2.2.2⟩
theorem put3_any (g ab : Nat) (y : Grp) (x : Acc) (w : World) (hg : GrpAt w g y) (ha : AccAt w ab 0 x) :
    Calls Tryz.prog 57 #[.pointer (some ⟨g, 0, none⟩), .pointer (some ⟨ab, 0, none⟩)] w fun e w' => e = .returned (.bool (alikeB y x && y.kind == x.kind)) ∧ Below w.heap.size w w' := by
  have hcall := fun d os => alike_any g y x (grow (redrawn w d) os) (hg.below (below_regrown w d os))
  obtain ⟨g0, g1, g2, g3⟩ := hg
  obtain ⟨a0, a1, a2, a3, a4, a5, a6⟩ := ha
  simp only [Nat.zero_add] at a1 a2 a3 a4 a5 a6
  have b1 := cell_regrown g1
  have e0 := cell_regrown a0
  have e1 := cell_regrown a1
  have e2 := cell_regrown a2
  have e3 := cell_regrown a3
  have e4 := cell_regrown a4
  have e5 := cell_regrown a5
  have e6 := cell_regrown a6
  generalize alikeB y x = q at *
  go_enter Tryz.func57, Tryz.ntmps57
  go_wp2
  refine wp_region_quiet_below (by kernel_rfl) (by kernel_rfl) ?_
  repeat (any_goals (first | go_big_quiet_step ((go_at_call 55; exact Calls.regrown_of (hcall _ _))) | quiet_step ((go_at_call 55; exact Calls.regrown_of (hcall _ _))) | (refine wpQuiet_step (fun K hK => ?_); go_simp; split <;> (refine hK _ ?_; clear hK K))))
  all_goals (refine wpQuiet_nil ?_; intro _ hw'; obtain ⟨⟨dq, osq⟩, hw''⟩ := hw'; subst hw'')
  all_goals go_wp2
  all_goals go_ret
  all_goals refine ⟨ret_bool ?_, below_regrown w dq osq⟩
  all_goals simp_all

/-- the collector's cells: the trace is a slice that reads as xs -/
def TrAt (w : World) (C : Nat) (xs : List Acc) : Prop := ∃ A n c, w.cell? ⟨C, 0, none⟩ = some (.slice A n c) ∧ Trace w w.heap.size A n xs ∧ n ≤ 5000
theorem TrAt.below {w w' : World} {C : Nat} {xs : List Acc} (h : TrAt w C xs) (hb : Below w.heap.size w w') : TrAt w' C xs := by
  obtain ⟨A, n, c, h1, h2, h3⟩ := h
  have h4 := h2.below hb (Nat.le_refl _)
  exact ⟨A, n, c, cell_below hb (Nat.le_refl _) h1, ⟨h4.len, fun i x hx => by obtain ⟨b, o, e, hl, hc⟩ := h4.at_ i x hx; exact ⟨b, o, e, Nat.lt_of_lt_of_le hl hb.size, hc⟩⟩, h3⟩

def hitB (xs : List Acc) (q : K3) (i : Nat) : Bool := match xs[i]? with | some x => x.place == q | none => false

@[go_sem] theorem eqArr3' (a b e c d f : Int) (w : World) : (Op.equalIn 10000 43 (.agg #[.int .i64 a, .int .i64 b, .int .i64 e]) (.agg #[.int .i64 c, .int .i64 d, .int .i64 f])).run Tryz.prog w = .ok (a == c && b == d && e == f) w := eqArr3 a b e c d f w

theorem touches1_any (i cb qb C : Nat) (xs : List Acc) (q : K3) (x : Acc) (w : World) (hx : xs[i]? = some x) (hC : w.cell? ⟨cb, 0, none⟩ = some (.pointer (some ⟨C, 0, none⟩))) (hT : TrAt w C xs)
    (hq0 : w.cell? ⟨qb, 0, none⟩ = some (.int .i64 q.a)) (hq1 : w.cell? ⟨qb, 1, none⟩ = some (.int .i64 q.b)) (hq2 : w.cell? ⟨qb, 2, none⟩ = some (.int .i64 q.c)) :
    Calls Tryz.prog 70 #[.int .i64 i, .pointer (some ⟨cb, 0, none⟩), .pointer (some ⟨qb, 0, none⟩)] w fun e w' => e = .returned (.bool (hitB xs q i)) ∧ Below w.heap.size w w' := by
  obtain ⟨A, n, c, hc, hT, hn⟩ := hT
  have hr : hitB xs q i = (x.p0 == q.a && x.p1 == q.b && x.p2 == q.c) := by
    simp only [hitB, hx]
    rw [Bool.eq_iff_iff]; simp [Acc.place]
    constructor
    · intro h; rw [← h]; simp
    · rintro ⟨⟨h1, h2⟩, h3⟩; cases q; simp_all
  rw [hr]
  have hlt : i < n := by rw [hT.len]; exact (List.getElem?_eq_some_iff.1 hx).1
  obtain ⟨b, o, rfl, hb, hcs⟩ := hT.at_ i x hx
  obtain ⟨c0, c1, c2, c3, c4, c5, c6⟩ := hcs
  clear hx hT hr
  go_enter Tryz.func70, Tryz.ntmps70
  go_wp2
  go_quiet (fail)
  go_wp2
  go_ret
  exact ⟨rfl, below_draw (Below.refl _ _) _⟩
/-- the members of group g read as mem -/
def MemAt (w : World) (g : Nat) (mem : List Nat) : Prop := ∃ A n c, w.cell? ⟨g, 4, none⟩ = some (.slice A n c) ∧ Sl w intV A n mem ∧ n ≤ 5000
theorem MemAt.below {w w' : World} {g : Nat} {mem : List Nat} (h : MemAt w g mem) (hb : Below w.heap.size w w') : MemAt w' g mem := by
  obtain ⟨A, n, c, h1, h2, h3⟩ := h
  exact ⟨A, n, c, cell_below hb (Nat.le_refl _) h1, h2.below hb, h3⟩

theorem touches_any (g C : Nat) (xs : List Acc) (mem : List Nat) (q : K3) (w : World) (hT : TrAt w C xs) (hM : MemAt w g mem) (hin : ∀ i ∈ mem, i < xs.length) :
    Calls Tryz.prog 56 #[.pointer (some ⟨C, 0, none⟩), .pointer (some ⟨g, 0, none⟩), .agg #[.int .i64 q.a, .int .i64 q.b, .int .i64 q.c]] w fun e w' => e = .returned (.bool (mem.any (hitB xs q))) ∧ Below w.heap.size w w' := by
  obtain ⟨A, n, c, hc, hs, hn⟩ := hM
  have hb2 : Below w.heap.size w ((w.alloc (.cells #[.pointer (some ⟨C, 0, none⟩)] 106)).alloc (.cells #[.int .i64 q.a, .int .i64 q.b, .int .i64 q.c] 43)) := ((Below.refl _ w).alloc (Nat.le_refl _) _).alloc (by simp) _
  have hc2 := cell_below hb2 (Nat.le_refl _) hc
  have hcall := containsFunc 70 #[.pointer (some ⟨w.heap.size, 0, none⟩), .pointer (some ⟨w.heap.size + 1, 0, none⟩)] (enters_of Tryz.func70 (by kernel_rfl) rfl) (hitB xs q) A n c mem
    ((w.alloc (.cells #[.pointer (some ⟨C, 0, none⟩)] 106)).alloc (.cells #[.int .i64 q.a, .int .i64 q.b, .int .i64 q.c] 43)) (by omega) (hs.below hb2) (by
      intro W hW i hi
      have hbW := below_of_grown hW
      obtain ⟨x, hx⟩ := get_some (hin i hi)
      have k1 : ((w.alloc (.cells #[.pointer (some ⟨C, 0, none⟩)] 106)).alloc (.cells #[.int .i64 q.a, .int .i64 q.b, .int .i64 q.c] 43)).cell? ⟨w.heap.size, 0, none⟩ = some (.pointer (some ⟨C, 0, none⟩)) := ((BlkAt.new w _ _).alloc _).cell 0
      have k2 := BlkAt.new (w.alloc (.cells #[.pointer (some ⟨C, 0, none⟩)] 106)) 43 #[.int .i64 q.a, .int .i64 q.b, .int .i64 q.c]
      rw [World.size_alloc] at k2
      exact touches1_any i w.heap.size (w.heap.size + 1) C xs q x W hx (cell_below hbW (Nat.le_refl _) k1) ((hT.below hb2).below hbW) (cell_below hbW (Nat.le_refl _) (k2.cell 0)) (cell_below hbW (Nat.le_refl _) (k2.cell 1)) (cell_below hbW (Nat.le_refl _) (k2.cell 2)))
  clear hT hs hc hin
  generalize mem.any (hitB xs q) = z at *
  go_enter Tryz.func56, Tryz.ntmps56
  go_wp2_with (go_at_call 69; refine hcall.mono ?_; rintro e w1 ⟨rfl, hb1⟩)
  go_ret
  exact ⟨rfl, hb2.trans (hb1.mono hb2.size)⟩
end Go.Proofs.YtghjhlenkgkelaaGreatDoor
