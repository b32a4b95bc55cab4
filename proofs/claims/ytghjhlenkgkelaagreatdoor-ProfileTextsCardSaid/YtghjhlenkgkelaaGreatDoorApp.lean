/- DERIVED. append onto a row of the call's own, as a step of a region that draws its order. -/
import Derived.Test.YtghjhlenkgkelaaGreatDoorPut2
import Derived.Deep.RegionLaw
set_option linter.unusedSimpArgs false
set_option linter.unusedVariables false
namespace Go.Proofs.YtghjhlenkgkelaaGreatDoor
open Go.RowKit Go.Shelf Go.Sort
theorem int_info : (Tryz.prog.info? 3).map (fun i => (i.zero, i.size, i.bytes)) = some (some (.int .i64 0), 1, 8) := by kernel_rfl
theorem step_append_at {P : Program} {w : World} {ops : Array Oper} {o : Oper} {a : Act} {K : Act → World → Prop} {Q : Exit → Act → World → Prop} {E : Prop} (hgd : o.guard = none) (s x : Operand) (t : TypeId)
    (ho : o.op = .call { callee := .builtin .append, args := #[s, x], argTypes := #[t, t] })
    (base : Nat) (e : TypeId) (i : TypeInfo) (z : Value) (size bytes : Nat) (ht : P.underlying t = some (.slice e)) (hi : P.info? e = some i) (hz : i.zero = some z)
    (hsize : i.size = size) (hby : i.bytes = bytes) (hzs : z.cells.size = size) (hsz : 0 < size)
    (v : Value) (n : Nat) (xs : List Value) (hs : a.eval s = v) (hown : w.ownsRow base e size v n xs)
    (ad : Addr) (m c : Nat) (news : List Value) (hx : a.eval x = .slice (some ad) m c) (hl : news.length = m * size) (hnews : ∀ j u, news[j]? = some u → w.cell? (ad.add j) = some u) (h1 : ∀ u ∈ news, u.oneCell' = true)
    (h63 : n + m ≤ maxLen) (hbytes : (n + m) * bytes ≤ 140737488355328) (hbase : base ≤ w.heap.size)
    (h : ∀ v' w', w'.ownsRow base e size v' (n + m) (xs ++ news) → w.grownBy w' v.ownBlock → (v'.ownBlock = v.ownBlock ∨ v'.ownBlock = some w.heap.size) → K (a.put o.dst v') w') :
    if Region.wanted o (yielded ops a.tmps) = true then Oper.wp P o a w K Q else E := by
  have hw : Region.wanted o (yielded ops a.tmps) = true := by simp [Region.wanted, hgd]
  rw [if_pos hw]
  obtain ⟨v', w', hrun, h2, h3, _, h4⟩ := run_append_own_at (P := P) w base t o.type e i z size bytes ht hi hz hsize hby hzs hsz v n xs hown ad m c news hl hnews h1 h63 hbytes hbase
  unfold Oper.wp execOp
  simp only [ho, resolve, invoke, builtin, Sem.run_bind, Sem.run_pure, Result.andThen_ok, List.map_toArray, List.map_cons, List.map_nil, hs, hx, hrun]
  exact h v' w' h2 h3 h4

theorem facts6 {W w6 : World} {B C bx g k gb go n co : Nat} {T : Value} {gs : List (Nat × Grp)} {op : List Nat} {va : Value} {mv : Nat → Value} {y : Grp} {o : Obj} (h : Coll W B C T gs op va (.slice (some ⟨gb, go, none⟩) n co) mv) (hb : BlkAt W bx 106 #[.pointer (some ⟨C, 0, none⟩)])
    (hgy : (g, y) ∈ gs) (hn : n = op.length) (hk : op[k]? = some g) (hg : (W.alloc o).grownBy w6 (mv g).ownBlock) :
    w6.cell? ⟨bx, 0, none⟩ = some (.pointer (some ⟨C, 0, none⟩)) ∧ w6.cell? ⟨C, 2, none⟩ = some (.slice (some ⟨gb, go, none⟩) n co) ∧ w6.cell? ⟨gb, go + k, none⟩ = some (ptr g) ∧ w6.cell? ⟨g, 4, none⟩ = some (mv g) ∧ w6.frozen? ⟨g, 4, none⟩ = false := by
  have hm := (h.mem _ hgy).alloc o
  have hA := h.alloc o
  have hgb := (hA.grp _ hgy).kept hg (own_blk_ne hm (hA.grp _ hgy) (by decide))
  refine ⟨((hb.alloc o).kept hg (own_blk_ne hm (hb.alloc o) (by decide))).cell 0, (hA.blk.kept hg (own_blk_ne hm hA.blk (by decide))).cell 2, ?_, hgb.cell 4, hgb.frozen 4⟩
  have ho := hA.opn.kept hg (own_own_ne hA.opn hm (by decide))
  subst hn
  obtain ⟨gb', go', e, _, hc⟩ := (sl_own ho).at_ k g hk
  injection e with e
  injection e with e1 e2
  subst e1 e2
  exact hc

theorem find_of_idx {α : Type} {p : α → Bool} : ∀ {l : List α} {k : Nat} {x : α}, l.findIdx? p = some k → l[k]? = some x → l.find? p = some x
  | [], _, _, h, _ => by simp at h
  | a :: l, k, x, h, hx => by
    rw [List.findIdx?_cons] at h
    by_cases ha : p a = true
    · rw [if_pos ha] at h
      injection h with h; subst h
      simp at hx; subst hx
      simp [ha]
    · rw [if_neg ha] at h
      obtain ⟨j, hj, rfl⟩ := Option.map_eq_some_iff.1 h
      simp at hx
      rw [List.find?_cons_of_neg (by simpa using ha)]
      exact find_of_idx hj hx
theorem fin_some {w5 w6 : World} {B C g i : Nat} {T : Value} {gs : List (Nat × Grp)} {op : List Nat} {va vo v6 : Value} {mv : Nat → Value} {y : Grp} {o : Obj} (h : Coll w5 B C T gs op va vo mv) (hgy : (g, y) ∈ gs)
    (hg : (w5.alloc o).grownBy w6 (mv g).ownBlock) (hrow : w6.ownsRow B 3 1 v6 (y.mem.length + 1) (y.mem.map intV ++ [intV i])) (hob : v6.ownBlock = (mv g).ownBlock ∨ v6.ownBlock = some (w5.alloc o).heap.size) :
    (∃ mv', Coll (w6.setCell ⟨g, 4, none⟩ v6) B C T (addMem gs g i) op va vo mv') ∧ Below B w5 (w6.setCell ⟨g, 4, none⟩ v6) := by
  refine ⟨⟨_, (h.alloc o).pushMem hgy hg hrow (hob.imp id fun e => ⟨_, e, Nat.le_refl _⟩)⟩, ?_⟩
  have hBw : B ≤ w5.heap.size := by have := h.lowC; have := h.blk.lt; omega
  have h1 : Below B w5 (w5.alloc o) := (Below.refl _ _).alloc hBw o
  have h2 := h1.grown hg (by simp; omega) (fun k e => (own_lt (h.mem _ hgy) e).1)
  exact h2.setCell (h.lowG _ hgy) _
end Go.Proofs.YtghjhlenkgkelaaGreatDoor
