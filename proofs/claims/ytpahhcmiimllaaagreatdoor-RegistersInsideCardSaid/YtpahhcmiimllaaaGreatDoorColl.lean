/- DERIVED. slices.AppendSeq and slices.Collect over a set's elements. -/
import Derived.Test.YtpahhcmiimllaaaGreatDoorIvlN
import Derived.Maps.OwnIn
set_option linter.unusedSimpArgs false
set_option linter.unusedVariables false
namespace Go.Proofs.YtpahhcmiimllaaaGreatDoor
open Go.RowKit Go.Shelf
attribute [local go_sem] Oper.semAt_some

def encNat (n : Nat) : List Value := [.int .i64 n]
theorem own_cells {w : World} {base k n j : Nat} {e : TypeId} {v : Value} {xs : List Value} {o : Obj} (h : w.ownsRow base e k v n xs) (e1 : v.ownBlock = some j) (ho : w.heap[j]? = some o) : o.isCells = true := by
  rcases h.2 with ⟨rfl, _⟩ | ⟨g, cap, cur, rfl, _, hh, _⟩
  · simp [Value.ownBlock] at e1
  · have e2 : g = j := by simpa [Value.ownBlock] using e1
    subst e2
    rw [show w.heap[g]? = _ from hh] at ho
    cases ho; rfl
set_option maxRecDepth 100000 in
set_option maxHeartbeats 4000000 in
theorem appendSeq_any (Bs b o n c : Nat) (ws : List Nat) (w : World) (hA : AllAt w.heap.size Bs b o n c ws w) (hn : n ≤ 1000) :
    Calls Tryz.prog 91 #[.slice none 0 0, .func (.func 92) #[] #[.pointer (some ⟨Bs, 0, none⟩)]] w fun e w' => (∃ v, e = .returned v ∧ w'.ownsRow w.heap.size 3 1 v (elemsW ws).length ((elemsW ws).flatMap encNat)) ∧ Below w.heap.size w w' := by
  have hel : (elemsW ws).length ≤ 64000 := by have := elems_len ws; have := hA.len; omega
  have HA := Lib.hid (hA.alloc (.cells #[.slice none 0 0] 27))
  have HX := Lib.hid (BlkAt.new w 27 #[.slice none 0 0])
  have HB := Lib.hid ((Below.refl w.heap.size w).alloc (Nat.le_refl _) (.cells #[.slice none 0 0] 27))
  have hsz0 : w.heap.size < (w.alloc (.cells #[.slice none 0 0] 27)).heap.size := by simp
  obtain ⟨i0, hi, hz0, hz1, hz2⟩ := info_parts int_info28
  have HI := Lib.hid hi
  clear hA hi
  refine calls_of_marks Tryz.func91 rfl ?_
  simp only [Tryz.ntmps91, List.size_toArray, List.length_cons, List.length_nil, Nat.reduceAdd, Nat.reduceSub, Array.replicate_succ, Array.replicate_zero, List.push_toArray, List.append_toArray, List.nil_append, List.cons_append]
  go_wp2_with fail
  obtain ⟨W0, hW0⟩ : ∃ W0, w.alloc (.cells #[.slice none 0 0] 27) = W0 := ⟨_, rfl⟩
  rw [hW0] at HA HX HB hsz0 ⊢
  clear hW0
  obtain ⟨Bx, hBx⟩ : ∃ Bx, w.heap.size = Bx := ⟨_, rfl⟩
  have HBX := Lib.hid hBx
  rw [hBx] at HX HA HB hsz0 ⊢
  clear hBx
  refine (wpIn_wide (n := 3)).1 (wpIn_rangeL rfl (by omega) (gf := 92) (lb := #[.pointer (some ⟨Bs, 0, none⟩)]) rfl trivial (enters_of Tryz.func92 (by kernel_rfl) rfl) (all1_seq 2 (by omega) Bx Bs b o n c ws) (fun h k => Below.trans h k) (fun W l o o' hl hlo _ _ => below_put (by omega) hlo) (fun _ => rfl)
    (fun pre W => ∃ v : Value, Hid (W.ownsRow (Bx + 1) 3 1 v pre.length (pre.flatMap encNat)) ∧ Hid (BlkAt W Bx 27 #[v]) ∧ Hid (Below Bx w W) ∧ Bx < W.heap.size)
    (fun _ _ _ => False) ?hI (fun _ _ _ _ _ h _ _ => h) ⟨.slice none 0 0, Lib.hid (World.ownsRow_nil _ _ _ _), HX, HB, hsz0⟩ HA.out (fun W o h => h.alloc o)
    (fun x a' W => ∃ (t0 t1 t3 t4 t6 t8 t9 t10 t11 t12 : Value), a' = { tmps := #[t0, t1, .pointer (some ⟨Bx, 0, none⟩), t3, t4, .int .i64 (x : Nat), t6, .int .i64 (x : Nat), t8, t9, t10, t11, t12], defers := [] })
    ?hAx ?assign ?body ?done ?stop)
  case hI =>
    rintro pre A B row ⟨v, h1, h2, h3, h4⟩ hg hr
    have hk := keptT_nocells hg (fun r e => (hr r e).2)
    exact ⟨v, Lib.hid (own_keptT h1.out hk (by decide)), Lib.hid (hk.blk _ _ _ h2.out (by decide)), Lib.hid (h3.out.grown hg (by omega) (fun j e => by have := (hr j e).1; omega)), by have := hg.size; omega⟩
  case hAx => exact fun x a' s A B row h hg hr => h
  case stop =>
    rintro D c pre W _ h _
    exact h.elim
  case assign =>
    rintro l pre x W Kk h1 hKk
    gi_wp2
    exact hKk _ _ ((KeepsOthers.refl W).from _) (Below.refl _ _) h1 ⟨_, _, _, _, _, _, _, _, _, _, rfl⟩
  case body =>
    rintro l pre y a' W hpre hl ⟨v, h1, h2, h3, h4⟩ ⟨t0, t1, t3, t4, t6, t8, t9, t10, t11, t12, rfl⟩
    have hpl : pre.length + 1 ≤ 64000 := by have := hpre.length_le; simp at this; omega
    have d0 := h2.out.cell 0
    simp only [List.getElem?_toArray, List.getElem?_cons_zero] at d0
    obtain ⟨Av, cv, hv, _, _, _⟩ := own_slice h1.out
    subst hv
    gi_wp2_with (first
      | (gi_at_builtin; refine wpListIn_append_own_at _ rfl _ _ 27 rfl (Bx + 1) 3 i0 (.int .i64 0) 1 8 Tryz.underlying27 HI.out hz0 hz1 hz2 rfl (by decide) (.slice Av pre.length cv) _ _ rfl (own_keepG h1.out (World.grownBy_alloc _ _ none) (fun j e e2 => by cases e2)) ⟨W.heap.size, 0, none⟩ 1 1 (encNat y) rfl rfl (cells_new' _ (encNat y) _ _ rfl) (by simp [Value.oneCell', encNat]) (by unfold maxLen; omega) (by omega) (by simp; omega) ?_
         intro v4 w4 hrow4 hgr4 hiff4 hob4
         obtain ⟨A4, c4, hv4, _, _, _⟩ := own_slice hrow4
         subst hv4
         have HROW4 := Lib.hid hrow4
         have HG4 := Lib.hid hgr4
         have HX4 := Lib.hid ((h2.out.alloc (.cells #[.int .i64 y] 3)).kept hgr4 (fun e => by have := (own_lt h1.out e.symm).1; omega))
         have f4 := HX4.out.frozen 0
         have e4 := HX4.out.cell 0
         simp only [List.getElem?_toArray, List.getElem?_cons_zero] at e4
         clear hrow4 hgr4 hiff4 hob4)
      | gi_in)
    have hra := own_keepG h1.out (World.grownBy_alloc W (.cells #[.int .i64 y] 3) none) (fun j e e2 => by cases e2)
    have k1 : KeepsOthers W w4 := (KeepsOthers.alloc W (.cells #[.int .i64 y] 3)).trans (KeepsOthers.of_grownBy HG4.out (fun j o e ho => own_cells hra e ho))
    have b1 : Below Bx W w4 := ((Below.refl Bx W).alloc (by omega) (.cells #[.int .i64 y] 3)).grown HG4.out (by simp; omega) (fun j e => by have := (own_lt hra e).1; omega)
    have hs4 := k1.size
    refine ⟨(k1.trans (KeepsOthers.setCell _ _ _)).from _, b1.setCell (Nat.le_refl _) _, _, Lib.hid ?_, Lib.hid (HX4.out.set 0 _), Lib.hid ((h3.out.trans b1).setCell (Nat.le_refl _) _), ?_⟩
    · rw [List.length_append, List.flatMap_append]
      exact own_keepG (by simpa using HROW4.out) (setCell_grown w4 Bx 0 _) (fun j e e2 => by have := (own_lt HROW4.out e).1; cases e2; omega)
    · have := (KeepsOthers.setCell w4 (⟨Bx, 0, none⟩ : Addr) (.slice A4 (pre.length + 1) c4)).size
      omega
  case done =>
    rintro D W hD ⟨v, h1, h2, h3, h4⟩ hdD
    have d0 := h2.out.cell 0
    simp only [List.getElem?_toArray, List.getElem?_cons_zero] at d0
    obtain ⟨Av, cv, hv, _, _, _⟩ := own_slice h1.out
    subst hv
    go_wp2_with fail
    refine leaves_marks (base := Bx) (v := .slice Av (elemsW ws).length cv) (fun W => by rw [results_tmp (t := 4) rfl]; rfl) _ W ⟨D, rfl, by omega, hdD, by simp, trivial⟩ (fun W' hc hb => ?_)
    have hk : KeptT 1000000 W W' := ⟨hb.size, fun B t cs hB _ => hc B _ hB rfl⟩
    rw [HBX.out]
    exact ⟨⟨_, rfl, own_low (own_keptT h1.out hk (by decide)) (by omega)⟩, h3.out.trans hb⟩
set_option maxHeartbeats 1000000 in
theorem collect_any (Bs b o n c : Nat) (ws : List Nat) (w : World) (hA : AllAt w.heap.size Bs b o n c ws w) (hn : n ≤ 1000) :
    Calls Tryz.prog 50 #[.func (.func 92) #[] #[.pointer (some ⟨Bs, 0, none⟩)]] w fun e w' => (∃ v, e = .returned v ∧ w'.ownsRow w.heap.size 3 1 v (elemsW ws).length ((elemsW ws).flatMap encNat)) ∧ Below w.heap.size w w' := by
  have H := Lib.hid (appendSeq_any Bs b o n c ws w hA hn)
  clear hA
  go_enter Tryz.func50, Tryz.ntmps50
  go_wp2_with (first
    | (go_at_call 91
       refine H.out.mono ?_
       rintro e w1 ⟨⟨v, rfl, hr⟩, hb⟩
       have HR := Lib.hid hr
       have HB := Lib.hid hb
       clear hr hb H)
    | fail)
  go_ret
  exact ⟨⟨_, rfl, HR.out⟩, HB.out⟩
end Go.Proofs.YtpahhcmiimllaaaGreatDoor
