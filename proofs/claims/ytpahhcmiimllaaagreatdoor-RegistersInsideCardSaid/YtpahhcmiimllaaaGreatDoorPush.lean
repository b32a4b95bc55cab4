/- DERIVED. push: an element into an ascending list of ints. -/
import Derived.Test.YtpahhcmiimllaaaGreatDoorLay2
import Derived.Test.YtpahhcmiimllaaaGreatDoorDelV
import Derived.Test.YtpahhcmiimllaaaGreatDoorShelf
import Derived.Shelf.Spec.SlicesInsertGrow
import Derived.Ground.Names2Prog
import Derived.Laws.AppendOwn
set_option linter.unusedSimpArgs false
set_option linter.unusedVariables false
namespace Go.Proofs.YtpahhcmiimllaaaGreatDoor
open Go.RowKit Go.Shelf Go.Sort


/-- a row of ints that may begin inside its block -/
structure FRow (W : World) (base : Nat) (A : Option Addr) (n c : Nat) (xs : List Int) : Prop where
  len : xs.length = n
  cap : n ≤ c
  max : c ≤ maxLen
  form : (A = none ∧ c = 0) ∨ ∃ g off cs, A = some ⟨g, off, none⟩ ∧ base ≤ g ∧ BlkAt W g 3 cs ∧ off + c ≤ cs.size ∧ ∀ j x, xs[j]? = some x → cs[off + j]? = some (.int .i64 x)
theorem FRow.kept {W W' : World} {base n c : Nat} {A : Option Addr} {xs : List Int} {row : Option Nat} (h : FRow W base A n c xs) (hg : W.grownBy W' row) (hne : ∀ j, (Value.slice A n c).ownBlock = some j → some j ≠ row) : FRow W' base A n c xs :=
  ⟨h.len, h.cap, h.max, h.form.imp id (by
    rintro ⟨g, off, cs, rfl, h2, h3, h4⟩
    exact ⟨g, off, cs, rfl, h2, h3.kept hg (hne g rfl), h4⟩)⟩
theorem FRow.block {W W' : World} {base n c : Nat} {A : Option Addr} {xs : List Int} (h : FRow W base A n c xs) (hk : ∀ j, (Value.slice A n c).ownBlock = some j → W'.heap[j]? = W.heap[j]?) : FRow W' base A n c xs :=
  ⟨h.len, h.cap, h.max, h.form.imp id (by
    rintro ⟨g, off, cs, rfl, h2, h3, h4⟩
    exact ⟨g, off, cs, rfl, h2, h3.block (hk g rfl), h4⟩)⟩
theorem ints_map (xs : List Int) (j : Nat) : (xs.map (Value.int .i64))[j]? = xs[j]?.map (Value.int .i64) := List.getElem?_map ..
theorem take_ins {xs : List Int} {i : Nat} (hi : i ≤ xs.length) (x : Int) (j : Nat) : (xs.take i ++ x :: xs.drop i)[j]? = if j < i then xs[j]? else if j = i then some x else xs[j - 1]? := by
  have hl : (xs.take i).length = i := by simp; omega
  by_cases h1 : j < i
  · rw [if_pos h1, List.getElem?_append_left (by omega), List.getElem?_take_of_lt h1]
  · rw [if_neg h1, List.getElem?_append_right (by omega), hl]
    by_cases h2 : j = i
    · subst h2; simp
    · rw [if_neg h2, show j - i = (j - i - 1) + 1 by omega, List.getElem?_cons_succ, List.getElem?_drop]
      congr 1; omega
theorem drew_blk {W : World} {B : Nat} {t : TypeId} {cs : Array Value} (h : BlkAt W B t cs) : BlkAt W.drew B t cs := h
theorem grown_drewL {w w' : World} {row : Option Nat} (h : w.drew.grownBy w' row) : w.grownBy w' row := ⟨h.os, h.tape, h.output, h.size, h.block⟩
def InsPost (w : World) (base i : Nat) (x : Int) (xs : List Int) (row : Option Nat) (e : Ending) (w' : World) : Prop :=
  ∃ A' c', e = .returned (.slice A' (xs.length + 1) c') ∧ FRow w' base A' (xs.length + 1) c' (xs.take i ++ x :: xs.drop i) ∧ w.grownBy w' row ∧ ∀ j, (Value.slice A' (xs.length + 1) c').ownBlock = some j → some j = row ∨ w.heap.size ≤ j
theorem grown_new {w : World} (o : Obj) (row : Option Nat) : w.grownBy (w.alloc o) row := World.grownBy_alloc w o row
theorem one_ints (xs : List Int) : ∀ v ∈ xs.map (Value.int .i64), v.oneCell' = true := by
  intro v hv
  obtain ⟨x, _, rfl⟩ := List.mem_map.1 hv
  rfl
theorem zeros_size (k : Nat) : (Builtin.zeroCells (Value.int .i64 0).cells k).size = k := by simp [Builtin.zeroCells, Value.cells]
theorem shape_blk {W : World} {B : Nat} {t : TypeId} {cs : Array Value} (h : BlkAt W B t cs) : W.shape? B = some (t, cs.size) := by
  unfold BlkAt at h; simp [World.shape?, h]
set_option maxRecDepth 100000 in
set_option maxHeartbeats 4000000 in
theorem insert_any (base vb : Nat) (A : Option Addr) (n c i : Nat) (x : Int) (xs : List Int) (w : World) (h : FRow w base A n c xs) (hi : i ≤ xs.length) (hb : base ≤ w.heap.size) (hv : BlkAt w vb 3 #[.int .i64 x]) (hvb : ∀ j, (Value.slice A n c).ownBlock = some j → vb ≠ j) (hn : n ≤ 100000) :
    Calls Tryz.prog 86 #[.slice A n c, .int .i64 i, .slice (some ⟨vb, 0, none⟩) 1 1] w (InsPost w base i x xs (Value.slice A n c).ownBlock) := by
  have hlen := h.len
  have hcap := h.cap
  have hmax : c ≤ 9223372036854775807 := h.max
  have hvs : ∀ (j : Nat) (v : Value), [Value.int .i64 x][j]? = some v → w.cell? ⟨vb, 0 + j, none⟩ = some v := fun j v hj => by
    rw [Nat.zero_add, hv.cell j]; simpa using hj
  have h1v : ∀ v ∈ [Value.int .i64 x], v.oneCell' = true := fun v hv => by simp at hv; subst hv; rfl
  have hG1 := grownCap_ge w (n + 1) c 3
  have hG2 := grownCap_le_maxLen w (n + 1) c 3 (by unfold maxLen; omega)
  by_cases hin : i = n
  · subst hin
    by_cases hroom : i + 1 ≤ c
    · rcases h.form with ⟨rfl, hc0⟩ | ⟨g, off, cs, rfl, hbg, hbk, hsz, hcell⟩
      · omega
      · have hth := fun j (hj : j < 1) => (hbk.there (off + i) 1 (by omega) j hj)
        refine (Any2.slices_Insert_int_end_room Tryz.l21i g off i c vb 0 1 1 [.int .i64 x] w (by omega) hroom hmax rfl (fun j hj => (hth j hj).1) (fun j hj => (hth j hj).2) hvs h1v).mono ?_
        rintro e w' ⟨rfl, rfl⟩
        obtain ⟨cs', k1, k2, k3, k4, k5⟩ := BlkAt.setCellsX [.int .i64 x] (off + i) hbk (by simp; omega)
        refine ⟨_, _, by rw [hlen], ⟨by simp; omega, by omega, h.max, .inr ⟨g, off, cs', rfl, hbg, k1, by omega, fun j y hy => ?_⟩⟩, setCells_grown g _ _ _, fun j hj => .inl hj.symm⟩
        rw [take_ins (by omega)] at hy
        by_cases hj : j < i
        · rw [if_pos hj] at hy
          rw [k3 _ (by omega)]; exact hcell j y hy
        · rw [if_neg hj] at hy
          by_cases hj2 : j = i
          · subst hj2
            rw [if_pos rfl] at hy
            cases hy
            exact k5 0 _ rfl
          · rw [if_neg hj2, List.getElem?_eq_none (by omega)] at hy; cases hy
    · have hnil : A = none → i = 0 := fun e => by
        rcases h.form with ⟨_, hc0⟩ | ⟨g, off, cs, rfl, _⟩
        · omega
        · cases e
      have hcs : ∀ a, A = some a → ∀ (j : Nat) (v : Value), (xs.map (Value.int .i64))[j]? = some v → w.cell? (a.add j) = some v := fun a ha j v hj => by
        rcases h.form with ⟨rfl, _⟩ | ⟨g, off, cs, rfl, _, hbk, _, hcell⟩
        · cases ha
        · cases ha
          rw [ints_map] at hj
          obtain ⟨y, hy, rfl⟩ := Option.map_eq_some_iff.1 hj
          rw [show (⟨g, off, none⟩ : Addr).add j = ⟨g, off + j, none⟩ from add_plain' g off j, hbk.cell]
          exact hcell j y hy
      refine (Any2.slices_Insert_int_end_grow Tryz.l21i A i c vb 0 1 1 (xs.map (Value.int .i64)) [.int .i64 x] w (by omega) hcap (by omega) (by omega) (by simpa using hlen) rfl hnil hcs hvs h1v).mono ?_
      rintro e w' ⟨rfl, rfl⟩
      have hsz : (w.drew.alloc (.cells (((xs.map (Value.int .i64)) ++ [Value.int .i64 x]).toArray ++ Builtin.zeroCells (Value.int .i64 0).cells (grownCap w (i + 1) c 3 - (i + 1))) 3)).heap.size = w.heap.size + 1 := World.size_alloc _ _
      have hbn := BlkAt.new w.drew 3 (((xs.map (Value.int .i64)) ++ [Value.int .i64 x]).toArray ++ Builtin.zeroCells (Value.int .i64 0).cells (grownCap w (i + 1) c 3 - (i + 1)))
      refine ⟨some ⟨w.heap.size, 0, none⟩, grownCap w (i + 1) c 3, by rw [hlen]; rfl, ⟨by simp; omega, by omega, hG2, .inr ⟨w.heap.size, 0, _, rfl, hb, hbn, ?_, fun j y hy => ?_⟩⟩, ⟨rfl, rfl, rfl, Nat.le_trans (Nat.le_succ _) (Nat.le_of_eq hsz.symm), fun k hk _ => Below.heap_alloc w.drew _ k hk⟩, fun j hj => .inr (by simp [Value.ownBlock] at hj; omega)⟩
      · simp only [Array.size_append, zeros_size, List.size_toArray, List.length_append, List.length_map, List.length_cons, List.length_nil]; omega
      · rw [take_ins (by omega)] at hy
        rw [Nat.zero_add, Array.getElem?_append_left (by
          have : j < xs.length + 1 := by
            by_cases hj : j < i
            · omega
            · rw [if_neg hj] at hy
              by_cases hj2 : j = i
              · omega
              · rw [if_neg hj2, List.getElem?_eq_none (by omega)] at hy; cases hy
          simpa using this)]
        simp only [List.getElem?_toArray]
        by_cases hj : j < i
        · rw [if_pos hj] at hy
          rw [List.getElem?_append_left (by simp; omega), ints_map, hy]; rfl
        · rw [if_neg hj] at hy
          by_cases hj2 : j = i
          · subst hj2
            rw [if_pos rfl] at hy
            cases hy
            rw [List.getElem?_append_right (by simp; omega)]
            simp [hlen]
          · rw [if_neg hj2, List.getElem?_eq_none (by omega)] at hy; cases hy
  · have hlt : i < n := by omega
    rcases h.form with ⟨rfl, hc0⟩ | ⟨g, off, cs, rfl, hbg, hbk, hsz, hcell⟩
    · omega
    · have hvne : vb ≠ g := hvb g rfl
      have hcs : ∀ (j : Nat) (v : Value), (xs.map (Value.int .i64))[j]? = some v → w.cell? ⟨g, off + j, none⟩ = some v := fun j v hj => by
        rw [ints_map] at hj
        obtain ⟨y, hy, rfl⟩ := Option.map_eq_some_iff.1 hj
        rw [hbk.cell]
        exact hcell j y hy
      by_cases hroom : n + 1 ≤ c
      · have hth := fun j (hj : j < n + 1) => (hbk.there off (n + 1) (by omega) j hj)
        refine (Any2.slices_Insert_int_shift Tryz.l21i g off n c i vb 0 1 1 (xs.map (Value.int .i64)) [.int .i64 x] w hlt (by omega) hroom hmax hvne (by simpa using hlen) rfl hcs (fun j hj => (hth j hj).1) (fun j hj => (hth j hj).2) hvs (one_ints xs) h1v _ _ _ _ (shape_blk hv) (shape_blk hbk) (by omega) (hv.frozen 0) (hv.frozen _)).mono ?_
        rintro e w' ⟨rfl, rfl⟩
        have hdl : ((xs.map (Value.int .i64)).drop i).length = n - i := by simp; omega
        obtain ⟨cs1, k1, k2, k3, k4, k5⟩ := BlkAt.setCellsX ((xs.map (Value.int .i64)).drop i) (off + (i + 1)) (drew_blk hbk) (by rw [hdl]; omega)
        obtain ⟨cs2, l1, l2, l3, l4, l5⟩ := BlkAt.setCellsX [.int .i64 x] (off + i) k1 (by simp; omega)
        refine ⟨_, _, by rw [hlen], ⟨by simp; omega, by omega, h.max, .inr ⟨g, off, cs2, rfl, hbg, l1, by omega, fun j y hy => ?_⟩⟩, grown_drewL (grown_trans (setCells_grown g _ _ _) (setCells_grown g _ _ _)), fun j hj => .inl hj.symm⟩
        rw [take_ins (by omega)] at hy
        by_cases hj : j < i
        · rw [if_pos hj] at hy
          rw [l3 _ (by omega), k3 _ (by omega)]; exact hcell j y hy
        · rw [if_neg hj] at hy
          by_cases hj2 : j = i
          · subst hj2
            rw [if_pos rfl] at hy
            cases hy
            exact l5 0 _ rfl
          · rw [if_neg hj2] at hy
            rw [l4 _ (by simp; omega)]
            have := k5 (j - i - 1) (.int .i64 y) (by rw [List.getElem?_drop, ints_map, show i + (j - i - 1) = j - 1 by omega, hy]; rfl)
            rwa [show off + (i + 1) + (j - i - 1) = off + j by omega] at this
      · refine (Any2.slices_Insert_int_grow Tryz.l21i g off n c i vb 0 1 1 (xs.map (Value.int .i64)) [.int .i64 x] w hlt (by omega) hcap (by omega) (by omega) (by simpa using hlen) rfl hcs hvs (one_ints xs) h1v).mono ?_
        rintro e w' ⟨rfl, rfl⟩
        obtain ⟨cs0, hcs0⟩ : ∃ cs0, (((xs.map (Value.int .i64)).take i).toArray ++ Builtin.zeroCells (Value.int .i64 0).cells (n + 1 - i) ++ Builtin.zeroCells (Value.int .i64 0).cells (grownCap w (n + 1) c 3 - (n + 1))) = cs0 := ⟨_, rfl⟩
        have hs0 : cs0.size = grownCap w (n + 1) c 3 := by
          rw [← hcs0]
          simp only [Array.size_append, zeros_size, List.size_toArray, List.length_take, List.length_map]
          omega
        have h0 : ∀ j y, j < i → xs[j]? = some y → cs0[j]? = some (.int .i64 y) := fun j y hj hy => by
          rw [← hcs0, Array.getElem?_append_left (by simp only [Array.size_append, zeros_size, List.size_toArray, List.length_take, List.length_map]; omega), Array.getElem?_append_left (by simp only [List.size_toArray, List.length_take, List.length_map]; omega)]
          simp only [List.getElem?_toArray]
          rw [List.getElem?_take_of_lt hj, ints_map, hy]; rfl
        have hbn : BlkAt (w.alloc (.cells cs0 3)).drew w.heap.size 3 cs0 := BlkAt.new w 3 cs0
        obtain ⟨cs1, k1, k2, k3, k4, k5⟩ := BlkAt.setCellsX [.int .i64 x] i hbn (by simp; omega)
        have hdl : ((xs.map (Value.int .i64)).drop i).length = n - i := by simp; omega
        obtain ⟨cs2, l1, l2, l3, l4, l5⟩ := BlkAt.setCellsX ((xs.map (Value.int .i64)).drop i) (i + 1) (drew_blk k1) (by rw [hdl]; omega)
        have hgr : w.grownBy ((((w.alloc (.cells cs0 3)).drew.setCells w.heap.size i [.int .i64 x]).drew).setCells w.heap.size (i + 1) ((xs.map (Value.int .i64)).drop i)) (some g) := by
          have g1 : (w.alloc (.cells cs0 3)).grownBy ((w.alloc (.cells cs0 3)).drew.setCells w.heap.size i [.int .i64 x]) (some w.heap.size) := grown_drewL (setCells_grown _ _ _ _)
          have g2 := grown_trans g1 (grown_drewL (setCells_grown w.heap.size ((xs.map (Value.int .i64)).drop i) (i + 1) ((w.alloc (.cells cs0 3)).drew.setCells w.heap.size i [.int .i64 x]).drew))
          have hal : (w.alloc (.cells cs0 3)).heap.size = w.heap.size + 1 := World.size_alloc _ _
          exact ⟨g2.os, g2.tape, g2.output, by have := g2.size; omega, fun k hk hne => (g2.block k (by omega) (fun e => by cases e; omega)).trans (Below.heap_alloc w _ k hk)⟩
        change InsPost w base i x xs _ (.returned (.slice (some ⟨w.heap.size, 0, none⟩) (n + 1) (grownCap w (n + 1) c 3))) ((((w.alloc (.cells (((xs.map (Value.int .i64)).take i).toArray ++ Builtin.zeroCells (Value.int .i64 0).cells (n + 1 - i) ++ Builtin.zeroCells (Value.int .i64 0).cells (grownCap w (n + 1) c 3 - (n + 1))) 3)).drew.setCells w.heap.size i [.int .i64 x]).drew).setCells w.heap.size (i + 1) ((xs.map (Value.int .i64)).drop i))
        rw [hcs0]
        refine ⟨some ⟨w.heap.size, 0, none⟩, grownCap w (n + 1) c 3, by rw [hlen], ⟨by simp; omega, by omega, hG2, .inr ⟨w.heap.size, 0, cs2, rfl, hb, l1, by rw [l2, k2, hs0]; omega, fun j y hy => ?_⟩⟩, hgr, fun j hj => .inr (by simp [Value.ownBlock] at hj; omega)⟩
        rw [take_ins (by omega)] at hy
        rw [Nat.zero_add]
        by_cases hj : j < i
        · rw [if_pos hj] at hy
          rw [l3 _ (by omega), k3 _ (by omega)]; exact h0 j y hj hy
        · rw [if_neg hj] at hy
          by_cases hj2 : j = i
          · subst hj2
            rw [if_pos rfl] at hy
            cases hy
            rw [l3 _ (by omega)]
            exact k5 0 _ rfl
          · rw [if_neg hj2] at hy
            have := l5 (j - i - 1) (.int .i64 y) (by rw [List.getElem?_drop, ints_map, show i + (j - i - 1) = j - 1 by omega, hy]; rfl)
            rwa [show i + 1 + (j - i - 1) = j by omega] at this
/-- a sorted list: how many are less -/
theorem take_count (x : Int) : ∀ (xs : List Int), xs.Pairwise (· ≤ ·) → xs.take (xs.countP (· < x)) ++ x :: xs.drop (xs.countP (· < x)) = pushL xs x
  | [], _ => rfl
  | y :: ys, h => by
    have h' := List.pairwise_cons.1 h
    unfold pushL
    by_cases hy : y < x
    · have ih := take_count x ys h'.2
      unfold pushL at ih
      rw [List.countP_cons_of_pos (by simpa using hy), List.takeWhile_cons_of_pos (by simpa using hy), List.dropWhile_cons_of_pos (by simpa using hy), List.take_succ_cons, List.drop_succ_cons, List.cons_append, List.cons_append, ih]
    · have hz : (y :: ys).countP (· < x) = 0 := by
        rw [List.countP_eq_zero]
        intro z hz
        rcases List.mem_cons.1 hz with rfl | hz
        · simpa using hy
        · have := h'.1 z hz
          simp; omega
      rw [hz, List.takeWhile_cons_of_neg (by simpa using hy), List.dropWhile_cons_of_neg (by simpa using hy)]
      rfl
theorem pushL_sorted {xs : List Int} (h : xs.Pairwise (· ≤ ·)) (x : Int) : (pushL xs x).Pairwise (· ≤ ·) := by
  induction xs with
  | nil => simp [pushL]
  | cons y ys ih =>
    have h' := List.pairwise_cons.1 h
    have ih := ih h'.2
    unfold pushL at ih ⊢
    by_cases hy : y < x
    · rw [List.takeWhile_cons_of_pos (by simpa using hy), List.dropWhile_cons_of_pos (by simpa using hy), List.cons_append, List.pairwise_cons]
      refine ⟨fun z hz => ?_, ih⟩
      have hz : z ∈ pushL ys x := hz
      rcases pushL_mem.1 hz with rfl | hz
      · omega
      · exact h'.1 z hz
    · rw [List.takeWhile_cons_of_neg (by simpa using hy), List.dropWhile_cons_of_neg (by simpa using hy), List.nil_append, List.pairwise_cons]
      refine ⟨fun z hz => ?_, h⟩
      rcases List.mem_cons.1 hz with rfl | hz
      · omega
      · have := h'.1 z hz; omega
set_option maxRecDepth 100000 in
set_option maxHeartbeats 4000000 in
theorem push_any (base : Nat) (A : Option Addr) (n c : Nat) (x : Int) (xs : List Int) (w : World) (h : FRow w base A n c xs) (hs : xs.Pairwise (· ≤ ·)) (hb : base ≤ w.heap.size) (hn : n ≤ 100000) :
    Calls Tryz.prog 44 #[.slice A n c, .int .i64 x] w fun e w' => (∃ A' c', e = .returned (.slice A' (n + 1) c') ∧ FRow w' base A' (n + 1) c' (pushL xs x) ∧ ∀ j, (Value.slice A' (n + 1) c').ownBlock = some j → some j = (Value.slice A n c).ownBlock ∨ w.heap.size ≤ j) ∧ w.grownBy w' (Value.slice A n c).ownBlock := by
  have HBS : Hid (∃ b, Calls Tryz.prog 85 #[.slice A n c, .int .i64 x] w fun e w' => e = .returned (.tuple #[.int .i64 (xs.countP (· < x) : Nat), .bool b]) ∧ ∃ q, w' = w.drewN q) := Lib.hid (by
    by_cases h0 : n = 0
    · subst h0
      have hx : xs = [] := List.length_eq_zero_iff.1 h.len
      subst hx
      refine ⟨false, (Tryz.slices_BinarySearch_int_empty A c x w).mono ?_⟩
      rintro e w' ⟨rfl, rfl⟩
      exact ⟨rfl, 0, rfl⟩
    · rcases h.form with ⟨rfl, hc0⟩ | ⟨g, off, cs, rfl, hbg, hbk, hsz, hcell⟩
      · have := h.cap; omega
      · have hl := h.len
        have ht : xs.take n = xs := List.take_of_length_le (by omega)
        have := Tryz.slices_BinarySearch_int g off n c xs x w (by omega) (by omega) (fun j hj => by
          rw [hbk.cell]
          exact hcell j _ (by rw [List.getD_eq_getElem?_getD, List.getElem?_eq_getElem hj]; rfl)) (by rw [ht]; exact hs)
        rw [ht] at this
        exact ⟨_, this⟩)
  obtain ⟨bb, hbs⟩ := HBS.out
  have HB := Lib.hid hbs
  have hcn : xs.countP (· < x) ≤ xs.length := List.countP_le_length
  have HCN := Lib.hid hcn
  have HPL := Lib.hid (take_count x xs hs)
  have HF := Lib.hid h
  clear h hs hbs hcn HBS
  generalize xs.countP (· < x) = i at *
  go_enter Tryz.func44, Tryz.ntmps44
  go_wp2_with (first
    | (go_at_call 85
       refine HB.out.mono ?_
       rintro e w1 ⟨rfl, q, hq⟩
       have hg1 : w.grownBy w1 (Value.slice A n c).ownBlock := by subst hq; exact ⟨rfl, rfl, rfl, Nat.le_refl _, fun _ _ _ => rfl⟩
       have hsz1 : w1.heap.size = w.heap.size := by subst hq; rfl
       have hf1 : FRow w1 base A n c xs := by subst hq; exact ⟨HF.out.len, HF.out.cap, HF.out.max, HF.out.form⟩
       have HG1 := Lib.hid hg1
       have HS1 := Lib.hid hsz1
       have HINS := Lib.hid (insert_any base w1.heap.size A n c i x xs (w1.alloc (.cells #[.int .i64 x] 3)) (hf1.kept (row := none) (World.grownBy_alloc _ _ _) (by simp)) HCN.out (by rw [World.size_alloc, hsz1]; omega) (BlkAt.new w1 _ _) (fun j hj e => by
         rcases hf1.form with ⟨rfl, _⟩ | ⟨g, off, cs, rfl, _, hbk, _⟩
         · simp [Value.ownBlock] at hj
         · have := hbk.lt
           simp [Value.ownBlock] at hj
           omega) hn)
       clear hq hg1 hsz1 hf1 HB)
    | (go_at_call 86
       refine HINS.out.mono ?_
       rintro e w3 ⟨A', c', rfl, h1, h2, h3⟩
       have HA := Lib.hid h1
       have HGR := Lib.hid h2
       have HOB := Lib.hid h3
       clear h1 h2 h3 HINS)
    | fail)
  go_ret
  have hl := HF.out.len
  refine ⟨⟨A', c', by rw [← hl]; rfl, by rw [← HPL.out, ← hl]; exact HA.out, fun j hj => ?_⟩, grown_trans HG1.out (grown_trans (World.grownBy_alloc _ _ _) HGR.out)⟩
  rw [← hl] at hj
  rcases HOB.out j hj with h | h
  · exact .inl h
  · right
    have := HS1.out
    simp at h; omega
end Go.Proofs.YtpahhcmiimllaaaGreatDoor
