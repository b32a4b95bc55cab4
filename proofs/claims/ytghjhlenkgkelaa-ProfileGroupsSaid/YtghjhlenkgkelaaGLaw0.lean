/- DERIVED. What the walk of ProfileGroups asks of the groups of a trace. -/
import Derived.Test.YtghjhlenkgkelaaCounts0
import Derived.Deep.OwnRows
set_option linter.unusedSimpArgs false
set_option linter.unusedVariables false
namespace Go.Proofs.Ytghjhlenkgkelaa
open Go.RowKit Go.Shelf Go.Sort

/-- the row of marks: 1 at the numbers of P -/
def MetAt (w : World) (M n : Nat) (P : List Nat) : Prop := BlkAt w M 3 ((List.range n).map (fun m => Value.int .i64 (if m ∈ P then 1 else 0))).toArray
theorem MetAt.lt' {w : World} {M n : Nat} {P : List Nat} (h : MetAt w M n P) : M < w.heap.size := BlkAt.lt h
theorem MetAt.made (w : World) (n : Nat) : MetAt (w.alloc (.cells (madeCells #[.int .i64 0] n) 3)) w.heap.size n [] := by
  have h := BlkAt.new w 3 (madeCells #[.int .i64 0] n)
  have e : madeCells #[.int .i64 0] n = ((List.range n).map (fun m => Value.int .i64 (if m ∈ ([] : List Nat) then 1 else 0))).toArray := by
    apply Array.toList_inj.1
    rw [toList_madeCells_one]
    simp only [List.not_mem_nil, if_false]
    rw [List.map_const']; simp
  unfold MetAt; rw [← e]; exact h
theorem MetAt.cell {w : World} {M n : Nat} {P : List Nat} (h : MetAt w M n P) {m : Nat} (hm : m < n) : w.cell? ⟨M, m, none⟩ = some (.int .i64 (if m ∈ P then 1 else 0)) := by
  have := BlkAt.cell h m
  rw [this]; simp [hm]
theorem MetAt.set {w : World} {M n : Nat} {P : List Nat} (h : MetAt w M n P) {m : Nat} (hm : m ∉ P) : MetAt (w.setCell ⟨M, m, none⟩ (.int .i64 1)) M n (P ++ [m]) := by
  have := BlkAt.set h m (.int .i64 1)
  unfold MetAt
  have e : (((List.range n).map (fun m => Value.int .i64 (if m ∈ P then 1 else 0))).toArray).setIfInBounds m (.int .i64 1) = ((List.range n).map (fun k => Value.int .i64 (if k ∈ P ++ [m] then 1 else 0))).toArray := by
    apply Array.ext_getElem?
    intro k
    rw [Array.getElem?_setIfInBounds]
    by_cases hk : m = k
    · subst hk
      by_cases hn : m < n
      · simp [hn]
      · simp [hn]
    · rw [if_neg hk]
      simp only [List.getElem?_toArray, List.getElem?_map, List.mem_append, List.mem_singleton]
      by_cases hn : k < n
      · have : (k ∈ P ∨ k = m) ↔ k ∈ P := ⟨fun h => h.resolve_right (fun e => hk e.symm), .inl⟩
        simp [List.getElem?_range hn, this]
      · rw [List.getElem?_eq_none (by simpa using hn)]; rfl
  rw [e] at this; exact this

section
variable {xs : List Acc} {R : List GO} (I : Inv xs xs.length xs.length R)
include I
theorem Inv.fresh {i k m : Nat} {p : GO} (hp : R[i]? = some p) (hm : p.1.mem[k]? = some m) : m ∉ (R.take i).flatMap (·.1.mem) ++ p.1.mem.take k := by
  have hR : R = R.take i ++ p :: R.drop (i + 1) := by rw [← drop_cons hp, List.take_append_drop]
  have hM : p.1.mem = p.1.mem.take k ++ m :: p.1.mem.drop (k + 1) := by rw [← drop_cons hm, List.take_append_drop]
  have hn := I.nodup
  rw [hR, List.flatMap_append, List.flatMap_cons, ← List.append_assoc] at hn
  have h1 := (List.nodup_append.1 hn).1
  rw [hM] at h1
  rw [← List.append_assoc] at h1
  intro hmem
  exact (List.nodup_append.1 h1).2.2 m hmem m (by simp) rfl
theorem Inv.asc_at {p : GO} (hp : p ∈ R) {k m m' : Nat} (hm : p.1.mem[k + 1]? = some m) (hm' : p.1.mem[k]? = some m') : m' < m := by
  have h := I.asc p hp
  obtain ⟨h1, rfl⟩ := List.getElem?_eq_some_iff.1 hm
  obtain ⟨h2, rfl⟩ := List.getElem?_eq_some_iff.1 hm'
  exact List.pairwise_iff_getElem.1 h _ _ h2 h1 (by omega)
theorem Inv.asc_le {p : GO} (hp : p ∈ R) {k m a : Nat} (hm : p.1.mem[k]? = some m) (ha : p.1.mem[0]? = some a) : a ≤ m := by
  have h := I.asc p hp
  obtain ⟨h1, rfl⟩ := List.getElem?_eq_some_iff.1 hm
  obtain ⟨h2, rfl⟩ := List.getElem?_eq_some_iff.1 ha
  rcases Nat.eq_zero_or_pos k with h0 | h0
  · subst h0; exact Nat.le_refl _
  · exact Nat.le_of_lt (List.pairwise_iff_getElem.1 h _ _ h2 h1 h0)
/-- an access between the first and a later member -/
theorem Inv.between {p : GO} (hp : p ∈ R) {k m a j : Nat} (hm : p.1.mem[k]? = some m) (ha : p.1.mem[0]? = some a) (h1 : a ≤ j) (h2 : j < m) {c z : Acc} (hc : xs[j]? = some c) (hz : xs[a]? = some z) (ht : c.task = z.task) :
    ((c.kind != 1) = false ∨ ((c.kind != 1) = true ∧ (c.kind != 2) = false)) ∧
      ((c.kind == z.kind) = true ∨ ((c.kind == z.kind) = false ∧ (c.frm != z.frm) = true) ∨ ((c.kind == z.kind) = false ∧ (c.frm != z.frm) = false ∧ (c.at' != z.at') = true) ∨
        ((c.kind == z.kind) = false ∧ (c.frm != z.frm) = false ∧ (c.at' != z.at') = false ∧ ∀ (q : Nat) (y : Acc) (mq : Nat), p.1.mem[q]? = some mq → mq < j → xs[mq]? = some y → y.place ≠ c.place)) := by
  obtain ⟨z', hz', s1, s2, s3, s4⟩ := I.same p hp a (List.mem_of_getElem? ha)
  rw [hz] at hz'; injection hz' with hz'; subst hz'
  have ok := I.ok p hp m (List.mem_of_getElem? hm) j (fun b hb => by
    rw [List.head?_eq_getElem?] at hb
    rw [ha] at hb; injection hb with hb; omega) h2 c hc (by rw [ht, s1])
  obtain ⟨hd, hq⟩ := ok
  refine ⟨?_, ?_⟩
  · unfold dataB at hd
    by_cases h : c.kind = 1
    · left; simp [h]
    · right; simp [h] at hd ⊢; exact hd
  · by_cases e1 : c.kind = z.kind
    · left; simpa using e1
    · by_cases e2 : c.frm = z.frm
      · by_cases e3 : c.at' = z.at'
        · right; right; right
          refine ⟨by simpa using e1, by simpa using e2, by simpa using e3, fun q y mq hmq hlt hy => ?_⟩
          rcases hq with h | h | h | h
          · exact absurd (h.trans s2.symm) e1
          · exact absurd (e2.trans s3) h
          · exact absurd (e3.trans s4) h
          · exact h mq (List.mem_of_getElem? hmq) hlt y hy
        · right; right; left; exact ⟨by simpa using e1, by simpa using e2, by simpa using e3⟩
      · right; left; exact ⟨by simpa using e1, by simpa using e2⟩
end
/-- the groups' rows, as the walk reads them -/
def RowsRd (wr : World) (Ag : Option Addr) (R : List GO) : Prop :=
  ∀ (i : Nat) (p : GO), R[i]? = some p → ∃ gb b o c, Ag = some ⟨gb, 0, none⟩ ∧ wr.cell? ⟨gb, i, none⟩ = some (.slice (some ⟨b, o, none⟩) p.1.mem.length c) ∧ gb < wr.heap.size ∧ b < wr.heap.size ∧ ∀ (k m : Nat), p.1.mem[k]? = some m → wr.cell? ⟨b, o + k, none⟩ = some (.int .i64 (m : Int))
theorem rows_rd {w2 : World} {base : Nat} {Ag : Option Addr} {cg : Nat} {ms : List Value} {R : List GO} (h : w2.ownsRow base 44 1 (.slice Ag ms.length cg) ms.length ms) (hR : RowsAt w2 ms R) (hne : ∀ p ∈ R, p.1.mem ≠ []) : RowsRd w2 Ag R := by
  intro i p hp
  obtain ⟨A, c, hv, hS⟩ := hR.2 i p hp
  have hi : i < ms.length := (List.getElem?_eq_some_iff.1 hv).1
  obtain ⟨gb, rfl, hgb, hc⟩ := row_cells h (by omega)
  have hn := hne p (List.mem_of_getElem? hp)
  obtain ⟨a, l, hm⟩ : ∃ a l, p.1.mem = a :: l := by
    cases hm : p.1.mem with
    | nil => exact absurd hm hn
    | cons a l => exact ⟨a, l, rfl⟩
  obtain ⟨b, o, rfl, hb, _⟩ := hS.at_ 0 a (by rw [hm]; rfl)
  refine ⟨gb, b, o, c, rfl, hc i _ hv, hgb, hb, fun k m hk => ?_⟩
  obtain ⟨b', o', e, _, hcell⟩ := hS.at_ k m hk
  injection e with e
  injection e with e1 e2
  subst e1 e2
  exact hcell
theorem RowsRd.below {w w' : World} {Ag : Option Addr} {R : List GO} (h : RowsRd w Ag R) (hb : Below w.heap.size w w') : RowsRd w' Ag R := by
  intro i p hp
  obtain ⟨gb, b, o, c, h1, h2, h3, h4, h5⟩ := h i p hp
  have hs := hb.size
  exact ⟨gb, b, o, c, h1, cell_below hb (Nat.le_refl _) h2, by omega, by omega, fun k m hk => cell_below hb (Nat.le_refl _) (h5 k m hk)⟩
end Go.Proofs.Ytghjhlenkgkelaa
