/- DERIVED. RegistersEnough: what does not walk. -/
import Derived.Test.YtpahhcmiimllaaaGreatDoorAw
import Derived.Test.YtpahhcmiimllaaaGreatDoorAloN
import Derived.Test.YtpahhcmiimllaaaGreatDoorSm1
import Derived.Test.YtpahhcmiimllaaaGreatDoorSpecAll
set_option linter.unusedSimpArgs false
set_option linter.unusedVariables false
namespace Go.Proofs.YtpahhcmiimllaaaGreatDoor
open Go.RowKit Go.Shelf

theorem small_go {most : Nat} : ∀ (l : List BodyL) (n : Nat), smallGo most n l = true → n + l.length ≤ most ∨ l = [] ∧ True
  | [], _, _ => .inr ⟨rfl, trivial⟩
  | b :: r, n, h => by
    unfold smallGo at h
    simp only [Bool.and_eq_true, decide_eq_true_eq] at h
    left
    rcases small_go r _ h.2 with h2 | ⟨rfl, _⟩
    · rw [List.length_cons]; omega
    · simp; omega
theorem small_each {most : Nat} : ∀ (l : List BodyL) (n : Nat), smallGo most n l = true → ∀ b ∈ l, b.code.length ≤ most ∧ ∀ x ∈ b.code, ShortI x
  | [], _, _, b, hb => by cases hb
  | b' :: r, n, h, b, hb => by
    unfold smallGo at h
    simp only [Bool.and_eq_true, decide_eq_true_eq] at h
    rcases List.mem_cons.1 hb with rfl | hb
    · refine ⟨by omega, fun x hx => ?_⟩
      have := List.all_eq_true.1 h.1.2 x hx
      unfold smallI at this
      simp only [Bool.and_eq_true, decide_eq_true_eq] at this
      exact this
    · exact small_each r _ h.2 b hb
theorem small_few {c : CodeL} (h : smallL c = true) : FewC c := by
  unfold smallL at h
  rw [Bool.and_eq_true] at h
  have h1 := h.1
  unfold smallC at h1
  refine ⟨?_, fun b hb => ?_, fun b hb x hx => ?_⟩
  · rcases small_go _ _ h1 with h2 | ⟨h2, _⟩
    · omega
    · rw [h2]; simp
  · have := (small_each _ _ h1 b hb).1; omega
  · exact (small_each _ _ h1 b hb).2 x hx
theorem flat_encI (xs : List Int) : xs.flatMap encI = xs.map (Value.int .i64) := by
  induction xs with
  | nil => rfl
  | cons x xs ih => rw [List.flatMap_cons, ih]; rfl
theorem rd_ints {w : World} {base n c : Nat} {A : Option Addr} {xs : List Int} (h : w.ownsRow base 3 1 (.slice A n c) xs.length (xs.map (Value.int .i64))) : Rd encI 1 w A n xs := by
  rw [← flat_encI] at h
  exact rd_own' encI_len h
theorem err_zero {c : CodeL} {k : Int} (h : errOf c k = 0) : chkC c = 0 ∧ ∃ (kn : Nat) (b : BodyL), k = (kn : Int) ∧ c.bodies[kn]? = some b := by
  unfold errOf at h
  by_cases h1 : chkC c = 0
  · rw [if_neg (by simp [h1])] at h
    by_cases h2 : k < 0 ∨ (c.bodies.length : Int) ≤ k
    · rw [if_pos h2] at h; cases h
    · refine ⟨h1, k.toNat, ?_⟩
      obtain ⟨b, hb⟩ := get_some (xs := c.bodies) (k := k.toNat) (by omega)
      exact ⟨b, by omega, hb⟩
  · rw [if_pos h1] at h
    exact absurd h h1
theorem errs_pos {c : CodeL} {k : Int} (h : errOf c k ≠ 0) : ((errOf c k : Int) != 0) = true := by simp; omega
/-- how many overlap with a first one's beginning -/
def overK (l : List Itv) (v : Itv) (k : Nat) : Nat := ((l.take k).filter (fun u => decide (u.frm ≤ v.frm) && decide (v.frm ≤ u.to))).length
theorem overK_succ {l : List Itv} {v u : Itv} {k : Nat} (h : l[k]? = some u) : overK l v (k + 1) = overK l v k + (if (decide (u.frm ≤ v.frm) && decide (v.frm ≤ u.to)) = true then 1 else 0) := by
  unfold overK
  rw [take_snoc h, List.filter_append, List.length_append]
  congr 1
  rw [List.filter_cons]
  cases hh : (decide (u.frm ≤ v.frm) && decide (v.frm ≤ u.to)) <;> simp
theorem overK_le (l : List Itv) (v : Itv) (k : Nat) : overK l v k ≤ l.length := by
  unfold overK
  exact Nat.le_trans (List.length_filter_le _ _) (List.length_take_le' k l)
theorem overK_all (l : List Itv) (v : Itv) : overK l v l.length = overlap l v := by unfold overK overlap; rw [List.take_length]
def mostK (l : List Itv) (k : Nat) : Nat := (l.take k).foldl (fun m v => max m (overlap l v)) 0
theorem mostK_succ {l : List Itv} {v : Itv} {k : Nat} (h : l[k]? = some v) : mostK l (k + 1) = max (mostK l k) (overlap l v) := by
  unfold mostK
  rw [take_snoc h, List.foldl_append]; rfl
theorem mostK_le {l : List Itv} : ∀ k, mostK l k ≤ l.length := fun k => by
  induction k with
  | zero => exact Nat.zero_le _
  | succ k ih =>
    rcases hv : l[k]? with _ | v
    · have : l.take (k + 1) = l.take k := by rw [List.take_add_one, hv]; simp
      unfold mostK at ih ⊢
      rw [this]; exact ih
    · rw [mostK_succ hv]
      have : overlap l v ≤ l.length := List.length_filter_le _ _
      omega
theorem fold_max (f : Itv → Nat) : ∀ (us : List Itv) (m : Nat), m ≤ us.foldl (fun m v => max m (f v)) m ∧ ∀ u ∈ us, f u ≤ us.foldl (fun m v => max m (f v)) m
  | [], m => ⟨Nat.le_refl _, fun u h => by cases h⟩
  | a :: us, m => by
    rw [List.foldl_cons]
    have h := fold_max f us (max m (f a))
    refine ⟨by omega, fun u hu => ?_⟩
    rcases List.mem_cons.1 hu with rfl | hu
    · have := h.1; omega
    · exact h.2 u hu
theorem most_all (l : List Itv) : ∀ u ∈ l, overlap l u ≤ mostK l l.length := by
  unfold mostK
  rw [List.take_length]
  exact (fold_max (overlap l) l 0).2
end Go.Proofs.YtpahhcmiimllaaaGreatDoor
