/- DERIVED. Slices that read as lists; the law's same. -/
import Derived.Test.YtdloadeidijcoaaGreatDoorEqTok
set_option linter.unusedSimpArgs false
set_option linter.unusedVariables false
namespace Go.Proofs.YtdloadeidijcoaaGreatDoor
open Go.RowKit Go.Shelf

/-- a slice that reads as xs, k cells an element -/
structure Rd {α : Type} (enc : α → List Value) (k : Nat) (w : World) (A : Option Addr) (n : Nat) (xs : List α) : Prop where
  len : n = xs.length
  at_ : ∀ i x, xs[i]? = some x → ∃ b o, A = some ⟨b, o, none⟩ ∧ b < w.heap.size ∧ ∀ (j : Nat) (u : Value), (enc x)[j]? = some u → w.cell? ⟨b, o + i * k + j, none⟩ = some u
theorem Rd.below {α : Type} {enc : α → List Value} {k : Nat} {w w' : World} {A : Option Addr} {n : Nat} {xs : List α} (h : Rd enc k w A n xs) (hb : Below w.heap.size w w') : Rd enc k w' A n xs :=
  ⟨h.len, fun i x hx => by
    obtain ⟨b, o, e, hl, hc⟩ := h.at_ i x hx
    have := hb.size
    exact ⟨b, o, e, by omega, fun j u hu => cell_below hb (Nat.le_refl _) (hc j u hu)⟩⟩
theorem flat_at {α : Type} {enc : α → List Value} {k : Nat} (hk : ∀ x, (enc x).length = k) : ∀ (xs : List α) (i : Nat) (x : α) (j : Nat) (u : Value), xs[i]? = some x → (enc x)[j]? = some u → (xs.flatMap enc)[i * k + j]? = some u
  | [], i, x, j, u, h, _ => by simp at h
  | y :: ys, 0, x, j, u, h, hu => by
    simp at h; subst h
    rw [List.flatMap_cons, Nat.zero_mul, Nat.zero_add, List.getElem?_append_left (List.getElem?_eq_some_iff.1 hu).1]; exact hu
  | y :: ys, i + 1, x, j, u, h, hu => by
    have ih := flat_at hk ys i x j u (by simpa using h) hu
    rw [List.flatMap_cons, List.getElem?_append_right (by rw [hk]; rw [Nat.succ_mul]; omega), hk]
    rw [show (i + 1) * k + j - k = i * k + j by rw [Nat.succ_mul]; omega]
    exact ih
theorem rd_own {α : Type} {enc : α → List Value} {k : Nat} {w : World} {base : Nat} {T : TypeId} {v : Value} {xs : List α} (hk : ∀ x, (enc x).length = k) (h : w.ownsRow base T k v xs.length (xs.flatMap enc)) :
    ∃ A c, v = .slice A xs.length c ∧ Rd enc k w A xs.length xs ∧ (A = none ∨ ∃ g, A = some ⟨g, 0, none⟩ ∧ base ≤ g) := by
  rcases h.2 with ⟨rfl, hn⟩ | ⟨g, cap, cur, rfl, hb, hh, hn, hc, hs, ht⟩
  · have : xs = [] := List.length_eq_zero_iff.1 hn
    subst this
    exact ⟨none, 0, rfl, ⟨rfl, by simp⟩, .inl rfl⟩
  · refine ⟨_, cap, rfl, ⟨rfl, fun i x hx => ⟨g, 0, rfl, (Array.getElem?_eq_some_iff.1 hh).1, fun j u hu => ?_⟩⟩, .inr ⟨g, rfl, hb⟩⟩
    have hf := flat_at hk xs i x j u hx hu
    have hj' : i * k + j < xs.length * k := by
      have := (List.getElem?_eq_some_iff.1 hf).1
      rw [h.1] at this; exact this
    rw [← ht, List.getElem?_take_of_lt hj', Array.getElem?_toList] at hf
    rw [Nat.zero_add]
    simp only [World.cell?, hh, hf]
    rfl
theorem encTL_len (x : Tok) : (encTL x).length = 4 := rfl
theorem take_succ_ne {α : Type} {xs ys : List α} {k : Nat} {x y : α} (hx : xs[k]? = some x) (hy : ys[k]? = some y) (h : x ≠ y) : xs ≠ ys := by
  rintro rfl; rw [hx] at hy; cases hy; exact h rfl
end Go.Proofs.YtdloadeidijcoaaGreatDoor
