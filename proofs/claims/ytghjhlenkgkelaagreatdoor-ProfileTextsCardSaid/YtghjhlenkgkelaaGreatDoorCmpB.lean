/- DERIVED. Compare of the program and of the reference, in one word. -/
import Derived.Test.YtghjhlenkgkelaaGreatDoorRCmp3
import Derived.Test.YtghjhlenkgkelaaGreatDoorTb
set_option linter.unusedSimpArgs false
set_option linter.unusedVariables false
namespace Go.Proofs.YtghjhlenkgkelaaGreatDoor
open Go.RowKit Go.Shelf Go.Sort

theorem rd_own {α : Type} {enc : α → List Value} {k : Nat} (hk : ∀ x, (enc x).length = k) {w : World} {base : Nat} {t : TypeId} {A : Option Addr} {n c : Nat} {xs : List α} (h : w.ownsRow base t k (.slice A n c) n (xs.flatMap enc)) (hn : n = xs.length) : Rd enc k w A n xs :=
  ⟨hn, fun i x hx => by
    have hi := (List.getElem?_eq_some_iff.1 hx).1
    obtain ⟨g, rfl, hg, hc⟩ := row_cells h (by omega)
    exact ⟨g, 0, rfl, hg, fun j u hu => by rw [Nat.zero_add]; exact hc _ _ (flat_at hk hx hu)⟩⟩
theorem erow_own {w : World} {base : Nat} {t : TypeId} {A : Option Addr} {n c : Nat} {xs : List Edg} (h : w.ownsRow base t 4 (.slice A n c) n (xs.flatMap encEL)) (hn : n = xs.length) : ERow w A n xs :=
  ⟨hn, fun i x hx => by
    have hi := (List.getElem?_eq_some_iff.1 hx).1
    obtain ⟨g, rfl, hg, hc⟩ := row_cells h (by omega)
    have hf := fun (j : Nat) (u : Value) (hu : (encEL x)[j]? = some u) => hc _ _ (flat_at (k := 4) (fun _ => rfl) hx hu)
    exact ⟨g, rfl, hg, hf 0 _ rfl, hf 1 _ rfl, hf 2 _ rfl, hf 3 _ rfl⟩⟩
theorem mrg_len : ∀ (xs ys : List Edg), (mrgAll xs ys).length ≤ xs.length + ys.length
  | [], ys => by rw [mrgAll]; simp
  | x :: xs, [] => by rw [mrgAll]; simp
  | x :: xs, y :: ys => by
    rw [mrgAll]
    split
    · have := mrg_len xs (y :: ys); simp at this ⊢; omega
    · split
      · have := mrg_len (x :: xs) ys; simp at this ⊢; omega
      · have := mrg_len xs ys; simp at this ⊢; omega
termination_by xs ys => xs.length + ys.length
noncomputable def chL (xs ys : List Edg) : List Edg := if (ascB xs && ascB ys) = true then (mrgAll xs ys).filter (fun x => !nilE x) else []
noncomputable def chE (xs ys : List Edg) : Int := if (ascB xs && ascB ys) = true then 0 else 1
theorem chL_len (xs ys : List Edg) : (chL xs ys).length ≤ xs.length + ys.length := by
  unfold chL; split
  · exact Nat.le_trans (List.length_filter_le _ _) (mrg_len xs ys)
  · simp
/-- edges and an error are told -/
def EdgRes (t : TypeId) (w : World) (es : List Edg) (er : Int) (e : Ending) (w' : World) : Prop := ∃ v, e = .returned (.tuple #[v, .int .i64 er]) ∧ w'.ownsRow w.heap.size t 4 v es.length (es.flatMap encEL) ∧ Below w.heap.size w w'
theorem ascB_iff {es : List Edg} (h : ascB es = true) : AscL es := by simpa [ascB] using h
theorem pCmp_any (A1 A2 S1 S2 : Option Addr) (n c m d s1 d1 s2 d2 f1 f2 : Nat) (xs ys : List Edg) (w : World) (hn : n ≤ 10000) (hm : m ≤ 10000) (hX : ERow w A1 n xs) (hY : ERow w A2 m ys) :
    Calls Tryz.prog 5 #[.agg #[.slice A1 n c, .slice S1 s1 d1, .float .f32 f1], .agg #[.slice A2 m d, .slice S2 s2 d2, .float .f32 f2]] w (EdgRes 52 w (chL xs ys) (chE xs ys)) := by
  by_cases h : (ascB xs && ascB ys) = true
  · obtain ⟨h1, h2⟩ : ascB xs = true ∧ ascB ys = true := by simpa using h
    refine (Compare_any A1 A2 S1 S2 n c m d s1 d1 s2 d2 f1 f2 xs ys w hn hm hX hY h1 h2).mono ?_
    rintro e w' ⟨out, v, hc, rfl, hr, hb⟩
    have he := chg_mrg hc (asc2_of (ascB_iff h1)) (asc2_of (ascB_iff h2))
    unfold EdgRes chL chE
    rw [if_pos h, if_pos h, ← he]
    exact ⟨v, rfl, hr, hb⟩
  · have h' : (ascB xs && ascB ys) = false := by simpa using h
    refine (Compare_no A1 A2 S1 S2 n c m d s1 d1 s2 d2 f1 f2 xs ys w hn hm hX hY h').mono ?_
    rintro e w' ⟨rfl, hb⟩
    unfold EdgRes chL chE
    rw [if_neg h, if_neg h]
    exact ⟨_, rfl, World.ownsRow_nil _ _ _ _, hb⟩
theorem rCmp_any (A1 A2 S1 S2 : Option Addr) (n c m d s1 d1 s2 d2 f1 f2 : Nat) (xs ys : List Edg) (w : World) (hn : n ≤ 10000) (hm : m ≤ 10000) (hX : Rd encEL 4 w A1 n xs) (hY : Rd encEL 4 w A2 m ys) :
    Calls Tryz.prog 7 #[.agg #[.slice A1 n c, .slice S1 s1 d1, .float .f32 f1], .agg #[.slice A2 m d, .slice S2 s2 d2, .float .f32 f2]] w (EdgRes 60 w (chL xs ys) (chE xs ys)) := by
  by_cases h : (ascB xs && ascB ys) = true
  · obtain ⟨h1, h2⟩ : ascB xs = true ∧ ascB ys = true := by simpa using h
    refine (rCompare_any A1 A2 S1 S2 n c m d s1 d1 s2 d2 f1 f2 xs ys w hn hm hX hY h1 h2).mono ?_
    rintro e w' ⟨v, rfl, hr, hb⟩
    unfold EdgRes chL chE
    rw [if_pos h, if_pos h]
    exact ⟨v, rfl, hr, hb⟩
  · have h' : (ascB xs && ascB ys) = false := by simpa using h
    refine (rCompare_no A1 A2 S1 S2 n c m d s1 d1 s2 d2 f1 f2 xs ys w hn hm hX hY h').mono ?_
    rintro e w' ⟨rfl, hb⟩
    unfold EdgRes chL chE
    rw [if_neg h, if_neg h]
    exact ⟨_, rfl, World.ownsRow_nil _ _ _ _, hb⟩
end Go.Proofs.YtghjhlenkgkelaaGreatDoor
