/- DERIVED. slices.SortFunc at the intervals. -/
import Derived.Test.YtpahhcmiimllaaaGreatDoorLay2
import Derived.Test.YtpahhcmiimllaaaGreatDoorCmpO
set_option linter.unusedSimpArgs false
set_option linter.unusedVariables false
namespace Go.Proofs.YtpahhcmiimllaaaGreatDoor
open Go.RowKit Go.Sort Go.Shelf

section
variable {α : Type} {enc : α → List Value} {k : Nat}
theorem flat_len (hk : ∀ x, (enc x).length = k) : ∀ ss : List α, (ss.flatMap enc).length = ss.length * k
  | [] => by simp
  | x :: ss => by rw [List.flatMap_cons, List.length_append, hk, flat_len hk ss, List.length_cons, Nat.succ_mul]; omega
theorem flat_get (hk : ∀ x, (enc x).length = k) (hk0 : 0 < k) : ∀ (ss : List α) (j : Nat) (h : j / k < ss.length), (ss.flatMap enc)[j]? = (enc ss[j / k])[j % k]?
  | [], j, h => by simp at h
  | x :: ss, j, h => by
    rw [List.flatMap_cons]
    by_cases hj : j < k
    · rw [List.getElem?_append_left (by rw [hk]; exact hj)]
      have : j / k = 0 := Nat.div_eq_of_lt hj
      simp [this, Nat.mod_eq_of_lt hj]
    · have e1 : j / k = (j - k) / k + 1 := by
        conv => lhs; rw [show j = (j - k) + k by omega]
        exact Nat.add_div_right _ hk0
      have e2 : j % k = (j - k) % k := by
        conv => lhs; rw [show j = (j - k) + k by omega]
        exact Nat.add_mod_right _ _
      rw [List.getElem?_append_right (by rw [hk]; omega), hk, flat_get hk hk0 ss (j - k) (by rw [e1] at h; simpa using h), e2]
      congr 2
      simp [e1]

end
section
variable {α : Type} [Inhabited α] {enc : α → List Value} {k : Nat}

theorem flatK_get (hk : ∀ x, (enc x).length = k) (hk0 : 0 < k) (ss : List α) (j : Nat) (h : j < ss.length * k) : (ss.flatMap enc)[j]? = some (flatK enc k ss.toArray)[j]! := by
  have hj : j / k < ss.length := (Nat.div_lt_iff_lt_mul hk0).2 h
  have hm : j % k < k := Nat.mod_lt _ hk0
  rw [flat_get hk hk0 ss j hj, get_flatK enc k _ _ (by simpa using h), List.getElem?_eq_getElem (by rw [hk]; exact hm)]
  simp [hj, hk, hm]

theorem holdsK_of_own (hk : ∀ x, (enc x).length = k) (hk0 : 0 < k) {w : World} {g : Nat} {cur : Array Value} {e : TypeId} {ss : List α} (hb : w.heap[g]? = some (.cells cur e (0, 0))) (ht : cur.toList.take (ss.length * k) = ss.flatMap enc) : HoldsK enc k w g 0 ss.toArray := by
  intro j hj
  have hj' : j < ss.length * k := by simpa using hj
  refine ⟨?_, by simp [World.frozen?, hb]⟩
  have h1 : (cur.toList.take (ss.length * k))[j]? = (ss.flatMap enc)[j]? := by rw [ht]
  rw [List.getElem?_take_of_lt hj', flatK_get hk hk0 ss j hj'] at h1
  simp only [World.cell?, hb, Nat.zero_add, Option.isSome_none, Bool.false_eq_true, if_false]
  rw [← Array.getElem?_toList, h1]
  rfl

theorem heap_sortedK {w : World} {g n : Nat} {os : Array Obj} {cur : Array Value} {e : TypeId} (d : Array α) (hb : w.heap[g]? = some (.cells cur e (0, 0))) :
    (sortWorldK enc k w g 0 n d os).heap[g]? = some (.cells (putCells id 0 (flatK enc k d) cur) e (0, 0)) := by
  have hg : g < w.heap.size := (Array.getElem?_eq_some_iff.1 hb).1
  unfold sortWorldK putRowK
  rw [heap_grow_old _ _ (by simpa using hg)]
  simp [putRow, mapBlock, Sort.ahead, Array.getElem?_modify, hb, onCells]

theorem grownBy_sortedK {w : World} {g n : Nat} {os : Array Obj} (d : Array α) : w.grownBy (sortWorldK enc k w g 0 n d os) (some g) := by
  unfold sortWorldK putRowK
  refine ⟨rfl, rfl, rfl, by simp, fun j hj hne => ?_⟩
  rw [heap_grow_old _ _ (by simpa using hj)]
  have : g ≠ j := fun e => hne (by rw [e])
  simp [putRow, mapBlock, Sort.ahead, Array.getElem?_modify, this]

theorem own_sorted (hk : ∀ x, (enc x).length = k) (hk0 : 0 < k) {w : World} {base : Nat} {e : TypeId} {g n cap m : Nat} {os : Array Obj} {xs : List Value} (h : w.ownsRow base e k (.slice (some ⟨g, 0, none⟩) n cap) n xs) (d : Array α) (hd : d.size = n) (hn0 : n ≠ 0) :
    (sortWorldK enc k w g 0 m d os).ownsRow base e k (.slice (some ⟨g, 0, none⟩) n cap) n (d.toList.flatMap enc) := by
  refine ⟨by rw [flat_len hk]; simp [hd], .inr ?_⟩
  rcases h.2 with ⟨_, h0⟩ | ⟨g', cap', cur, hv, hb, hh, hn, hc, hs, ht⟩
  · exact absurd h0 hn0
  · injection hv with ha _ hcap
    injection ha with ha
    injection ha with ha
    subst ha hcap
    refine ⟨g, cap, _, rfl, hb, heap_sortedK d hh, hn, hc, by simp [putCells, hs], ?_⟩
    have hle : n * k ≤ cur.size := by rw [hs]; exact Nat.mul_le_mul_right _ hn
    apply List.ext_getElem?
    intro j
    by_cases hj : j < n * k
    · rw [List.getElem?_take_of_lt hj, Array.getElem?_toList]
      have h1 : (d.toList.flatMap enc)[j]? = some (flatK enc k d)[j]! := by
        have := flatK_get hk hk0 d.toList j (by simpa [hd] using hj)
        simpa using this
      rw [h1]
      simp [putCells, show j < cur.size by omega, hd, hj]
    · rw [List.getElem?_take_eq_none (by omega), List.getElem?_eq_none (by rw [flat_len hk]; simp [hd]; omega)]

/-- what a row of the call's own is behind the sort -/
theorem perm_of_permIn {d d' : Array α} (h : PermIn 0 d.size d d') : d'.toList.Perm d.toList := by
  obtain ⟨h1, _, h2⟩ := h
  have e1 : d.extract 0 d.size = d := by simp
  have e2 : d'.extract 0 d.size = d' := by rw [← h1]; simp
  rwa [e1, e2] at h2
theorem pairwise_of_sortedIn {lt : α → α → Bool} {d : Array α} (h : SortedIn lt 0 d.size d) : d.toList.Pairwise (fun x y => lt y x = false) := by
  rw [List.pairwise_iff_getElem]
  intro i j hi hj hij
  have := h i j (Nat.zero_le _) hij (by simpa using hj)
  have hi' : i < d.size := by simpa using hi
  have hj' : j < d.size := by simpa using hj
  rw [getElem!_pos d i hi', getElem!_pos d j hj'] at this
  simpa using this
end

def ltIt (x y : ItvI) : Prop := x.frm < y.frm ∨ (x.frm = y.frm ∧ x.reg < y.reg)
theorem it_lt (x y : ItvI) : Go.Proofs.ltOf cfIt x y = true ↔ ltIt x y := by
  unfold Go.Proofs.ltOf cfIt orI cmpI ltIt
  rw [decide_eq_true_eq]
  split <;> split <;> (try split) <;> (try split) <;> omega
theorem it_nlt (x y : ItvI) : Go.Proofs.ltOf cfIt x y = false ↔ ¬ ltIt x y := by
  rw [← it_lt, Bool.not_eq_true]
theorem it_swo : SWO (Go.Proofs.ltOf cfIt) where
  irrefl x := by rw [it_nlt]; unfold ltIt; omega
  trans x y z h1 h2 := by rw [it_lt] at *; unfold ltIt at *; omega
  ntrans x y z h1 h2 := by rw [it_nlt] at *; unfold ltIt at *; omega
theorem it_sortNone (cap : Nat) (w : World) : Calls Tryz.prog 83 #[.slice none 0 cap, .func (.func 84) #[] #[]] w fun e w' => e = .returned (.tuple #[]) ∧ w' = w := by
  go_enter Tryz.func83, Tryz.ntmps83
  go_wp2
  refine wp_loop_rounds 1 ?_
  rw [rounds_succ]
  go_wp2
  refine wp_loop_rounds 1 ?_
  rw [rounds_succ]
  go_wp2
  go_end0
  go_wp2
  refine bodyPost_ret (results_none rfl _ _ _) rfl ?_
  simp only []
  go_wp2
  go_end0
  exact ⟨rfl, rfl⟩
theorem it_sort (g n cap : Nat) (ss : List ItvI) (w : World) (base : Nat) (hn : n = ss.length) (hn0 : n ≠ 0) (hsz : n ≤ 1000000) (hown : w.ownsRow base 44 3 (.slice (some ⟨g, 0, none⟩) n cap) n (ss.flatMap encIt)) :
    Calls Tryz.prog 83 #[.slice (some ⟨g, 0, none⟩) n cap, .func (.func 84) #[] #[]] w fun e w' => e = .returned (.tuple #[]) ∧ ∃ ts : List ItvI, ts.Perm ss ∧ ts.Pairwise (fun x y => ¬ ltIt y x) ∧
      w'.ownsRow base 44 3 (.slice (some ⟨g, 0, none⟩) n cap) n (ts.flatMap encIt) ∧ w.grownBy w' (some g) := by
  have hk : ∀ x, (encIt x).length = 3 := fun _ => rfl
  obtain ⟨g', cap', hv, hb, hlt⟩ := hown.form (Nat.pos_of_ne_zero hn0)
  injection hv with hv _ hcap
  injection hv with hv
  injection hv with hv
  subst hv hcap
  have hb' : ∃ cur, w.heap[g]? = some (.cells cur 44 (0, 0)) ∧ cur.toList.take (n * 3) = ss.flatMap encIt := by
    rcases hown.2 with ⟨_, h0⟩ | ⟨g', cap', cur, hv, _, hh, _, _, _, ht⟩
    · exact absurd h0 hn0
    · injection hv with ha _ _
      injection ha with ha
      injection ha with ha
      subst ha
      exact ⟨cur, hh, ht⟩
  obtain ⟨cur, hh, ht⟩ := hb'
  have hH : HoldsK encIt 3 w g 0 ss.toArray := holdsK_of_own hk (by omega) hh (by rw [← hn]; exact ht)
  have hcmp : CmpLays Tryz.prog 84 #[] encIt 3 cfIt g 0 ss.toArray.size w := fun m os dk _ x y => cmpIt_any x y _
  have hs := AnyQ.slices_SortFunc Tryz.l6s 3 (fun _ => by kernel_rfl) (fun _ => by kernel_rfl) encIt hk (by intro x v hv; simp [encIt] at hv; rcases hv with rfl | rfl | rfl <;> rfl) cfIt it_swo 84 #[] g 0 cap ss.toArray w
    (enters_of Tryz.func84 (by kernel_rfl) rfl) hcmp hH hlt (by simp; omega)
  have e1 : ss.toArray.size = n := by simp [hn]
  rw [e1] at hs
  refine hs.mono ?_
  rintro e w' ⟨rfl, d', m, os, hp, hso, rfl⟩
  rw [← e1] at hp
  have hd : d'.size = n := hp.1.trans e1
  refine ⟨rfl, d'.toList, by simpa using perm_of_permIn hp, ?_, own_sorted hk (by omega) hown d' hd hn0, grownBy_sortedK d'⟩
  have := pairwise_of_sortedIn (lt := Go.Proofs.ltOf cfIt) (d := d') (by rw [hd]; exact hso)
  exact this.imp (fun h => (it_nlt _ _).1 h)
end Go.Proofs.YtpahhcmiimllaaaGreatDoor
