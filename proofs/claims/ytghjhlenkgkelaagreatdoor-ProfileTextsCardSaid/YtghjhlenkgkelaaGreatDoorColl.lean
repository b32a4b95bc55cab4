/- DERIVED. What the collector's memory holds; how each step leaves it. -/
import Derived.Test.YtghjhlenkgkelaaGreatDoorPreds
set_option linter.unusedSimpArgs false
set_option linter.unusedVariables false
namespace Go.Proofs.YtghjhlenkgkelaaGreatDoor
open Go.RowKit Go.Shelf Go.Sort

theorem own_blk_ne {w : World} {base : Nat} {e t : TypeId} {size n g : Nat} {v : Value} {xs : List Value} {cs : Array Value} (h : w.ownsRow base e size v n xs) (hg : BlkAt w g t cs) (hne : e ≠ t) : some g ≠ v.ownBlock := by
  rcases h.2 with ⟨rfl, _⟩ | ⟨g', cap, cur, rfl, _, hh, _⟩
  · simp [Value.ownBlock]
  · intro he
    obtain rfl : g = g' := by simpa [Value.ownBlock] using he
    have := hg.symm.trans hh
    injection this with this
    injection this with _ ht
    exact hne ht.symm
theorem own_own_ne {w : World} {base base' : Nat} {e e' : TypeId} {size n size' n' : Nat} {v v' : Value} {xs xs' : List Value} (h : w.ownsRow base e size v n xs) (h' : w.ownsRow base' e' size' v' n' xs') (hne : e ≠ e') : v.ownBlock = none ∨ v.ownBlock ≠ v'.ownBlock := by
  rcases h.2 with ⟨rfl, _⟩ | ⟨g, cap, cur, rfl, _, hh, _⟩
  · left; rfl
  · right
    exact own_blk_ne (g := g) (t := e) (cs := cur) h' hh (fun e => hne e.symm)
theorem own_set {w : World} {base : Nat} {e : TypeId} {size n : Nat} {v : Value} {xs : List Value} (h : w.ownsRow base e size v n xs) {g : Nat} (hg : some g ≠ v.ownBlock) (i : Nat) (u : Value) : (w.setCell ⟨g, i, none⟩ u).ownsRow base e size v n xs :=
  h.kept (setCell_grown _ _ _ _) (.inr (Ne.symm hg))
theorem blk_ne_new {w : World} {g : Nat} {t : TypeId} {cs : Array Value} (h : BlkAt w g t cs) : g ≠ w.heap.size := by have := h.lt; omega
theorem own_lt {w : World} {base : Nat} {e : TypeId} {size n j : Nat} {v : Value} {xs : List Value} (h : w.ownsRow base e size v n xs) (hj : v.ownBlock = some j) : base ≤ j ∧ j < w.heap.size := h.lt j hj

def gcells (x : Grp) (m : Value) : Array Value := #[.int .i64 x.task, .int .i64 x.kind, .int .i64 x.frm, .int .i64 x.at', m]

structure Coll (w : World) (B C : Nat) (T : Value) (gs : List (Nat × Grp)) (op : List Nat) (va vo : Value) (mv : Nat → Value) : Prop where
  blk : BlkAt w C 108 #[T, va, vo]
  all_ : w.ownsRow B 84 1 va gs.length (gs.map (fun p => ptr p.1))
  opn : w.ownsRow B 84 1 vo op.length (op.map ptr)
  apart : vo.ownBlock = none ∨ vo.ownBlock ≠ va.ownBlock
  grp : ∀ p ∈ gs, BlkAt w p.1 87 (gcells p.2 (mv p.1))
  mem : ∀ p ∈ gs, w.ownsRow B 3 1 (mv p.1) p.2.mem.length (p.2.mem.map intV)
  mne : ∀ p ∈ gs, p.2.mem ≠ []
  nodup : (gs.map (·.1)).Nodup
  mapart : ∀ p ∈ gs, ∀ q ∈ gs, p.1 ≠ q.1 → (mv p.1).ownBlock ≠ (mv q.1).ownBlock
  sub : ∀ g ∈ op, ∃ x, (g, x) ∈ gs
  lowC : B ≤ C
  lowG : ∀ p ∈ gs, B ≤ p.1

section
variable {w w' : World} {B C : Nat} {T : Value} {gs : List (Nat × Grp)} {op : List Nat} {va vo : Value} {mv : Nat → Value}

theorem Coll.kept {row : Option Nat} (h : Coll w B C T gs op va vo mv) (hg : w.grownBy w' row) (h1 : some C ≠ row) (h2 : va.ownBlock = none ∨ va.ownBlock ≠ row) (h3 : vo.ownBlock = none ∨ vo.ownBlock ≠ row) (h4 : ∀ p ∈ gs, some p.1 ≠ row ∧ ((mv p.1).ownBlock = none ∨ (mv p.1).ownBlock ≠ row)) : Coll w' B C T gs op va vo mv where
  blk := h.blk.kept hg h1
  all_ := h.all_.kept hg h2
  opn := h.opn.kept hg h3
  apart := h.apart
  grp p hp := (h.grp p hp).kept hg (h4 p hp).1
  mem p hp := (h.mem p hp).kept hg (h4 p hp).2
  mne := h.mne
  nodup := h.nodup
  mapart := h.mapart
  sub := h.sub
  lowC := h.lowC
  lowG := h.lowG
theorem none_or (o : Option Nat) : o = none ∨ o ≠ none := by by_cases h : o = none; exact .inl h; exact .inr h
theorem Coll.below (h : Coll w B C T gs op va vo mv) (hb : Below w.heap.size w w') : Coll w' B C T gs op va vo mv :=
  h.kept (grown_of_below (row := none) hb) (by simp) (none_or _) (none_or _) (fun _ _ => ⟨by simp, none_or _⟩)
theorem Coll.alloc (h : Coll w B C T gs op va vo mv) (o : Obj) : Coll (w.alloc o) B C T gs op va vo mv := h.below ((Below.refl _ w).alloc (Nat.le_refl _) o)

/-- The open groups written anew. -/
theorem Coll.setOpen (h : Coll w B C T gs op va vo mv) {w1 : World} {vo' : Value} {op' : List Nat} (hg : w.grownBy w1 vo.ownBlock) (hrow : w1.ownsRow B 84 1 vo' op'.length (op'.map ptr)) (hob : vo'.ownBlock = vo.ownBlock ∨ ∃ k, vo'.ownBlock = some k ∧ w.heap.size ≤ k) (hsub : ∀ g ∈ op', ∃ x, (g, x) ∈ gs) :
    Coll (w1.setCell ⟨C, 2, none⟩ vo') B C T gs op' va vo' mv := by
  have c1 : BlkAt w1 C 108 #[T, va, vo] := h.blk.kept hg (own_blk_ne h.opn h.blk (by decide))
  have a1 : w1.ownsRow B 84 1 va gs.length (gs.map (fun p => ptr p.1)) := h.all_.kept hg (by
    rcases h.apart with e | e
    · rw [e]; exact none_or _
    · exact .inr (Ne.symm e))
  have g1 : ∀ p ∈ gs, BlkAt w1 p.1 87 (gcells p.2 (mv p.1)) := fun p hp => (h.grp p hp).kept hg (own_blk_ne h.opn (h.grp p hp) (by decide))
  have m1 : ∀ p ∈ gs, w1.ownsRow B 3 1 (mv p.1) p.2.mem.length (p.2.mem.map intV) := fun p hp => (h.mem p hp).kept hg (own_own_ne (h.mem p hp) h.opn (by decide))
  refine ⟨?_, own_set a1 (own_blk_ne a1 c1 (by decide)) _ _, own_set hrow (own_blk_ne hrow c1 (by decide)) _ _, ?_, fun p hp => ?_, fun p hp => own_set (m1 p hp) (own_blk_ne (m1 p hp) c1 (by decide)) _ _, h.mne, h.nodup, h.mapart, hsub, h.lowC, h.lowG⟩
  · have := c1.set 2 vo'; simpa using this
  · rcases hob with e | ⟨k, e, hk⟩
    · rw [e]; exact h.apart
    · right
      rw [e]
      intro e'
      have := (own_lt h.all_ e'.symm).2
      omega
  · refine (g1 p hp).far (fun e => ?_) _
    have hb := g1 p hp
    have e' : p.1 = C := e
    rw [e'] at hb
    have := hb.symm.trans c1
    injection this with this
    injection this with _ ht
    exact absurd ht (by decide)
theorem blk_blk_ne {w : World} {g g' : Nat} {t t' : TypeId} {cs cs' : Array Value} (h : BlkAt w g t cs) (h' : BlkAt w g' t' cs') (hne : t ≠ t') : g ≠ g' := by
  rintro rfl
  have := h.symm.trans h'
  injection this with this
  injection this with _ ht
  exact hne ht

/-- A member put into a group. -/
theorem Coll.pushMem (h : Coll w B C T gs op va vo mv) {g i : Nat} {x : Grp} (hgx : (g, x) ∈ gs) {w1 : World} {v' : Value} (hg : w.grownBy w1 (mv g).ownBlock) (hrow : w1.ownsRow B 3 1 v' (x.mem.length + 1) (x.mem.map intV ++ [intV i])) (hob : v'.ownBlock = (mv g).ownBlock ∨ ∃ k, v'.ownBlock = some k ∧ w.heap.size ≤ k) :
    Coll (w1.setCell ⟨g, 4, none⟩ v') B C T (gs.map (fun p => if p.1 = g then (g, { p.2 with mem := p.2.mem ++ [i] }) else p)) op va vo (fun k => if k = g then v' else mv k) := by
  have uniq : ∀ p ∈ gs, p.1 = g → p = (g, x) := by
    intro p hp e
    obtain ⟨l1, l2, hl⟩ := List.append_of_mem hgx
    have hd := h.nodup
    rw [hl] at hd hp
    rw [List.map_append, List.nodup_append] at hd
    rcases List.mem_append.1 hp with hp | hp
    · exact (hd.2.2 p.1 (List.mem_map_of_mem hp) g (by simp) e).elim
    · rcases List.mem_cons.1 hp with rfl | hp
      · rfl
      · have := hd.2.1
        simp only [List.map_cons, List.nodup_cons] at this
        exact absurd (e ▸ List.mem_map_of_mem (f := Prod.fst) hp : g ∈ l2.map Prod.fst) this.1
  have hmg := h.mem _ hgx
  have c1 : BlkAt w1 C 108 #[T, va, vo] := h.blk.kept hg (own_blk_ne hmg h.blk (by decide))
  have a1 : w1.ownsRow B 84 1 va gs.length (gs.map (fun p => ptr p.1)) := h.all_.kept hg (own_own_ne h.all_ hmg (by decide))
  have o1 : w1.ownsRow B 84 1 vo op.length (op.map ptr) := h.opn.kept hg (own_own_ne h.opn hmg (by decide))
  have g1 : ∀ p ∈ gs, BlkAt w1 p.1 87 (gcells p.2 (mv p.1)) := fun p hp => (h.grp p hp).kept hg (own_blk_ne hmg (h.grp p hp) (by decide))
  have m1 : ∀ p ∈ gs, p.1 ≠ g → w1.ownsRow B 3 1 (mv p.1) p.2.mem.length (p.2.mem.map intV) := fun p hp hne => (h.mem p hp).kept hg (.inr (h.mapart p hp _ hgx hne))
  have gg := g1 _ hgx
  have keys : (gs.map (fun p => if p.1 = g then (g, { p.2 with mem := p.2.mem ++ [i] }) else p)).map (·.1) = gs.map (·.1) := by
    rw [List.map_map]
    apply List.map_congr_left
    intro p _
    by_cases e : p.1 = g <;> simp [e]
  have inv : ∀ p ∈ gs.map (fun p => if p.1 = g then (g, { p.2 with mem := p.2.mem ++ [i] }) else p), (p = (g, { x with mem := x.mem ++ [i] })) ∨ (p ∈ gs ∧ p.1 ≠ g) := by
    intro p hp
    obtain ⟨q, hq, rfl⟩ := List.mem_map.1 hp
    by_cases e : q.1 = g
    · left; have := uniq q hq e; subst this; simp
    · right; simp [e, hq]
  have aparts : ∀ p ∈ gs, p.1 ≠ g → v'.ownBlock ≠ (mv p.1).ownBlock := by
    intro p hp hne
    rcases hob with e | ⟨k, e, hk⟩
    · rw [e]; exact h.mapart _ hgx _ hp (Ne.symm hne)
    · rw [e]; intro e'; have := (own_lt (h.mem p hp) e'.symm).2; omega
  refine ⟨c1.far (blk_blk_ne c1 gg (by decide)) _, ?_, own_set o1 (own_blk_ne o1 gg (by decide)) _ _, h.apart, fun p hp => ?_, fun p hp => ?_, fun p hp => ?_, by rw [keys]; exact h.nodup, fun p hp q hq hne => ?_, fun k hk => ?_, h.lowC, fun p hp => ?_⟩
  · have := own_set a1 (own_blk_ne a1 gg (by decide)) 4 v'
    rw [List.length_map, List.map_map]
    have e : gs.map ((fun p => ptr p.1) ∘ fun p => if p.1 = g then (g, { p.2 with mem := p.2.mem ++ [i] }) else p) = gs.map (fun p => ptr p.1) := by
      apply List.map_congr_left
      intro p _
      by_cases e : p.1 = g <;> simp [e]
    rw [e]; exact this
  · rcases inv p hp with rfl | ⟨hp', hne⟩
    · have := gg.set 4 v'
      simpa [gcells] using this
    · simp only [if_neg hne]
      exact (g1 p hp').far hne _
  · rcases inv p hp with rfl | ⟨hp', hne⟩
    · have := own_set hrow (own_blk_ne hrow gg (by decide)) 4 v'
      simpa using this
    · simp only [if_neg hne]
      exact own_set (m1 p hp' hne) (own_blk_ne (m1 p hp' hne) gg (by decide)) _ _
  · rcases inv p hp with rfl | ⟨hp', hne⟩
    · simp
    · exact h.mne p hp'
  · rcases inv p hp with rfl | ⟨hp', hp1⟩
    · rcases inv q hq with rfl | ⟨hq', hq1⟩
      · exact absurd rfl hne
      · simp only [if_true, if_neg hq1]; exact aparts q hq' hq1
    · rcases inv q hq with rfl | ⟨hq', hq1⟩
      · simp only [if_true, if_neg hp1]; exact (aparts p hp' hp1).symm
      · simp only [if_neg hp1, if_neg hq1]; exact h.mapart p hp' q hq' hne
  · obtain ⟨y, hy⟩ := h.sub k hk
    by_cases e : k = g
    · exact ⟨_, List.mem_map.2 ⟨(k, y), hy, by simp [e]; rfl⟩⟩
    · exact ⟨y, List.mem_map.2 ⟨(k, y), hy, by simp [e]⟩⟩
  · rcases inv p hp with rfl | ⟨hp', _⟩
    · exact h.lowG (g, x) hgx
    · exact h.lowG p hp'

/-- A new group. -/
theorem Coll.pushAll (h : Coll w B C T gs op va vo mv) {g0 : Nat} {x : Grp} {vm : Value} (hb : BlkAt w g0 87 (gcells x vm)) (hm : w.ownsRow B 3 1 vm x.mem.length (x.mem.map intV)) (hne : x.mem ≠ []) (hg0 : B ≤ g0) (hnew : ∀ p ∈ gs, p.1 ≠ g0) (hmn : ∀ p ∈ gs, (mv p.1).ownBlock ≠ vm.ownBlock)
    {w1 : World} {va' : Value} (hg : w.grownBy w1 va.ownBlock) (hrow : w1.ownsRow B 84 1 va' (gs.length + 1) (gs.map (fun p => ptr p.1) ++ [ptr g0])) (hob : va'.ownBlock = va.ownBlock ∨ ∃ k, va'.ownBlock = some k ∧ w.heap.size ≤ k) :
    Coll (w1.setCell ⟨C, 1, none⟩ va') B C T (gs ++ [(g0, x)]) op va' vo (fun k => if k = g0 then vm else mv k) := by
  have c1 : BlkAt w1 C 108 #[T, va, vo] := h.blk.kept hg (own_blk_ne h.all_ h.blk (by decide))
  have o1 : w1.ownsRow B 84 1 vo op.length (op.map ptr) := h.opn.kept hg h.apart
  have g1 : ∀ p ∈ gs, BlkAt w1 p.1 87 (gcells p.2 (mv p.1)) := fun p hp => (h.grp p hp).kept hg (own_blk_ne h.all_ (h.grp p hp) (by decide))
  have m1 : ∀ p ∈ gs, w1.ownsRow B 3 1 (mv p.1) p.2.mem.length (p.2.mem.map intV) := fun p hp => (h.mem p hp).kept hg (own_own_ne (h.mem p hp) h.all_ (by decide))
  have b1 : BlkAt w1 g0 87 (gcells x vm) := hb.kept hg (own_blk_ne h.all_ hb (by decide))
  have n1 : w1.ownsRow B 3 1 vm x.mem.length (x.mem.map intV) := hm.kept hg (own_own_ne hm h.all_ (by decide))
  have inv : ∀ p ∈ gs ++ [(g0, x)], p = (g0, x) ∨ (p ∈ gs ∧ p.1 ≠ g0) := by
    intro p hp
    rcases List.mem_append.1 hp with hp | hp
    · exact .inr ⟨hp, hnew p hp⟩
    · simp at hp; exact .inl hp
  refine ⟨by have := c1.set 1 va'; simpa using this, ?_, own_set o1 (own_blk_ne o1 c1 (by decide)) _ _, ?_, fun p hp => ?_, fun p hp => ?_, fun p hp => ?_, ?_, fun p hp q hq hne => ?_, fun k hk => ?_, h.lowC, fun p hp => ?_⟩
  · have := own_set hrow (own_blk_ne hrow c1 (by decide)) 1 va'
    simpa using this
  · rcases hob with e | ⟨k, e, hk⟩
    · rw [e]; exact h.apart
    · rcases h.apart with e' | _
      · exact .inl e'
      · right; rw [e]; intro e'; have := (own_lt h.opn e').2; omega
  · rcases inv p hp with rfl | ⟨hp', hne⟩
    · simp only [if_true]; exact b1.far (blk_blk_ne b1 c1 (by decide)) _
    · simp only [if_neg hne]; exact (g1 p hp').far (blk_blk_ne (g1 p hp') c1 (by decide)) _
  · rcases inv p hp with rfl | ⟨hp', hne⟩
    · simp only [if_true]; exact own_set n1 (own_blk_ne n1 c1 (by decide)) _ _
    · simp only [if_neg hne]; exact own_set (m1 p hp') (own_blk_ne (m1 p hp') c1 (by decide)) _ _
  · rcases inv p hp with rfl | ⟨hp', _⟩
    · assumption
    · exact h.mne p hp'
  · rw [List.map_append]
    refine List.nodup_append.2 ⟨h.nodup, by simp, ?_⟩
    intro a ha b hb e
    simp at hb
    obtain ⟨p, hp, rfl⟩ := List.mem_map.1 ha
    exact hnew p hp (e.trans hb)
  · rcases inv p hp with rfl | ⟨hp', hp1⟩
    · rcases inv q hq with rfl | ⟨hq', hq1⟩
      · exact absurd rfl hne
      · simp only [if_true, if_neg hq1]; exact (hmn q hq').symm
    · rcases inv q hq with rfl | ⟨hq', hq1⟩
      · simp only [if_true, if_neg hp1]; exact hmn p hp'
      · simp only [if_neg hp1, if_neg hq1]; exact h.mapart p hp' q hq' hne
  · obtain ⟨y, hy⟩ := h.sub k hk
    exact ⟨y, List.mem_append_left _ hy⟩
  · rcases inv p hp with rfl | ⟨hp', _⟩
    · exact hg0
    · exact h.lowG p hp'
end
end Go.Proofs.YtghjhlenkgkelaaGreatDoor
