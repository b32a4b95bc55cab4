/- DERIVED. 'spots' of the program. -/
import Derived.Test.YtghjhlenkgkelaaGreatDoorOrdered
set_option linter.unusedSimpArgs false
set_option linter.unusedVariables false
namespace Go.Proofs.YtghjhlenkgkelaaGreatDoor
open Go.RowKit Go.Sort Go.Shelf

def Acc.place (a : Acc) : K3 := ⟨a.p0, a.p1, a.p2⟩
def spotAdd (s : Spt) (a : Acc) : Spt :=
  { place := a.place, reads := s.reads + (if a.kind = 1 then 1 else 0), writes := s.writes + (if a.kind = 2 then 1 else 0), other := s.other + (if a.kind ≠ 1 ∧ a.kind ≠ 2 then 1 else 0), remote := s.remote + (if a.frm ≠ a.at' then 1 else 0) }
def spot0 : Spt := ⟨⟨0, 0, 0⟩, 0, 0, 0, 0⟩
def spotStep (R : List (K3 × Spt)) (a : Acc) : List (K3 × Spt) := upd R a.place (spotAdd ((look R a.place).getD spot0) a)
def spotsR (l : List Acc) : List (K3 × Spt) := l.foldl spotStep []

def Spt.le (s : Spt) (k : Nat) : Prop := 0 ≤ s.reads ∧ s.reads ≤ k ∧ 0 ≤ s.writes ∧ s.writes ≤ k ∧ 0 ≤ s.other ∧ s.other ≤ k ∧ 0 ≤ s.remote ∧ s.remote ≤ k
theorem spot0_le (k : Nat) : spot0.le k := by unfold Spt.le spot0; simp
theorem spotAdd_le {s : Spt} {k : Nat} (h : s.le k) (a : Acc) : (spotAdd s a).le (k + 1) := by
  unfold Spt.le at *
  simp only [spotAdd]
  split <;> split <;> split <;> split <;> omega
theorem look_le {R : List (K3 × Spt)} {k : Nat} (h : ∀ x s, look R x = some s → s.le k) (x : K3) : ((look R x).getD spot0).le k := by
  cases hl : look R x with
  | none => exact spot0_le k
  | some s => exact h x s hl
theorem spotStep_le {R : List (K3 × Spt)} {k : Nat} (h : ∀ x s, look R x = some s → s.le k) (a : Acc) : ∀ x s, look (spotStep R a) x = some s → s.le (k + 1) := by
  intro x s hs
  unfold spotStep at hs
  rw [look_upd] at hs
  split at hs
  · injection hs with hs; subst hs; exact spotAdd_le (look_le h _) a
  · have := h x s hs; unfold Spt.le at *; omega
theorem spotsR_le (l : List Acc) : ∀ x s, look (spotsR l) x = some s → s.le l.length := by
  suffices ∀ (l : List Acc) (R : List (K3 × Spt)) (k : Nat), (∀ x s, look R x = some s → s.le k) → ∀ x s, look (l.foldl spotStep R) x = some s → s.le (k + l.length) by
    have := this l [] 0 (by intro x s h; simp [look] at h); simpa [spotsR] using this
  intro l
  induction l with
  | nil => intro R k h; simpa using h
  | cons a l ih =>
    intro R k h x s hs
    have := ih (spotStep R a) (k + 1) (spotStep_le h a) x s hs
    rw [List.length_cons]; rwa [show k + (l.length + 1) = k + 1 + l.length by omega]
theorem spotsR_snoc (l : List Acc) (a : Acc) : spotsR (l ++ [a]) = spotStep (spotsR l) a := by simp [spotsR]
theorem spotsR_len (l : List Acc) : (spotsR l).length ≤ l.length := by
  suffices ∀ (l : List Acc) (R : List (K3 × Spt)), (l.foldl spotStep R).length ≤ R.length + l.length by simpa [spotsR] using this l []
  intro l
  induction l with
  | nil => simp
  | cons a l ih =>
    intro R
    have h1 := ih (spotStep R a)
    have h2 := upd_length_le R a.place (spotAdd ((look R a.place).getD spot0) a)
    simp only [List.foldl_cons, List.length_cons]
    unfold spotStep at h1 ⊢
    omega

set_option maxRecDepth 100000 in
set_option maxHeartbeats 1000000 in
theorem spots_any (A : Option Addr) (n c : Nat) (xs : List Acc) (w : World) (hl : n ≤ 5000) (hr : Trace w w.heap.size A n xs) :
    Calls Tryz.prog 29 #[.slice A n c] w fun e w' => ∃ (v : Value) (ss : List K3), e = .returned v ∧ ss.Perm ((spotsR xs).map (·.1)) ∧ ss.Pairwise (fun x y => ¬ lt3 y x) ∧
      w'.ownsRow w.heap.size 63 7 v ss.length ((ss.map (fun x => (look (spotsR xs) x).getD spot0)).flatMap encSL) ∧ Below w.heap.size w w' := by
  have HN := Lib.hid hr.len
  have hmm := @run_makeMap Tryz.prog
  go_enter Tryz.func29, Tryz.ntmps29
  go_wp2
  go_loopw [10] (fun i wr => ∃ k : Nat, k ≤ n ∧ i = .int .i64 k ∧ MapOf enc3 encS wr w.heap.size (spotsR (xs.take k)) ∧ Below w.heap.size w wr) (fun i _ => n - (intOf i).toNat)
  case atStart => exact ⟨0, by omega, rfl, MapOf.made w, (Below.refl _ _).alloc (Nat.le_refl _) _⟩
  case round =>
    obtain ⟨k, hk, rfl, hm, hbw⟩ := hrel
    by_cases hlt : k < n
    · obtain ⟨x, hx⟩ := get_some (xs := xs) (k := k) (by rw [← HN.out]; omega)
      obtain ⟨b, off, rfl, hb, hc⟩ := hr.at_ k x hx
      obtain ⟨c0, c1, c2, c3, c4, c5, c6⟩ := hc.below hbw hb
      have HS : Hid (spotsR (xs.take (k + 1)) = spotStep (spotsR (xs.take k)) x) := Lib.hid (by rw [take_snoc hx, spotsR_snoc])
      have hy := look_le (spotsR_le (xs.take k)) x.place
      have htl : (xs.take k).length ≤ k := List.length_take_le _ _
      have hst : spotStep (spotsR (xs.take k)) x = upd (spotsR (xs.take k)) x.place (spotAdd ((look (spotsR (xs.take k)) x.place).getD spot0) x) := rfl
      generalize spotsR (xs.take k) = R at *
      generalize hyy : (look R x.place).getD spot0 = y at *
      have HST := Lib.hid hst
      obtain ⟨y1, y2, y3, y4, y5, y6, y7, y8⟩ := hy
      have H1 : y.reads ≤ 5000 := by omega
      have H2 : y.writes ≤ 5000 := by omega
      have H3 : y.other ≤ 5000 := by omega
      have H4 : y.remote ≤ 5000 := by omega
      have HY := Lib.hid hyy
      clear hst hc hx hr y2 y4 y6 y8 hyy htl
      unfold enc3 at hm
      go_wp2_with (first
        | (at_lookup; refine wpList_lookup_of _ rfl _ _ 110 rfl 63 mkey3 Tryz.underlying110 spot0 (by kernel_rfl) w.heap.size R rfl (hm.alloc _) x.place rfl ?_; rw [HY.out]; unfold encS)
        | (at_mapUpdate; refine wpList_mapUpdate_of _ rfl _ _ _ 110 rfl 63 mkey3 Tryz.underlying110 w.heap.size R rfl (((hm.alloc _).alloc _).alloc _) x.place rfl ⟨⟨x.p0, x.p1, x.p2⟩, y.reads + 1, y.writes, y.other, y.remote + 1⟩ rfl ?_; intro w2 hm2 hg2 hs2)
        | (at_mapUpdate; refine wpList_mapUpdate_of _ rfl _ _ _ 110 rfl 63 mkey3 Tryz.underlying110 w.heap.size R rfl (((hm.alloc _).alloc _).alloc _) x.place rfl ⟨⟨x.p0, x.p1, x.p2⟩, y.reads + 1, y.writes, y.other, y.remote⟩ rfl ?_; intro w2 hm2 hg2 hs2)
        | (at_mapUpdate; refine wpList_mapUpdate_of _ rfl _ _ _ 110 rfl 63 mkey3 Tryz.underlying110 w.heap.size R rfl (((hm.alloc _).alloc _).alloc _) x.place rfl ⟨⟨x.p0, x.p1, x.p2⟩, y.reads, y.writes + 1, y.other, y.remote + 1⟩ rfl ?_; intro w2 hm2 hg2 hs2)
        | (at_mapUpdate; refine wpList_mapUpdate_of _ rfl _ _ _ 110 rfl 63 mkey3 Tryz.underlying110 w.heap.size R rfl (((hm.alloc _).alloc _).alloc _) x.place rfl ⟨⟨x.p0, x.p1, x.p2⟩, y.reads, y.writes + 1, y.other, y.remote⟩ rfl ?_; intro w2 hm2 hg2 hs2)
        | (at_mapUpdate; refine wpList_mapUpdate_of _ rfl _ _ _ 110 rfl 63 mkey3 Tryz.underlying110 w.heap.size R rfl (((hm.alloc _).alloc _).alloc _) x.place rfl ⟨⟨x.p0, x.p1, x.p2⟩, y.reads, y.writes, y.other + 1, y.remote + 1⟩ rfl ?_; intro w2 hm2 hg2 hs2)
        | (at_mapUpdate; refine wpList_mapUpdate_of _ rfl _ _ _ 110 rfl 63 mkey3 Tryz.underlying110 w.heap.size R rfl (((hm.alloc _).alloc _).alloc _) x.place rfl ⟨⟨x.p0, x.p1, x.p2⟩, y.reads, y.writes, y.other + 1, y.remote⟩ rfl ?_; intro w2 hm2 hg2 hs2)
        | go_in)
      all_goals
        have hg3 := hg2
        have hm3 := hm2
        clear hg2 hm2 hs2
        have hbw2 : Below w.heap.size w w2 := ((((hbw.alloc hbw.size _).alloc (by have := hbw.size; simp; omega) _).alloc (by have := hbw.size; simp; omega) _).grown hg3 (by have := hbw.size; simp; omega) (fun j e => by cases e; exact Nat.le_refl _))
        go_roundw
        case rel =>
          refine ⟨k + 1, by omega, by go_num, ?_, hbw2⟩
          rw [HS.out, HST.out]
          have e : ∀ u, MapOf enc3 encS w2 w.heap.size (upd R x.place u) → spotAdd y x = u → MapOf enc3 encS w2 w.heap.size (upd R x.place (spotAdd y x)) := fun u h e => e ▸ h
          refine e _ hm3 ?_
          simp only [beq_iff_eq, beq_eq_false_iff_ne, bne_iff_ne, ne_eq, Bool.not_eq_true', Bool.not_eq_false', decide_eq_false_iff_not, decide_eq_true_eq, bne_eq_false_iff_eq] at *
          unfold spotAdd
          rw [Spt.mk.injEq]
          refine ⟨rfl, ?_, ?_, ?_, ?_⟩ <;> split <;> omega
        case measure => simp [intOf]; omega
    · obtain rfl : k = n := by omega
      have hxs : xs.take k = xs := by rw [HN.out]; exact List.take_length
      rw [hxs] at hm
      have HO := s3_ordered w.heap.size (spotsR xs) wr hm (by have := spotsR_len xs; have := HN.out; omega)
      have hs := hbw.size
      clear hm
      go_wp2_with (go_at_call 41; refine HO.mono ?_; rintro e w2 ⟨v, ss, rfl, h1, h2, h3, h4⟩)
      go_ret
      exact ⟨v, ss, rfl, h1, h2, own_base h3 hs, hbw.trans (h4.mono hs)⟩
end Go.Proofs.YtghjhlenkgkelaaGreatDoor
