/- DERIVED. The closure of Of that changes an edge; the price of a model; what a profile costs. -/
import Derived.Test.YtghjhlenkgkelaaGreatDoorGrps
import Derived.WalkLawsBesides
set_option linter.unusedSimpArgs false
set_option linter.unusedVariables false
namespace Go.Proofs.YtghjhlenkgkelaaGreatDoor
open Go.RowKit Go.Shelf Go.Sort

def edg0 : Edg := ⟨0, 0, 0, 0⟩
def edgAt (R : List (K2 × Edg)) (f a : Int) : Edg := (look R ⟨f, a⟩).getD edg0
def edgUpd (R : List (K2 × Edg)) (f a p q : Int) : List (K2 × Edg) := upd R ⟨f, a⟩ ⟨f, a, (edgAt R f a).acc + p, (edgAt R f a).msg + q⟩

theorem change_any (M b : Nat) (f a p q : Int) (R : List (K2 × Edg)) (w : World) (hM : BlkAt w M 54 #[.map (some b)]) (hm : MapOf enc2 encE w b R) (h1 : 0 ≤ (edgAt R f a).acc) (h2 : (edgAt R f a).acc ≤ 1000000) (h3 : 0 ≤ (edgAt R f a).msg) (h4 : (edgAt R f a).msg ≤ 1000000) (hp : 0 ≤ p) (hp' : p ≤ 1) (hq : 0 ≤ q) (hq' : q ≤ 1) :
    Calls Tryz.prog 26 #[.int .i64 f, .int .i64 a, .int .i64 p, .int .i64 q, .pointer (some ⟨M, 0, none⟩)] w fun e w' => e = .returned (.tuple #[]) ∧ MapOf enc2 encE w' b (edgUpd R f a p q) ∧ w.grownBy w' (some b) := by
  have hc : w.cell? ⟨M, 0, none⟩ = some (.map (some b)) := hM.cell 0
  have hc' := fun o => cell_alloc o hc
  have hml := hM.lt
  have hU : Hid (∀ y, edgAt R f a = y → edgUpd R f a p q = upd R ⟨f, a⟩ ⟨f, a, y.acc + p, y.msg + q⟩) := Lib.hid (fun y e => by unfold edgUpd; rw [e])
  have hyd : (look R ⟨f, a⟩).getD edg0 = edgAt R f a := rfl
  generalize edgAt R f a = y at *
  have HY := Lib.hid hyd
  have HU : Hid (edgUpd R f a p q = upd R ⟨f, a⟩ ⟨f, a, y.acc + p, y.msg + q⟩) := Lib.hid (hU.out y rfl)
  clear hM hyd hU
  unfold enc2 at hm
  go_enter Tryz.func26, Tryz.ntmps26
  go_wp2_with (first
    | (at_lookup; refine wpList_lookup_of _ rfl _ _ 54 rfl 52 mkey2 Tryz.underlying54 edg0 (by kernel_rfl) b R rfl hm ⟨f, a⟩ rfl ?_; rw [HY.out]; unfold encE)
    | (at_mapUpdate; refine wpList_mapUpdate_of _ rfl _ _ _ 54 rfl 52 mkey2 Tryz.underlying54 b R rfl (hm.alloc _) ⟨f, a⟩ rfl ⟨f, a, y.acc + p, y.msg + q⟩ rfl ?_; intro w2 hm2 hg2 hs2))
  go_end0
  refine ⟨rfl, ?_, ?_⟩
  · rw [HU.out]; exact hm2
  · exact grown_trans (grown_of_below ((Below.refl _ w).alloc (Nat.le_refl _) _)) hg2

def priceB (m : Nat) : Bool := (FloatKind.f32.format.order m 0 == some .gt || FloatKind.f32.format.order m 0 == some .eq) && (FloatKind.f32.format.order m 1232348160 == some .lt || FloatKind.f32.format.order m 1232348160 == some .eq)
theorem price_any (m : Nat) (w : World) : Calls Tryz.prog 25 #[.float .f32 m] w fun e w' => e = .returned (.bool (priceB m)) ∧ w' = w := by
  go_enter Tryz.func25, Tryz.ntmps25
  go_wp2
  all_goals go_ret
  all_goals exact ⟨ret_bool (by unfold priceB; simp_all), rfl⟩

/-- a whole number as a float -/
def cvt (n : Int) : Nat := FloatKind.f32.nearest n
/-- what the cost is behind one edge more -/
def costStep (mm me : Nat) (c : Nat) (x : Edg) : Option Nat :=
  (FloatKind.f32.format.mul (cvt x.msg) mm).bind fun a => (FloatKind.f32.format.mul (cvt x.acc) me).bind fun b => (FloatKind.f32.format.add a b).bind fun s => FloatKind.f32.format.add c s
def costF (mm me : Nat) : List Edg → Nat → Option Nat
  | [], c => some c
  | x :: l, c => (costStep mm me c x).bind (costF mm me l)
theorem costF_append (mm me : Nat) (l1 l2 : List Edg) (c : Nat) : costF mm me (l1 ++ l2) c = (costF mm me l1 c).bind (costF mm me l2) := by
  induction l1 generalizing c with
  | nil => rfl
  | cons x l1 ih =>
    simp only [List.cons_append, costF]
    cases costStep mm me c x with
    | none => rfl
    | some d => simp [ih]
theorem costF_take {mm me : Nat} {l : List Edg} {k : Nat} {x : Edg} {c d : Nat} (h : (costF mm me l c).isSome = true) (hx : l[k]? = some x) (hd : costF mm me (l.take k) c = some d) :
    ∃ a b s r, FloatKind.f32.format.mul (cvt x.msg) mm = some a ∧ FloatKind.f32.format.mul (cvt x.acc) me = some b ∧ FloatKind.f32.format.add a b = some s ∧ FloatKind.f32.format.add d s = some r ∧ costF mm me (l.take (k + 1)) c = some r := by
  have e : l = l.take k ++ x :: l.drop (k + 1) := by rw [← drop_cons hx, List.take_append_drop]
  have h2 := h
  rw [e, costF_append, hd] at h2
  simp only [Option.bind_some, costF] at h2
  have h3 : costF mm me (l.take (k + 1)) c = costStep mm me d x := by
    rw [List.take_add_one, hx, costF_append, hd]
    simp only [Option.bind_some, Option.toList_some, costF]
    cases costStep mm me d x <;> rfl
  cases hs : costStep mm me d x with
  | none => rw [hs] at h2; simp at h2
  | some r =>
    have hs' := hs
    unfold costStep at hs
    cases ha : FloatKind.f32.format.mul (cvt x.msg) mm with
    | none => simp [ha] at hs
    | some a =>
      cases hb : FloatKind.f32.format.mul (cvt x.acc) me with
      | none => simp [ha, hb] at hs
      | some b =>
        cases hc : FloatKind.f32.format.add a b with
        | none => simp [ha, hb, hc] at hs
        | some s =>
          simp [ha, hb, hc] at hs
          exact ⟨a, b, s, r, rfl, rfl, hc, hs, by rw [h3, hs']⟩
end Go.Proofs.YtghjhlenkgkelaaGreatDoor
