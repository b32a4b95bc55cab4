/- DERIVED. What holds of the groups of a trace, kept by each step. -/
import Derived.Test.YtghjhlenkgkelaaGreatDoorPl
set_option linter.unusedSimpArgs false
set_option linter.unusedVariables false
namespace Go.Proofs.YtghjhlenkgkelaaGreatDoor

/-- from the first member of g up to b the task makes nothing that ends the group -/
def OK (xs : List Acc) (g : Grp) (b : Nat) : Prop :=
  ∀ j, (∀ a, g.mem.head? = some a → a ≤ j) → j < b → ∀ c, xs[j]? = some c → c.task = g.task →
    dataB c = true ∧ (c.kind = g.kind ∨ c.frm ≠ g.frm ∨ c.at' ≠ g.at' ∨ ∀ m ∈ g.mem, m < j → ∀ y, xs[m]? = some y → y.place ≠ c.place)
def SameKey (g h : Grp) : Prop := g.task = h.task ∧ g.frm = h.frm ∧ g.at' = h.at' ∧ g.kind = h.kind
structure Inv (xs : List Acc) (i j : Nat) (R : List GO) : Prop where
  len : R.length ≤ i
  asc : ∀ p ∈ R, p.1.mem.Pairwise (· < ·)
  ne : ∀ p ∈ R, p.1.mem ≠ []
  le64 : ∀ p ∈ R, p.1.mem.length ≤ 64
  same : ∀ p ∈ R, ∀ m ∈ p.1.mem, ∃ x, xs[m]? = some x ∧ x.task = p.1.task ∧ x.kind = p.1.kind ∧ x.frm = p.1.frm ∧ x.at' = p.1.at'
  far : ∀ p ∈ R, p.1.frm ≠ p.1.at'
  ok : ∀ p ∈ R, ∀ b ∈ p.1.mem, OK xs p.1 b
  oko : ∀ p ∈ R, p.2 = true → OK xs p.1 j
  uq : R.Pairwise (fun p q => p.2 = true → q.2 = true → ¬ SameKey p.1 q.1)
  nodup : (R.flatMap (·.1.mem)).Nodup
  mem : ∀ m, m ∈ R.flatMap (·.1.mem) ↔ m < i ∧ ∃ x, xs[m]? = some x ∧ x.frm ≠ x.at'

theorem map_fst_flat (R : List GO) (f : GO → GO) (hf : ∀ p ∈ R, (f p).1 = p.1) : (R.map f).flatMap (·.1.mem) = R.flatMap (·.1.mem) := by
  rw [List.flatMap_map]
  induction R with
  | nil => rfl
  | cons p R ih =>
    simp only [List.flatMap_cons]
    rw [hf p (by simp), ih (fun q hq => hf q (by simp [hq]))]

section
variable {xs : List Acc} {i j : Nat} {x : Acc} {R : List GO}
theorem Inv.lt (h : Inv xs i j R) {p : GO} (hp : p ∈ R) {m : Nat} (hm : m ∈ p.1.mem) : m < i :=
  ((h.mem m).1 (List.mem_flatMap.2 ⟨p, hp, hm⟩)).1
theorem Inv.shut (h : Inv xs i j R) (f : GO → Bool) : Inv xs i j (R.map (shutIf f)) where
  len := by rw [List.length_map]; exact h.len
  asc p hp := by obtain ⟨q, hq, rfl⟩ := List.mem_map.1 hp; exact h.asc q hq
  ne p hp := by obtain ⟨q, hq, rfl⟩ := List.mem_map.1 hp; exact h.ne q hq
  le64 p hp := by obtain ⟨q, hq, rfl⟩ := List.mem_map.1 hp; exact h.le64 q hq
  same p hp := by obtain ⟨q, hq, rfl⟩ := List.mem_map.1 hp; exact h.same q hq
  far p hp := by obtain ⟨q, hq, rfl⟩ := List.mem_map.1 hp; exact h.far q hq
  ok p hp := by obtain ⟨q, hq, rfl⟩ := List.mem_map.1 hp; exact h.ok q hq
  oko p hp ho := by
    obtain ⟨q, hq, rfl⟩ := List.mem_map.1 hp
    simp only [shutIf, Bool.and_eq_true] at ho
    exact h.oko q hq ho.1
  uq := by
    rw [List.pairwise_map]
    exact h.uq.imp (fun {p q} hpq h1 h2 => by
      simp only [shutIf, Bool.and_eq_true] at h1 h2
      exact hpq h1.1 h2.1)
  nodup := by rw [map_fst_flat R (shutIf f) (fun p _ => rfl)]; exact h.nodup
  mem m := by rw [map_fst_flat R (shutIf f) (fun p _ => rfl)]; exact h.mem m
theorem Inv.later (h : Inv xs i i R) (hx : xs[i]? = some x) (hok : ∀ p ∈ R, p.2 = true → x.task = p.1.task → dataB x = true ∧ (x.kind = p.1.kind ∨ x.frm ≠ p.1.frm ∨ x.at' ≠ p.1.at' ∨ ∀ m ∈ p.1.mem, ∀ y, xs[m]? = some y → y.place ≠ x.place)) : Inv xs i (i + 1) R :=
  { h with
    oko := fun p hp ho k h1 h2 c hc ht => by
      rcases Nat.lt_or_ge k i with hk | hk
      · exact h.oko p hp ho k h1 hk c hc ht
      · obtain rfl : k = i := by omega
        rw [hx] at hc; injection hc with hc; subst hc
        obtain ⟨a, b⟩ := hok p hp ho ht
        refine ⟨a, ?_⟩
        rcases b with b | b | b | b
        · exact .inl b
        · exact .inr (.inl b)
        · exact .inr (.inr (.inl b))
        · exact .inr (.inr (.inr (fun m hm _ y hy => b m hm y hy))) }
theorem Inv.local_ (h : Inv xs i (i + 1) R) (hx : xs[i]? = some x) (hl : x.frm = x.at') : Inv xs (i + 1) (i + 1) R :=
  { h with
    len := by have := h.len; omega
    mem := fun m => by
      rw [h.mem m]
      constructor
      · rintro ⟨h1, h2⟩; exact ⟨by omega, h2⟩
      · rintro ⟨h1, y, h2, h3⟩
        refine ⟨?_, y, h2, h3⟩
        rcases Nat.lt_or_ge m i with hm | hm
        · exact hm
        · obtain rfl : m = i := by omega
          rw [hx] at h2; injection h2 with h2; subst h2; exact absurd hl h3 }
theorem Inv.new (h : Inv xs i (i + 1) R) (hx : xs[i]? = some x) (hr : x.frm ≠ x.at') (o : Bool) (ho : o = true → dataB x = true ∧ ∀ p ∈ R, p.2 = true → ¬ SameKey p.1 (newG x i)) : Inv xs (i + 1) (i + 1) (R ++ [(newG x i, o)]) where
  len := by have := h.len; simp; omega
  asc p hp := by
    rcases List.mem_append.1 hp with hp | hp
    · exact h.asc p hp
    · simp at hp; subst hp; simp [newG]
  ne p hp := by
    rcases List.mem_append.1 hp with hp | hp
    · exact h.ne p hp
    · simp at hp; subst hp; simp [newG]
  le64 p hp := by
    rcases List.mem_append.1 hp with hp | hp
    · exact h.le64 p hp
    · simp at hp; subst hp; simp [newG]
  same p hp m hm := by
    rcases List.mem_append.1 hp with hp | hp
    · exact h.same p hp m hm
    · simp at hp; subst hp
      simp [newG] at hm; subst hm
      exact ⟨x, hx, rfl, rfl, rfl, rfl⟩
  far p hp := by
    rcases List.mem_append.1 hp with hp | hp
    · exact h.far p hp
    · simp at hp; subst hp; exact hr
  ok p hp b hb := by
    rcases List.mem_append.1 hp with hp | hp
    · exact h.ok p hp b hb
    · simp at hp; subst hp
      simp [newG] at hb; subst hb
      intro j h1 h2
      have := h1 b (by simp [newG])
      omega
  oko p hp ho' := by
    rcases List.mem_append.1 hp with hp | hp
    · exact h.oko p hp ho'
    · simp at hp; subst hp
      intro j h1 h2 c hc ht
      have := h1 i (by simp [newG])
      obtain rfl : j = i := by omega
      rw [hx] at hc; injection hc with hc; subst hc
      exact ⟨(ho ho').1, .inl rfl⟩
  uq := by
    refine List.pairwise_append.2 ⟨h.uq, by simp, fun p hp q hq h1 h2 => ?_⟩
    simp at hq; subst hq
    exact (ho h2).2 p hp h1
  nodup := by
    rw [List.flatMap_append]
    refine List.nodup_append.2 ⟨h.nodup, by simp [newG], fun a ha b hb e => ?_⟩
    simp [newG] at hb; subst hb; subst e
    exact absurd ((h.mem _).1 ha).1 (Nat.lt_irrefl _)
  mem m := by
    rw [List.flatMap_append, List.mem_append, h.mem m]
    simp only [List.flatMap_cons, List.flatMap_nil, List.append_nil, newG, List.mem_singleton]
    constructor
    · rintro (⟨h1, h2⟩ | rfl)
      · exact ⟨by omega, h2⟩
      · exact ⟨by omega, x, hx, hr⟩
    · rintro ⟨h1, h2⟩
      rcases Nat.lt_or_ge m i with hm | hm
      · exact .inl ⟨hm, h2⟩
      · exact .inr (by omega)
theorem qB_key {p : GO} (h : qB x p = true) : p.2 = true ∧ p.1.task = x.task ∧ p.1.frm = x.frm ∧ p.1.at' = x.at' ∧ p.1.kind = x.kind := by
  unfold qB alikeB at h
  simp only [Bool.and_eq_true, beq_iff_eq] at h
  exact ⟨h.1, h.2.1.1.1, h.2.1.1.2, h.2.1.2, h.2.2⟩
theorem Inv.split (h : Inv xs i j R) {p : GO} (hp : p ∈ R) (hq : qB x p = true) : ∃ R1 R2, R = R1 ++ p :: R2 ∧ (∀ q ∈ R1, qB x q = false) ∧ (∀ q ∈ R2, qB x q = false) := by
  obtain ⟨R1, R2, rfl⟩ := List.append_of_mem hp
  obtain ⟨a0, a1, a2, a3, a4⟩ := qB_key hq
  have hu := List.pairwise_append.1 h.uq
  refine ⟨R1, R2, rfl, fun q hq' => ?_, fun q hq' => ?_⟩
  · cases hb : qB x q with
    | false => rfl
    | true =>
      obtain ⟨b0, b1, b2, b3, b4⟩ := qB_key hb
      exact absurd ⟨b1.trans a1.symm, b2.trans a2.symm, b3.trans a3.symm, b4.trans a4.symm⟩ (hu.2.2 q hq' p (by simp) b0 a0)
  · cases hb : qB x q with
    | false => rfl
    | true =>
      obtain ⟨b0, b1, b2, b3, b4⟩ := qB_key hb
      exact absurd ⟨a1.trans b1.symm, a2.trans b2.symm, a3.trans b3.symm, a4.trans b4.symm⟩ ((List.pairwise_cons.1 hu.2.1).1 q hq' a0 b0)
theorem map_addIf_none {R : List GO} (h : ∀ q ∈ R, qB x q = false) : R.map (addIf x i) = R := by
  conv => rhs; rw [← List.map_id R]
  exact List.map_congr_left fun p hp => by simp [addIf, h p hp]
theorem head_snoc {l : List Nat} (h : l ≠ []) (i : Nat) : (l ++ [i]).head? = l.head? := by cases l <;> simp_all
theorem OK.snoc {g : Grp} {b : Nat} (h : OK xs g b) (hne : g.mem ≠ []) (hb : b ≤ i + 1) : OK xs { g with mem := g.mem ++ [i] } b := by
  intro j h1 h2 c hc ht
  obtain ⟨a, q⟩ := h j (by rw [head_snoc hne] at h1; exact h1) h2 c hc ht
  refine ⟨a, ?_⟩
  rcases q with q | q | q | q
  · exact .inl q
  · exact .inr (.inl q)
  · exact .inr (.inr (.inl q))
  · refine .inr (.inr (.inr (fun m hm hmj y hy => ?_)))
    rcases List.mem_append.1 hm with hm | hm
    · exact q m hm hmj y hy
    · simp at hm; omega
theorem Inv.add (h : Inv xs i (i + 1) R) (hx : xs[i]? = some x) (hr : x.frm ≠ x.at') {p : GO} (hp : p ∈ R) (hq : qB x p = true) (hl : p.1.mem.length < 64) : Inv xs (i + 1) (i + 1) (R.map (addIf x i)) := by
  obtain ⟨R1, R2, rfl, n1, n2⟩ := h.split hp hq
  obtain ⟨a0, a1, a2, a3, a4⟩ := qB_key hq
  rw [List.map_append, List.map_cons, map_addIf_none n1, map_addIf_none n2]
  have e : addIf x i p = ({ p.1 with mem := p.1.mem ++ [i] }, p.2) := by simp [addIf, hq]
  rw [e]
  have inv : ∀ q ∈ R1 ++ ({ p.1 with mem := p.1.mem ++ [i] }, p.2) :: R2, q = ({ p.1 with mem := p.1.mem ++ [i] }, p.2) ∨ q ∈ R1 ++ p :: R2 := by
    intro q hq
    rcases List.mem_append.1 hq with hq | hq
    · right; simp [hq]
    · rcases List.mem_cons.1 hq with hq | hq
      · exact .inl hq
      · right; simp [hq]
  have hne := h.ne p hp
  refine ⟨?_, fun q hq' => ?_, fun q hq' => ?_, fun q hq' => ?_, fun q hq' m hm => ?_, fun q hq' => ?_, fun q hq' b hb => ?_, fun q hq' ho => ?_, ?_, ?_, fun m => ?_⟩
  · have := h.len; simp at this ⊢; omega
  · rcases inv q hq' with rfl | hq'
    · refine List.pairwise_append.2 ⟨h.asc p hp, by simp, fun a ha b hb => ?_⟩
      simp at hb; subst hb; exact h.lt hp ha
    · exact h.asc q hq'
  · rcases inv q hq' with rfl | hq'
    · simp
    · exact h.ne q hq'
  · rcases inv q hq' with rfl | hq'
    · simp; omega
    · exact h.le64 q hq'
  · rcases inv q hq' with rfl | hq'
    · rcases List.mem_append.1 hm with hm | hm
      · exact h.same p hp m hm
      · simp at hm; subst hm; exact ⟨x, hx, a1.symm, a4.symm, a2.symm, a3.symm⟩
    · exact h.same q hq' m hm
  · rcases inv q hq' with rfl | hq'
    · exact h.far p hp
    · exact h.far q hq'
  · rcases inv q hq' with rfl | hq'
    · rcases List.mem_append.1 hb with hb | hb
      · exact (h.ok p hp b hb).snoc hne (by have := h.lt hp hb; omega)
      · simp at hb; subst hb
        intro j h1 h2
        exact (h.oko p hp a0).snoc hne (by omega) j h1 (by omega)
    · exact h.ok q hq' b hb
  · rcases inv q hq' with rfl | hq'
    · exact (h.oko p hp a0).snoc hne (by omega)
    · exact h.oko q hq' ho
  · have hu := List.pairwise_append.1 h.uq
    have hc := List.pairwise_cons.1 hu.2.1
    refine List.pairwise_append.2 ⟨hu.1, List.pairwise_cons.2 ⟨fun q hq' => hc.1 q hq', hc.2⟩, fun q hq' r hr' => ?_⟩
    rcases List.mem_cons.1 hr' with rfl | hr'
    · exact hu.2.2 q hq' p (by simp)
    · exact hu.2.2 q hq' r (by simp [hr'])
  · have hn := h.nodup
    simp only [List.flatMap_append, List.flatMap_cons] at hn ⊢
    have hi : ∀ m ∈ R1.flatMap (·.1.mem) ++ (p.1.mem ++ R2.flatMap (·.1.mem)), m < i := by
      intro m hm
      exact ((h.mem m).1 (by simpa [List.flatMap_append, List.flatMap_cons] using hm)).1
    have hp' : (R1.flatMap (·.1.mem) ++ ((p.1.mem ++ [i]) ++ R2.flatMap (·.1.mem))).Perm (i :: (R1.flatMap (·.1.mem) ++ (p.1.mem ++ R2.flatMap (·.1.mem)))) := by
      refine (List.Perm.append_left _ ?_).trans List.perm_middle
      rw [List.append_assoc]
      exact List.perm_middle
    refine hp'.nodup_iff.2 (List.nodup_cons.2 ⟨fun hm => absurd (hi i hm) (Nat.lt_irrefl _), hn⟩)
  · have hm := h.mem m
    simp only [List.flatMap_append, List.flatMap_cons, List.mem_append, List.mem_singleton] at hm ⊢
    constructor
    · rintro (h1 | (h1 | rfl) | h1)
      · obtain ⟨a, b⟩ := hm.1 (.inl h1); exact ⟨by omega, b⟩
      · obtain ⟨a, b⟩ := hm.1 (.inr (.inl h1)); exact ⟨by omega, b⟩
      · exact ⟨by omega, x, hx, hr⟩
      · obtain ⟨a, b⟩ := hm.1 (.inr (.inr h1)); exact ⟨by omega, b⟩
    · rintro ⟨h1, h2⟩
      rcases Nat.lt_or_ge m i with hmi | hmi
      · rcases hm.2 ⟨hmi, h2⟩ with h3 | h3 | h3
        · exact .inl h3
        · exact .inr (.inl (.inl h3))
        · exact .inr (.inr h3)
      · exact .inr (.inl (.inr (by omega)))

theorem Inv.step (h : Inv xs i i R) (hx : xs[i]? = some x) : Inv xs (i + 1) (i + 1) (stepR xs i x R) := by
  unfold stepR
  by_cases hd : dataB x = true
  · rw [if_pos hd]
    have h1 : Inv xs i (i + 1) (R.map (shutIf (cutB xs x))) := (h.shut _).later hx (fun p hp ho ht => by
      refine ⟨hd, ?_⟩
      obtain ⟨q, hq, rfl⟩ := List.mem_map.1 hp
      simp only [shutIf, Bool.and_eq_true, Bool.not_eq_true'] at ho
      have hc := ho.2
      simp only [shutIf] at ht ⊢
      unfold cutB alikeB at hc
      by_cases e1 : x.kind = q.1.kind
      · exact .inl e1
      · by_cases e2 : x.frm = q.1.frm
        · by_cases e3 : x.at' = q.1.at'
          · refine .inr (.inr (.inr (fun m hm y hy e => ?_)))
            have : q.1.mem.any (hitB xs x.place) = true := List.any_eq_true.2 ⟨m, hm, by simp [hitB, hy, e]⟩
            rw [this, ht, e2, e3] at hc
            simp at hc
            exact e1 hc.symm
          · exact .inr (.inr (.inl e3))
        · exact .inr (.inl e2))
    by_cases hr : x.frm = x.at'
    · rw [if_pos hr]; exact h1.local_ hx hr
    · rw [if_neg hr]
      split
      · rename_i ha
        obtain ⟨p, hp, hq⟩ := List.any_eq_true.1 ha
        simp only [Bool.and_eq_true, decide_eq_true_eq] at hq
        exact h1.add hx hr hp hq.1 hq.2
      · refine (h1.shut (qB x)).new hx hr true (fun _ => ⟨hd, fun p hp ho hk => ?_⟩)
        obtain ⟨q, hq, rfl⟩ := List.mem_map.1 hp
        simp only [shutIf, Bool.and_eq_true, Bool.not_eq_true'] at ho
        have : qB x q = true := by
          obtain ⟨k1, k2, k3, k4⟩ := hk
          simp only [shutIf, newG] at k1 k2 k3 k4
          simp [qB, alikeB, ho.1, k1, k2, k3, k4]
        rw [this] at ho; exact absurd ho.2 (by decide)
  · rw [if_neg hd]
    have h1 : Inv xs i (i + 1) (R.map (shutIf (fun p => p.1.task == x.task))) := (h.shut _).later hx (fun p hp ho ht => by
      obtain ⟨q, hq, rfl⟩ := List.mem_map.1 hp
      simp only [shutIf, Bool.and_eq_true, Bool.not_eq_true', beq_eq_false_iff_ne] at ho ht
      exact absurd ht.symm ho.2)
    by_cases hr : x.frm = x.at'
    · rw [if_pos hr]; exact h1.local_ hx hr
    · rw [if_neg hr]; exact h1.new hx hr false (fun e => by cases e)

def runR (xs : List Acc) : Nat → List GO
  | 0 => []
  | k + 1 => match xs[k]? with | some x => stepR xs k x (runR xs k) | none => runR xs k
theorem runR_succ {k : Nat} (hx : xs[k]? = some x) : runR xs (k + 1) = stepR xs k x (runR xs k) := by simp [runR, hx]
theorem inv_run (xs : List Acc) : ∀ k, k ≤ xs.length → Inv xs k k (runR xs k)
  | 0, _ => ⟨by simp [runR], by simp [runR], by simp [runR], by simp [runR], by simp [runR], by simp [runR], by simp [runR], by simp [runR], by simp [runR], by simp [runR], by simp [runR]⟩
  | k + 1, h => by
    obtain ⟨x, hx⟩ := get_some (xs := xs) (k := k) (by omega)
    rw [runR_succ hx]
    exact (inv_run xs k (by omega)).step hx
end
end Go.Proofs.YtghjhlenkgkelaaGreatDoor
