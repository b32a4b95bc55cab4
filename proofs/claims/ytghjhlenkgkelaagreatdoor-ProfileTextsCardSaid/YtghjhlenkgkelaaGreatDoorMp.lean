/- DERIVED. Maps as association lists over keys and values of Lean types: look-up, store, iteration. -/
import Derived.Test.YtghjhlenkgkelaaGreatDoorBase
import Derived.Maps.RangeRun
import Derived.Maps.Own
set_option linter.unusedSimpArgs false
set_option linter.unusedVariables false
namespace Go.Proofs.YtghjhlenkgkelaaGreatDoor
open Go.RowKit Go.ChangeMaps

section key
variable {P : Program} {k : TypeId} {κ : Type}

/-- What the laws on maps ask of the key type. -/
structure MKey (P : Program) (k : TypeId) {κ : Type} (enc : κ → Value) : Prop where
  inj : ∀ {x y : κ}, enc x = enc y → x = y
  chk : ∀ (w : World) (em : Bool) (x : κ), (Instr.checkKey em 10000 k (enc x)).run P w = .ok () w
  stay : ∀ (w : World) (x : κ), (Instr.keyThatStays (enc x) (enc x)).run P w = .ok (enc x) w
  miss : ∀ (w : World) (x : κ) (l : List MapEntry), (∀ e ∈ l, ∃ y, e.key = enc y ∧ y ≠ x) → (Instr.findKey k (enc x) l).run P w = .ok none w
  hit : ∀ (w : World) (x : κ) (l1 : List MapEntry) (e : MapEntry) (l2 : List MapEntry), (∀ e ∈ l1, ∃ y, e.key = enc y ∧ y ≠ x) → e.key = enc x →
    (Instr.findKey k (enc x) (l1 ++ e :: l2)).run P w = .ok (some (l1.length, e.val)) w

theorem asking_miss {enc : κ → Value} (eq : ∀ (w : World) (x y : κ), ∃ b : Bool, (Op.equal k (enc x) (enc y)).run P w = .ok b w ∧ (b = true ↔ x = y)) (w : World) (x : κ) :
    ∀ (l : List MapEntry) (i : Nat), (∀ e ∈ l, ∃ y, e.key = enc y ∧ y ≠ x) → (Instr.findAsking k (enc x) l i).run P w = .ok none w
  | [], _, _ => by simp [Instr.findAsking]
  | e :: l, i, h => by
    obtain ⟨y, hy, hne⟩ := h e (by simp)
    obtain ⟨b, hb, hbe⟩ := eq w x y
    have hf : b = false := by
      cases b
      · rfl
      · exact absurd (hbe.1 rfl).symm hne
    subst hf
    simp only [Instr.findAsking, hy, Sem.run_bind, hb, Result.andThen_ok, Bool.false_eq_true, if_false]
    exact asking_miss eq w x l (i + 1) fun e he => h e (by simp [he])

theorem asking_hit {enc : κ → Value} (eq : ∀ (w : World) (x y : κ), ∃ b : Bool, (Op.equal k (enc x) (enc y)).run P w = .ok b w ∧ (b = true ↔ x = y)) (w : World) (x : κ) (e : MapEntry) (l2 : List MapEntry) (he : e.key = enc x) :
    ∀ (l : List MapEntry) (i : Nat), (∀ e ∈ l, ∃ y, e.key = enc y ∧ y ≠ x) → (Instr.findAsking k (enc x) (l ++ e :: l2) i).run P w = .ok (some (i + l.length, e.val)) w
  | [], i, _ => by
    obtain ⟨b, hb, hbe⟩ := eq w x x
    obtain rfl : b = true := hbe.2 rfl
    simp [Instr.findAsking, he, Sem.run_bind, hb, Result.andThen_ok]
  | e' :: l, i, h => by
    obtain ⟨y, hy, hne⟩ := h e' (by simp)
    obtain ⟨b, hb, hbe⟩ := eq w x y
    have hf : b = false := by
      cases b
      · rfl
      · exact absurd (hbe.1 rfl).symm hne
    subst hf
    simp only [List.cons_append, Instr.findAsking, hy, Sem.run_bind, hb, Result.andThen_ok, Bool.false_eq_true, if_false]
    rw [asking_hit eq w x e l2 he l (i + 1) fun e he => h e (by simp [he])]
    simp; omega

/-- A key type at which every comparison is asked of '==' (arrays, structs). -/
theorem MKey.asks {enc : κ → Value} {d : TypeDesc} (hd : P.underlying k = some d) (hnow : ∀ x y : κ, Instr.sameNow d (enc x) (enc y) = none) (inj : ∀ {x y : κ}, enc x = enc y → x = y)
    (eq : ∀ (w : World) (x y : κ), ∃ b : Bool, (Op.equal k (enc x) (enc y)).run P w = .ok b w ∧ (b = true ↔ x = y))
    (chk : ∀ (w : World) (em : Bool) (x : κ), (Instr.checkKey em 10000 k (enc x)).run P w = .ok () w)
    (stay : ∀ (w : World) (x : κ), (Instr.keyThatStays (enc x) (enc x)).run P w = .ok (enc x) w) : MKey P k enc where
  inj := inj
  chk := chk
  stay := stay
  miss w x l h := by
    cases l with
    | nil => simp [Instr.findKey, Sem.run_bind, run_underlying hd, Instr.findNow]
    | cons e l =>
      obtain ⟨y, hy, _⟩ := h e (by simp)
      have hn : Instr.findNow d (enc x) (e :: l) 0 = none := by simp [Instr.findNow, hy, hnow]
      simp only [Instr.findKey, Sem.run_bind, run_underlying hd, Result.andThen_ok, hn]
      exact asking_miss eq w x (e :: l) 0 h
  hit w x l1 e l2 h he := by
    have hn : Instr.findNow d (enc x) (l1 ++ e :: l2) 0 = none := by
      cases l1 with
      | nil => simp [Instr.findNow, he, hnow]
      | cons e' l =>
        obtain ⟨y, hy, _⟩ := h e' (by simp)
        simp [Instr.findNow, hy, hnow]
    simp only [Instr.findKey, Sem.run_bind, run_underlying hd, Result.andThen_ok, hn]
    simpa using asking_hit eq w x e l2 he l1 0 h
end key

section map0
variable {κ ν : Type} {enc : κ → Value} {encV : ν → Value}
/-- Block b of w is a map whose entries are R. -/
def MapOf (enc : κ → Value) (encV : ν → Value) (w : World) (b : Nat) (R : List (κ × ν)) : Prop :=
  ∃ es clock, w.heap[b]? = some (.map es clock) ∧ es.toList.map (fun e => (e.key, e.val)) = R.map (fun p => (enc p.1, encV p.2)) ∧
    (∀ e ∈ es.toList, e.born < clock) ∧ (es.toList.map (·.born)).Nodup ∧ (R.map (·.1)).Nodup

theorem MapOf.lt {w : World} {b : Nat} {R : List (κ × ν)} (h : MapOf enc encV w b R) : b < w.heap.size := by
  obtain ⟨es, c, hb, _⟩ := h
  rcases Nat.lt_or_ge b w.heap.size with h1 | h1
  · exact h1
  · rw [Array.getElem?_eq_none h1] at hb; cases hb
theorem MapOf.block {w w' : World} {b : Nat} {R : List (κ × ν)} (h : MapOf enc encV w b R) (e : w'.heap[b]? = w.heap[b]?) : MapOf enc encV w' b R := by
  obtain ⟨es, c, hb, r⟩ := h
  exact ⟨es, c, e.trans hb, r⟩
theorem MapOf.kept {w w' : World} {b : Nat} {R : List (κ × ν)} {row : Option Nat} (h : MapOf enc encV w b R) (hg : w.grownBy w' row) (hne : some b ≠ row) : MapOf enc encV w' b R :=
  h.block (hg.block b h.lt hne)
theorem MapOf.alloc {w : World} {b : Nat} {R : List (κ × ν)} (h : MapOf enc encV w b R) (o : Obj) : MapOf enc encV (w.alloc o) b R := h.block (Below.heap_alloc w o b h.lt)
theorem MapOf.below {w w' : World} {b B : Nat} {R : List (κ × ν)} (h : MapOf enc encV w b R) (hb : Below B w w') (hB : b < B) : MapOf enc encV w' b R := h.block (hb.block b hB)
theorem MapOf.setCell {w : World} {b : Nat} {R : List (κ × ν)} (h : MapOf enc encV w b R) {p : Addr} (hp : b ≠ p.block) (v : Value) : MapOf enc encV (w.setCell p v) b R := h.block (Below.heap_setCell w p v b hp)
theorem MapOf.drewN {w : World} {b : Nat} {R : List (κ × ν)} (h : MapOf enc encV w b R) (n : Nat) : MapOf enc encV (w.drewN n) b R := h.block rfl
theorem MapOf.nodup {w : World} {b : Nat} {R : List (κ × ν)} (h : MapOf enc encV w b R) : (R.map (·.1)).Nodup := by
  obtain ⟨_, _, _, _, _, _, h⟩ := h; exact h
theorem MapOf.made (w : World) : MapOf enc encV (w.alloc (.map #[] 0)) w.heap.size ([] : List (κ × ν)) :=
  ⟨#[], 0, heap_alloc_new w _, rfl, by simp, by simp, by simp⟩

theorem split_at {R : List (κ × ν)} {x : κ} (hx : x ∈ R.map (·.1)) (hd : (R.map (·.1)).Nodup) : ∃ R1 v R2, R = R1 ++ (x, v) :: R2 ∧ (∀ p ∈ R1, p.1 ≠ x) ∧ (∀ p ∈ R2, p.1 ≠ x) := by
  obtain ⟨⟨y, v⟩, hp, rfl⟩ := List.mem_map.1 hx
  obtain ⟨R1, R2, rfl⟩ := List.append_of_mem hp
  rw [List.map_append, List.nodup_append] at hd
  refine ⟨R1, v, R2, rfl, ?_, ?_⟩
  · intro p hq e
    exact hd.2.2 p.1 (List.mem_map_of_mem hq) y (by simp) e
  · intro p hq e
    have := hd.2.1
    simp only [List.map_cons, List.nodup_cons] at this
    have hm : p.1 ∈ R2.map (·.1) := List.mem_map_of_mem hq
    rw [e] at hm
    exact this.1 hm
theorem modify_at {α : Type} (f : α → α) (e : α) : ∀ (l1 l2 : List α), (l1 ++ e :: l2).modify l1.length f = l1 ++ f e :: l2
  | [], _ => by simp
  | a :: l1, l2 => by simp [modify_at f e l1 l2]
theorem run_getObj_m {P : Program} {w : World} {r : Nat} {es : Array MapEntry} {clock : Nat} (hb : w.heap[r]? = some (.map es clock)) : (getObj r).run P w = .ok (.map es clock) w := by simp [getObj, Sem.run, hb]
theorem run_setObj_m {P : Program} {w : World} {r : Nat} {es : Array MapEntry} {clock : Nat} (o : Obj) (hb : w.heap[r]? = some (.map es clock)) : (setObj r o).run P w = .ok () { w with heap := w.heap.setIfInBounds r o } := by simp [setObj, Sem.run, hb]
end map0

section map
variable {P : Program} {k : TypeId} {κ ν : Type} [DecidableEq κ] {enc : κ → Value} {encV : ν → Value}

def look (R : List (κ × ν)) (x : κ) : Option ν := (R.find? (fun p => p.1 = x)).map (·.2)
def upd (R : List (κ × ν)) (x : κ) (v : ν) : List (κ × ν) := if R.any (fun p => p.1 = x) then R.map (fun p => if p.1 = x then (x, v) else p) else R ++ [(x, v)]

theorem look_cons (p : κ × ν) (R : List (κ × ν)) (x : κ) : look (p :: R) x = if p.1 = x then some p.2 else look R x := by
  by_cases h : p.1 = x <;> simp [look, List.find?_cons, h]
theorem look_nil (x : κ) : look ([] : List (κ × ν)) x = none := rfl
theorem look_none_iff {R : List (κ × ν)} {x : κ} : look R x = none ↔ ∀ p ∈ R, p.1 ≠ x := by
  simp [look, List.find?_eq_none]
theorem look_upd (R : List (κ × ν)) (x y : κ) (v : ν) : look (upd R x v) y = if x = y then some v else look R y := by
  induction R with
  | nil =>
    by_cases h : x = y <;> simp [upd, look, h]
  | cons p R ih =>
    by_cases hp : p.1 = x
    · have : ∀ (R' : List (κ × ν)) (y : κ), look (R'.map (fun p => if p.1 = x then (x, v) else p)) y = if x = y then (if R'.any (fun p => p.1 = x) then some v else none) else look R' y := by
        intro R' y
        induction R' with
        | nil => by_cases h : x = y <;> simp [look, h]
        | cons q R' ih =>
          rw [List.map_cons, look_cons, ih, look_cons]
          by_cases hy : x = y
          · subst hy
            by_cases hq : q.1 = x <;> by_cases ha : R'.any (fun p => p.1 = x) <;> simp [hq, ha]
          · by_cases hq : q.1 = x
            · simp [hq, hy]
            · simp [hq, hy]
      simp only [upd, List.any_cons, hp, decide_true, Bool.true_or, if_true]
      rw [this]
      simp [hp]
    · by_cases ha : R.any (fun p => p.1 = x)
      · simp only [upd, List.any_cons, hp, decide_false, Bool.false_or, ha, if_true, List.map_cons, if_false] at ih ⊢
        rw [look_cons, ih, look_cons]
        by_cases hy : x = y
        · subst hy; simp [hp]
        · simp [hy]
      · simp only [upd, List.any_cons, hp, decide_false, Bool.false_or, ha, if_false, Bool.false_eq_true, List.cons_append] at ih ⊢
        rw [look_cons, ih, look_cons]
        by_cases hy : x = y
        · subst hy; simp [hp]
        · simp [hy]
theorem keys_upd (R : List (κ × ν)) (x : κ) (v : ν) : (upd R x v).map (·.1) = if x ∈ R.map (·.1) then R.map (·.1) else R.map (·.1) ++ [x] := by
  unfold upd
  by_cases h : R.any (fun p => p.1 = x)
  · have hm : x ∈ R.map (·.1) := by
      simp only [List.any_eq_true, decide_eq_true_eq] at h
      obtain ⟨p, hp, rfl⟩ := h
      exact List.mem_map_of_mem hp
    rw [if_pos h, if_pos hm, List.map_map]
    apply List.map_congr_left
    intro p _
    by_cases hp : p.1 = x <;> simp [hp]
  · have hm : x ∉ R.map (·.1) := by
      intro hm
      obtain ⟨p, hp, rfl⟩ := List.mem_map.1 hm
      exact h (List.any_eq_true.2 ⟨p, hp, by simp⟩)
    rw [if_neg h, if_neg hm]; simp
theorem upd_nodup {R : List (κ × ν)} (h : (R.map (·.1)).Nodup) (x : κ) (v : ν) : ((upd R x v).map (·.1)).Nodup := by
  rw [keys_upd]
  split
  · exact h
  · rename_i hx
    exact List.nodup_append.2 ⟨h, by simp, by rintro a ha b hb rfl; simp at hb; subst hb; exact hx ha⟩
theorem upd_length_le (R : List (κ × ν)) (x : κ) (v : ν) : (upd R x v).length ≤ R.length + 1 := by
  unfold upd; split <;> simp

theorem MapOf.find {w w0 : World} {b : Nat} {R : List (κ × ν)} (h : MapOf enc encV w b R) (K : MKey P k enc) (x : κ) :
    ∃ es clock, w.heap[b]? = some (.map es clock) ∧
      ((look R x = none ∧ (Instr.findKey k (enc x) es.toList).run P w0 = .ok none w0) ∨
       ∃ R1 v R2 e, R = R1 ++ (x, v) :: R2 ∧ (∀ p ∈ R1, p.1 ≠ x) ∧ (∀ p ∈ R2, p.1 ≠ x) ∧ es.toList[R1.length]? = some e ∧ e.key = enc x ∧ look R x = some v ∧ (Instr.findKey k (enc x) es.toList).run P w0 = .ok (some (R1.length, encV v)) w0) := by
  obtain ⟨es, clock, hb, he, _, _, hd⟩ := h
  refine ⟨es, clock, hb, ?_⟩
  have key_of : ∀ (l : List MapEntry) (S : List (κ × ν)), l.map (fun e => (e.key, e.val)) = S.map (fun p => (enc p.1, encV p.2)) → (∀ p ∈ S, p.1 ≠ x) → ∀ e ∈ l, ∃ y, e.key = enc y ∧ y ≠ x := by
    intro l S hl hS e hm
    have : (e.key, e.val) ∈ S.map (fun p => (enc p.1, encV p.2)) := hl ▸ List.mem_map_of_mem (f := fun e : MapEntry => (e.key, e.val)) hm
    obtain ⟨p, hp, hpe⟩ := List.mem_map.1 this
    exact ⟨p.1, (congrArg Prod.fst hpe).symm, hS p hp⟩
  by_cases hx : x ∈ R.map (·.1)
  · obtain ⟨R1, v, R2, rfl, h1, h2⟩ := split_at hx hd
    right
    rw [List.map_append, List.map_cons] at he
    obtain ⟨l1, l2, hl, hl1, hl2⟩ := List.map_eq_append_iff.1 he
    obtain ⟨e, l3, rfl, hee, hl3⟩ := List.map_eq_cons_iff.1 hl2
    have hlen : l1.length = R1.length := by simpa using congrArg List.length hl1
    have hk : e.key = enc x := congrArg Prod.fst hee
    have hv : e.val = encV v := congrArg Prod.snd hee
    refine ⟨R1, v, R2, e, rfl, h1, h2, by rw [hl, ← hlen]; simp, hk, ?_, ?_⟩
    · unfold look
      rw [List.find?_append, List.find?_eq_none.2 (by simpa using h1)]
      simp
    · rw [hl, K.hit w0 x l1 e l3 (key_of l1 R1 hl1 h1) hk, hlen, hv]
  · left
    have hS : ∀ p ∈ R, p.1 ≠ x := fun p hp e => hx (e ▸ List.mem_map_of_mem hp)
    exact ⟨look_none_iff.2 hS, K.miss w0 x es.toList (key_of _ R he hS)⟩

theorem MapOf.lookup {w : World} {b : Nat} {R : List (κ × ν)} {t e : TypeId} (h : MapOf enc encV w b R) (K : MKey P k enc) (ht : P.underlying t = some (.map k e)) {z : ν} (hz : (zeroValue e).run P w = .ok (encV z) w) (x : κ) :
    (Instr.lookup t (.map (some b)) (enc x) false).run P w = .ok (encV ((look R x).getD z)) w := by
  obtain ⟨es, clock, hb, hf⟩ := h.find (w0 := w) K x
  rcases hf with ⟨hl, hrun⟩ | ⟨R1, v, R2, e, _, _, _, _, _, hl, hrun⟩
  · simp [Instr.lookup, Sem.run_bind, run_underlying ht, run_getObj_m hb, K.chk, hrun, hl, hz]
  · simp [Instr.lookup, Sem.run_bind, run_underlying ht, run_getObj_m hb, K.chk, hrun, hl]
theorem MapOf.lookup_ok {w : World} {b : Nat} {R : List (κ × ν)} {t e : TypeId} (h : MapOf enc encV w b R) (K : MKey P k enc) (ht : P.underlying t = some (.map k e)) {z : ν} (hz : (zeroValue e).run P w = .ok (encV z) w) (x : κ) :
    (Instr.lookup t (.map (some b)) (enc x) true).run P w = .ok (.tuple #[encV ((look R x).getD z), .bool (look R x).isSome]) w := by
  obtain ⟨es, clock, hb, hf⟩ := h.find (w0 := w) K x
  rcases hf with ⟨hl, hrun⟩ | ⟨R1, v, R2, e, _, _, _, _, _, hl, hrun⟩
  · simp [Instr.lookup, Sem.run_bind, run_underlying ht, run_getObj_m hb, K.chk, hrun, hl, hz]
  · simp [Instr.lookup, Sem.run_bind, run_underlying ht, run_getObj_m hb, K.chk, hrun, hl]

theorem MapOf.update {w : World} {b : Nat} {R : List (κ × ν)} {t e : TypeId} (h : MapOf enc encV w b R) (K : MKey P k enc) (ht : P.underlying t = some (.map k e)) (x : κ) (v : ν) :
    ∃ w', (Instr.mapUpdate t (.map (some b)) (enc x) (encV v)).run P w = .ok () w' ∧ MapOf enc encV w' b (upd R x v) ∧ w.grownBy w' (some b) ∧ w'.heap.size = w.heap.size := by
  have hlt := h.lt
  obtain ⟨es, clock, hb, hf⟩ := h.find (w0 := w) K x
  obtain ⟨es', clock', hb', he, hborn, hnd, hd⟩ := h
  obtain ⟨rfl, rfl⟩ : es' = es ∧ clock' = clock := by rw [hb] at hb'; cases hb'; exact ⟨rfl, rfl⟩
  have grow : ∀ o, w.grownBy { w with heap := w.heap.setIfInBounds b o } (some b) := fun o => ⟨rfl, rfl, rfl, by simp, fun i _ hi => heap_setBlock_other hb _ (fun e => hi (by rw [e]))⟩
  rcases hf with ⟨hl, hrun⟩ | ⟨R1, v0, R2, e0, rfl, h1, h2, hget, hk, hl, hrun⟩
  · refine ⟨{ w with heap := w.heap.setIfInBounds b (.map (es'.push { key := enc x, val := encV v, born := clock' }) (clock' + 1)) }, ?_, ?_, grow _, by simp⟩
    · simp [Instr.mapUpdate, Sem.run_bind, run_underlying ht, run_getObj_m hb, K.chk, hrun, run_setObj_m _ hb]
    · have hS := look_none_iff.1 hl
      have hany : R.any (fun p => p.1 = x) = false := by
        rw [List.any_eq_false]; intro p hp; simpa using hS p hp
      refine ⟨_, _, heap_setBlock_same hb _, ?_, ?_, ?_, upd_nodup hd x v⟩
      · simp [upd, hany, he]
      · intro e he'
        simp only [Array.toList_push, List.mem_append, List.mem_singleton] at he'
        rcases he' with he' | rfl
        · have := hborn e he'; omega
        · simp
      · simp only [Array.toList_push, List.map_append, List.map_cons, List.map_nil]
        refine List.nodup_append.2 ⟨hnd, by simp, ?_⟩
        rintro a ha c hc rfl
        simp at hc; subst hc
        obtain ⟨e, he', hee⟩ := List.mem_map.1 ha
        have := hborn e he'; omega
  · have hi : R1.length < es'.size := by
      have := (List.getElem?_eq_some_iff.1 hget).1; simpa using this
    have hge : es'[R1.length]? = some e0 := by rw [← hget]; simp
    refine ⟨{ w with heap := w.heap.setIfInBounds b (.map (es'.modify R1.length fun e => { e with key := enc x, val := encV v }) clock') }, ?_, ?_, grow _, by simp⟩
    · simp [Instr.mapUpdate, Sem.run_bind, run_underlying ht, run_getObj_m hb, K.chk, hrun, run_setObj_m _ hb, hge, hk, K.stay]
    · refine ⟨_, _, heap_setBlock_same hb _, ?_, ?_, ?_, upd_nodup hd x v⟩
      · have hany : (R1 ++ (x, v0) :: R2).any (fun p => p.1 = x) = true := by simp
        rw [upd, if_pos hany, Array.toList_modify, List.map_append, List.map_cons]
        rw [List.map_append, List.map_cons] at he
        obtain ⟨l1, l2, hl', hl1, hl2⟩ := List.map_eq_append_iff.1 he
        obtain ⟨e, l3, rfl, hee, hl3⟩ := List.map_eq_cons_iff.1 hl2
        have hlen : R1.length = l1.length := by simpa using (congrArg List.length hl1).symm
        rw [hl', hlen, modify_at]
        have m1 : R1.map (fun p => if p.1 = x then (x, v) else p) = R1 := by
          conv => rhs; rw [← List.map_id R1]
          exact List.map_congr_left fun p hp => by simp [h1 p hp]
        have m2 : R2.map (fun p => if p.1 = x then (x, v) else p) = R2 := by
          conv => rhs; rw [← List.map_id R2]
          exact List.map_congr_left fun p hp => by simp [h2 p hp]
        simp [m1, m2, hl1, hl3]
      · intro e he'
        rw [Array.toList_modify] at he'
        obtain ⟨j, hj⟩ := List.getElem?_of_mem he'
        rw [List.getElem?_modify] at hj
        cases hq : es'.toList[j]? with
        | none => simp [hq] at hj
        | some e1 =>
          have := hborn e1 (List.mem_of_getElem? hq)
          simp [hq] at hj
          split at hj <;> (subst hj; simpa using this)
      · have : (es'.modify R1.length fun e => { e with key := enc x, val := encV v }).toList.map (·.born) = es'.toList.map (·.born) := by
          rw [Array.toList_modify]
          apply List.ext_getElem?
          intro j
          simp only [List.getElem?_map, List.getElem?_modify]
          split
          · cases es'.toList[j]? <;> simp
          · cases es'.toList[j]? <;> simp
        rw [this]; exact hnd
end map
end Go.Proofs.YtghjhlenkgkelaaGreatDoor
