/- DERIVED. Maps whose keys are ints; the intervals' map. -/
import Derived.Test.YtpahhcmiimllaaaGreatDoorCd
import Derived.Maps.RangeRun
import Derived.Maps.Own
import Derived.Maps.RangeWalk
import Derived.Maps.OwnIn
import Derived.Sort.MapsRangeIn
import Derived.RangeFuncGives
import Derived.Test.YtpahhcmiimllaaaGreatDoorSortI
import Derived.Test.YtpahhcmiimllaaaGreatDoorLoopR
set_option linter.unusedSimpArgs false
set_option linter.unusedVariables false
namespace Go.Proofs.YtpahhcmiimllaaaGreatDoor
open Go.RowKit Go.ChangeMaps

section key
variable {P : Program} {k : TypeId} {κ : Type}

/-- What the laws on maps ask of the key type. -/
structure MKey (P : Program) (k : TypeId) {κ : Type} (enc : κ → Value) : Prop where
  inj : ∀ {x y : κ}, enc x = enc y → x = y
  chk : ∀ (w : World) (em : Bool) (x : κ), (Instr.checkKey em 10000 k (enc x)).run P w = .ok () w
  stay : ∀ (w : World) (x : κ), (Instr.keyThatStays (enc x) (enc x)).run P w = .ok (enc x) w
  miss : ∀ (w : World) (x : κ) (l : List MapEntry), (∀ e ∈ l, ∃ y, e.key = enc y ∧ y ≠ x) → (Instr.findKey k (enc x) l).run P w = .ok none w
  hit : ∀ (w : World) (x : κ) (l1 : List MapEntry) (e : MapEntry) (l2 : List MapEntry), (∀ e ∈ l1, ∃ y, e.key = enc y ∧ y ≠ x) → e.key = enc x →
    (Instr.findKey k (enc x) (l1 ++ e :: l2)).run P w = .ok (some (l1.length, e.val)) w

theorem asking_miss {enc : κ → Value} (eq : ∀ (w : World) (x y : κ), ∃ b : Bool, (Op.equal k (enc x) (enc y)).run P w = .ok b w ∧ (b = true ↔ x = y)) (w : World) (x : κ) :
    ∀ (l : List MapEntry) (i : Nat), (∀ e ∈ l, ∃ y, e.key = enc y ∧ y ≠ x) → (Instr.findAsking k (enc x) l i).run P w = .ok none w
  | [], _, _ => by simp [Instr.findAsking]
  | e :: l, i, h => by
    obtain ⟨y, hy, hne⟩ := h e (by simp)
    obtain ⟨b, hb, hbe⟩ := eq w x y
    have hf : b = false := by
      cases b
      · rfl
      · exact absurd (hbe.1 rfl).symm hne
    subst hf
    simp only [Instr.findAsking, hy, Sem.run_bind, hb, Result.andThen_ok, Bool.false_eq_true, if_false]
    exact asking_miss eq w x l (i + 1) fun e he => h e (by simp [he])

theorem asking_hit {enc : κ → Value} (eq : ∀ (w : World) (x y : κ), ∃ b : Bool, (Op.equal k (enc x) (enc y)).run P w = .ok b w ∧ (b = true ↔ x = y)) (w : World) (x : κ) (e : MapEntry) (l2 : List MapEntry) (he : e.key = enc x) :
    ∀ (l : List MapEntry) (i : Nat), (∀ e ∈ l, ∃ y, e.key = enc y ∧ y ≠ x) → (Instr.findAsking k (enc x) (l ++ e :: l2) i).run P w = .ok (some (i + l.length, e.val)) w
  | [], i, _ => by
    obtain ⟨b, hb, hbe⟩ := eq w x x
    obtain rfl : b = true := hbe.2 rfl
    simp [Instr.findAsking, he, Sem.run_bind, hb, Result.andThen_ok]
  | e' :: l, i, h => by
    obtain ⟨y, hy, hne⟩ := h e' (by simp)
    obtain ⟨b, hb, hbe⟩ := eq w x y
    have hf : b = false := by
      cases b
      · rfl
      · exact absurd (hbe.1 rfl).symm hne
    subst hf
    simp only [List.cons_append, Instr.findAsking, hy, Sem.run_bind, hb, Result.andThen_ok, Bool.false_eq_true, if_false]
    rw [asking_hit eq w x e l2 he l (i + 1) fun e he => h e (by simp [he])]
    simp; omega

/-- A key type at which every comparison is asked of '==' (arrays, structs). -/
theorem MKey.asks {enc : κ → Value} {d : TypeDesc} (hd : P.underlying k = some d) (hnow : ∀ x y : κ, Instr.sameNow d (enc x) (enc y) = none) (inj : ∀ {x y : κ}, enc x = enc y → x = y)
    (eq : ∀ (w : World) (x y : κ), ∃ b : Bool, (Op.equal k (enc x) (enc y)).run P w = .ok b w ∧ (b = true ↔ x = y))
    (chk : ∀ (w : World) (em : Bool) (x : κ), (Instr.checkKey em 10000 k (enc x)).run P w = .ok () w)
    (stay : ∀ (w : World) (x : κ), (Instr.keyThatStays (enc x) (enc x)).run P w = .ok (enc x) w) : MKey P k enc where
  inj := inj
  chk := chk
  stay := stay
  miss w x l h := by
    cases l with
    | nil => simp [Instr.findKey, Sem.run_bind, run_underlying hd, Instr.findNow]
    | cons e l =>
      obtain ⟨y, hy, _⟩ := h e (by simp)
      have hn : Instr.findNow d (enc x) (e :: l) 0 = none := by simp [Instr.findNow, hy, hnow]
      simp only [Instr.findKey, Sem.run_bind, run_underlying hd, Result.andThen_ok, hn]
      exact asking_miss eq w x (e :: l) 0 h
  hit w x l1 e l2 h he := by
    have hn : Instr.findNow d (enc x) (l1 ++ e :: l2) 0 = none := by
      cases l1 with
      | nil => simp [Instr.findNow, he, hnow]
      | cons e' l =>
        obtain ⟨y, hy, _⟩ := h e' (by simp)
        simp [Instr.findNow, hy, hnow]
    simp only [Instr.findKey, Sem.run_bind, run_underlying hd, Result.andThen_ok, hn]
    simpa using asking_hit eq w x e l2 he l1 0 h
end key

section map0
variable {κ ν : Type} {enc : κ → Value} {encV : ν → Value}
/-- Block b of w is a map whose entries are R. -/
def MapOf (enc : κ → Value) (encV : ν → Value) (w : World) (b : Nat) (R : List (κ × ν)) : Prop :=
  ∃ es clock, w.heap[b]? = some (.map es clock) ∧ es.toList.map (fun e => (e.key, e.val)) = R.map (fun p => (enc p.1, encV p.2)) ∧
    (∀ e ∈ es.toList, e.born < clock) ∧ (es.toList.map (·.born)).Nodup ∧ (R.map (·.1)).Nodup

theorem MapOf.lt {w : World} {b : Nat} {R : List (κ × ν)} (h : MapOf enc encV w b R) : b < w.heap.size := by
  obtain ⟨es, c, hb, _⟩ := h
  rcases Nat.lt_or_ge b w.heap.size with h1 | h1
  · exact h1
  · rw [Array.getElem?_eq_none h1] at hb; cases hb
theorem MapOf.block {w w' : World} {b : Nat} {R : List (κ × ν)} (h : MapOf enc encV w b R) (e : w'.heap[b]? = w.heap[b]?) : MapOf enc encV w' b R := by
  obtain ⟨es, c, hb, r⟩ := h
  exact ⟨es, c, e.trans hb, r⟩
theorem MapOf.kept {w w' : World} {b : Nat} {R : List (κ × ν)} {row : Option Nat} (h : MapOf enc encV w b R) (hg : w.grownBy w' row) (hne : some b ≠ row) : MapOf enc encV w' b R :=
  h.block (hg.block b h.lt hne)
theorem MapOf.alloc {w : World} {b : Nat} {R : List (κ × ν)} (h : MapOf enc encV w b R) (o : Obj) : MapOf enc encV (w.alloc o) b R := h.block (Below.heap_alloc w o b h.lt)
theorem MapOf.below {w w' : World} {b B : Nat} {R : List (κ × ν)} (h : MapOf enc encV w b R) (hb : Below B w w') (hB : b < B) : MapOf enc encV w' b R := h.block (hb.block b hB)
theorem MapOf.setCell {w : World} {b : Nat} {R : List (κ × ν)} (h : MapOf enc encV w b R) {p : Addr} (hp : b ≠ p.block) (v : Value) : MapOf enc encV (w.setCell p v) b R := h.block (Below.heap_setCell w p v b hp)
theorem MapOf.drewN {w : World} {b : Nat} {R : List (κ × ν)} (h : MapOf enc encV w b R) (n : Nat) : MapOf enc encV (w.drewN n) b R := h.block rfl
theorem MapOf.nodup {w : World} {b : Nat} {R : List (κ × ν)} (h : MapOf enc encV w b R) : (R.map (·.1)).Nodup := by
  obtain ⟨_, _, _, _, _, _, h⟩ := h; exact h
theorem MapOf.made (w : World) : MapOf enc encV (w.alloc (.map #[] 0)) w.heap.size ([] : List (κ × ν)) :=
  ⟨#[], 0, heap_alloc_new w _, rfl, by simp, by simp, by simp⟩

theorem split_at {R : List (κ × ν)} {x : κ} (hx : x ∈ R.map (·.1)) (hd : (R.map (·.1)).Nodup) : ∃ R1 v R2, R = R1 ++ (x, v) :: R2 ∧ (∀ p ∈ R1, p.1 ≠ x) ∧ (∀ p ∈ R2, p.1 ≠ x) := by
  obtain ⟨⟨y, v⟩, hp, rfl⟩ := List.mem_map.1 hx
  obtain ⟨R1, R2, rfl⟩ := List.append_of_mem hp
  rw [List.map_append, List.nodup_append] at hd
  refine ⟨R1, v, R2, rfl, ?_, ?_⟩
  · intro p hq e
    exact hd.2.2 p.1 (List.mem_map_of_mem hq) y (by simp) e
  · intro p hq e
    have := hd.2.1
    simp only [List.map_cons, List.nodup_cons] at this
    have hm : p.1 ∈ R2.map (·.1) := List.mem_map_of_mem hq
    rw [e] at hm
    exact this.1 hm
theorem modify_at {α : Type} (f : α → α) (e : α) : ∀ (l1 l2 : List α), (l1 ++ e :: l2).modify l1.length f = l1 ++ f e :: l2
  | [], _ => by simp
  | a :: l1, l2 => by simp [modify_at f e l1 l2]
theorem run_getObj_m {P : Program} {w : World} {r : Nat} {es : Array MapEntry} {clock : Nat} (hb : w.heap[r]? = some (.map es clock)) : (getObj r).run P w = .ok (.map es clock) w := by simp [getObj, Sem.run, hb]
theorem run_setObj_m {P : Program} {w : World} {r : Nat} {es : Array MapEntry} {clock : Nat} (o : Obj) (hb : w.heap[r]? = some (.map es clock)) : (setObj r o).run P w = .ok () { w with heap := w.heap.setIfInBounds r o } := by simp [setObj, Sem.run, hb]
end map0

section map
variable {P : Program} {k : TypeId} {κ ν : Type} [DecidableEq κ] {enc : κ → Value} {encV : ν → Value}

def look (R : List (κ × ν)) (x : κ) : Option ν := (R.find? (fun p => p.1 = x)).map (·.2)
def upd (R : List (κ × ν)) (x : κ) (v : ν) : List (κ × ν) := if R.any (fun p => p.1 = x) then R.map (fun p => if p.1 = x then (x, v) else p) else R ++ [(x, v)]

theorem look_cons (p : κ × ν) (R : List (κ × ν)) (x : κ) : look (p :: R) x = if p.1 = x then some p.2 else look R x := by
  by_cases h : p.1 = x <;> simp [look, List.find?_cons, h]
theorem look_nil (x : κ) : look ([] : List (κ × ν)) x = none := rfl
theorem look_none_iff {R : List (κ × ν)} {x : κ} : look R x = none ↔ ∀ p ∈ R, p.1 ≠ x := by
  simp [look, List.find?_eq_none]
theorem look_upd (R : List (κ × ν)) (x y : κ) (v : ν) : look (upd R x v) y = if x = y then some v else look R y := by
  induction R with
  | nil =>
    by_cases h : x = y <;> simp [upd, look, h]
  | cons p R ih =>
    by_cases hp : p.1 = x
    · have : ∀ (R' : List (κ × ν)) (y : κ), look (R'.map (fun p => if p.1 = x then (x, v) else p)) y = if x = y then (if R'.any (fun p => p.1 = x) then some v else none) else look R' y := by
        intro R' y
        induction R' with
        | nil => by_cases h : x = y <;> simp [look, h]
        | cons q R' ih =>
          rw [List.map_cons, look_cons, ih, look_cons]
          by_cases hy : x = y
          · subst hy
            by_cases hq : q.1 = x <;> by_cases ha : R'.any (fun p => p.1 = x) <;> simp [hq, ha]
          · by_cases hq : q.1 = x
            · simp [hq, hy]
            · simp [hq, hy]
      simp only [upd, List.any_cons, hp, decide_true, Bool.true_or, if_true]
      rw [this]
      simp [hp]
    · by_cases ha : R.any (fun p => p.1 = x)
      · simp only [upd, List.any_cons, hp, decide_false, Bool.false_or, ha, if_true, List.map_cons, if_false] at ih ⊢
        rw [look_cons, ih, look_cons]
        by_cases hy : x = y
        · subst hy; simp [hp]
        · simp [hy]
      · simp only [upd, List.any_cons, hp, decide_false, Bool.false_or, ha, if_false, Bool.false_eq_true, List.cons_append] at ih ⊢
        rw [look_cons, ih, look_cons]
        by_cases hy : x = y
        · subst hy; simp [hp]
        · simp [hy]
theorem keys_upd (R : List (κ × ν)) (x : κ) (v : ν) : (upd R x v).map (·.1) = if x ∈ R.map (·.1) then R.map (·.1) else R.map (·.1) ++ [x] := by
  unfold upd
  by_cases h : R.any (fun p => p.1 = x)
  · have hm : x ∈ R.map (·.1) := by
      simp only [List.any_eq_true, decide_eq_true_eq] at h
      obtain ⟨p, hp, rfl⟩ := h
      exact List.mem_map_of_mem hp
    rw [if_pos h, if_pos hm, List.map_map]
    apply List.map_congr_left
    intro p _
    by_cases hp : p.1 = x <;> simp [hp]
  · have hm : x ∉ R.map (·.1) := by
      intro hm
      obtain ⟨p, hp, rfl⟩ := List.mem_map.1 hm
      exact h (List.any_eq_true.2 ⟨p, hp, by simp⟩)
    rw [if_neg h, if_neg hm]; simp
theorem upd_nodup {R : List (κ × ν)} (h : (R.map (·.1)).Nodup) (x : κ) (v : ν) : ((upd R x v).map (·.1)).Nodup := by
  rw [keys_upd]
  split
  · exact h
  · rename_i hx
    exact List.nodup_append.2 ⟨h, by simp, by rintro a ha b hb rfl; simp at hb; subst hb; exact hx ha⟩
theorem upd_length_le (R : List (κ × ν)) (x : κ) (v : ν) : (upd R x v).length ≤ R.length + 1 := by
  unfold upd; split <;> simp

theorem MapOf.find {w w0 : World} {b : Nat} {R : List (κ × ν)} (h : MapOf enc encV w b R) (K : MKey P k enc) (x : κ) :
    ∃ es clock, w.heap[b]? = some (.map es clock) ∧
      ((look R x = none ∧ (Instr.findKey k (enc x) es.toList).run P w0 = .ok none w0) ∨
       ∃ R1 v R2 e, R = R1 ++ (x, v) :: R2 ∧ (∀ p ∈ R1, p.1 ≠ x) ∧ (∀ p ∈ R2, p.1 ≠ x) ∧ es.toList[R1.length]? = some e ∧ e.key = enc x ∧ look R x = some v ∧ (Instr.findKey k (enc x) es.toList).run P w0 = .ok (some (R1.length, encV v)) w0) := by
  obtain ⟨es, clock, hb, he, _, _, hd⟩ := h
  refine ⟨es, clock, hb, ?_⟩
  have key_of : ∀ (l : List MapEntry) (S : List (κ × ν)), l.map (fun e => (e.key, e.val)) = S.map (fun p => (enc p.1, encV p.2)) → (∀ p ∈ S, p.1 ≠ x) → ∀ e ∈ l, ∃ y, e.key = enc y ∧ y ≠ x := by
    intro l S hl hS e hm
    have : (e.key, e.val) ∈ S.map (fun p => (enc p.1, encV p.2)) := hl ▸ List.mem_map_of_mem (f := fun e : MapEntry => (e.key, e.val)) hm
    obtain ⟨p, hp, hpe⟩ := List.mem_map.1 this
    exact ⟨p.1, (congrArg Prod.fst hpe).symm, hS p hp⟩
  by_cases hx : x ∈ R.map (·.1)
  · obtain ⟨R1, v, R2, rfl, h1, h2⟩ := split_at hx hd
    right
    rw [List.map_append, List.map_cons] at he
    obtain ⟨l1, l2, hl, hl1, hl2⟩ := List.map_eq_append_iff.1 he
    obtain ⟨e, l3, rfl, hee, hl3⟩ := List.map_eq_cons_iff.1 hl2
    have hlen : l1.length = R1.length := by simpa using congrArg List.length hl1
    have hk : e.key = enc x := congrArg Prod.fst hee
    have hv : e.val = encV v := congrArg Prod.snd hee
    refine ⟨R1, v, R2, e, rfl, h1, h2, by rw [hl, ← hlen]; simp, hk, ?_, ?_⟩
    · unfold look
      rw [List.find?_append, List.find?_eq_none.2 (by simpa using h1)]
      simp
    · rw [hl, K.hit w0 x l1 e l3 (key_of l1 R1 hl1 h1) hk, hlen, hv]
  · left
    have hS : ∀ p ∈ R, p.1 ≠ x := fun p hp e => hx (e ▸ List.mem_map_of_mem hp)
    exact ⟨look_none_iff.2 hS, K.miss w0 x es.toList (key_of _ R he hS)⟩

theorem MapOf.lookup {w : World} {b : Nat} {R : List (κ × ν)} {t e : TypeId} (h : MapOf enc encV w b R) (K : MKey P k enc) (ht : P.underlying t = some (.map k e)) {z : ν} (hz : (zeroValue e).run P w = .ok (encV z) w) (x : κ) :
    (Instr.lookup t (.map (some b)) (enc x) false).run P w = .ok (encV ((look R x).getD z)) w := by
  obtain ⟨es, clock, hb, hf⟩ := h.find (w0 := w) K x
  rcases hf with ⟨hl, hrun⟩ | ⟨R1, v, R2, e, _, _, _, _, _, hl, hrun⟩
  · simp [Instr.lookup, Sem.run_bind, run_underlying ht, run_getObj_m hb, K.chk, hrun, hl, hz]
  · simp [Instr.lookup, Sem.run_bind, run_underlying ht, run_getObj_m hb, K.chk, hrun, hl]
theorem MapOf.lookup_ok {w : World} {b : Nat} {R : List (κ × ν)} {t e : TypeId} (h : MapOf enc encV w b R) (K : MKey P k enc) (ht : P.underlying t = some (.map k e)) {z : ν} (hz : (zeroValue e).run P w = .ok (encV z) w) (x : κ) :
    (Instr.lookup t (.map (some b)) (enc x) true).run P w = .ok (.tuple #[encV ((look R x).getD z), .bool (look R x).isSome]) w := by
  obtain ⟨es, clock, hb, hf⟩ := h.find (w0 := w) K x
  rcases hf with ⟨hl, hrun⟩ | ⟨R1, v, R2, e, _, _, _, _, _, hl, hrun⟩
  · simp [Instr.lookup, Sem.run_bind, run_underlying ht, run_getObj_m hb, K.chk, hrun, hl, hz]
  · simp [Instr.lookup, Sem.run_bind, run_underlying ht, run_getObj_m hb, K.chk, hrun, hl]

theorem MapOf.update {w : World} {b : Nat} {R : List (κ × ν)} {t e : TypeId} (h : MapOf enc encV w b R) (K : MKey P k enc) (ht : P.underlying t = some (.map k e)) (x : κ) (v : ν) :
    ∃ w', (Instr.mapUpdate t (.map (some b)) (enc x) (encV v)).run P w = .ok () w' ∧ MapOf enc encV w' b (upd R x v) ∧ w.grownBy w' (some b) ∧ w'.heap.size = w.heap.size := by
  have hlt := h.lt
  obtain ⟨es, clock, hb, hf⟩ := h.find (w0 := w) K x
  obtain ⟨es', clock', hb', he, hborn, hnd, hd⟩ := h
  obtain ⟨rfl, rfl⟩ : es' = es ∧ clock' = clock := by rw [hb] at hb'; cases hb'; exact ⟨rfl, rfl⟩
  have grow : ∀ o, w.grownBy { w with heap := w.heap.setIfInBounds b o } (some b) := fun o => ⟨rfl, rfl, rfl, by simp, fun i _ hi => heap_setBlock_other hb _ (fun e => hi (by rw [e]))⟩
  rcases hf with ⟨hl, hrun⟩ | ⟨R1, v0, R2, e0, rfl, h1, h2, hget, hk, hl, hrun⟩
  · refine ⟨{ w with heap := w.heap.setIfInBounds b (.map (es'.push { key := enc x, val := encV v, born := clock' }) (clock' + 1)) }, ?_, ?_, grow _, by simp⟩
    · simp [Instr.mapUpdate, Sem.run_bind, run_underlying ht, run_getObj_m hb, K.chk, hrun, run_setObj_m _ hb]
    · have hS := look_none_iff.1 hl
      have hany : R.any (fun p => p.1 = x) = false := by
        rw [List.any_eq_false]; intro p hp; simpa using hS p hp
      refine ⟨_, _, heap_setBlock_same hb _, ?_, ?_, ?_, upd_nodup hd x v⟩
      · simp [upd, hany, he]
      · intro e he'
        simp only [Array.toList_push, List.mem_append, List.mem_singleton] at he'
        rcases he' with he' | rfl
        · have := hborn e he'; omega
        · simp
      · simp only [Array.toList_push, List.map_append, List.map_cons, List.map_nil]
        refine List.nodup_append.2 ⟨hnd, by simp, ?_⟩
        rintro a ha c hc rfl
        simp at hc; subst hc
        obtain ⟨e, he', hee⟩ := List.mem_map.1 ha
        have := hborn e he'; omega
  · have hi : R1.length < es'.size := by
      have := (List.getElem?_eq_some_iff.1 hget).1; simpa using this
    have hge : es'[R1.length]? = some e0 := by rw [← hget]; simp
    refine ⟨{ w with heap := w.heap.setIfInBounds b (.map (es'.modify R1.length fun e => { e with key := enc x, val := encV v }) clock') }, ?_, ?_, grow _, by simp⟩
    · simp [Instr.mapUpdate, Sem.run_bind, run_underlying ht, run_getObj_m hb, K.chk, hrun, run_setObj_m _ hb, hge, hk, K.stay]
    · refine ⟨_, _, heap_setBlock_same hb _, ?_, ?_, ?_, upd_nodup hd x v⟩
      · have hany : (R1 ++ (x, v0) :: R2).any (fun p => p.1 = x) = true := by simp
        rw [upd, if_pos hany, Array.toList_modify, List.map_append, List.map_cons]
        rw [List.map_append, List.map_cons] at he
        obtain ⟨l1, l2, hl', hl1, hl2⟩ := List.map_eq_append_iff.1 he
        obtain ⟨e, l3, rfl, hee, hl3⟩ := List.map_eq_cons_iff.1 hl2
        have hlen : R1.length = l1.length := by simpa using (congrArg List.length hl1).symm
        rw [hl', hlen, modify_at]
        have m1 : R1.map (fun p => if p.1 = x then (x, v) else p) = R1 := by
          conv => rhs; rw [← List.map_id R1]
          exact List.map_congr_left fun p hp => by simp [h1 p hp]
        have m2 : R2.map (fun p => if p.1 = x then (x, v) else p) = R2 := by
          conv => rhs; rw [← List.map_id R2]
          exact List.map_congr_left fun p hp => by simp [h2 p hp]
        simp [m1, m2, hl1, hl3]
      · intro e he'
        rw [Array.toList_modify] at he'
        obtain ⟨j, hj⟩ := List.getElem?_of_mem he'
        rw [List.getElem?_modify] at hj
        cases hq : es'.toList[j]? with
        | none => simp [hq] at hj
        | some e1 =>
          have := hborn e1 (List.mem_of_getElem? hq)
          simp [hq] at hj
          split at hj <;> (subst hj; simpa using this)
      · have : (es'.modify R1.length fun e => { e with key := enc x, val := encV v }).toList.map (·.born) = es'.toList.map (·.born) := by
          rw [Array.toList_modify]
          apply List.ext_getElem?
          intro j
          simp only [List.getElem?_map, List.getElem?_modify]
          split
          · cases es'.toList[j]? <;> simp
          · cases es'.toList[j]? <;> simp
        rw [this]; exact hnd
end map
end Go.Proofs.YtpahhcmiimllaaaGreatDoor
namespace Go.Proofs.YtpahhcmiimllaaaGreatDoor
open Go.RowKit Go.ChangeMaps

section iter
variable {P : Program} {k : TypeId} {κ ν : Type} {enc : κ → Value} {encV : ν → Value}

/-- 'for k, v := range m' under way: rest is what is still to come (of the entries R of block b), the iterator is block r. -/
def IterOf (enc : κ → Value) (encV : ν → Value) (w : World) (r b : Nat) (R rest : List (κ × ν)) : Prop :=
  ∃ es clock since seen c0, w.heap[b]? = some (.map es clock) ∧ es.toList.map (fun e => (e.key, e.val)) = R.map (fun p => (enc p.1, encV p.2)) ∧
    (∀ e ∈ es.toList, e.born < clock) ∧ (es.toList.map (·.born)).Nodup ∧ (R.map (·.1)).Nodup ∧
    w.heap[r]? = some (.mapIter (some b) since seen c0) ∧ (∀ e ∈ es.toList, e.born < since) ∧ since ≤ c0 ∧ since ≤ clock ∧
    (es.toList.filter (fun e => !seen.contains e.born)).map (fun e => (e.key, e.val)) = rest.map (fun p => (enc p.1, encV p.2)) ∧ rest.Sublist R

theorem IterOf.map {w : World} {r b : Nat} {R rest : List (κ × ν)} (h : IterOf enc encV w r b R rest) : MapOf enc encV w b R := by
  obtain ⟨es, c, _, _, _, hb, he, h1, h2, h3, _⟩ := h
  exact ⟨es, c, hb, he, h1, h2, h3⟩
theorem IterOf.ltR {w : World} {r b : Nat} {R rest : List (κ × ν)} (h : IterOf enc encV w r b R rest) : r < w.heap.size := by
  obtain ⟨es, c, _, _, _, _, _, _, _, _, hr, _⟩ := h
  rcases Nat.lt_or_ge r w.heap.size with h1 | h1
  · exact h1
  · rw [Array.getElem?_eq_none h1] at hr; cases hr
theorem IterOf.ne {w : World} {r b : Nat} {R rest : List (κ × ν)} (h : IterOf enc encV w r b R rest) : r ≠ b := by
  obtain ⟨es, c, _, _, _, hb, _, _, _, _, hr, _⟩ := h
  rintro rfl; rw [hb] at hr; cases hr
theorem IterOf.walk {w : World} {r b : Nat} {R rest : List (κ × ν)} (h : IterOf enc encV w r b R rest) : ∃ o : Obj, w.heap[r]? = some o ∧ o.isWalk = true := by
  obtain ⟨es, c, _, _, _, _, _, _, _, _, hr, _⟩ := h
  exact ⟨_, hr, rfl⟩
theorem IterOf.blocks {w w' : World} {r b : Nat} {R rest : List (κ × ν)} (h : IterOf enc encV w r b R rest) (eb : w'.heap[b]? = w.heap[b]?) (er : w'.heap[r]? = w.heap[r]?) : IterOf enc encV w' r b R rest := by
  obtain ⟨es, c, s, sn, c0, hb, he, h1, h2, h3, hr, rr⟩ := h
  exact ⟨es, c, s, sn, c0, eb.trans hb, he, h1, h2, h3, er.trans hr, rr⟩
theorem IterOf.kept {w w' : World} {r b : Nat} {R rest : List (κ × ν)} {row : Option Nat} (h : IterOf enc encV w r b R rest) (hg : w.grownBy w' row) (hb : some b ≠ row) (hr : some r ≠ row) : IterOf enc encV w' r b R rest :=
  h.blocks (hg.block b h.map.lt hb) (hg.block r h.ltR hr)
theorem IterOf.alloc {w : World} {r b : Nat} {R rest : List (κ × ν)} (h : IterOf enc encV w r b R rest) (o : Obj) : IterOf enc encV (w.alloc o) r b R rest := h.blocks (Below.heap_alloc w o b h.map.lt) (Below.heap_alloc w o r h.ltR)

theorem MapOf.range {w : World} {b : Nat} {R : List (κ × ν)} {t e : TypeId} (h : MapOf enc encV w b R) (ht : P.underlying t = some (.map k e)) :
    ∃ w', (Instr.range t (.map (some b))).run P w = .ok (.pointer (some ⟨w.heap.size, 0, none⟩)) w' ∧ IterOf enc encV w' w.heap.size b R R ∧ w.grownBy w' none ∧ w'.heap.size = w.heap.size + 1 := by
  have hlt := h.lt
  obtain ⟨es, clock, hb, he, h1, h2, h3⟩ := h
  refine ⟨_, run_range_map w t k e b es clock ht hb, ⟨es, clock, clock, #[], clock, (Below.heap_alloc w _ b hlt).trans hb, he, h1, h2, h3, heap_alloc_new w _, h1, Nat.le_refl _, Nat.le_refl _, ?_, List.Sublist.refl _⟩, World.grownBy_alloc w _ none, by simp⟩
  rw [List.filter_eq_self.2 (by simp)]; exact he

theorem split_kv {l : List MapEntry} {S : List (κ × ν)} (h : l.map (fun e => (e.key, e.val)) = S.map (fun p => (enc p.1, encV p.2))) {e : MapEntry} {l1 l2 : List MapEntry} (hl : l = l1 ++ e :: l2) :
    ∃ S1 p S2, S = S1 ++ p :: S2 ∧ e.key = enc p.1 ∧ e.val = encV p.2 ∧ (l1 ++ l2).map (fun e => (e.key, e.val)) = (S1 ++ S2).map (fun p => (enc p.1, encV p.2)) := by
  subst hl
  rw [List.map_append, List.map_cons] at h
  obtain ⟨S1, S', rfl, h1, h2⟩ := List.map_eq_append_iff.1 h.symm
  obtain ⟨p, S2, rfl, h3, h4⟩ := List.map_eq_cons_iff.1 h2
  refine ⟨S1, p, S2, rfl, (congrArg Prod.fst h3).symm, (congrArg Prod.snd h3).symm, by simp [h1, h4]⟩

theorem setBlock_same {w : World} {r : Nat} {o : Obj} (h : w.heap[r]? = some o) (o' : Obj) : (setBlock w r o').heap[r]? = some o' := by
  have := (Array.getElem?_eq_some_iff.1 h).1
  simp [setBlock, Array.getElem?_setIfInBounds, this]
theorem setBlock_other {w : World} {r i : Nat} (o' : Obj) (h : i ≠ r) : (setBlock w r o').heap[i]? = w.heap[i]? := by
  simp [setBlock, Array.getElem?_setIfInBounds, Ne.symm h]
theorem filter_push {l : List MapEntry} (hn : (l.map (·.born)).Nodup) {seen : Array Nat} {e : MapEntry} {l1 l2 : List MapEntry} (hl : l.filter (fun e => !seen.contains e.born) = l1 ++ e :: l2) :
    l.filter (fun x => !(seen.push e.born).contains x.born) = l1 ++ l2 := by
  have h1 : l.filter (fun x => !(seen.push e.born).contains x.born) = (l.filter (fun e => !seen.contains e.born)).filter (fun x => decide (x.born ≠ e.born)) := by
    rw [List.filter_filter]
    apply List.filter_congr
    intro x _
    by_cases hx : x.born = e.born <;> simp [hx]
  rw [h1, hl]
  have hs : ((l1 ++ e :: l2).map (·.born)).Nodup := (hl ▸ List.filter_sublist.map _ : ((l1 ++ e :: l2).map (·.born)).Sublist (l.map (·.born))).nodup hn
  rw [List.map_append, List.map_cons, List.nodup_append] at hs
  obtain ⟨_, hs2, hs3⟩ := hs
  rw [List.nodup_cons] at hs2
  rw [List.filter_append, List.filter_cons]
  simp only [ne_eq, not_true_eq_false, decide_false, Bool.false_eq_true, if_false]
  rw [List.filter_eq_self.2, List.filter_eq_self.2]
  · intro x hx; simp only [decide_eq_true_eq]; intro e'; exact hs2.1 (e' ▸ List.mem_map_of_mem (f := MapEntry.born) hx)
  · intro x hx; simp only [decide_eq_true_eq]; intro e'; exact hs3 x.born (List.mem_map_of_mem hx) e.born (by simp) e'

theorem IterOf.next {w : World} {r b : Nat} {R rest : List (κ × ν)} (h : IterOf enc encV w r b R rest) (ty : TypeId) :
    (rest = [] ∧ (Instr.next (.pointer (some ⟨r, 0, none⟩)) false ty).run P w = .ok (.tuple #[.bool false]) w) ∨
    ∃ p rest' w', rest.Perm (p :: rest') ∧ (Instr.next (.pointer (some ⟨r, 0, none⟩)) false ty).run P w = .ok (.tuple #[.bool true, enc p.1, encV p.2]) w' ∧
      IterOf enc encV w' r b R rest' ∧ w.grownBy w' (some r) ∧ w'.heap.size = w.heap.size ∧ (Instr.entry (.pointer (some ⟨r, 0, none⟩))).run P w' = .ok (.tuple #[enc p.1, encV p.2]) w' := by
  have hne := h.ne
  obtain ⟨es, clock, since, seen, c0, hb, he, h1, h2, h3, hr, h4, h5, h6, h7, h8⟩ := h
  rcases run_next_at (P := P) w ty r b since c0 seen es clock hr hb h4 h5 with ⟨h0, hrun⟩ | ⟨e, hem, w1, hal, hrun⟩
  · left
    refine ⟨?_, hrun⟩
    have : (leftOf es seen).toList = es.toList.filter (fun e => !seen.contains e.born) := by simp [leftOf]
    have hl : (es.toList.filter (fun e => !seen.contains e.born)) = [] := by
      rw [← this]; exact List.eq_nil_of_length_eq_zero (by simpa using h0)
    rw [hl] at h7
    exact (List.map_eq_nil_iff.1 h7.symm)
  · right
    have hem' : e ∈ es.toList.filter (fun e => !seen.contains e.born) := by simpa [leftOf] using hem
    have hees : e ∈ es.toList := (List.mem_filter.1 hem').1
    obtain ⟨l1, l2, hl⟩ := List.append_of_mem hem'
    obtain ⟨S1, p, S2, rfl, hk, hv, hmap⟩ := split_kv h7 hl
    have hw1 : ∀ i : Nat, w1.heap[i]? = w.heap[i]? := by rcases hal with rfl | rfl <;> intro i <;> rfl
    have hr1 : w1.heap[r]? = some (.mapIter (some b) since seen c0) := (hw1 r).trans hr
    have hr2 := setBlock_same hr1 (.mapIter (some b) since (seen.push e.born) clock)
    have hb2 : (setBlock w1 r (.mapIter (some b) since (seen.push e.born) clock)).heap[b]? = some (.map es clock) := (setBlock_other _ (Ne.symm hne)).trans ((hw1 b).trans hb)
    refine ⟨p, S1 ++ S2, _, List.perm_middle, by rw [hrun, hk, hv], ⟨es, clock, since, seen.push e.born, clock, hb2, he, h1, h2, h3, hr2, h4, h6, h6, ?_, ?_⟩, ?_, ?_, ?_⟩
    · rw [filter_push h2 hl]; exact hmap
    · exact (List.Sublist.append (List.Sublist.refl S1) (List.sublist_cons_self p S2)).trans h8
    · refine ⟨?_, ?_, ?_, ?_, ?_⟩
      · rcases hal with rfl | rfl <;> rfl
      · rcases hal with rfl | rfl <;> rfl
      · rcases hal with rfl | rfl <;> rfl
      · rcases hal with rfl | rfl <;> simp [setBlock]
      · intro i hi hir
        exact (setBlock_other _ (fun e => hir (by rw [e]))).trans (hw1 i)
    · rcases hal with rfl | rfl <;> simp [setBlock]
    · rw [← hk, ← hv]; exact run_entry_at _ r b since seen es clock e hr2 hb2 hees h2

end iter

section walk
variable {P : Program} {k : TypeId} {κ ν : Type} {enc : κ → Value} {encV : ν → Value}

theorem wpList_lookup_of [DecidableEq κ] (w : World) {ops : Array Oper} {rest : List Oper} {o : Oper} {a : Act} {Q : Exit → Act → World → Prop} (hg : o.guard = none) (m x : Operand) (t : TypeId) (hop : o.op = Op.lookup t m x false)
    (e : TypeId) (K : MKey P k enc) (ht : P.underlying t = some (.map k e)) (z : ν) (hz : (zeroValue e).run P w = .ok (encV z) w) (b : Nat) (R : List (κ × ν)) (hm : a.eval m = .map (some b)) (h : MapOf enc encV w b R) (y : κ) (hx : a.eval x = enc y)
    (hK : wpList P ops Q rest (a.put o.dst (encV ((look R y).getD z))) w) : wpList P ops Q (o :: rest) a w := by
  refine wpList_plain hg fun K' hK' => ?_
  have hrun := h.lookup K ht hz y
  unfold Oper.wp
  simp [execOp, hop, hm, hx, hrun, Result.andThen]
  exact hK' _ _ hK
theorem wpList_lookup_ok_of [DecidableEq κ] (w : World) {ops : Array Oper} {rest : List Oper} {o : Oper} {a : Act} {Q : Exit → Act → World → Prop} (hg : o.guard = none) (m x : Operand) (t : TypeId) (hop : o.op = Op.lookup t m x true)
    (e : TypeId) (K : MKey P k enc) (ht : P.underlying t = some (.map k e)) (z : ν) (hz : (zeroValue e).run P w = .ok (encV z) w) (b : Nat) (R : List (κ × ν)) (hm : a.eval m = .map (some b)) (h : MapOf enc encV w b R) (y : κ) (hx : a.eval x = enc y)
    (hK : wpList P ops Q rest (a.put o.dst (.tuple #[encV ((look R y).getD z), .bool (look R y).isSome])) w) : wpList P ops Q (o :: rest) a w := by
  refine wpList_plain hg fun K' hK' => ?_
  have hrun := h.lookup_ok K ht hz y
  unfold Oper.wp
  simp [execOp, hop, hm, hx, hrun, Result.andThen]
  exact hK' _ _ hK
theorem wpList_mapUpdate_of [DecidableEq κ] (w : World) {ops : Array Oper} {rest : List Oper} {o : Oper} {a : Act} {Q : Exit → Act → World → Prop} (hg : o.guard = none) (m x v : Operand) (t : TypeId) (hop : o.op = Op.mapUpdate t m x v)
    (e : TypeId) (K : MKey P k enc) (ht : P.underlying t = some (.map k e)) (b : Nat) (R : List (κ × ν)) (hm : a.eval m = .map (some b)) (h : MapOf enc encV w b R) (y : κ) (hx : a.eval x = enc y) (u : ν) (hv : a.eval v = encV u)
    (hK : ∀ w', MapOf enc encV w' b (upd R y u) → w.grownBy w' (some b) → w'.heap.size = w.heap.size → wpList P ops Q rest (a.put o.dst undef) w') : wpList P ops Q (o :: rest) a w := by
  refine wpList_plain hg fun K' hK' => ?_
  obtain ⟨w', hrun, r1, r2, r3⟩ := h.update K ht y u
  unfold Oper.wp
  simp [execOp, hop, hm, hx, hv, hrun, Result.andThen]
  exact hK' _ _ (hK w' r1 r2 r3)
theorem wpListIn_range_of {F : Fence} {n : Nat} (w : World) {ops : Array Oper} {rest : List Oper} {o : Oper} {a : Act} {Q : Exit → Act → World → Prop} (hg : o.guard = none) (m : Operand) (t : TypeId) (hop : o.op = Op.range t m)
    (e : TypeId) (ht : P.underlying t = some (.map k e)) (b : Nat) (R : List (κ × ν)) (hm : a.eval m = .map (some b)) (h : MapOf enc encV w b R)
    (hK : ∀ w', IterOf enc encV w' w.heap.size b R R → w.grownBy w' none → w'.heap.size = w.heap.size + 1 → wpListIn F n P ops Q rest (a.put o.dst (.pointer (some ⟨w.heap.size, 0, none⟩))) w') :
    wpListIn F n P ops Q (o :: rest) a w := by
  refine wpListIn_plain hg fun K' hK' => ?_
  obtain ⟨w', hrun, r1, r2, r3⟩ := h.range (P := P) ht
  unfold Oper.wpIn
  refine ⟨?_, ?_⟩
  · simp [Oper.about, hop]
  · rw [Oper.semAt_plain F _ _ (by rw [hop]; intro c hc'; cases hc')]
    simp [execOp, hop, hm, hrun, Result.andThen]
    exact hK' _ _ (hK w' r1 r2 r3)
theorem wpListIn_next_of {F : Fence} {n : Nat} (w : World) {ops : Array Oper} {rest : List Oper} {o : Oper} {a : Act} {Q : Exit → Act → World → Prop} (hg : o.guard = none) (it : Operand) (hop : o.op = Op.next it false)
    (r b : Nat) (R left : List (κ × ν)) (hit : a.eval it = .pointer (some ⟨r, 0, none⟩)) (h : IterOf enc encV w r b R left)
    (hDone : left = [] → wpListIn F n P ops Q rest (a.put o.dst (.tuple #[.bool false])) w)
    (hMore : ∀ (x : κ) (v : ν) (left' : List (κ × ν)) (w' : World), left.Perm ((x, v) :: left') → IterOf enc encV w' r b R left' → w.grownBy w' (some r) → w'.heap.size = w.heap.size →
      (Instr.entry (.pointer (some ⟨r, 0, none⟩))).run P w' = .ok (.tuple #[enc x, encV v]) w' → wpListIn F n P ops Q rest (a.put o.dst (.tuple #[.bool true, enc x, encV v])) w') :
    wpListIn F n P ops Q (o :: rest) a w := by
  refine wpListIn_plain hg fun K' hK' => ?_
  unfold Oper.wpIn
  refine ⟨by simp [Oper.about, hop], ?_⟩
  rw [Oper.semAt_plain F _ _ (by rw [hop]; intro c hc'; cases hc')]
  rcases h.next (P := P) o.type with ⟨h0, hrun⟩ | ⟨p, left', w', hp, hrun, hi, hgr, hsz, hen⟩
  · simp [execOp, hop, hit, hrun, Result.andThen]
    exact hK' _ _ (hDone h0)
  · simp [execOp, hop, hit, hrun, Result.andThen]
    exact hK' _ _ (hMore p.1 p.2 left' w' hp hi hgr hsz hen)
end walk
end Go.Proofs.YtpahhcmiimllaaaGreatDoor
namespace Go.Proofs.YtpahhcmiimllaaaGreatDoor
open Go.RowKit Go.ChangeMaps

def encK (n : Nat) : Value := .int .i64 n
theorem now_miss (x : Nat) : ∀ (l : List MapEntry) (i : Nat), (∀ e ∈ l, ∃ y : Nat, e.key = encK y ∧ y ≠ x) → Instr.findNow (.int .i64) (encK x) l i = some none
  | [], _, _ => rfl
  | e :: l, i, h => by
    obtain ⟨y, hy, hne⟩ := h e (by simp)
    have hs : Instr.sameNow (.int .i64) (encK x) (encK y) = some false := by
      show (if IntKind.i64 = IntKind.i64 then some (((x : Nat) : Int) == ((y : Nat) : Int)) else none) = some false
      rw [if_pos rfl, beq_eq_false_iff_ne.2 (by omega)]
    simp only [Instr.findNow, hy, hs]
    exact now_miss x l (i + 1) fun e he => h e (by simp [he])
theorem now_hit (x : Nat) (e : MapEntry) (l2 : List MapEntry) (he : e.key = encK x) : ∀ (l1 : List MapEntry) (i : Nat), (∀ e ∈ l1, ∃ y : Nat, e.key = encK y ∧ y ≠ x) → Instr.findNow (.int .i64) (encK x) (l1 ++ e :: l2) i = some (some (i + l1.length, e.val))
  | [], i, _ => by
    have hs : Instr.sameNow (.int .i64) (encK x) (encK x) = some true := by
      show (if IntKind.i64 = IntKind.i64 then some (((x : Nat) : Int) == ((x : Nat) : Int)) else none) = some true
      rw [if_pos rfl]; simp
    simp only [List.nil_append, Instr.findNow, he, hs, List.length_nil, Nat.add_zero]
  | e' :: l1, i, h => by
    obtain ⟨y, hy, hne⟩ := h e' (by simp)
    have hs : Instr.sameNow (.int .i64) (encK x) (encK y) = some false := by
      show (if IntKind.i64 = IntKind.i64 then some (((x : Nat) : Int) == ((y : Nat) : Int)) else none) = some false
      rw [if_pos rfl, beq_eq_false_iff_ne.2 (by omega)]
    simp only [List.cons_append, Instr.findNow, hy, hs]
    rw [now_hit x e l2 he l1 (i + 1) fun e he => h e (by simp [he])]
    simp; omega
theorem mkeyI : MKey Tryz.prog 3 encK where
  inj h := by unfold encK at h; injection h with _ h; omega
  chk w em x := by
    rw [show (10000 : Nat) = 9999 + 1 from rfl, Instr.checkKey]
    simp [Sem.run_bind, run_underlying Tryz.underlying3, encK]
  stay w x := by simp [Instr.keyThatStays, encK, Instr.sameBits]
  miss w x l h := by
    simp only [Instr.findKey, Sem.run_bind, run_underlying Tryz.underlying3, Result.andThen_ok, now_miss x l 0 h]
    rfl
  hit w x l1 e l2 h he := by
    simp only [Instr.findKey, Sem.run_bind, run_underlying Tryz.underlying3, Result.andThen_ok, now_hit x e l2 he l1 0 h]
    simp
end Go.Proofs.YtpahhcmiimllaaaGreatDoor
