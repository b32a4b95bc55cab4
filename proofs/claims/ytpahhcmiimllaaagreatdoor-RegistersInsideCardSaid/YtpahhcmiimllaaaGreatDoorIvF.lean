/- DERIVED. The end of intervals: the map's pointees in order. -/
import Derived.Test.YtpahhcmiimllaaaGreatDoorExt
import Derived.Test.YtpahhcmiimllaaaGreatDoorLoopR
import Derived.Test.YtpahhcmiimllaaaGreatDoorSortI
set_option linter.unusedSimpArgs false
set_option linter.unusedVariables false
namespace Go.Proofs.YtpahhcmiimllaaaGreatDoor
open Go.RowKit Go.ChangeMaps

/-- a frame of n slots, some of them known -/
def frameN (n : Nat) (f : Nat → Value) (kv : List (Nat × Value)) : Array Value := (kv.foldl (fun l p => l.set p.1 p.2) ((List.range n).map f)).toArray
theorem frame_exN (n : Nat) (l : List Value) (h : l.length = n) : ∀ (kv : List (Nat × Value)), (∀ p ∈ kv, l[p.1]? = some p.2) → l.toArray = frameN n (fun k => l.getD k undef) kv := by
  intro kv hkv
  unfold frameN
  congr 1
  have h0 : (List.range n).map (fun k => l.getD k undef) = l := by
    refine List.ext_getElem? fun k => ?_
    rw [List.getElem?_map]
    rcases Nat.lt_or_ge k n with hk | hk
    · rw [List.getElem?_range hk]
      simp [List.getD_eq_getElem?_getD, List.getElem?_eq_getElem (show k < l.length by omega)]
    · rw [List.getElem?_eq_none (show (List.range n).length ≤ k by simpa using hk), List.getElem?_eq_none (show l.length ≤ k by omega)]; rfl
  rw [h0]
  clear h0 h
  induction kv with
  | nil => rfl
  | cons p kv ih =>
    have hp : l.set p.1 p.2 = l := by
      refine List.ext_getElem? fun k => ?_
      rw [List.getElem?_set]
      by_cases e : p.1 = k
      · have := hkv p (by simp)
        rw [if_pos e, if_pos (List.getElem?_eq_some_iff.1 this).1, ← e, this]
      · rw [if_neg e]
    rw [List.foldl_cons, hp]
    exact ih fun q hq => hkv q (by simp [hq])
theorem AtMap.ext {W W' : World} {B0 m : Nat} {ms : List Itv} {gs : List Nat} (h : AtMap W B0 m ms gs) (hm : MapOf encK encP W' m ((ms.map Itv.reg).zip (gs.map some))) (hk : ∀ (B : Nat) (t : TypeId) (cs : Array Value), BlkAt W B t cs → BlkAt W' B t cs) : AtMap W' B0 m ms gs :=
  ⟨hm, h.len, fun k v g h1 h2 => hk _ _ _ (h.blk k v g h1 h2), h.nod, h.low, h.lowM⟩
structure IvI (w : World) (m Bm Bf : Nat) (fn : Value) (W : World) (E : Nat → Nat → Prop) (ms : List Itv) (gs : List Nat) (ds : List Deferred) : Prop where
  atm : AtMap W w.heap.size m ms gs
  evs : Evs E ms
  bm : BlkAt W Bm 142 #[.map (some m)]
  bf : BlkAt W Bf 144 #[fn]
  bel : Below w.heap.size w W
  mrk : MarksAt w.heap.size W ds
section
variable {w W W' : World} {m Bm Bf : Nat} {fn : Value} {E E' : Nat → Nat → Prop} {ms ms' : List Itv} {gs gs' : List Nat} {ds : List Deferred}
theorem IvI.below (h : IvI w m Bm Bf fn W E ms gs ds) (hb : Below W.heap.size W W') : IvI w m Bm Bf fn W' E ms gs ds :=
  ⟨h.atm.below hb, h.evs, h.bm.below hb h.bm.lt, h.bf.below hb h.bf.lt, h.bel.trans (hb.mono h.bel.size), h.mrk.from ((keeps_below hb).from _)⟩
theorem IvI.iff (h : IvI w m Bm Bf fn W E ms gs ds) (he : ∀ r i, E r i ↔ E' r i) : IvI w m Bm Bf fn W E' ms gs ds := ⟨h.atm, evs_iff h.evs he, h.bm, h.bf, h.bel, h.mrk⟩
theorem IvI.nocells {row : Option Nat} {B : Nat} (h : IvI w m Bm Bf fn W E ms gs ds) (hw : w.heap.size ≤ B) (hmB : m < B) (hm : ∀ r, (∃ d ∈ ds, d.target = .collected r) → r < B) (hg : W.grownBy W' row) (hr : ∀ r, row = some r → B ≤ r ∧ ∃ o : Obj, W.heap[r]? = some o ∧ o.isCells = false) : IvI w m Bm Bf fn W' E ms gs ds := by
  have hk := keptT_nocells hg (fun r e => (hr r e).2)
  have hne : ∀ r, r < B → some r ≠ row := fun r hrB e => by have := (hr r e.symm).1; omega
  refine ⟨⟨h.atm.map.kept hg (hne m hmB), h.atm.len, fun k v g h1 h2 => hk.blk _ _ _ (h.atm.blk k v g h1 h2) (by decide), h.atm.nod, h.atm.low, h.atm.lowM⟩, h.evs, hk.blk _ _ _ h.bm (by decide), hk.blk _ _ _ h.bf (by decide), h.bel.grown hg h.bel.size (fun j e => by have := (hr j e).1; omega), h.mrk.keep (fun r hB hd ho => ?_)⟩
  rw [hg.block r (Array.getElem?_eq_some_iff.1 ho).1 (hne r (hm r hd))]
  exact ho
/-- a touch -/
theorem IvI.touch (h : IvI w m Bm Bf fn W E ms gs ds) {r i : Nat} (hA : AtMap W' w.heap.size m (extM ms r i) gs') (hE : ExtK w.heap.size m W W') : IvI w m Bm Bf fn W' (fun q j => E q j ∨ (q = r ∧ j = i)) (extM ms r i) gs' ds :=
  ⟨hA, ext_evs h.evs r i, hE.kept.blk _ _ _ h.bm (by decide), hE.kept.blk _ _ _ h.bf (by decide), h.bel.trans hE.bel, h.mrk.keep (fun r hB hd ho => hE.oth r _ (fun e => by
    subst e
    obtain ⟨es, cl, hh, _⟩ := h.atm.map
    rw [hh] at ho; cases ho) ho rfl)⟩
theorem ExtK.keepsFrom {B0 : Nat} (h : ExtK B0 m W W') {B : Nat} (hB : m < B) : KeepsFrom B W W' := ⟨h.kept.size, fun k o hk ho hc => h.oth k o (by omega) ho hc⟩
end
/-- the touches of the instructions ahead of i, and of i those in P -/
def touched (t : Nat → Nat → Bool) (i : Nat) (P : Nat → Prop) (r j : Nat) : Prop := (j < i ∧ t j r = true) ∨ (j = i ∧ P r)
theorem touched_add {t : Nat → Nat → Bool} {i q : Nat} {P P' : Nat → Prop} (h : ∀ r, P' r ↔ P r ∨ r = q) (r j : Nat) : (touched t i P r j ∨ (r = q ∧ j = i)) ↔ touched t i P' r j := by
  unfold touched
  rw [h r]
  constructor
  · rintro ((h1 | ⟨h1, h2⟩) | ⟨h1, h2⟩)
    · exact .inl h1
    · exact .inr ⟨h1, .inl h2⟩
    · exact .inr ⟨h2, .inr h1⟩
  · rintro (h1 | ⟨h1, h2 | h2⟩)
    · exact .inl (.inl h1)
    · exact .inl (.inr ⟨h1, h2⟩)
    · exact .inr ⟨h2, h1⟩
theorem touched_next {t : Nat → Nat → Bool} {i : Nat} {P : Nat → Prop} (h : ∀ r, P r ↔ t i r = true) (r j : Nat) : touched t i P r j ↔ touched t (i + 1) (fun _ => False) r j := by
  unfold touched
  rw [h r]
  constructor
  · rintro (⟨h1, h2⟩ | ⟨rfl, h2⟩)
    · exact .inl ⟨by omega, h2⟩
    · exact .inl ⟨by omega, h2⟩
  · rintro (⟨h1, h2⟩ | ⟨_, h2⟩)
    · rcases Nat.lt_or_ge j i with h3 | h3
      · exact .inl ⟨h3, h2⟩
      · obtain rfl : j = i := by omega
        exact .inr ⟨rfl, h2⟩
    · exact h2.elim
end Go.Proofs.YtpahhcmiimllaaaGreatDoor
namespace Go.Proofs.YtpahhcmiimllaaaGreatDoor
open Go.RowKit Go.Shelf Go.ChangeMaps

section walk
variable {P : Program} {k : TypeId} {κ ν : Type} {enc : κ → Value} {encV : ν → Value}
theorem wpList_range_of (w : World) {ops : Array Oper} {rest : List Oper} {o : Oper} {a : Act} {Q : Exit → Act → World → Prop} (hg : o.guard = none) (m : Operand) (t : TypeId) (hop : o.op = Op.range t m)
    (e : TypeId) (ht : P.underlying t = some (.map k e)) (b : Nat) (R : List (κ × ν)) (hm : a.eval m = .map (some b)) (h : MapOf enc encV w b R)
    (hK : ∀ w', IterOf enc encV w' w.heap.size b R R → w.grownBy w' none → w'.heap.size = w.heap.size + 1 → wpList P ops Q rest (a.put o.dst (.pointer (some ⟨w.heap.size, 0, none⟩))) w') :
    wpList P ops Q (o :: rest) a w := by
  refine wpList_plain hg fun K' hK' => ?_
  obtain ⟨w', hrun, r1, r2, r3⟩ := h.range (P := P) ht
  unfold Oper.wp
  simp [execOp, hop, hm, hrun, Result.andThen]
  exact hK' _ _ (hK w' r1 r2 r3)
theorem wpList_next_of (w : World) {ops : Array Oper} {rest : List Oper} {o : Oper} {a : Act} {Q : Exit → Act → World → Prop} (hg : o.guard = none) (it : Operand) (hop : o.op = Op.next it false)
    (r b : Nat) (R left : List (κ × ν)) (hit : a.eval it = .pointer (some ⟨r, 0, none⟩)) (h : IterOf enc encV w r b R left)
    (hDone : left = [] → wpList P ops Q rest (a.put o.dst (.tuple #[.bool false])) w)
    (hMore : ∀ (x : κ) (v : ν) (left' : List (κ × ν)) (w' : World), left.Perm ((x, v) :: left') → IterOf enc encV w' r b R left' → w.grownBy w' (some r) → w'.heap.size = w.heap.size →
      (Instr.entry (.pointer (some ⟨r, 0, none⟩))).run P w' = .ok (.tuple #[enc x, encV v]) w' → wpList P ops Q rest (a.put o.dst (.tuple #[.bool true, enc x, encV v])) w') :
    wpList P ops Q (o :: rest) a w := by
  refine wpList_plain hg fun K' hK' => ?_
  unfold Oper.wp
  rcases h.next (P := P) o.type with ⟨h0, hrun⟩ | ⟨p, left', w', hp, hrun, hi, hgr, hsz, hen⟩
  · simp [execOp, hop, hit, hrun, Result.andThen]
    exact hK' _ _ (hDone h0)
  · simp [execOp, hop, hit, hrun, Result.andThen]
    exact hK' _ _ (hMore p.1 p.2 left' w' hp hi hgr hsz hen)
theorem IterOf.sub {w : World} {r b : Nat} {R rest : List (κ × ν)} (h : IterOf enc encV w r b R rest) : rest.Sublist R := by
  obtain ⟨es, c, _, _, _, _, _, _, _, _, _, _, _, _, _, hs⟩ := h
  exact hs
end walk
def toI (v : Itv) : ItvI := ⟨v.reg, v.frm, v.to⟩
def ofI (v : ItvI) : Itv := ⟨v.reg.toNat, v.frm.toNat, v.to.toNat⟩
theorem ofI_toI (v : Itv) : ofI (toI v) = v := by cases v; simp [ofI, toI]
theorem enc_toI (ms : List Itv) : (ms.map toI).flatMap encIt = ms.flatMap (fun v => ([.int .i64 v.reg, .int .i64 v.frm, .int .i64 v.to] : List Value)) := by
  induction ms with
  | nil => rfl
  | cons v ms ih => simp [encIt, toI] at ih ⊢; exact ih
/-- the intervals gathered, sorted -/
theorem itv_fin {t : Nat → Nat → Bool} {n regs : Nat} {ms : List Itv} (h : Evs (fun r i => i < n ∧ t i r = true) ms) (ht : ∀ i r, i < n → t i r = true → r < regs) {acc : List Itv} (hp : acc.Perm ms) {ts : List ItvI} (hts : ts.Perm (acc.map toI)) (hs : ts.Pairwise (fun x y => ¬ ltIt y x)) :
    ts = (itvsOf t n regs).map toI := by
  have e : ∃ us : List Itv, ts = us.map toI := by
    refine ⟨ts.map ofI, ?_⟩
    rw [List.map_map]
    conv => lhs; rw [← List.map_id ts]
    refine List.map_congr_left fun x hx => ?_
    obtain ⟨v, _, rfl⟩ := List.mem_map.1 (hts.mem_iff.1 hx)
    simp [ofI_toI]
  obtain ⟨us, rfl⟩ := e
  have hup : us.Perm ms := by
    have := hts.map ofI
    rw [List.map_map, List.map_map] at this
    have hid : (ofI ∘ toI) = id := funext ofI_toI
    rw [hid, List.map_id, List.map_id] at this
    exact this.trans hp
  have hnd : (us.map Itv.reg).Nodup := (hup.map Itv.reg).nodup_iff.2 h.nd
  congr 1
  refine sorted_uniq _ _ ?_ (itvs_sorted t n regs) (fun v => (hup.mem_iff).trans (evs_itvs h ht v))
  rw [List.pairwise_map] at hs
  have hnd2 : us.Pairwise (fun a b => a.reg ≠ b.reg) := by
    have := hnd
    unfold List.Nodup at this
    rwa [List.pairwise_map] at this
  refine (hs.and hnd2).imp ?_
  rintro a b ⟨h1, h2⟩
  unfold ltIt toI at h1
  unfold ltI
  dsimp only at h1
  omega
end Go.Proofs.YtpahhcmiimllaaaGreatDoor
