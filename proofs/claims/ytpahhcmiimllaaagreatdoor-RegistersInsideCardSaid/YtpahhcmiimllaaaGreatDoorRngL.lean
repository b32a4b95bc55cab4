/- DERIVED. A range over a function whose elements come in a known order; many marks among the deferred calls. -/
import Derived.RangeFuncNested
import Derived.RangeFuncLeaves
import Derived.Below
set_option linter.unusedSimpArgs false
set_option linter.unusedVariables false
namespace Go.Proofs.YtpahhcmiimllaaaGreatDoor
open Go.RowKit Go

/-- the iterator's contract: the elements are L, in this order; a round that goes on keeps Kp; a round may stop it -/
def SeqL {α : Type} (F : Fence) (n : Nat) (P : Program) (g : Nat) (lb : Array Value) (encs : α → Array Value) (Kp : World → World → Prop) (L : List α) (W0 : World → Prop) : Prop :=
  ∀ (l : Nat) (J Jx : List α → World → Prop) (W : World), W0 W →
    (∀ pre x W1, pre ++ [x] <+: L → J pre W1 → YieldAt F (n - 1) P l (encs x) W1 fun e W' => (e = .returned (.bool true) ∧ J (pre ++ [x]) W' ∧ Kp W1 W') ∨ (e = .returned (.bool false) ∧ Jx (pre ++ [x]) W')) →
    J [] W →
    CallsIn F n P g (#[.func (.yield l) #[] #[]] ++ lb) W fun e W' => (∃ v, e = .returned v) ∧ (J L W' ∨ ∃ pre, Jx pre W')

variable {F : Fence} {n : Nat} {P : Program}
theorem wpIn_rangeL {α : Type} {g : Operand} {ps : Array Tmp} {assign body : Code} {Q : Exit → Act → World → Prop} {a : Act} {w : World}
    (hro : F.round = none) (h1 : 1 ≤ n) {gf : Nat} {lb : Array Value} (hg : a.eval g = .func (.func gf) #[] lb) (hFg : F.fn gf) (eg : ∀ args w, (callFunc gf args).run P w = .ok (.enter gf args) w)
    {encs : α → Array Value} {Kp : World → World → Prop} {L : List α} {W0 : World → Prop} (hseq : SeqL F (n - 1) P gf lb encs Kp L W0)
    (hKt : ∀ {A B C : World}, Kp A B → Kp B C → Kp A C) (hKb : ∀ (W : World) (l : Nat) (o o' : Obj), w.heap.size ≤ l → W.heap[l]? = some o → o.isCells = false → o.isWalk = false → Kp W (W.putObj l o')) (hps : ∀ x, (encs x).size = ps.size)
    (I : List α → World → Prop) (Ix : Code → List α → World → Prop) (hI : OwnFrom w.heap.size I) (hIx : ∀ c, OwnFrom w.heap.size (Ix c)) (h0 : I [] w)
    (hW0 : W0 w) (hW0a : ∀ W o, W0 W → W0 (W.alloc o)) (Ax : α → Act → World → Prop) (hAx : ∀ x a', OwnFrom w.heap.size (fun (_ : Unit) W => Ax x a' W))
    (hassign : ∀ (l : Nat) (pre : List α) (x : α) (W : World) (K : Act → World → Prop), I pre W → (∀ a' W', KeepsFrom w.heap.size W W' → Kp W W' → I pre W' → Ax x a' W' → K a' W') →
      assign.wpIn (F.inRound l) (n - 1 - 1) P (Exit.then K (fun _ _ _ => False)) { tmps := (ps.zip (encs x)).foldl (fun t (p, v) => t.setIfInBounds p v) a.tmps, defers := [] } W)
    (hbody : ∀ (l : Nat) (pre : List α) (x : α) (a' : Act) (W : World), pre ++ [x] <+: L → w.heap.size ≤ l → I pre W → Ax x a' W → body.wpIn (F.inRound l) (n - 1 - 1) P (ownPostG w.heap.size Kp I Ix (pre ++ [x]) W) a' W)
    (hdone : ∀ (D : Nat) (W : World), w.heap.size ≤ D → I L W → W.heap[D]? = some (.deferred (some [])) → Q .normal { a with defers := { target := .collected D, args := #[] } :: a.defers } W)
    (hstop : ∀ (D : Nat) (c : Code) (pre : List α) (W : World), w.heap.size ≤ D → Ix c pre W → W.heap[D]? = some (.deferred (some [])) → c.wpIn F n P Q { a with defers := { target := .collected D, args := #[] } :: a.defers } W) :
    (Code.rangeFunc g ps assign body).wpIn F n P Q a w := by
  refine wpIn_rangeFunc ?_
  intro fn hfn
  rw [hro]
  obtain ⟨rec, hrec⟩ : ∃ rec : LoopState → Option Code → Loop, rec = fun st pe => { state := st, pending := pe, fn, tmps := a.tmps, params := ps, assign, body, defers := w.heap.size } := ⟨_, rfl⟩
  obtain ⟨W1, hW1⟩ : ∃ W1, (w.alloc (.deferred (some []))).alloc (.loop (rec .ready none)) = W1 := ⟨_, rfl⟩
  have hL1 : W1.heap[w.heap.size + 1]? = some (.loop (rec .ready none)) := by
    rw [← hW1]; have := World.alloc_heap_new (w.alloc (.deferred (some []))) (.loop (rec .ready none)); rwa [World.size_alloc] at this
  have hK1 : W1.heap[w.heap.size]? = some (.deferred (some [])) := by
    rw [← hW1]; exact (Below.heap_alloc _ _ _ (by simp)).trans (World.alloc_heap_new w _)
  have hI1 : I [] W1 := by rw [← hW1]; exact hI.alloc _ (hI.alloc _ h0)
  have hZ1 : W0 W1 := by rw [← hW1]; exact hW0a _ _ (hW0a _ _ hW0)
  refine ⟨w.heap.size + 1, [{ target := .collected w.heap.size, args := #[] }], W1, { target := .fn (.func gf) lb, args := #[.func (.yield (w.heap.size + 1)) #[] #[]] }, W1, gf,
    #[.func (.yield (w.heap.size + 1)) #[] #[]] ++ lb, W1, ?_, ?_, ?_, ?_, fun _ => h1, ?_⟩
  · rw [← hW1, hrec]; exact run_enterLoop_outer _ _ _ _ _
  · simp only [resolve, hg]
    simp [go_sem]
  · intro f' hf'; simp [Target.leads] at hf'; subst hf'; exact hFg
  · simp [invoke, go_sem, eg]
  · refine (hseq (w.heap.size + 1)
      (fun pre W => I pre W ∧ W.heap[w.heap.size + 1]? = some (.loop (rec .ready none)) ∧ W.heap[w.heap.size]? = some (.deferred (some [])))
      (fun pre W => ∃ c, Ix c pre W ∧ W.heap[w.heap.size + 1]? = some (.loop (rec .done (some c))) ∧ W.heap[w.heap.size]? = some (.deferred (some [])))
      W1 hZ1 ?_ ⟨hI1, hL1, hK1⟩).mono ?_
    · rintro pre x W hpre ⟨hi, hl, hk⟩
      have hlt : w.heap.size + 1 < W.heap.size := (Array.getElem?_eq_some_iff.1 hl).1
      have hy := run_yield (P := P) (args := encs x) hl (by rw [hrec]; exact hps x)
      rw [hrec] at hy
      refine ⟨fn, _, assign, body, hy, roundIn_of_wpIn hfn (hassign _ pre x W _ hi ?_)⟩
      clear hy
      intro a' Wa hkfa hkpa hia hax
      replace hl := hkfa.same _ _ (by omega) hl rfl
      replace hk := hkfa.same _ _ (Nat.le_refl _) hk rfl
      replace hlt : w.heap.size + 1 < Wa.heap.size := (Array.getElem?_eq_some_iff.1 hl).1
      replace hi := hia
      clear hia
      revert hkpa hkfa
      generalize W = Wb
      intro hkfa hkpa
      obtain ⟨W, rfl⟩ : ∃ W, W = Wa := ⟨_, rfl⟩
      refine ⟨_, run_beginRound hl (by rw [hrec]), ?_⟩
      have hl2 : (W.putObj (w.heap.size + 1) (.loop { rec .ready none with state := .busy })).heap[w.heap.size + 1]? = some (.loop { rec .ready none with state := .busy }) := World.putObj_heap_same hlt
      have hk2 : (W.putObj (w.heap.size + 1) (.loop { rec .ready none with state := .busy })).heap[w.heap.size]? = some (.deferred (some [])) := (World.putObj_heap_other (by omega)).trans hk
      have hw2 : Kp W (W.putObj (w.heap.size + 1) (.loop { rec .ready none with state := .busy })) := hKb _ _ _ _ (by omega) hl rfl rfl
      refine wpIn_mono (hbody _ pre x a' _ hpre (by omega) (hI.putObj _ hi (by omega) hl rfl) ((hAx x a').putObj (s := ()) _ hax (by omega) hl rfl)) ?_
      have fin : ∀ (jump : Option Code) (W3 : World), KeepsFrom w.heap.size (W.putObj (w.heap.size + 1) (.loop { rec .ready none with state := .busy })) W3 →
          (Instr.endRound (w.heap.size + 1) jump).run P W3 = .ok (.bool jump.isNone) (W3.putObj (w.heap.size + 1) (.loop (rec (if jump.isNone then .ready else .done) jump))) ∧
          W3.heap[w.heap.size + 1]? = some (.loop { rec .ready none with state := .busy }) ∧
          (W3.putObj (w.heap.size + 1) (.loop (rec (if jump.isNone then .ready else .done) jump))).heap[w.heap.size + 1]? = some (.loop (rec (if jump.isNone then .ready else .done) jump)) ∧
          (W3.putObj (w.heap.size + 1) (.loop (rec (if jump.isNone then .ready else .done) jump))).heap[w.heap.size]? = some (.deferred (some [])) := fun jump W3 hk3 => by
        have hl3 := hk3.same _ _ (by omega) hl2 rfl
        have := run_endRound (P := P) jump hl3
        rw [hrec] at this ⊢
        exact ⟨this, by rw [hrec] at hl3; exact hl3, World.putObj_heap_same (Array.getElem?_eq_some_iff.1 hl3).1, (World.putObj_heap_other (by omega)).trans (hk3.same _ _ (Nat.le_refl _) hk2 rfl)⟩
      rintro e a3 W3 hp
      cases e with
      | normal =>
        obtain ⟨hk3, hkp3, hi3⟩ := hp
        obtain ⟨hr, hl3, hl4, hk4⟩ := fin none W3 hk3
        exact ⟨_, _, hr, .inl ⟨rfl, ⟨hI.putObj _ hi3 (by omega) hl3 rfl, hl4, hk4⟩, hKt hkpa (hKt (hKt hw2 hkp3) (hKb _ _ _ _ (by omega) hl3 rfl rfl))⟩⟩
      | ret =>
        obtain ⟨hk3, hi3⟩ := hp
        obtain ⟨hr, hl3, hl4, hk4⟩ := fin (some .ret) W3 hk3
        exact ⟨_, _, hr, .inr ⟨rfl, .ret, (hIx _).putObj _ hi3 (by omega) hl3 rfl, hl4, hk4⟩⟩
      | exit id =>
        obtain ⟨hk3, hi3⟩ := hp
        obtain ⟨hr, hl3, hl4, hk4⟩ := fin (some (.exit id)) W3 hk3
        exact ⟨_, _, hr, .inr ⟨rfl, .exit id, (hIx _).putObj _ hi3 (by omega) hl3 rfl, hl4, hk4⟩⟩
      | goto t =>
        obtain ⟨hk3, hi3⟩ := hp
        obtain ⟨hr, hl3, hl4, hk4⟩ := fin (some (.goto t)) W3 hk3
        exact ⟨_, _, hr, .inr ⟨rfl, .goto t, (hIx _).putObj _ hi3 (by omega) hl3 rfl, hl4, hk4⟩⟩
      | panic ch => exact hp.elim
      | outgrown => exact hp.elim
    · rintro e W2 ⟨⟨v, rfl⟩, (⟨hi, hl, hk⟩ | ⟨pre, c, hi, hl, hk⟩)⟩
      · exact ⟨none, _, by have := run_endLoop (P := P) hl (by rw [hrec]; simp); rw [hrec] at this; exact this, hdone _ _ (Nat.le_refl _) (hI.putObj _ hi (by omega) hl rfl) ((World.putObj_heap_other (by omega)).trans hk)⟩
      · exact ⟨some c, _, by have := run_endLoop (P := P) hl (by rw [hrec]; simp); rw [hrec] at this; exact this, hstop _ c pre _ (Nat.le_refl _) ((hIx c).putObj _ hi (by omega) hl rfl) ((World.putObj_heap_other (by omega)).trans hk)⟩
/-- the marks that loops over functions have left among the deferred calls -/
def MarksAt (base : Nat) (W : World) : List Deferred → Prop
  | [] => True
  | d :: ds => ∃ r, d.target = .collected r ∧ base ≤ r ∧ W.heap[r]? = some (.deferred (some [])) ∧ (∀ d' ∈ ds, d'.target ≠ .collected r) ∧ MarksAt base W ds
theorem MarksAt.keep {base : Nat} {W W' : World} : ∀ {ds : List Deferred}, MarksAt base W ds → (∀ r, base ≤ r → (∃ d ∈ ds, d.target = .collected r) → W.heap[r]? = some (.deferred (some [])) → W'.heap[r]? = some (.deferred (some []))) → MarksAt base W' ds
  | [], _, _ => trivial
  | d :: ds, ⟨r, h1, h2, h3, h4, h5⟩, hk => ⟨r, h1, h2, hk r h2 ⟨d, by simp, h1⟩ h3, h4, h5.keep (fun q hq hd h => hk q hq (by obtain ⟨d', hd', e⟩ := hd; exact ⟨d', by simp [hd'], e⟩) h)⟩
theorem MarksAt.from {base : Nat} {W W' : World} {ds : List Deferred} (h : MarksAt base W ds) (hk : KeepsFrom base W W') : MarksAt base W' ds := h.keep (fun r hr _ h => hk.same r _ hr h rfl)
theorem MarksAt.lt {base : Nat} {W : World} : ∀ {ds : List Deferred}, MarksAt base W ds → ∀ r, (∃ d ∈ ds, d.target = .collected r) → r < W.heap.size
  | [], _, r, h => by obtain ⟨d, hd, _⟩ := h; cases hd
  | d :: ds, ⟨q, h1, _, h3, _, h5⟩, r, h => by
    obtain ⟨d', hd', e⟩ := h
    rcases List.mem_cons.1 hd' with rfl | hd'
    · rw [h1] at e; cases e; exact (Array.getElem?_eq_some_iff.1 h3).1
    · exact h5.lt r ⟨d', hd', e⟩
theorem MarksAt.cons {base : Nat} {W W' : World} {ds : List Deferred} (h : MarksAt base W ds) (hk : KeepsFrom base W W') {D : Nat} (hD : W.heap.size ≤ D) (hb : base ≤ D) (hd : W'.heap[D]? = some (.deferred (some []))) : MarksAt base W' ({ target := .collected D, args := #[] } :: ds) :=
  ⟨D, rfl, hb, hd, fun d' hd' e => by have := h.lt D ⟨d', hd', e⟩; omega, h.from hk⟩
theorem MarksAt.cons_at {base : Nat} {W : World} {ds : List Deferred} (h : MarksAt base W ds) {D : Nat} (hb : base ≤ D) (hd : W.heap[D]? = some (.deferred (some []))) (hn : ∀ d' ∈ ds, d'.target ≠ .collected D) : MarksAt base W ({ target := .collected D, args := #[] } :: ds) := ⟨D, rfl, hb, hd, hn, h⟩
/-- the marks are struck one by one; what lay in cells lies as it lay -/
theorem leaves_marks {fn : Func} {tmps : Array Value} {R : Ending → World → Prop} {base : Nat} {v : Value} (hres : ∀ W, (results fn tmps).run P W = .ok v W) : ∀ (ds : List Deferred) (W : World), MarksAt base W ds →
    (∀ W', (∀ (k : Nat) (o : Obj), W.heap[k]? = some o → o.isCells = true → W'.heap[k]? = some o) → Below base W W' → R (.returned v) W') → LeavesInM F n P fn tmps R ds .returning W
  | [], W, _, h => ⟨v, hres W, h W (fun _ _ h _ => h) (Below.refl _ _)⟩
  | d :: ds, W, ⟨r, h1, h2, h3, h4, h5⟩, h => by
    refine ⟨by simp, .inl ⟨r, _, h1, run_takeDeferred h3, ?_⟩⟩
    refine leaves_marks hres ds _ (h5.keep (fun q _ hd hq => ?_)) (fun W' hc hb => h W' (fun k o hk ho => hc k o ?_ ho) ?_)
    · obtain ⟨d', hd', e⟩ := hd
      rw [World.putObj_heap_other (fun e2 => h4 d' hd' (by rw [e, e2]))]; exact hq
    · rw [World.putObj_heap_other (fun e2 => by subst e2; rw [h3] at hk; cases hk; cases ho)]; exact hk
    · exact ((Below.refl base W).grown (grownBy_putObj' W r (.deferred none)) (by have := (Array.getElem?_eq_some_iff.1 h3).1; omega) (fun k e => by cases e; omega)).trans hb
/-- the end of a body with marks; it never panics -/
def postM (P : Program) (fn : Func) (R : Ending → World → Prop) : Exit → Act → World → Prop
  | .normal, a, w | .ret, a, w => LeavesInM Fence.wide 3 P fn a.tmps R a.defers .returning w
  | _, _, _ => False
theorem calls_of_marks {f : FuncId} {fn : Func} {c : Code} {args : Array Value} {w : World} {R : Ending → World → Prop} (hf : P.funcs[f]? = some fn) (hb : fn.body = some c)
    (h : c.wp P (postM P fn R) { tmps := args ++ Array.replicate (fn.ntmps - args.size) undef, defers := [] } w) : Calls P f args w R := by
  refine (callsIn_wide (n := 3)).1 (callsIn_of_wp_marks hf hb trivial (wpIn_wide.2 (wp_mono h ?_)) rfl)
  intro e a w h
  cases e <;> first | exact h | exact h.elim
end Go.Proofs.YtpahhcmiimllaaaGreatDoor
