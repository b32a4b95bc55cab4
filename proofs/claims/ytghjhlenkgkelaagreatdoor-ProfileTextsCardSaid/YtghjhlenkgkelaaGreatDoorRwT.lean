/- Compare and Text of any two profiles, of at most 100 edges and spots each, are what the reference tells: for every two profiles. The library's tables that the program reads stand as their initialisers lay them (the card ties them). -/
import Derived.Test.YtghjhlenkgkelaaGreatDoorLwT
import Derived.Test.YtghjhlenkgkelaaGreatDoorRows
import Derived.ProofKit
import Derived.Deep.Slices
import Derived.Deep.Fields
import Derived.ChangeSame
import Derived.Laws.IdiomArrays
import Derived.Lib.LaidTab
import Derived.Lib.SmallJoins
import Derived.OpenShut
import Derived.Test.YtghjhlenkgkelaaGreatDoorCards
import Derived.Test.YtghjhlenkgkelaaGreatDoorTie
import Derived.WalkKit
import Derived.ChangeOld
import Derived.Below
import Derived.Deep.DeepHandedRow
import Derived.LaidMore
set_option linter.unusedSimpArgs false
set_option linter.unusedVariables false
namespace Go.Proofs.YtghjhlenkgkelaaGreatDoor
open Go.RowKit Go.ChangeShapes Go.WideShapes Go.Deep Go.Joins

theorem tab_datum : (Rows.laid_internal_strconv_uint64pow10 : DataW Unit) = Lib.tabData .u64 Lib.pow10Tab := by rfl
theorem cellsT20 : Tryz.prog.cellsOf 168 = 20 := by kernel_rfl
theorem cellsU64 : Tryz.prog.cellsOf 151 = 1 := by kernel_rfl
theorem glob10t : (Tryz.prog.globals[0]?).map (·.type) = some 168 := by kernel_rfl
theorem tab_of_laid {W : World} (h : laidMetH Tryz.prog Rows.profileTextsRow.laid W) : Tab10 W := by
  have h' : laidMet Tryz.prog Rows.profileTextsRow.laid W := h
  obtain ⟨ps, ⟨g0, t0, cs0, f0, p0, q0, hg0, ht0, hv0, hd0, ⟨g1, t1, cs1, f1, p1, q1, hg1, ht1, hv1, hd1, ⟨g2, t2, cs2, f2, p2, q2, hg2, ht2, hv2, hd2, _, _⟩, _⟩, _⟩, _⟩ := h'
  obtain rfl := Option.some.inj (glob10.symm.trans hg2)
  obtain rfl := Option.some.inj (glob10t.symm.trans ht2)
  unfold Tab10 Lib.TabIs
  rw [hv2]
  rw [tab_datum] at hd2
  rw [← Lib.cells_of_tab Tryz.underlying168 Tryz.underlying151 cellsU64 cellsT20 hd2]

section
variable {H : Type} {enc : TypeId × Value → H} {w : World} {base : Nat} {spare : Nat → Bool} {held : Bool}
theorem int64_of {n : Int} (h : (Lit.int .i64 n).wf = true) : I64 n := Go.bounds_i64 h
theorem und_edge : ∃ f0 f1 f2 f3 : Field, Tryz.prog.underlying 60 = some (.struct #[f0, f1, f2, f3]) ∧ f0.type = 3 ∧ f1.type = 3 ∧ f2.type = 3 ∧ f3.type = 3 ∧ f0.offset = 0 ∧ f1.offset = 1 ∧ f2.offset = 2 ∧ f3.offset = 3 := by
  refine ⟨_, _, _, _, Tryz.underlying60, ?_⟩
  exact ⟨rfl, rfl, rfl, rfl, rfl, rfl, rfl, rfl⟩
theorem und_spot : ∃ f0 f1 f2 f3 f4 : Field, Tryz.prog.underlying 62 = some (.struct #[f0, f1, f2, f3, f4]) ∧ f0.type = 43 ∧ f1.type = 3 ∧ f2.type = 3 ∧ f3.type = 3 ∧ f4.type = 3 ∧ f0.offset = 0 ∧ f1.offset = 3 ∧ f2.offset = 4 ∧ f3.offset = 5 ∧ f4.offset = 6 := by
  refine ⟨_, _, _, _, _, Tryz.underlying62, ?_⟩
  exact ⟨rfl, rfl, rfl, rfl, rfl, rfl, rfl, rfl, rfl, rfl⟩
set_option maxRecDepth 100000 in
theorem open_edge {fuel : Nat} {cs : List Value} {x : DataW H × List MemPlace} (h : DataW.trod enc Tryz.prog w base spare held fuel 60 cs = some x) : ∃ y : Edg, cs = encEL y ∧ okE y := by
  obtain ⟨f0, f1, f2, f3, hu, t0, t1, t2, t3, o0, o1, o2, o3⟩ := und_edge
  obtain ⟨ys, n, _, _, hlen, hyl, hf⟩ := DataW.trod_struct hu h
  have hC : Tryz.prog.cellsOf 60 = 4 := by kernel_rfl
  have hI : Tryz.prog.cellsOf 3 = 1 := by kernel_rfl
  rw [hC] at hlen
  match cs, hlen with
  | [c0, c1, c2, c3], _ =>
    match ys, hyl with
    | [y0, y1, y2, y3], _ =>
      have g0 := hf 0 f0 rfl
      have g1 := hf 1 f1 rfl
      have g2 := hf 2 f2 rfl
      have g3 := hf 3 f3 rfl
      rw [t0, o0, hI] at g0; rw [t1, o1, hI] at g1; rw [t2, o2, hI] at g2; rw [t3, o3, hI] at g3
      simp only [List.drop_zero, List.drop_succ_cons, List.take_succ_cons, List.take_zero, List.getElem?_cons_zero, List.getElem?_cons_succ] at g0 g1 g2 g3
      obtain ⟨n0, e0, _, w0⟩ := DataW.trod_int Tryz.underlying3 g0
      obtain ⟨n1, e1, _, w1⟩ := DataW.trod_int Tryz.underlying3 g1
      obtain ⟨n2, e2, _, w2⟩ := DataW.trod_int Tryz.underlying3 g2
      obtain ⟨n3, e3, _, w3⟩ := DataW.trod_int Tryz.underlying3 g3
      simp only [List.cons.injEq, and_true] at e0 e1 e2 e3
      exact ⟨⟨n0, n1, n2, n3⟩, by rw [e0, e1, e2, e3]; rfl, int64_of w0, int64_of w1, int64_of w2, int64_of w3⟩
set_option maxRecDepth 100000 in
theorem open_spot {fuel : Nat} {cs : List Value} {x : DataW H × List MemPlace} (h : DataW.trod enc Tryz.prog w base spare held fuel 62 cs = some x) : ∃ y : Spt, cs = encSL y ∧ okS y := by
  obtain ⟨f0, f1, f2, f3, f4, hu, t0, t1, t2, t3, t4, o0, o1, o2, o3, o4⟩ := und_spot
  obtain ⟨ys, n, _, _, hlen, hyl, hf⟩ := DataW.trod_struct hu h
  have hC : Tryz.prog.cellsOf 62 = 7 := by kernel_rfl
  have hI : Tryz.prog.cellsOf 3 = 1 := by kernel_rfl
  have hA : Tryz.prog.cellsOf 43 = 3 := by kernel_rfl
  rw [hC] at hlen
  match cs, hlen with
  | [c0, c1, c2, c3, c4, c5, c6], _ =>
    match ys, hyl with
    | [y0, y1, y2, y3, y4], _ =>
      have g0 := hf 0 f0 rfl
      have g1 := hf 1 f1 rfl
      have g2 := hf 2 f2 rfl
      have g3 := hf 3 f3 rfl
      have g4 := hf 4 f4 rfl
      rw [t0, o0, hA] at g0; rw [t1, o1, hI] at g1; rw [t2, o2, hI] at g2; rw [t3, o3, hI] at g3; rw [t4, o4, hI] at g4
      simp only [List.drop_zero, List.drop_succ_cons, List.take_succ_cons, List.take_zero, List.getElem?_cons_zero, List.getElem?_cons_succ] at g0 g1 g2 g3 g4
      obtain ⟨a0, a1, a2, m, _, q0, q1, q2⟩ := trod_array3 Tryz.underlying43 hI g0
      obtain ⟨n0, e0, _, w0⟩ := DataW.trod_int Tryz.underlying3 q0
      obtain ⟨n1, e1, _, w1⟩ := DataW.trod_int Tryz.underlying3 q1
      obtain ⟨n2, e2, _, w2⟩ := DataW.trod_int Tryz.underlying3 q2
      obtain ⟨n3, e3, _, w3⟩ := DataW.trod_int Tryz.underlying3 g1
      obtain ⟨n4, e4, _, w4⟩ := DataW.trod_int Tryz.underlying3 g2
      obtain ⟨n5, e5, _, w5⟩ := DataW.trod_int Tryz.underlying3 g3
      obtain ⟨n6, e6, _, w6⟩ := DataW.trod_int Tryz.underlying3 g4
      simp only [List.cons.injEq, and_true] at e0 e1 e2 e3 e4 e5 e6
      exact ⟨⟨⟨n0, n1, n2⟩, n3, n4, n5, n6⟩, by rw [e0, e1, e2, e3, e4, e5, e6]; rfl, int64_of w0, int64_of w1, int64_of w2, int64_of w3, int64_of w4, int64_of w5, int64_of w6⟩
/-- a slice of structs opened -/
theorem open_rd {α : Type} [Inhabited α] {encα : α → List Value} {ok : α → Prop} {k : Nat} {t e : TypeId} {bytes : Nat} (ht : Tryz.prog.underlying t = some (.slice e)) (hC : Tryz.prog.cellsOf e = k) (hby : Tryz.prog.bytesOf e = bytes) (hlen : ∀ y, (encα y).length = k) (hk : 0 < k)
    (he : ∀ (fuel : Nat) (cs : List Value) (x : DataW H × List MemPlace), DataW.trod enc Tryz.prog w base spare held fuel e cs = some x → ∃ y : α, cs = encα y ∧ ok y)
    {fuel : Nat} {cs : List Value} {x : DataW H × List MemPlace} (h : DataW.trod enc Tryz.prog w base spare held fuel t cs = some x) :
    ∃ A n c xs, cs = [.slice A n c] ∧ Rd encα k w A n xs ∧ (∀ y ∈ xs, ok y) ∧ ((x.1.weights Tryz.prog t).all (· ≤ reachBytes) = true → n * bytes ≤ reachBytes) := by
  rcases open_slice ht h with ⟨rfl, _⟩ | ⟨a, len, cap, m, n, D, Pl, rfl, _, hl, hm, hmm, hxx, hx⟩
  · exact ⟨none, 0, 0, [], rfl, ⟨rfl, by simp⟩, by simp, fun _ => by omega⟩
  · rw [hC] at hx
    obtain ⟨F, hF⟩ := choose_lt (n := len) (p := fun i (y : α) => ok y ∧ ∀ j u, (encα y)[j]? = some u → w.cell? ((a.add (i * k)).add j) = some u) (fun i hi => by
      obtain ⟨cs', h1, h2⟩ := hx i (by rw [hmm]; split <;> omega)
      obtain ⟨y, rfl, hok⟩ := he _ _ _ h2
      obtain ⟨_, hln, hat⟩ := World.cells?_some h1
      refine ⟨y, hok, fun j u hu => ?_⟩
      have hj := (List.getElem?_eq_some_iff.1 hu).1
      rw [hat j (by rw [hln] at hj; exact hj)]; exact hu)
    refine ⟨some a, len, cap, (List.range len).map F, rfl, ⟨by simp, fun i x hx' => ?_⟩, ?_, ?_⟩
    · obtain ⟨hi, rfl⟩ := List.getElem?_eq_some_iff.1 hx'
      have hil : i < len := by simpa using hi
      rw [List.getElem_map, List.getElem_range]
      obtain ⟨u0, hu0⟩ : ∃ u0, (encα (F 0))[0]? = some u0 := get_some (by rw [hlen]; exact hk)
      have h0 := (hF 0 (by omega)).2 0 _ hu0
      rw [Nat.zero_mul] at h0
      simp only [Addr.add, if_true] at h0
      have hsp : a.spot = none := by
        cases hs : a.spot with
        | none => rfl
        | some k =>
          exfalso
          unfold World.cell? at h0
          split at h0
          · simp [hs] at h0
          · cases h0
      have ha : a = ⟨a.block, a.off, none⟩ := by rw [← hsp]
      have hadd : ∀ k, a.add k = ⟨a.block, a.off + k, none⟩ := fun k => by
        by_cases hk : k = 0
        · subst hk; simp only [Addr.add, if_true, Nat.add_zero]; exact ha
        · simp [Addr.add, hk]
      have hadd2 : ∀ k j, (a.add k).add j = ⟨a.block, a.off + k + j, none⟩ := fun k j => by
        rw [hadd]
        by_cases hj : j = 0
        · subst hj; simp [Addr.add]
        · simp [Addr.add, hj]
      have hc := (hF i hil).2
      simp only [hadd2] at hc
      exact ⟨a.block, a.off, by rw [← ha], cell_lt (a := a) h0, hc⟩
    · intro y hy
      obtain ⟨i, hi, rfl⟩ := List.mem_map.1 hy
      exact (hF i (by simpa using hi)).1
    · intro hw
      rw [hxx] at hw
      simp only [DataW.weights, ht, List.all_cons, Bool.and_eq_true, decide_eq_true_eq] at hw
      have h1 := hw.1
      rw [hby] at h1
      simp only [List.length_map, List.length_range] at h1
      exact Nat.le_trans (Nat.mul_le_mul_right _ (by omega)) h1
theorem trod_float {t : TypeId} {k : FloatKind} {fuel : Nat} {cs : List Value} {x : DataW H × List MemPlace} (ht : Tryz.prog.underlying t = some (.float k)) (h : DataW.trod enc Tryz.prog w base spare held fuel t cs = some x) : ∃ b, cs = [.float k b] := by
  cases fuel with
  | zero => simp [DataW.trod] at h
  | succ n =>
    unfold DataW.trod at h
    rw [ht] at h
    split at h <;> simp_all
theorem und_prof : ∃ f0 f1 f2 : Field, Tryz.prog.underlying 26 = some (.struct #[f0, f1, f2]) ∧ f0.type = 22 ∧ f1.type = 23 ∧ f2.type = 24 ∧ oneCellFields Tryz.prog #[f0, f1, f2] = true := by
  refine ⟨_, _, _, Tryz.underlying26, ?_⟩
  exact ⟨rfl, rfl, rfl, by kernel_rfl⟩
instance : Inhabited Spt := ⟨spot0⟩
set_option maxRecDepth 100000 in
theorem open_prof {r : Reach} {b0 : Nat} {v : Value} {d : DataW H} {p : List MemPlace} (hv : Value.okWide Tryz.prog w r b0 26 v) (h : DataW.Trod enc Tryz.prog w base spare held 26 v d p) :
    ∃ (A : Option Addr) (n c : Nat) (S : Option Addr) (s e f : Nat) (xs : List Edg) (sx : List Spt), v = .agg #[.slice A n c, .slice S s e, .float .f32 f] ∧ Rd encEL 4 w A n xs ∧ Rd encSL 7 w S s sx ∧ (∀ x ∈ xs, okE x) ∧ (∀ x ∈ sx, okS x) ∧
      ((d.weights Tryz.prog 26).all (· ≤ reachBytes) = true → n ≤ 10000000000000 ∧ s ≤ 10000000000000) := by
  obtain ⟨f0, f1, f2, hu, t0, t1, t2, hone⟩ := und_prof
  obtain ⟨v0, v1, v2, y0, y1, y2, m, rfl, rfl, _, h0, h1, h2⟩ := open_agg3 hu hone (by kernel_rfl) hv h
  rw [t0] at h0; rw [t1] at h1; rw [t2] at h2
  obtain ⟨A, n, c, xs, e0, hR, hok, hw0⟩ := open_rd (encα := encEL) (ok := okE) (k := 4) (bytes := 32) Tryz.underlying22 (by kernel_rfl) (by kernel_rfl) (fun _ => rfl) (by omega) (fun _ _ _ h => open_edge h) h0
  obtain ⟨S, s, e, sx, e1, hR1, hok1, hw1⟩ := open_rd (encα := encSL) (ok := okS) (k := 7) (bytes := 56) Tryz.underlying23 (by kernel_rfl) (by kernel_rfl) (fun _ => rfl) (by omega) (fun _ _ _ h => open_spot h) h1
  obtain ⟨f, e2⟩ := trod_float Tryz.underlying24 h2
  simp only [List.cons.injEq, and_true] at e0 e1 e2
  subst e0 e1 e2
  refine ⟨A, n, c, S, s, e, f, xs, sx, rfl, hR, hR1, hok, hok1, fun hw => ?_⟩
  simp only [DataW.weights, hu] at hw
  rw [show (#[f0, f1, f2] : Array Field).toList.map (·.type) = [f0.type, f1.type, f2.type] from rfl, t0, t1, t2] at hw
  simp only [DataW.weightsEach, List.all_append, Bool.and_eq_true] at hw
  have g0 := hw0 hw.1
  have g1 := hw1 hw.2.1
  unfold reachBytes at g0 g1
  omega
end
end Go.Proofs.YtghjhlenkgkelaaGreatDoor
namespace Go.Proofs.YtghjhlenkgkelaaGreatDoor
open Go.ChangeShapes Go.WideShapes Go.ChangeAt Go.RowKit

theorem own : ownKnob Tryz.prog.godebug = none := by kernel_rfl
theorem laidOut : laidOutB Tryz.prog = true := by kernel_rfl
def arg0 : Value := .agg #[.slice none 0 0, .slice none 0 0, .float .f32 0]
theorem door_met (os : Os) : laidMet Tryz.prog Rows.profileTextsRow.laid ((World.doorLaid Tryz.prog 400 os).forCall (fun _ _ => 0) ⟨#[], #[arg0, arg0], []⟩).memory :=
  laidMet_of_run' 8 (by kernel_rfl) (by kernel_rfl)
set_option maxRecDepth 100000 in
theorem reads (os : Os) {H : Type} (enc : TypeId × Value → H) : ∃ ds gs places, DataW.whole enc Tryz.prog ((World.doorLaid Tryz.prog 400 os).forCall (fun _ _ => 0) ⟨#[], #[arg0, arg0], []⟩).memory Tryz.f3.params.toList Rows.profileTextsSpec.vars false #[arg0, arg0].toList 8 = some (ds, gs, places) :=
  ⟨[.agg [.nil, .nil, .lit (.float .f32 0)], .agg [.nil, .nil, .lit (.float .f32 0)]], [], [], by kernel_rfl⟩
set_option maxRecDepth 100000 in
theorem profileTexts_lifted (os : Os) (started : os.Started) (H : Type) (enc : TypeId × Value → H) (F : Stop.Interp) :
    ReturnsInHanded {} Tryz.checked os 3 .any ((OpenSpec.ofChange Rows.profileTextsSpec).preRow enc Tryz.prog Tryz.f3 Rows.profileTextsRow.domain false Rows.profileTextsRow.laid) (((OpenSpec.ofChange Rows.profileTextsSpec).at F).post enc Tryz.prog Tryz.f3 false true false false) := by
  obtain ⟨ds, gs, places, hx⟩ := reads os enc
  refine returnsInHanded_of_row (C := Tryz.checked) (s := OpenSpec.ofChange Rows.profileTextsSpec) own started (by kernel_rfl) Tryz.func3
    (witness_row_at (enc := enc) (C := Tryz.checked) false (World.doorLaid Tryz.prog 400 os) #[arg0, arg0] rfl (by kernel_rfl) (by kernel_rfl) (by kernel_rfl)
      (OpenSpec.preRow_of_cond 8 hx (by kernel_rfl) (fun k hk => by cases hk) (by kernel_rfl) (door_met os))) ?_
  intro W base args ds gs before hval0 hW hcnd _ hsz hL _ _
  have hval : ∀ (j : Nat) t v, Tryz.f3.params[j]? = some t → args[j]? = some v → Value.okWide Tryz.prog W .any base t v := hval0
  have hW' := hW
  obtain ⟨p, q, hA0, hV, rfl, hfz, hnd⟩ := hW
  have hA : DataW.TrodAll enc Tryz.prog W 0 (fun _ => true) true Tryz.f3.params.toList args.toList ds p := hA0
  have hsz' : (DataW.weightsEach Tryz.prog (Tryz.f3.params.toList ++ (OpenSpec.ofChange Rows.profileTextsSpec).bare.plain.varTypes Tryz.prog) (ds ++ gs)).all (· ≤ reachBytes) = true := hsz
  rw [Tryz.params3] at hA hval hsz'
  obtain ⟨v0, vs0, d0, ds0, p0, q0, hargs, rfl, rfl, h0, r0⟩ := trodAll_cons hA
  obtain ⟨v1, vs1, d1, ds1, p1, q1, rfl, rfl, rfl, h1, r1⟩ := trodAll_cons r0
  obtain ⟨rfl, rfl, rfl⟩ := trodAll_nil r1
  obtain rfl : args = #[v0, v1] := by cases args; simp_all
  obtain ⟨rfl, rfl⟩ := trodVars_none hV
  have k0 := h0
  have k1 := h1
  have lt0 : ∀ x ∈ p0, x.block < W.heap.size := by obtain ⟨m, hm⟩ := k0; exact DataW.trod_lt m _ _ _ hm
  have lt1 : ∀ x ∈ p1, x.block < W.heap.size := by obtain ⟨m, hm⟩ := k1; exact DataW.trod_lt m _ _ _ hm
  obtain ⟨A1, n, c, S1, s1, e1, f1, xs, sx, rfl, hR1, hQ1, ok1, ok2, hb1⟩ := open_prof (hval 0 26 v0 rfl rfl) h0
  obtain ⟨A2, m, d, S2, s2, e2, f2, ys, sy, rfl, hR2, hQ2, _, _, hb2⟩ := open_prof (hval 1 26 v1 rfl rfl) h1
  have hww : (d0.weights Tryz.prog 26).all (· ≤ reachBytes) = true ∧ (d1.weights Tryz.prog 26).all (· ≤ reachBytes) = true := by
    have hsz2 : (d0.weights Tryz.prog 26 ++ (d1.weights Tryz.prog 26 ++ _)).all (· ≤ reachBytes) = true := hsz'
    rw [List.all_append, List.all_append, Bool.and_eq_true, Bool.and_eq_true] at hsz2
    exact ⟨hsz2.1, hsz2.2.1⟩
  obtain ⟨q1, q2⟩ := hb1 hww.1
  obtain ⟨q3, q4⟩ := hb2 hww.2
  have hT := tab_of_laid hL
  clear hA0 hval0 hsz hsz'
  refine (texts_walk A1 A2 S1 S2 n c m d s1 e1 s2 e2 f1 f2 xs ys sx sy W q1 q2 q3 q4 hT hR1 hQ1 hR2 hQ2 ok1 ok2).mono fun e W' ⟨he, bel⟩ => ?_
  subst he
  exact ⟨_, rfl, _, _, _, [], _, [], hW', trodAll_mk1 (shut_bool Tryz.underlying4 _), (trodAll_cons_mk (Below.trod laidOut (by kernel_rfl) (of_decide_eq_true (by kernel_rfl)) k0 bel lt0) (trodAll_cons_mk (Below.trod laidOut (by kernel_rfl) (of_decide_eq_true (by kernel_rfl)) k1 bel lt1) trodAll_mk0)), rfl, bel.frame _, fun h => by cases h⟩
theorem profileTexts_said : Rows.ProfileTextsSaid :=
  OpenClaim.holds_of_cond 3 Tryz.f3 rfl rfl rfl rfl rfl rfl rfl ⟨rfl, rfl, rfl, rfl, rfl⟩ rfl rfl rfl rfl rfl (by kernel_rfl) Tryz.func3 (by kernel_rfl)
    (of_decide_eq_true (by kernel_rfl)) (by unfold Func.isWrapper; first | (rw [if_pos (by decide +kernel)]; kernel_rfl) | (rw [if_neg (by decide +kernel)]; exact ⟨rfl, rfl⟩))
    (fun os started H enc _ F => by rw [OpenClaim.pre_eq_preRow]; exact profileTexts_lifted os started H enc F)
theorem plain (f : FuncId) (fn : Func) (hf : Tryz.pinned.checked.prog.funcNamed "raddle/raddlelaw41.ProfileTexts" = some f) (hfn : Tryz.pinned.checked.prog.funcs[f]? = some fn) :
    false = Tryz.pinned.checked.prog.looks [] ∧ ∀ (j : Nat) t, fn.params[j]? = some t → Tryz.pinned.checked.prog.wantsStandIn t = false := by
  obtain rfl : f = 3 := Option.some.inj ((show Tryz.prog.funcNamed "raddle/raddlelaw41.ProfileTexts" = some 3 by kernel_rfl).symm.trans hf) |>.symm
  obtain rfl : fn = Tryz.f3 := (Option.some.inj (Tryz.func3.symm.trans hfn)).symm
  refine ⟨by kernel_rfl, fun j t ht => ?_⟩
  rw [Tryz.params3] at ht
  have hm : t ∈ [26, 26] := by simpa using Array.mem_of_getElem? ht
  have hall : ([26, 26].all fun u => !Tryz.prog.wantsStandIn u) = true := by kernel_rfl
  exact (show Tryz.prog.wantsStandIn t = false by simpa using List.all_eq_true.1 hall t hm)
theorem profileTexts_holds : Rows.ProfileTextsCardSaid :=
  Claim7.holds_tied_plain_at .later [] _ _ _ _ profileTexts_said (fun _ h => by cases h) (by kernel_rfl) (fun _ h => by cases h) profileTexts_row_tie rfl ⟨rfl, rfl⟩ (by kernel_rfl) rfl plain (by kernel_rfl)
#print axioms profileTexts_holds
end Go.Proofs.YtghjhlenkgkelaaGreatDoor
