/- DERIVED. Code handed to a law: opened. -/
import Derived.Test.YtpahhcmiimllaaaGreatDoorCd
import Derived.ProofKit
import Derived.Deep.Slices
import Derived.Deep.Fields
import Derived.ChangeSame
import Derived.ChangeMaps5
import Derived.OpenShut
import Derived.WalkKit
set_option linter.unusedSimpArgs false
set_option linter.unusedVariables false
namespace Go.Proofs.YtpahhcmiimllaaaGreatDoor
open Go.RowKit Go.ChangeShapes Go.WideShapes Go.Deep

section
variable {H : Type} {enc : TypeId × Value → H} {w : World} {base : Nat} {spare : Nat → Bool} {held : Bool}
theorem weights_mem {e : TypeId} : ∀ {l : List (DataW H)} {d : DataW H}, (DataW.weightsAll Tryz.prog e l).all (· ≤ reachBytes) = true → d ∈ l → (d.weights Tryz.prog e).all (· ≤ reachBytes) = true
  | a :: r, d, h, hm => by
    rw [DataW.weightsAll, List.all_append, Bool.and_eq_true] at h
    rcases List.mem_cons.1 hm with rfl | hm
    · exact h.1
    · exact weights_mem h.2 hm
set_option maxRecDepth 100000 in
/-- a slice of structs opened; E: what the cells of an element say of it -/
theorem open_rdR {α : Type} [Inhabited α] {E : List Value → α → Prop} {R : World → Nat → Nat → α → Prop} {ok : α → Prop} {k : Nat} {t e : TypeId} {bytes : Nat} (ht : Tryz.prog.underlying t = some (.slice e)) (hC : Tryz.prog.cellsOf e = k) (hby : Tryz.prog.bytesOf e = bytes) (hlen : ∀ cs y, E cs y → cs.length = k) (hk : 0 < k)
    (he : ∀ (fuel : Nat) (cs : List Value) (x : DataW H × List MemPlace), DataW.trod enc Tryz.prog w base spare held fuel e cs = some x → ∃ y : α, E cs y ∧ ((x.1.weights Tryz.prog e).all (· ≤ reachBytes) = true → ok y))
    (hR : ∀ b o cs y, E cs y → (∀ j u, cs[j]? = some u → w.cell? ⟨b, o + j, none⟩ = some u) → R w b o y)
    {fuel : Nat} {cs : List Value} {x : DataW H × List MemPlace} (h : DataW.trod enc Tryz.prog w base spare held fuel t cs = some x) :
    ∃ A n c xs, cs = [.slice A n c] ∧ RdR R k w A n xs ∧ (A = none → c = 0) ∧ ((x.1.weights Tryz.prog t).all (· ≤ reachBytes) = true → n * bytes ≤ reachBytes ∧ ∀ y ∈ xs, ok y) := by
  rcases open_slice ht h with ⟨rfl, _⟩ | ⟨a, len, cap, m, n, D, Pl, rfl, _, hl, hm, hmm, hxx, hx⟩
  · exact ⟨none, 0, 0, [], rfl, ⟨rfl, by simp⟩, fun _ => rfl, fun _ => ⟨by omega, by simp⟩⟩
  · rw [hC] at hx
    obtain ⟨F, hF⟩ := choose_lt (n := len) (p := fun i (y : α) => (((D i).weights Tryz.prog e).all (· ≤ reachBytes) = true → ok y) ∧ ∃ ys, E ys y ∧ ∀ j u, ys[j]? = some u → w.cell? ((a.add (i * k)).add j) = some u) (fun i hi => by
      obtain ⟨cs', h1, h2⟩ := hx i (by rw [hmm]; split <;> omega)
      obtain ⟨y, hE, hok⟩ := he _ _ _ h2
      obtain ⟨_, hln, hat⟩ := World.cells?_some h1
      refine ⟨y, hok, cs', hE, fun j u hu => ?_⟩
      have hj := (List.getElem?_eq_some_iff.1 hu).1
      rw [hat j (by rw [hln] at hj; exact hj)]; exact hu)
    refine ⟨some a, len, cap, (List.range len).map F, rfl, ⟨by simp, fun i x hx' => ?_⟩, (fun h => by cases h), ?_⟩
    · obtain ⟨hi, rfl⟩ := List.getElem?_eq_some_iff.1 hx'
      have hil : i < len := by simpa using hi
      rw [List.getElem_map, List.getElem_range]
      obtain ⟨ys0, hE0, hc0⟩ := (hF 0 (by omega)).2
      obtain ⟨u0, hu0⟩ : ∃ u0, ys0[0]? = some u0 := get_some (by rw [hlen _ _ hE0]; exact hk)
      have h0 := hc0 0 _ hu0
      rw [Nat.zero_mul] at h0
      simp only [Addr.add, if_true] at h0
      have hsp : a.spot = none := by
        cases hs : a.spot with
        | none => rfl
        | some k =>
          exfalso
          unfold World.cell? at h0
          split at h0
          · simp [hs] at h0
          · cases h0
      have ha : a = ⟨a.block, a.off, none⟩ := by rw [← hsp]
      have hadd : ∀ k, a.add k = ⟨a.block, a.off + k, none⟩ := fun k => by
        by_cases hk : k = 0
        · subst hk; simp only [Addr.add, if_true, Nat.add_zero]; exact ha
        · simp [Addr.add, hk]
      have hadd2 : ∀ k j, (a.add k).add j = ⟨a.block, a.off + k + j, none⟩ := fun k j => by
        rw [hadd]
        by_cases hj : j = 0
        · subst hj; simp [Addr.add]
        · simp [Addr.add, hj]
      obtain ⟨ys, hE, hc⟩ := (hF i hil).2
      simp only [hadd2] at hc
      exact ⟨a.block, a.off, by rw [← ha], cell_lt (a := a) h0, hR _ _ _ _ hE hc⟩
    · intro hw
      rw [hxx] at hw
      simp only [DataW.weights, ht, List.all_cons, List.all_append, Bool.and_eq_true, decide_eq_true_eq] at hw
      have h1 := hw.1
      have h2 := hw.2.1
      rw [hby] at h1
      simp only [List.length_map, List.length_range] at h1
      refine ⟨Nat.le_trans (Nat.mul_le_mul_right _ (by omega)) h1, fun y hy => ?_⟩
      obtain ⟨i, hi, rfl⟩ := List.mem_map.1 hy
      exact (hF i (by simpa using hi)).1 (weights_mem h2 (List.mem_map.2 ⟨i, hi, rfl⟩))
theorem open_intE {fuel : Nat} {cs : List Value} {x : DataW H × List MemPlace} (h : DataW.trod enc Tryz.prog w base spare held fuel 3 cs = some x) : ∃ y : Int, cs = encI y ∧ ((x.1.weights Tryz.prog 3).all (· ≤ reachBytes) = true → -9223372036854775808 ≤ y ∧ y < 9223372036854775808) := by
  obtain ⟨n0, e0, _, w0⟩ := DataW.trod_int Tryz.underlying3 h
  refine ⟨n0, e0, fun _ => ?_⟩
  have h1 : IntKind.i64.min = -9223372036854775808 := by decide
  have h2 : IntKind.i64.max = 9223372036854775807 := by decide
  simp [Lit.wf] at w0
  omega
/-- a slice of ints -/
theorem open_intsR {fuel : Nat} {cs : List Value} {x : DataW H × List MemPlace} (h : DataW.trod enc Tryz.prog w base spare held fuel 27 cs = some x) :
    ∃ A n c xs, cs = [.slice A n c] ∧ Rd encI 1 w A n xs ∧ (A = none → c = 0) ∧ ((x.1.weights Tryz.prog 27).all (· ≤ reachBytes) = true → n * 8 ≤ reachBytes ∧ ∀ y ∈ xs, -9223372036854775808 ≤ y ∧ y < 9223372036854775808) := by
  obtain ⟨A, n, c, xs, e, hR, hz, hw⟩ := open_rdR (E := fun cs y => cs = encI y) (R := fun w b o y => ∀ (j : Nat) (u : Value), (encI y)[j]? = some u → w.cell? ⟨b, o + j, none⟩ = some u) (ok := fun y => -9223372036854775808 ≤ y ∧ y < 9223372036854775808) (k := 1) (bytes := 8) Tryz.underlying27 (by kernel_rfl) (by kernel_rfl) (fun cs y h => by rw [h]; rfl) (by omega) (fun _ _ _ h => open_intE h) (fun b o cs y h hc => by subst h; exact hc) h
  exact ⟨A, n, c, xs, e, ⟨hR.len, hR.at_⟩, hz, hw⟩
theorem und_ins : ∃ f0 f1 f2 f3 f4 f5 f6 : Field, Tryz.prog.underlying 55 = some (.struct #[f0, f1, f2, f3, f4, f5, f6]) ∧ f0.type = 3 ∧ f1.type = 3 ∧ f2.type = 3 ∧ f3.type = 3 ∧ f4.type = 3 ∧ f5.type = 9 ∧ f6.type = 27 ∧ f0.offset = 0 ∧ f1.offset = 1 ∧ f2.offset = 2 ∧ f3.offset = 3 ∧ f4.offset = 4 ∧ f5.offset = 5 ∧ f6.offset = 6 := by
  refine ⟨_, _, _, _, _, _, _, Tryz.underlying55, ?_⟩
  exact ⟨rfl, rfl, rfl, rfl, rfl, rfl, rfl, rfl, rfl, rfl, rfl, rfl, rfl, rfl⟩
def InsE (w : World) (cs : List Value) (y : InsL) : Prop := ∃ A n c, cs = [.int .i64 y.op, .int .i64 y.a, .int .i64 y.b, .int .i64 y.c, .int .i64 y.d, .string ⟨y.text.toArray⟩, .slice A n c] ∧ Rd encI 1 w A n y.list ∧ (A = none → c = 0)
set_option maxRecDepth 100000 in
theorem open_ins {fuel : Nat} {cs : List Value} {x : DataW H × List MemPlace} (h : DataW.trod enc Tryz.prog w base spare held fuel 55 cs = some x) : ∃ y : InsL, InsE w cs y ∧ ((x.1.weights Tryz.prog 55).all (· ≤ reachBytes) = true → y.text.length ≤ reachBytes ∧ y.list.length * 8 ≤ reachBytes) := by
  obtain ⟨f0, f1, f2, f3, f4, f5, f6, hu, t0, t1, t2, t3, t4, t5, t6, o0, o1, o2, o3, o4, o5, o6⟩ := und_ins
  obtain ⟨ys, n, _, hx, hlen, hyl, hf⟩ := DataW.trod_struct hu h
  have hC : Tryz.prog.cellsOf 55 = 7 := by kernel_rfl
  have hI : Tryz.prog.cellsOf 3 = 1 := by kernel_rfl
  have hS : Tryz.prog.cellsOf 9 = 1 := by kernel_rfl
  have hL : Tryz.prog.cellsOf 27 = 1 := by kernel_rfl
  rw [hC] at hlen
  match cs, hlen with
  | [c0, c1, c2, c3, c4, c5, c6], _ =>
    match ys, hyl, hx with
    | [y0, y1, y2, y3, y4, y5, y6], _, hx =>
      have g0 := hf 0 f0 rfl
      have g1 := hf 1 f1 rfl
      have g2 := hf 2 f2 rfl
      have g3 := hf 3 f3 rfl
      have g4 := hf 4 f4 rfl
      have g5 := hf 5 f5 rfl
      have g6 := hf 6 f6 rfl
      rw [t0, o0, hI] at g0; rw [t1, o1, hI] at g1; rw [t2, o2, hI] at g2; rw [t3, o3, hI] at g3; rw [t4, o4, hI] at g4; rw [t5, o5, hS] at g5; rw [t6, o6, hL] at g6
      simp only [List.drop_zero, List.drop_succ_cons, List.take_succ_cons, List.take_zero, List.getElem?_cons_zero, List.getElem?_cons_succ] at g0 g1 g2 g3 g4 g5 g6
      obtain ⟨n0, e0, _, _⟩ := DataW.trod_int Tryz.underlying3 g0
      obtain ⟨n1, e1, _, _⟩ := DataW.trod_int Tryz.underlying3 g1
      obtain ⟨n2, e2, _, _⟩ := DataW.trod_int Tryz.underlying3 g2
      obtain ⟨n3, e3, _, _⟩ := DataW.trod_int Tryz.underlying3 g3
      obtain ⟨n4, e4, _, _⟩ := DataW.trod_int Tryz.underlying3 g4
      obtain ⟨s5, e5, q5, _⟩ := DataW.trod_string Tryz.underlying9 g5
      obtain ⟨A, n6, c6', xs, e6, hR, hz, hw6⟩ := open_intsR g6
      simp only [List.cons.injEq, and_true] at e0 e1 e2 e3 e4 e5 e6
      refine ⟨⟨n0, n1, n2, n3, n4, s5.data.toList, xs⟩, ⟨A, n6, c6', by rw [e0, e1, e2, e3, e4, e5, e6], hR, hz⟩, fun hw => ?_⟩
      rw [hx] at hw
      simp only [DataW.weights, hu] at hw
      rw [show (#[f0, f1, f2, f3, f4, f5, f6] : Array Field).toList.map (·.type) = [f0.type, f1.type, f2.type, f3.type, f4.type, f5.type, f6.type] from rfl, t0, t1, t2, t3, t4, t5, t6] at hw
      simp only [List.map_cons, List.map_nil, DataW.weightsEach, List.all_append, Bool.and_eq_true] at hw
      have hw5 := hw.2.2.2.2.2.1
      have hw6' := hw6 hw.2.2.2.2.2.2.1
      rw [q5] at hw5
      have hl6 := hR.len
      exact ⟨by simpa [DataW.weights] using hw5, by rw [← hl6]; exact hw6'.1⟩
theorem insR {b o : Nat} {cs : List Value} {y : InsL} (h : InsE w cs y) (hc : ∀ j u, cs[j]? = some u → w.cell? ⟨b, o + j, none⟩ = some u) : InsAt w b o y := by
  obtain ⟨A, n, c, rfl, hR, hz⟩ := h
  exact ⟨A, n, c, hc 0 _ rfl, hc 1 _ rfl, hc 2 _ rfl, hc 3 _ rfl, hc 4 _ rfl, hc 5 _ rfl, hc 6 _ rfl, hR, hz⟩
theorem und_body : ∃ f0 f1 f2 f3 : Field, Tryz.prog.underlying 51 = some (.struct #[f0, f1, f2, f3]) ∧ f0.type = 9 ∧ f1.type = 3 ∧ f2.type = 3 ∧ f3.type = 49 ∧ f0.offset = 0 ∧ f1.offset = 1 ∧ f2.offset = 2 ∧ f3.offset = 3 := by
  refine ⟨_, _, _, _, Tryz.underlying51, ?_⟩
  exact ⟨rfl, rfl, rfl, rfl, rfl, rfl, rfl, rfl⟩
def BodyE (w : World) (cs : List Value) (y : BodyL) : Prop := ∃ A n c, cs = [.string ⟨y.name.toArray⟩, .int .i64 y.regs, .int .i64 y.args, .slice A n c] ∧ Inss w A n y.code
def insFew (x : InsL) : Prop := x.text.length ≤ reachBytes ∧ x.list.length * 8 ≤ reachBytes
def bodyFew (y : BodyL) : Prop := y.name.length ≤ reachBytes ∧ y.code.length * 80 ≤ reachBytes ∧ ∀ x ∈ y.code, insFew x
set_option maxRecDepth 100000 in
theorem open_body {fuel : Nat} {cs : List Value} {x : DataW H × List MemPlace} (h : DataW.trod enc Tryz.prog w base spare held fuel 51 cs = some x) : ∃ y : BodyL, BodyE w cs y ∧ ((x.1.weights Tryz.prog 51).all (· ≤ reachBytes) = true → bodyFew y) := by
  obtain ⟨f0, f1, f2, f3, hu, t0, t1, t2, t3, o0, o1, o2, o3⟩ := und_body
  obtain ⟨ys, n, _, hx, hlen, hyl, hf⟩ := DataW.trod_struct hu h
  have hC : Tryz.prog.cellsOf 51 = 4 := by kernel_rfl
  have hI : Tryz.prog.cellsOf 3 = 1 := by kernel_rfl
  have hS : Tryz.prog.cellsOf 9 = 1 := by kernel_rfl
  have hL : Tryz.prog.cellsOf 49 = 1 := by kernel_rfl
  rw [hC] at hlen
  match cs, hlen with
  | [c0, c1, c2, c3], _ =>
    match ys, hyl, hx with
    | [y0, y1, y2, y3], _, hx =>
      have g0 := hf 0 f0 rfl
      have g1 := hf 1 f1 rfl
      have g2 := hf 2 f2 rfl
      have g3 := hf 3 f3 rfl
      rw [t0, o0, hS] at g0; rw [t1, o1, hI] at g1; rw [t2, o2, hI] at g2; rw [t3, o3, hL] at g3
      simp only [List.drop_zero, List.drop_succ_cons, List.take_succ_cons, List.take_zero, List.getElem?_cons_zero, List.getElem?_cons_succ] at g0 g1 g2 g3
      obtain ⟨s0, e0, q0, _⟩ := DataW.trod_string Tryz.underlying9 g0
      obtain ⟨n1, e1, _, _⟩ := DataW.trod_int Tryz.underlying3 g1
      obtain ⟨n2, e2, _, _⟩ := DataW.trod_int Tryz.underlying3 g2
      obtain ⟨A, n3, c3', xs, e3, hR, hz, hw3⟩ := open_rdR (E := InsE w) (R := InsAt) (ok := insFew) (k := 7) (bytes := 80) Tryz.underlying49 (by kernel_rfl) (by kernel_rfl) (fun cs y h => by obtain ⟨A, n, c, rfl, _⟩ := h; rfl) (by omega) (fun _ _ _ h => open_ins h) (fun b o cs y h hc => insR h hc) g3
      simp only [List.cons.injEq, and_true] at e0 e1 e2 e3
      refine ⟨⟨s0.data.toList, n1, n2, xs⟩, ⟨A, n3, c3', by rw [e0, e1, e2, e3], hR⟩, fun hw => ?_⟩
      rw [hx] at hw
      simp only [DataW.weights, hu] at hw
      rw [show (#[f0, f1, f2, f3] : Array Field).toList.map (·.type) = [f0.type, f1.type, f2.type, f3.type] from rfl, t0, t1, t2, t3] at hw
      simp only [List.map_cons, List.map_nil, DataW.weightsEach, List.all_append, Bool.and_eq_true] at hw
      have hw0 := hw.1
      have hw3' := hw3 hw.2.2.2.1
      rw [q0] at hw0
      have hl3 := hR.len
      exact ⟨by simpa [DataW.weights] using hw0, by rw [← hl3]; exact hw3'.1, hw3'.2⟩
theorem bodyR {b o : Nat} {cs : List Value} {y : BodyL} (h : BodyE w cs y) (hc : ∀ j u, cs[j]? = some u → w.cell? ⟨b, o + j, none⟩ = some u) : BodyAt w b o y := by
  obtain ⟨A, n, c, rfl, hR⟩ := h
  exact ⟨A, n, c, hc 0 _ rfl, hc 1 _ rfl, hc 2 _ rfl, hc 3 _ rfl, hR⟩
theorem und_code : ∃ f0 f1 : Field, Tryz.prog.underlying 24 = some (.struct #[f0, f1]) ∧ f0.type = 3 ∧ f1.type = 22 ∧ f0.offset = 0 ∧ f1.offset = 1 := by
  refine ⟨_, _, Tryz.underlying24, ?_⟩
  exact ⟨rfl, rfl, rfl, rfl⟩
set_option maxRecDepth 100000 in
theorem open_codeT {fuel : Nat} {cs : List Value} {x : DataW H × List MemPlace} (h : DataW.trod enc Tryz.prog w base spare held fuel 24 cs = some x) : ∃ (y : CodeL) (A : Option Addr) (n c : Nat), cs = [.int .i64 y.globals, .slice A n c] ∧ Bods w A n y.bodies ∧ ((x.1.weights Tryz.prog 24).all (· ≤ reachBytes) = true → n * 56 ≤ reachBytes ∧ ∀ b ∈ y.bodies, bodyFew b) := by
  obtain ⟨f0, f1, hu, t0, t1, o0, o1⟩ := und_code
  obtain ⟨ys, n, _, hx, hlen, hyl, hf⟩ := DataW.trod_struct hu h
  have hC : Tryz.prog.cellsOf 24 = 2 := by kernel_rfl
  have hI : Tryz.prog.cellsOf 3 = 1 := by kernel_rfl
  have hL : Tryz.prog.cellsOf 22 = 1 := by kernel_rfl
  rw [hC] at hlen
  match cs, hlen with
  | [c0, c1], _ =>
    match ys, hyl, hx with
    | [y0, y1], _, hx =>
      have g0 := hf 0 f0 rfl
      have g1 := hf 1 f1 rfl
      rw [t0, o0, hI] at g0; rw [t1, o1, hL] at g1
      simp only [List.drop_zero, List.drop_succ_cons, List.take_succ_cons, List.take_zero, List.getElem?_cons_zero, List.getElem?_cons_succ] at g0 g1
      obtain ⟨n0, e0, _, _⟩ := DataW.trod_int Tryz.underlying3 g0
      obtain ⟨A, n1, c1', xs, e1, hR, hz, hw1⟩ := open_rdR (E := BodyE w) (R := BodyAt) (ok := bodyFew) (k := 4) (bytes := 56) Tryz.underlying22 (by kernel_rfl) (by kernel_rfl) (fun cs y h => by obtain ⟨A, n, c, rfl, _⟩ := h; rfl) (by omega) (fun _ _ _ h => open_body h) (fun b o cs y h hc => bodyR h hc) g1
      simp only [List.cons.injEq, and_true] at e0 e1
      refine ⟨⟨n0, xs⟩, A, n1, c1', by rw [e0, e1], hR, fun hw => ?_⟩
      rw [hx] at hw
      simp only [DataW.weights, hu] at hw
      rw [show (#[f0, f1] : Array Field).toList.map (·.type) = [f0.type, f1.type] from rfl, t0, t1] at hw
      simp only [List.map_cons, List.map_nil, DataW.weightsEach, List.all_append, Bool.and_eq_true] at hw
      exact hw1 hw.2.1
set_option maxRecDepth 100000 in
theorem open_code {r : Reach} {b0 : Nat} {v : Value} {d : DataW H} {p : List MemPlace} (hv : Value.okWide Tryz.prog w r b0 24 v) (h : DataW.Trod enc Tryz.prog w base spare held 24 v d p) :
    ∃ (y : CodeL) (A : Option Addr) (n c : Nat), v = codeV y A n c ∧ Bods w A n y.bodies ∧ ((d.weights Tryz.prog 24).all (· ≤ reachBytes) = true → n ≤ 1000000000000000 ∧ ∀ b ∈ y.bodies, b.code.length ≤ 1000000000000000) := by
  obtain ⟨m, hm⟩ := h
  obtain ⟨f0, f1, hu, _, _, _, _⟩ := und_code
  obtain ⟨cs, rfl, _⟩ := okWide_struct hu hv
  obtain ⟨y, A, n, c, e, hR, hw⟩ := open_codeT hm
  refine ⟨y, A, n, c, ?_, hR, fun h => ?_⟩
  · have : cs = #[.int .i64 y.globals, .slice A n c] := by
      apply Array.toList_inj.1
      simpa [Value.cells] using e
    rw [this]; rfl
  · have := hw h
    unfold reachBytes at this
    refine ⟨by omega, fun b hb => ?_⟩
    have hb := (this.2 b hb).2.1
    unfold reachBytes at hb
    omega
end
end Go.Proofs.YtpahhcmiimllaaaGreatDoor
