/- DERIVED. A slice of tokens, and of bytes, handed to a law: opened. -/
import Derived.Test.YtdloadeidijcoaaGreatDoorRdS
import Derived.ProofKit
import Derived.Deep.Slices
import Derived.Deep.Fields
import Derived.ChangeSame
import Derived.ChangeMaps5
import Derived.OpenShut
import Derived.WalkKit
set_option linter.unusedSimpArgs false
set_option linter.unusedVariables false
namespace Go.Proofs.YtdloadeidijcoaaGreatDoor
open Go.RowKit Go.ChangeShapes Go.WideShapes Go.Deep

section
variable {H : Type} {enc : TypeId × Value → H} {w : World} {base : Nat} {spare : Nat → Bool} {held : Bool}
theorem weights_mem {e : TypeId} : ∀ {l : List (DataW H)} {d : DataW H}, (DataW.weightsAll Tryz.prog e l).all (· ≤ reachBytes) = true → d ∈ l → (d.weights Tryz.prog e).all (· ≤ reachBytes) = true
  | a :: r, d, h, hm => by
    rw [DataW.weightsAll, List.all_append, Bool.and_eq_true] at h
    rcases List.mem_cons.1 hm with rfl | hm
    · exact h.1
    · exact weights_mem h.2 hm
theorem und_tok : ∃ f0 f1 f2 f3 : Field, Tryz.prog.underlying 26 = some (.struct #[f0, f1, f2, f3]) ∧ f0.type = 3 ∧ f1.type = 9 ∧ f2.type = 3 ∧ f3.type = 3 ∧ f0.offset = 0 ∧ f1.offset = 1 ∧ f2.offset = 2 ∧ f3.offset = 3 := by
  refine ⟨_, _, _, _, Tryz.underlying26, ?_⟩
  exact ⟨rfl, rfl, rfl, rfl, rfl, rfl, rfl, rfl⟩
set_option maxRecDepth 100000 in
theorem open_tok {fuel : Nat} {cs : List Value} {x : DataW H × List MemPlace} (h : DataW.trod enc Tryz.prog w base spare held fuel 26 cs = some x) : ∃ y : Tok, cs = encTL y ∧ ((x.1.weights Tryz.prog 26).all (· ≤ reachBytes) = true → y.text.length ≤ reachBytes) := by
  obtain ⟨f0, f1, f2, f3, hu, t0, t1, t2, t3, o0, o1, o2, o3⟩ := und_tok
  obtain ⟨ys, n, _, hx, hlen, hyl, hf⟩ := DataW.trod_struct hu h
  have hC : Tryz.prog.cellsOf 26 = 4 := by kernel_rfl
  have hI : Tryz.prog.cellsOf 3 = 1 := by kernel_rfl
  have hS : Tryz.prog.cellsOf 9 = 1 := by kernel_rfl
  rw [hC] at hlen
  match cs, hlen with
  | [c0, c1, c2, c3], _ =>
    match ys, hyl, hx with
    | [y0, y1, y2, y3], _, hx =>
      have g0 := hf 0 f0 rfl
      have g1 := hf 1 f1 rfl
      have g2 := hf 2 f2 rfl
      have g3 := hf 3 f3 rfl
      rw [t0, o0, hI] at g0; rw [t1, o1, hS] at g1; rw [t2, o2, hI] at g2; rw [t3, o3, hI] at g3
      simp only [List.drop_zero, List.drop_succ_cons, List.take_succ_cons, List.take_zero, List.getElem?_cons_zero, List.getElem?_cons_succ] at g0 g1 g2 g3
      obtain ⟨n0, e0, _, w0⟩ := DataW.trod_int Tryz.underlying3 g0
      obtain ⟨s1, e1, q1, _⟩ := DataW.trod_string Tryz.underlying9 g1
      obtain ⟨n2, e2, _, w2⟩ := DataW.trod_int Tryz.underlying3 g2
      obtain ⟨n3, e3, _, w3⟩ := DataW.trod_int Tryz.underlying3 g3
      simp only [List.cons.injEq, and_true] at e0 e1 e2 e3
      refine ⟨⟨n0, s1.data.toList, n2, n3⟩, by rw [e0, e1, e2, e3]; rfl, fun hw => ?_⟩
      rw [hx] at hw
      simp only [DataW.weights, hu] at hw
      rw [show (#[f0, f1, f2, f3] : Array Field).toList.map (·.type) = [f0.type, f1.type, f2.type, f3.type] from rfl, t0, t1, t2, t3] at hw
      simp only [List.map_cons, List.map_nil, DataW.weightsEach, List.all_append, Bool.and_eq_true] at hw
      have hw1 := hw.2.1
      rw [q1] at hw1
      simpa [DataW.weights] using hw1
set_option maxRecDepth 100000 in
/-- a slice of structs opened -/
theorem open_rd {α : Type} [Inhabited α] {encα : α → List Value} {ok : α → Prop} {k : Nat} {t e : TypeId} {bytes : Nat} (ht : Tryz.prog.underlying t = some (.slice e)) (hC : Tryz.prog.cellsOf e = k) (hby : Tryz.prog.bytesOf e = bytes) (hlen : ∀ y, (encα y).length = k) (hk : 0 < k)
    (he : ∀ (fuel : Nat) (cs : List Value) (x : DataW H × List MemPlace), DataW.trod enc Tryz.prog w base spare held fuel e cs = some x → ∃ y : α, cs = encα y ∧ ((x.1.weights Tryz.prog e).all (· ≤ reachBytes) = true → ok y))
    {fuel : Nat} {cs : List Value} {x : DataW H × List MemPlace} (h : DataW.trod enc Tryz.prog w base spare held fuel t cs = some x) :
    ∃ A n c xs, cs = [.slice A n c] ∧ Rd encα k w A n xs ∧ ((x.1.weights Tryz.prog t).all (· ≤ reachBytes) = true → n * bytes ≤ reachBytes ∧ ∀ y ∈ xs, ok y) := by
  rcases open_slice ht h with ⟨rfl, _⟩ | ⟨a, len, cap, m, n, D, Pl, rfl, _, hl, hm, hmm, hxx, hx⟩
  · exact ⟨none, 0, 0, [], rfl, ⟨rfl, by simp⟩, fun _ => ⟨by omega, by simp⟩⟩
  · rw [hC] at hx
    obtain ⟨F, hF⟩ := choose_lt (n := len) (p := fun i (y : α) => (((D i).weights Tryz.prog e).all (· ≤ reachBytes) = true → ok y) ∧ ∀ j u, (encα y)[j]? = some u → w.cell? ((a.add (i * k)).add j) = some u) (fun i hi => by
      obtain ⟨cs', h1, h2⟩ := hx i (by rw [hmm]; split <;> omega)
      obtain ⟨y, rfl, hok⟩ := he _ _ _ h2
      obtain ⟨_, hln, hat⟩ := World.cells?_some h1
      refine ⟨y, hok, fun j u hu => ?_⟩
      have hj := (List.getElem?_eq_some_iff.1 hu).1
      rw [hat j (by rw [hln] at hj; exact hj)]; exact hu)
    refine ⟨some a, len, cap, (List.range len).map F, rfl, ⟨by simp, fun i x hx' => ?_⟩, ?_⟩
    · obtain ⟨hi, rfl⟩ := List.getElem?_eq_some_iff.1 hx'
      have hil : i < len := by simpa using hi
      rw [List.getElem_map, List.getElem_range]
      obtain ⟨u0, hu0⟩ : ∃ u0, (encα (F 0))[0]? = some u0 := get_some (by rw [hlen]; exact hk)
      have h0 := (hF 0 (by omega)).2 0 _ hu0
      rw [Nat.zero_mul] at h0
      simp only [Addr.add, if_true] at h0
      have hsp : a.spot = none := by
        cases hs : a.spot with
        | none => rfl
        | some k =>
          exfalso
          unfold World.cell? at h0
          split at h0
          · simp [hs] at h0
          · cases h0
      have ha : a = ⟨a.block, a.off, none⟩ := by rw [← hsp]
      have hadd : ∀ k, a.add k = ⟨a.block, a.off + k, none⟩ := fun k => by
        by_cases hk : k = 0
        · subst hk; simp only [Addr.add, if_true, Nat.add_zero]; exact ha
        · simp [Addr.add, hk]
      have hadd2 : ∀ k j, (a.add k).add j = ⟨a.block, a.off + k + j, none⟩ := fun k j => by
        rw [hadd]
        by_cases hj : j = 0
        · subst hj; simp [Addr.add]
        · simp [Addr.add, hj]
      have hc := (hF i hil).2
      simp only [hadd2] at hc
      exact ⟨a.block, a.off, by rw [← ha], cell_lt (a := a) h0, hc⟩
    · intro hw
      rw [hxx] at hw
      simp only [DataW.weights, ht, List.all_cons, List.all_append, Bool.and_eq_true, decide_eq_true_eq] at hw
      have h1 := hw.1
      have h2 := hw.2.1
      rw [hby] at h1
      simp only [List.length_map, List.length_range] at h1
      refine ⟨Nat.le_trans (Nat.mul_le_mul_right _ (by omega)) h1, fun y hy => ?_⟩
      obtain ⟨i, hi, rfl⟩ := List.mem_map.1 hy
      exact (hF i (by simpa using hi)).1 (weights_mem h2 (List.mem_map.2 ⟨i, hi, rfl⟩))
def encBL (c : UInt8) : List Value := [.int .u8 (c.toNat : Int)]
theorem open_byte {fuel : Nat} {cs : List Value} {x : DataW H × List MemPlace} (h : DataW.trod enc Tryz.prog w base spare held fuel 5 cs = some x) : ∃ y : UInt8, cs = encBL y ∧ ((x.1.weights Tryz.prog 5).all (· ≤ reachBytes) = true → True) := by
  obtain ⟨n0, e0, _, w0⟩ := DataW.trod_int Tryz.underlying5 h
  have hb : 0 ≤ n0 ∧ n0 < 256 := by
    have := w0
    simp [Lit.wf] at this
    have h1 : IntKind.u8.min = 0 := by decide
    have h2 : IntKind.u8.max = 255 := by decide
    omega
  refine ⟨UInt8.ofNat n0.toNat, ?_, fun _ => trivial⟩
  rw [e0]; unfold encBL
  rw [show ((UInt8.ofNat n0.toNat).toNat : Int) = n0 by simp; omega]
instance : Inhabited Tok := ⟨⟨0, [], 0, 0⟩⟩
set_option maxRecDepth 100000 in
theorem open_toks {r : Reach} {b0 : Nat} {v : Value} {d : DataW H} {p : List MemPlace} (hv : Value.okWide Tryz.prog w r b0 22 v) (h : DataW.Trod enc Tryz.prog w base spare held 22 v d p) :
    ∃ (A : Option Addr) (n c : Nat) (xs : List Tok), v = .slice A n c ∧ Rd encTL 4 w A n xs ∧ ((d.weights Tryz.prog 22).all (· ≤ reachBytes) = true → n ≤ 10000000000000 ∧ ∀ y ∈ xs, y.text.length ≤ 140737488355328) := by
  obtain ⟨m, hm⟩ := h
  obtain ⟨A, n, c, xs, e, hR, hw⟩ := open_rd (encα := encTL) (ok := fun y => y.text.length ≤ reachBytes) (k := 4) (bytes := 40) Tryz.underlying22 (by kernel_rfl) (by kernel_rfl) encTL_len (by omega) (fun _ _ _ h => open_tok h) hm
  refine ⟨A, n, c, xs, ?_, hR, fun h => ?_⟩
  · obtain ⟨a', n', c', rfl⟩ := okWide_slice Tryz.underlying22 hv
    simpa [Value.cells] using e
  · have := hw h
    unfold reachBytes at this
    exact ⟨by omega, fun y hy => by have := this.2 y hy; omega⟩
set_option maxRecDepth 100000 in
theorem open_bytes {r : Reach} {b0 : Nat} {v : Value} {d : DataW H} {p : List MemPlace} (hv : Value.okWide Tryz.prog w r b0 41 v) (h : DataW.Trod enc Tryz.prog w base spare held 41 v d p) :
    ∃ (A : Option Addr) (n c : Nat) (xs : List UInt8), v = .slice A n c ∧ Rd encBL 1 w A n xs ∧ ((d.weights Tryz.prog 41).all (· ≤ reachBytes) = true → n ≤ 140737488355328) := by
  obtain ⟨m, hm⟩ := h
  obtain ⟨A, n, c, xs, e, hR, hw⟩ := open_rd (encα := encBL) (ok := fun _ => True) (k := 1) (bytes := 1) Tryz.underlying41 (by kernel_rfl) (by kernel_rfl) (fun _ => rfl) (by omega) (fun _ _ _ h => open_byte h) hm
  refine ⟨A, n, c, xs, ?_, hR, fun h => ?_⟩
  · obtain ⟨a', n', c', rfl⟩ := okWide_slice Tryz.underlying41 hv
    simpa [Value.cells] using e
  · have := (hw h).1
    unfold reachBytes at this
    omega
end
end Go.Proofs.YtdloadeidijcoaaGreatDoor
