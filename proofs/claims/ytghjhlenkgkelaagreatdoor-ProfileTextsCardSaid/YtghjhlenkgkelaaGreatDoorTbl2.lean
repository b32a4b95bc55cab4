/- DERIVED. The program's table: the numbers of a line, joined. -/
import Derived.Test.YtghjhlenkgkelaaGreatDoorTbl
set_option linter.unusedSimpArgs false
set_option linter.unusedVariables false
namespace Go.Proofs.YtghjhlenkgkelaaGreatDoor
open Go.RowKit Go.Shelf Go.Sort

theorem str_info : (Tryz.prog.info? 9).map (fun i => (i.zero, i.size, i.bytes)) = some (some (.string ⟨#[]⟩), 1, 16) := by kernel_rfl
def encZ (z : Int) : List Value := [.int .i64 z]
def strV (l : List UInt8) : Value := .string ⟨l.toArray⟩
def itoaV (z : Int) : Value := strV (Lib.itoa z)
theorem join_len {zs : List Int} {sep : List UInt8} (hz : ∀ z ∈ zs, I64 z) (hs : sep.length ≤ 1) : (Lib.join (zs.map Lib.itoa) sep).length ≤ 21 * zs.length := by
  induction zs with
  | nil => simp [Lib.join, List.intercalate]
  | cons z r ih =>
    have h1 := itoa_len (hz z (by simp))
    have h2 := ih (fun y hy => hz y (by simp [hy]))
    cases r with
    | nil => simp [Lib.join, List.intercalate]; omega
    | cons y r =>
      have e : Lib.join ((z :: y :: r).map Lib.itoa) sep = Lib.itoa z ++ (sep ++ Lib.join ((y :: r).map Lib.itoa) sep) := by simp [Lib.join, List.intercalate]
      rw [e, List.length_append, List.length_append, List.length_cons]; omega
theorem joined_any (A : Option Addr) (n c base : Nat) (zs : List Int) (sep : List UInt8) (w : World) (h : w.ownsRow base 9 1 (.slice A n c) n (zs.map itoaV)) (hn : 0 < n) (hn2 : n ≤ 1000) (hz : ∀ z ∈ zs, I64 z) (hs : sep.length ≤ 1) :
    Calls Tryz.prog 38 #[.slice A n c, .string ⟨sep.toArray⟩] w fun e w' => e = .returned (strV (Lib.join (zs.map Lib.itoa) sep)) ∧ Below w.heap.size w w' := by
  obtain ⟨g, rfl, hg, hc⟩ := row_cells h hn
  have hl : n = zs.length := by have := h.1; simpa using this.symm
  have e1 : (zs.map (fun z => (⟨(Lib.itoa z).toArray⟩ : ByteArray))).length = n := by rw [List.length_map]; exact hl.symm
  have hcap : n ≤ c := by obtain ⟨_, _, he, h1, _⟩ := own_slice h; injection he with _ _ he; omega
  have e2 : (zs.map (fun z => (⟨(Lib.itoa z).toArray⟩ : ByteArray))).map (·.data.toList) = zs.map Lib.itoa := by rw [List.map_map]; rfl
  have hj := Tryz.strings_Join g 0 c (zs.map (fun z => (⟨(Lib.itoa z).toArray⟩ : ByteArray))) ⟨sep.toArray⟩ w (fun j x hx => by
    rw [List.getElem?_map] at hx
    obtain ⟨z, hz, rfl⟩ := Option.map_eq_some_iff.1 hx
    rw [Nat.zero_add]
    exact hc j _ (by rw [List.getElem?_map, hz]; rfl)) hg (by rw [e1]; omega) (by rw [e1]; exact hcap) (by
      rw [e2]; have := join_len hz hs; show (Lib.join (zs.map Lib.itoa) sep).length ≤ _; omega)
  rw [e1, e2] at hj
  exact hj

set_option maxRecDepth 100000 in
set_option maxHeartbeats 4000000 in
theorem spot1_any (A : Option Addr) (n c : Nat) (zs : List Int) (sep : List UInt8) (w : World) (hT : Tab10 w) (hR : Rd encZ 1 w A n zs) (hn : 0 < n) (hn2 : n ≤ 1000) (hz : ∀ z ∈ zs, I64 z) (hs : sep.length ≤ 1) :
    Calls Tryz.prog 37 #[.string ⟨sep.toArray⟩, .slice A n c] w fun e w' => e = .returned (strV (Lib.join (zs.map Lib.itoa) sep)) ∧ Below w.heap.size w w' := by
  obtain ⟨i0, hi, hz0, hz1, hz2⟩ := info_parts str_info
  have HR := Lib.hid hR
  have HT := Lib.hid hT
  have HZ := Lib.hid hz
  have HL := Lib.hid hR.len
  clear hR hT hz
  go_enter Tryz.func37, Tryz.ntmps37
  go_wp2
  go_loopw [5, 10] (fun v i wr => ∃ k : Nat, k ≤ n ∧ i = .int .i64 k ∧ wr.ownsRow w.heap.size 9 1 v k ((zs.take k).map itoaV) ∧ Below w.heap.size w wr) (fun _ i _ => n - (intOf i).toNat)
  case atStart => exact ⟨0, by omega, rfl, World.ownsRow_nil _ _ _ _, Below.refl _ _⟩
  case round =>
    obtain ⟨k, hk, rfl, hrow, hb⟩ := hrel
    by_cases hlt : k < n
    · obtain ⟨z, hz⟩ := get_some (xs := zs) (k := k) (by rw [← HL.out]; omega)
      obtain ⟨b, o, rfl, _, hc⟩ := (HR.out.below hb).at_ k z hz
      have c0 := hc 0 _ rfl
      rw [Nat.add_zero, Nat.mul_one] at c0
      have hI := Lib.hid (HZ.out z (List.mem_of_getElem? hz))
      have hit := itoa_any z hI.out wr (HT.out.below hb)
      have hts : (zs.take (k + 1)).map itoaV = (zs.take k).map itoaV ++ [itoaV z] := by rw [List.take_add_one, hz, List.map_append]; rfl
      have HTS := Lib.hid hts
      obtain ⟨Av, cv, rfl, _, _, _⟩ := own_slice hrow
      have HROW := Lib.hid hrow
      have HB := Lib.hid hb
      have hk0 : (0 : Int) ≤ (k : Int) := by omega
      have hk1 : (k : Int) < (n : Int) := by omega
      clear hts hc hz hrow hb
      go_wp2_with (first
        | (go_at_call 36
           refine hit.mono ?_
           rintro e w1 ⟨rfl, hb1⟩
           clear hit
           have HB1 := Lib.hid (HB.out.trans (hb1.mono HB.out.size))
           have hrow1 := (HROW.out.kept (grown_of_below (row := none) hb1) (none_or _)).alloc (.cells #[itoaV z] 9)
           clear hb1)
        | (at_builtin
           refine wpList_append_own_at _ rfl _ _ 101 rfl w.heap.size 9 i0 (.string ⟨#[]⟩) 1 16 Tryz.underlying101 hi hz0 hz1 hz2 rfl (by decide) (.slice Av k cv) _ _ rfl hrow1 ⟨w1.heap.size, 0, none⟩ 1 1 [itoaV z] rfl rfl (cells_new' _ [itoaV z] _ _ (by simp)) (by simp [Value.oneCell', itoaV, strV]) (by unfold maxLen; omega) (by omega) (by have := HB1.out.size; simp; omega) ?_
           intro v' w6 hrow' hgrow _ hob))
      go_roundw
      case rel =>
        refine ⟨k + 1, by omega, by go_num, by rw [HTS.out]; exact hrow', ?_⟩
        exact (HB1.out.alloc HB1.out.size _).grown hgrow (by have := HB1.out.size; simp; omega) (fun j e => (own_lt HROW.out e).1)
      case measure => simp [intOf]; omega
    · obtain rfl : n = k := by omega
      rw [List.take_of_length_le (by rw [← HL.out]; exact Nat.le_refl _)] at hrow
      obtain ⟨Av, cv, rfl, _, _, _⟩ := own_slice hrow
      have hj := joined_any Av n cv w.heap.size zs sep wr hrow hn hn2 HZ.out hs
      have HB := Lib.hid hb
      clear hrow hb
      unfold strV at hj
      go_wp2_with (go_at_call 38
                   refine hj.mono ?_
                   rintro e w1 ⟨rfl, hb1⟩
                   clear hj
                   have HB1 := Lib.hid (HB.out.trans (hb1.mono HB.out.size))
                   clear hb1)
      go_ret
      exact ⟨rfl, HB1.out⟩
end Go.Proofs.YtghjhlenkgkelaaGreatDoor
