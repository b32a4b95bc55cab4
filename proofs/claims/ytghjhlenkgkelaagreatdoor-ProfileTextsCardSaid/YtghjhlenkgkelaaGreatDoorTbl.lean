/- DERIVED. The program's table: the line of an edge. -/
import Derived.Test.YtghjhlenkgkelaaGreatDoorTxt
import Derived.Test.YtghjhlenkgkelaaGreatDoorGv
import Derived.Test.YtghjhlenkgkelaaGreatDoorBld
import Derived.Test.YtghjhlenkgkelaaGreatDoorQTail
import Derived.Test.YtghjhlenkgkelaaGreatDoorShelf
set_option linter.unusedSimpArgs false
set_option linter.unusedVariables false
namespace Go.Proofs.YtghjhlenkgkelaaGreatDoor
open Go.RowKit Go.Shelf Go.Sort

def Tab10 (w : World) : Prop := Lib.TabIs Tryz.prog w "internal/strconv.uint64pow10" .u64 Lib.pow10Tab
theorem glob10 : Tryz.prog.globalNamed "internal/strconv.uint64pow10" = some 0 := by kernel_rfl
theorem Tab10.below {w w' : World} (h : Tab10 w) (hb : Below w.heap.size w w') : Tab10 w' := by
  unfold Tab10 Lib.TabIs World.var? at h ⊢
  rw [glob10] at h ⊢
  simp only [Option.bind_some] at h ⊢
  have hlt : 0 < w.heap.size := by
    rcases Nat.lt_or_ge 0 w.heap.size with h' | h'
    · exact h'
    · rw [Array.getElem?_eq_none h'] at h; cases h
  rw [hb.block 0 hlt]
  exact h
theorem itoa_any (n : Int) (hn : I64 n) (w : World) (ht : Tab10 w) :
    Calls Tryz.prog 36 #[.int .i64 n] w fun e w' => e = .returned (.string ⟨(Lib.itoa n).toArray⟩) ∧ Below w.heap.size w w' :=
  (Tryz.strconv_Itoa n hn.1 hn.2 w ht).mono fun e w' ⟨he, k, os, hw⟩ => ⟨he, by subst hw; exact below_regrown w (w.drawn + k) os⟩

theorem isb_kept {b B : Nat} {bs : List Value} {w w' : World} (h : Lib.IsBuilder TB U8 B b bs w) (hb : Below w.heap.size w w') : Lib.IsBuilder TB U8 B b bs w' := by
  refine h.imp ?_ ?_ <;>
  · rintro ⟨hB, v, h1, h2, h3⟩
    exact ⟨hB, v, (hb.block b (Array.getElem?_eq_some_iff.1 h1).1).trans h1, h2.kept (grown_of_below (row := none) hb) (none_or _), h3⟩

/-- the table that holds the bytes l, in a world behind w0 -/
structure BS (w0 : World) (b : Nat) (l : List UInt8) (w : World) : Prop where
  bld : Lib.IsBuilder TB U8 w0.heap.size b (Lib.byteCells l) w
  below : Below w0.heap.size w0 w
theorem BS.after {w0 w w' : World} {b : Nat} {l : List UInt8} (h : BS w0 b l w) (hb : Below w.heap.size w w') : BS w0 b l w' :=
  ⟨isb_kept h.bld hb, h.below.trans (hb.mono h.below.size)⟩
theorem byteCells_app (a b : List UInt8) : Lib.byteCells (a ++ b) = Lib.byteCells a ++ Lib.byteCells b := by simp [Lib.byteCells]
theorem write_any (w0 : World) (b : Nat) (l s : List UInt8) (w : World) (h : BS w0 b l w) (hl : l.length + s.length ≤ 140737488355328) :
    Calls Tryz.prog 35 #[.pointer (some ⟨b, 0, none⟩), .string ⟨s.toArray⟩] w fun e w' => e = .returned (.tuple #[.int .i64 s.length, .nilIface]) ∧ BS w0 b (l ++ s) w' ∧ Kp b w w' :=
  (WriteString_any w0.heap.size b (Lib.byteCells l) ⟨s.toArray⟩ w h.bld (by rw [Lib.byteCells_length]; simpa [ByteArray.size] using hl) h.below.size).mono fun e w' ⟨he, hb, hw, hk⟩ =>
    ⟨by rw [he]; rfl, ⟨.inr (by rw [byteCells_app]; exact hb), h.below.trans hw⟩, hk⟩

theorem write_str (w0 : World) (b : Nat) (l s : List UInt8) (t : ByteArray) (ht : t = ⟨s.toArray⟩) (w : World) (h : BS w0 b l w) (hl : l.length + s.length ≤ 140737488355328) :
    Calls Tryz.prog 35 #[.pointer (some ⟨b, 0, none⟩), .string t] w fun e w' => e = .returned (.tuple #[.int .i64 s.length, .nilIface]) ∧ BS w0 b (l ++ s) w' ∧ Kp b w w' := by
  subst ht; exact write_any w0 b l s w h hl

set_option maxRecDepth 100000 in
set_option maxHeartbeats 4000000 in
theorem edge_any (w0 : World) (b : Nat) (l : List UInt8) (x : Edg) (w : World) (hT : Tab10 w0) (h : BS w0 b l w) (hl : l.length ≤ 10000000) (hx : okE x) :
    Calls Tryz.prog 19 #[.pointer (some ⟨b, 0, none⟩), .agg #[.int .i64 x.frm, .int .i64 x.at', .int .i64 x.acc, .int .i64 x.msg]] w fun e w' => e = .returned (.tuple #[]) ∧ BS w0 b (l ++ lineE x) w' ∧ Kp b w w' := by
  have HB := Lib.hid (h.after ((Below.refl w.heap.size w).alloc (Nat.le_refl _) (.cells #[.int .i64 x.frm, .int .i64 x.at', .int .i64 x.acc, .int .i64 x.msg] 52)))
  have HK : Hid (Kp b w (w.alloc (.cells #[.int .i64 x.frm, .int .i64 x.at', .int .i64 x.acc, .int .i64 x.msg] 52))) := Lib.hid (.of_below ((Below.refl w.heap.size w).alloc (Nat.le_refl _) _))
  have HNB := Lib.hid (BlkAt.new w 52 #[.int .i64 x.frm, .int .i64 x.at', .int .i64 x.acc, .int .i64 x.msg])
  have HL := Lib.hid (lineE_len hx)
  have HT : Hid (Tab10 (w.alloc (.cells #[.int .i64 x.frm, .int .i64 x.at', .int .i64 x.acc, .int .i64 x.msg] 52))) := Lib.hid (hT.below HB.out.below)
  obtain ⟨i0, i1, i2, i3⟩ := hx
  have l0 := itoa_len i0
  have l1 := itoa_len i1
  have l2 := itoa_len i2
  have l3 := itoa_len i3
  have I0 := Lib.hid i0
  have I1 := Lib.hid i1
  have I2 := Lib.hid i2
  have I3 := Lib.hid i3
  clear i0 i1 i2 i3 h hT
  go_enter Tryz.func19, Tryz.ntmps19
  go_wp2_with fail
  generalize (w.alloc (.cells #[.int .i64 x.frm, .int .i64 x.at', .int .i64 x.acc, .int .i64 x.msg] 52)) = W1 at *
  have e0 := cell_regrown (HNB.out.cell 0)
  have e1 := cell_regrown (HNB.out.cell 1)
  have e2 := cell_regrown (HNB.out.cell 2)
  have e3 := cell_regrown (HNB.out.cell 3)
  refine wp_region_below_tail 22 (by kernel_rfl) (by kernel_rfl) ?_
  simp only [List.take_succ_cons, List.take_zero, List.drop_succ_cons, List.drop_zero]
  repeat (any_goals (first | go_big_quiet_step ((go_at_call 36; exact Calls.regrown_of (itoa_any _ (by first | exact I0.out | exact I1.out | exact I2.out | exact I3.out) _ (HT.out.below (below_regrown _ _ _))))) | quiet_step ((go_at_call 36; exact Calls.regrown_of (itoa_any _ (by first | exact I0.out | exact I1.out | exact I2.out | exact I3.out) _ (HT.out.below (below_regrown _ _ _))))) | (refine wpQuiet_step (fun K hK => ?_); go_simp; split <;> (refine hK _ ?_; clear hK K))))
  all_goals (refine wpQuiet_nil ?_; intro _ hw'; obtain ⟨⟨dq, osq⟩, hw''⟩ := hw'; subst hw'')
  clear HNB I0 I1 I2 I3
  go_wp2_with (go_at_call 35
               refine (write_str w0 b l (lineE x) _ ?_ _ ?_ ?_).mono ?_
               · simp only [bcat]; rfl
               · exact HB.out.after (below_regrown _ _ _)
               · have := HL.out; omega
               rintro e w' ⟨rfl, hb, hk⟩
               have HBF := Lib.hid hb
               have HKF := Lib.hid (HK.out.trans ((Kp.of_below (below_regrown W1 dq osq)).trans hk))
               clear hb hk)
  go_end0
  exact ⟨rfl, HBF.out, HKF.out⟩
end Go.Proofs.YtghjhlenkgkelaaGreatDoor
