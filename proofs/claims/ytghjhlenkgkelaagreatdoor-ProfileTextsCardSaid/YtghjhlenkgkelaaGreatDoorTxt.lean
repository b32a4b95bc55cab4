/- DERIVED. The reference's 'Text'. -/
import Derived.Test.YtghjhlenkgkelaaGreatDoorDec
import Derived.Test.YtghjhlenkgkelaaGreatDoorSpots
import Derived.Lib.QuietBelow
import Derived.Deep.CutBlock
import Derived.Deep.CutRange
import Derived.Deep.DeepCutAuto
set_option linter.unusedSimpArgs false
set_option linter.unusedVariables false
namespace Go.Proofs.YtghjhlenkgkelaaGreatDoor
open Go.RowKit Go.Shelf Go.Sort

/-- a slice that reads as xs, each in k cells -/
structure Rd {α : Type} (enc : α → List Value) (k : Nat) (w : World) (A : Option Addr) (n : Nat) (xs : List α) : Prop where
  len : n = xs.length
  at_ : ∀ i x, xs[i]? = some x → ∃ b o, A = some ⟨b, o, none⟩ ∧ b < w.heap.size ∧ ∀ (j : Nat) (u : Value), (enc x)[j]? = some u → w.cell? ⟨b, o + i * k + j, none⟩ = some u
theorem Rd.below {α : Type} {enc : α → List Value} {k : Nat} {w w' : World} {A : Option Addr} {n : Nat} {xs : List α} (h : Rd enc k w A n xs) (hb : Below w.heap.size w w') : Rd enc k w' A n xs :=
  ⟨h.len, fun i x hx => by
    obtain ⟨b, o, e, hl, hc⟩ := h.at_ i x hx
    have := hb.size
    exact ⟨b, o, e, by omega, fun j u hu => cell_below hb (Nat.le_refl _) (hc j u hu)⟩⟩
def I64 (n : Int) : Prop := -9223372036854775808 ≤ n ∧ n ≤ 9223372036854775807
def okE (x : Edg) : Prop := I64 x.frm ∧ I64 x.at' ∧ I64 x.acc ∧ I64 x.msg
def okS (s : Spt) : Prop := I64 s.place.a ∧ I64 s.place.b ∧ I64 s.place.c ∧ I64 s.reads ∧ I64 s.writes ∧ I64 s.other ∧ I64 s.remote
theorem digits_len : ∀ (k : Nat) (u : Nat), u < 10 ^ (k + 1) → (Lib.decDigits u).length ≤ k + 1
  | 0, u, h => by
    have h10 : u < 10 := by simpa using h
    rw [Lib.decDigits, dif_pos h10]; simp
  | k + 1, u, h => by
    rw [Lib.decDigits]
    split
    · simp
    · have h2 : u / 10 < 10 ^ (k + 1) := by rw [Nat.pow_succ] at h; omega
      have := digits_len k (u / 10) h2
      rw [List.length_append]; simp; omega
theorem itoa_len {n : Int} (h : I64 n) : (Lib.itoa n).length ≤ 20 := by
  obtain ⟨h0, h1⟩ := h
  have h19 : (10 : Nat) ^ (18 + 1) = 10000000000000000000 := by decide
  unfold Lib.itoa
  split
  · have := digits_len 18 n.natAbs (by rw [h19]; omega)
    rw [List.length_cons]; omega
  · have := digits_len 18 n.toNat (by rw [h19]; omega)
    omega
def lineE (x : Edg) : List UInt8 := Lib.itoa x.frm ++ [45, 62] ++ Lib.itoa x.at' ++ [58, 32] ++ Lib.itoa x.acc ++ [32, 105, 110, 32] ++ Lib.itoa x.msg ++ [10]
def lineS (s : Spt) : List UInt8 := Lib.itoa s.place.a ++ [46] ++ Lib.itoa s.place.b ++ [46] ++ Lib.itoa s.place.c ++ [58, 32] ++ Lib.itoa s.reads ++ [32] ++ Lib.itoa s.writes ++ [32] ++ Lib.itoa s.other ++ [32] ++ Lib.itoa s.remote ++ [10]
def textL (es : List Edg) (sl : List Spt) : List UInt8 := es.flatMap lineE ++ sl.flatMap lineS
theorem lineE_len {x : Edg} (h : okE x) : (lineE x).length ≤ 100 := by
  obtain ⟨h0, h1, h2, h3⟩ := h
  have := itoa_len h0; have := itoa_len h1; have := itoa_len h2; have := itoa_len h3
  simp [lineE]; omega
theorem lineS_len {s : Spt} (h : okS s) : (lineS s).length ≤ 200 := by
  obtain ⟨h0, h1, h2, h3, h4, h5, h6⟩ := h
  have := itoa_len h0; have := itoa_len h1; have := itoa_len h2; have := itoa_len h3; have := itoa_len h4; have := itoa_len h5; have := itoa_len h6
  simp [lineS]; omega
theorem flat_le {α : Type} {f : α → List UInt8} {B : Nat} : ∀ (l : List α), (∀ x ∈ l, (f x).length ≤ B) → (l.flatMap f).length ≤ B * l.length
  | [], _ => by simp
  | x :: l, h => by
    have h1 := h x (by simp)
    have h2 := flat_le l (fun y hy => h y (by simp [hy]))
    rw [List.flatMap_cons, List.length_append, List.length_cons, Nat.mul_add, Nat.mul_one]; omega
theorem bcat (a b : List UInt8) : (⟨a.toArray⟩ : ByteArray) ++ ⟨b.toArray⟩ = ⟨(a ++ b).toArray⟩ := str_cat a b

set_option maxRecDepth 100000 in
set_option maxHeartbeats 4000000 in
theorem rText_any (A B : Option Addr) (n c m d f : Nat) (es : List Edg) (sl : List Spt) (w : World) (hA : Rd encEL 4 w A n es) (hB : Rd encSL 7 w B m sl) (hn : n + m ≤ 10000) (hE : ∀ x ∈ es, okE x) (hS : ∀ s ∈ sl, okS s) :
    Calls Tryz.prog 10 #[.agg #[.slice A n c, .slice B m d, .float .f32 f]] w fun e w' => e = .returned (.tuple #[.string ⟨(textL es sl).toArray⟩, .int .i64 0]) ∧ Below w.heap.size w w' := by
  have HA := Lib.hid hA
  have HB := Lib.hid hB
  have HE := Lib.hid hE
  have HS := Lib.hid hS
  have hbx := BlkAt.new w 26 #[.slice A n c, .slice B m d, .float .f32 f]
  have hb0 := (Below.refl w.heap.size w).alloc (Nat.le_refl _) (.cells #[.slice A n c, .slice B m d, .float .f32 f] 26)
  have HX := Lib.hid hbx
  have HB0 := Lib.hid hb0
  have x0 := hbx.cell 0
  have x1 := hbx.cell 1
  simp only [List.getElem?_toArray, List.getElem?_cons_succ, List.getElem?_cons_zero] at x0 x1
  clear hA hB hE hS hbx hb0
  go_enter Tryz.func10, Tryz.ntmps10
  go_wp2
  clear x0 x1
  go_loopw [4, 5] (fun s i wr => ∃ k : Nat, k ≤ n ∧ i = .int .i64 k ∧ s = .string ⟨((es.take k).flatMap lineE).toArray⟩ ∧ BlkAt wr w.heap.size 26 #[.slice A n c, .slice B m d, .float .f32 f] ∧ Below w.heap.size w wr) (fun _ i _ => n - (intOf i).toNat)
  case atStart => exact ⟨0, by omega, rfl, rfl, HX.out, HB0.out⟩
  case round =>
    obtain ⟨k, hk, rfl, rfl, hX, hb⟩ := hrel
    have x0 := hX.cell 0
    simp only [List.getElem?_toArray, List.getElem?_cons_succ, List.getElem?_cons_zero] at x0
    by_cases hlt : k < n
    · obtain ⟨x, hx⟩ := get_some (xs := es) (k := k) (by rw [← HA.out.len]; omega)
      obtain ⟨b, o, rfl, _, hc⟩ := (HA.out.below hb).at_ k x hx
      have c0 := hc 0 _ rfl
      have c1 := hc 1 _ rfl
      have c2 := hc 2 _ rfl
      have c3 := hc 3 _ rfl
      rw [Nat.add_zero] at c0
      obtain ⟨i0, i1, i2, i3⟩ := HE.out x (List.mem_of_getElem? hx)
      have l0 := itoa_len i0
      have l1 := itoa_len i1
      have l2 := itoa_len i2
      have l3 := itoa_len i3
      obtain ⟨p0, q0⟩ := i0
      obtain ⟨p1, q1⟩ := i1
      obtain ⟨p2, q2⟩ := i2
      obtain ⟨p3, q3⟩ := i3
      have hts : (es.take (k + 1)).flatMap lineE = (es.take k).flatMap lineE ++ (Lib.itoa x.frm ++ [45, 62] ++ Lib.itoa x.at' ++ [58, 32] ++ Lib.itoa x.acc ++ [32, 105, 110, 32] ++ Lib.itoa x.msg ++ [10]) := by
        rw [List.take_add_one, hx, List.flatMap_append]; simp [lineE]
      have hll : ((es.take k).flatMap lineE).length ≤ 1000000 := by
        have h1 := flat_le (f := lineE) (B := 100) (es.take k) (fun y hy => lineE_len (HE.out y (List.mem_of_mem_take hy)))
        have h2 : (es.take k).length ≤ k := List.length_take_le _ _
        omega
      have HTS := Lib.hid hts
      clear hts hc hx
      generalize (es.take k).flatMap lineE = T at *
      have HBX := Lib.hid hb
      have HXX := Lib.hid hX
      have hk0 : (0 : Int) ≤ (k : Int) := by omega
      have hk1 : (k : Int) < (n : Int) := by omega
      clear hb hX
      obtain ⟨wq, rfl⟩ : ∃ wq : World, wq = wr := ⟨_, rfl⟩
      have hnb := BlkAt.new wq 60 #[.int .i64 x.frm, .int .i64 x.at', .int .i64 x.acc, .int .i64 x.msg]
      have HAL := Lib.hid (HBX.out.alloc HBX.out.size (.cells #[.int .i64 x.frm, .int .i64 x.at', .int .i64 x.acc, .int .i64 x.msg] 60))
      have HXA := Lib.hid (HXX.out.alloc (.cells #[.int .i64 x.frm, .int .i64 x.at', .int .i64 x.acc, .int .i64 x.msg] 60))
      have HNB := Lib.hid hnb
      clear hnb
      go_upto_region 8 with fail
      clear c0 c1 c2 c3 x0
      generalize (wq.alloc (.cells #[.int .i64 x.frm, .int .i64 x.at', .int .i64 x.acc, .int .i64 x.msg] 60)) = W1 at *
      have e0 := cell_regrown (HNB.out.cell 0)
      have e1 := cell_regrown (HNB.out.cell 1)
      have e2 := cell_regrown (HNB.out.cell 2)
      have e3 := cell_regrown (HNB.out.cell 3)
      refine wp_region_quiet_below (by kernel_rfl) (by kernel_rfl) ?_
      repeat (any_goals (first | go_big_quiet_step ((go_at_call 23; exact Calls.regrown_of (dec_any _ _ (by assumption) (by assumption)))) | quiet_step ((go_at_call 23; exact Calls.regrown_of (dec_any _ _ (by assumption) (by assumption)))) | (refine wpQuiet_step (fun K hK => ?_); go_simp; split <;> (refine hK _ ?_; clear hK K))))
      all_goals (refine wpQuiet_nil ?_; intro _ hw'; obtain ⟨⟨dq, osq⟩, hw''⟩ := hw'; subst hw'')
      all_goals go_wp2
      all_goals go_roundw
      case rel =>
        have hbb : Below w.heap.size w (grow (redrawn W1 dq) osq) := HAL.out.trans ((below_regrown W1 dq osq).mono HAL.out.size)
        refine ⟨k + 1, by omega, by go_num, ?_, (HXA.out.below (below_regrown W1 dq osq) (BlkAt.lt HXA.out)), hbb⟩
        rw [HTS.out]
        simp only [bcat]
      case measure => simp [intOf]; omega
    · obtain rfl : n = k := by omega
      rw [List.take_of_length_le (by rw [HA.out.len]; exact Nat.le_refl _)]
      have hT1 : (es.flatMap lineE).length ≤ 1000000 := by
        have h1 := flat_le (f := lineE) (B := 100) es (fun y hy => lineE_len (HE.out y hy))
        have h2 := HA.out.len
        omega
      generalize hT : es.flatMap lineE = T0 at *
      have HT0 := Lib.hid hT
      have x1 := hX.cell 1
      simp only [List.getElem?_toArray, List.getElem?_cons_succ, List.getElem?_cons_zero] at x1
      have HX0 := Lib.hid hX
      have HBX := Lib.hid hb
      clear hT hX hb
      go_wp2
      clear x0 x1
      go_loopw [4, 7] (fun s i wr => ∃ k : Nat, k ≤ m ∧ i = .int .i64 k ∧ s = .string ⟨(T0 ++ (sl.take k).flatMap lineS).toArray⟩ ∧ BlkAt wr w.heap.size 26 #[.slice A n c, .slice B m d, .float .f32 f] ∧ Below w.heap.size w wr) (fun _ i _ => m - (intOf i).toNat)
      case atStart => exact ⟨0, by omega, rfl, by simp, HX0.out, HBX.out⟩
      case round =>
        obtain ⟨k, hk, rfl, rfl, hX, hb⟩ := hrel
        have x1 := hX.cell 1
        simp only [List.getElem?_toArray, List.getElem?_cons_succ, List.getElem?_cons_zero] at x1
        by_cases hlt : k < m
        · obtain ⟨x, hx⟩ := get_some (xs := sl) (k := k) (by rw [← HB.out.len]; omega)
          obtain ⟨b, o, rfl, _, hc⟩ := (HB.out.below hb).at_ k x hx
          have c0 := hc 0 _ rfl
          have c1 := hc 1 _ rfl
          have c2 := hc 2 _ rfl
          have c3 := hc 3 _ rfl
          have c4 := hc 4 _ rfl
          have c5 := hc 5 _ rfl
          have c6 := hc 6 _ rfl
          rw [Nat.add_zero] at c0
          obtain ⟨i0, i1, i2, i3, i4, i5, i6⟩ := HS.out x (List.mem_of_getElem? hx)
          have l0 := itoa_len i0
          have l1 := itoa_len i1
          have l2 := itoa_len i2
          have l3 := itoa_len i3
          have l4 := itoa_len i4
          have l5 := itoa_len i5
          have l6 := itoa_len i6
          obtain ⟨p0, q0⟩ := i0
          obtain ⟨p1, q1⟩ := i1
          obtain ⟨p2, q2⟩ := i2
          obtain ⟨p3, q3⟩ := i3
          obtain ⟨p4, q4⟩ := i4
          obtain ⟨p5, q5⟩ := i5
          obtain ⟨p6, q6⟩ := i6
          have hts : T0 ++ (sl.take (k + 1)).flatMap lineS = (T0 ++ (sl.take k).flatMap lineS) ++ (Lib.itoa x.place.a ++ [46] ++ Lib.itoa x.place.b ++ [46] ++ Lib.itoa x.place.c ++ [58, 32] ++ Lib.itoa x.reads ++ [32] ++ Lib.itoa x.writes ++ [32] ++ Lib.itoa x.other ++ [32] ++ Lib.itoa x.remote ++ [10]) := by
            rw [List.take_add_one, hx, List.flatMap_append]; simp [lineS]
          have hll : (T0 ++ (sl.take k).flatMap lineS).length ≤ 3000000 := by
            have h1 := flat_le (f := lineS) (B := 200) (sl.take k) (fun y hy => lineS_len (HS.out y (List.mem_of_mem_take hy)))
            have h2 : (sl.take k).length ≤ k := List.length_take_le _ _
            rw [List.length_append]; omega
          have HTS := Lib.hid hts
          clear hts hc hx
          generalize T0 ++ (sl.take k).flatMap lineS = T at *
          have HBX := Lib.hid hb
          have HXX := Lib.hid hX
          have hk0 : (0 : Int) ≤ (k : Int) := by omega
          have hk1 : (k : Int) < (m : Int) := by omega
          clear hb hX
          obtain ⟨wq, rfl⟩ : ∃ wq : World, wq = wr := ⟨_, rfl⟩
          have hnb := BlkAt.new wq 62 #[.int .i64 x.place.a, .int .i64 x.place.b, .int .i64 x.place.c, .int .i64 x.reads, .int .i64 x.writes, .int .i64 x.other, .int .i64 x.remote]
          have HAL := Lib.hid (HBX.out.alloc HBX.out.size (.cells #[.int .i64 x.place.a, .int .i64 x.place.b, .int .i64 x.place.c, .int .i64 x.reads, .int .i64 x.writes, .int .i64 x.other, .int .i64 x.remote] 62))
          have HXA := Lib.hid (HXX.out.alloc (.cells #[.int .i64 x.place.a, .int .i64 x.place.b, .int .i64 x.place.c, .int .i64 x.reads, .int .i64 x.writes, .int .i64 x.other, .int .i64 x.remote] 62))
          have HNB := Lib.hid hnb
          clear hnb
          go_upto_region 13 with fail
          clear c0 c1 c2 c3 c4 c5 c6 x1
          generalize (wq.alloc (.cells #[.int .i64 x.place.a, .int .i64 x.place.b, .int .i64 x.place.c, .int .i64 x.reads, .int .i64 x.writes, .int .i64 x.other, .int .i64 x.remote] 62)) = W1 at *
          have e0 := cell_regrown (HNB.out.cell 0)
          have e1 := cell_regrown (HNB.out.cell 1)
          have e2 := cell_regrown (HNB.out.cell 2)
          have e3 := cell_regrown (HNB.out.cell 3)
          have e4 := cell_regrown (HNB.out.cell 4)
          have e5 := cell_regrown (HNB.out.cell 5)
          have e6 := cell_regrown (HNB.out.cell 6)
          refine wp_region_quiet_below (by kernel_rfl) (by kernel_rfl) ?_
          repeat (any_goals (first | go_big_quiet_step ((go_at_call 23; exact Calls.regrown_of (dec_any _ _ (by assumption) (by assumption)))) | quiet_step ((go_at_call 23; exact Calls.regrown_of (dec_any _ _ (by assumption) (by assumption)))) | (refine wpQuiet_step (fun K hK => ?_); go_simp; split <;> (refine hK _ ?_; clear hK K))))
          all_goals (refine wpQuiet_nil ?_; intro _ hw'; obtain ⟨⟨dq, osq⟩, hw''⟩ := hw'; subst hw'')
          all_goals go_wp2
          all_goals go_roundw
          case rel =>
            have hbb : Below w.heap.size w (grow (redrawn W1 dq) osq) := HAL.out.trans ((below_regrown W1 dq osq).mono HAL.out.size)
            refine ⟨k + 1, by omega, by go_num, ?_, (HXA.out.below (below_regrown W1 dq osq) (BlkAt.lt HXA.out)), hbb⟩
            rw [HTS.out]
            simp only [bcat]
          case measure => simp [intOf]; omega
        · obtain rfl : k = m := by omega
          rw [List.take_of_length_le (by rw [HB.out.len]; exact Nat.le_refl _)]
          have HBX := Lib.hid hb
          clear hb hX
          go_wp2
          go_ret2
          refine ⟨?_, HBX.out⟩
          rw [show textL es sl = T0 ++ sl.flatMap lineS by rw [textL, HT0.out]]
          rfl
end Go.Proofs.YtghjhlenkgkelaaGreatDoor
