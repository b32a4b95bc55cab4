/- DERIVED. The program's Text. -/
import Derived.Test.YtghjhlenkgkelaaGreatDoorTbl2
import Derived.Test.YtghjhlenkgkelaaGreatDoorHeld
set_option linter.unusedSimpArgs false
set_option linter.unusedVariables false
namespace Go.Proofs.YtghjhlenkgkelaaGreatDoor
open Go.RowKit Go.Shelf Go.Sort

theorem rd_ints {w : World} {g : Nat} {t : TypeId} {zs : List Int} {n : Nat} (h : BlkAt w g t (zs.map (fun z => (.int .i64 z : Value))).toArray) (hn : n = zs.length) : Rd encZ 1 w (some ⟨g, 0, none⟩) n zs :=
  ⟨hn, fun i x hx => ⟨g, 0, rfl, h.lt, fun j u hu => by
    have hj : j = 0 := by rcases j with _ | j; · rfl
                          · simp [encZ] at hu
    subst hj
    have : (.int .i64 x : Value) = u := by simpa [encZ] using hu
    subst this
    have := h.cell i
    simp only [List.getElem?_toArray, List.getElem?_map, hx, Option.map_some] at this
    simpa using this⟩⟩
theorem rd_head {w : World} {g : Nat} {t : TypeId} {zs ys : List Int} {n : Nat} (h : BlkAt w g t ((zs ++ ys).map (fun z => (.int .i64 z : Value))).toArray) (hn : n = zs.length) : Rd encZ 1 w (some ⟨g, 0, none⟩) n zs :=
  ⟨hn, fun i x hx => by
    obtain ⟨b, o, e, hl, hc⟩ := (rd_ints h rfl).at_ i x (by rw [List.getElem?_append_left (List.getElem?_eq_some_iff.1 hx).1]; exact hx)
    exact ⟨b, o, e, hl, hc⟩⟩
theorem bl_kp {b g : Nat} {w w' : World} {t : TypeId} {cs : Array Value} (h : BlkAt w g t cs) (hk : Kp b w w') (hb : g ≠ b) (ht : t ≠ U8) : BlkAt w' g t cs :=
  (hk.block g h.lt hb (fun cs' fr e => by
    have := h.symm.trans e
    simp only [Option.some.injEq, Obj.cells.injEq] at this
    exact ht this.2.1)).trans h
theorem bs_ne {w0 w : World} {b g : Nat} {l : List UInt8} {t : TypeId} {cs : Array Value} (h : BS w0 b l w) (hg : BlkAt w g t cs) (ht : t ≠ TB) : g ≠ b := by
  rintro rfl
  rcases h.bld with ⟨_, v, h1, _⟩ | ⟨_, v, h1, _⟩ <;>
  · have := hg.symm.trans h1
    simp only [Option.some.injEq, Obj.cells.injEq] at this
    exact ht this.2.1
theorem spot_line (x : Spt) : (Lib.join ([x.place.a, x.place.b, x.place.c].map Lib.itoa) [46] ++ [58, 32] ++ Lib.join ([x.reads, x.writes, x.other, x.remote].map Lib.itoa) [32] ++ [10]) = lineS x := by
  simp [Lib.join, List.intercalate, lineS]

set_option maxRecDepth 100000 in
set_option maxHeartbeats 4000000 in
theorem spot_any (w0 : World) (b : Nat) (l : List UInt8) (x : Spt) (w : World) (hT : Tab10 w0) (h : BS w0 b l w) (hl : l.length ≤ 10000000) (hx : okS x) :
    Calls Tryz.prog 21 #[.pointer (some ⟨b, 0, none⟩), .agg #[.int .i64 x.place.a, .int .i64 x.place.b, .int .i64 x.place.c, .int .i64 x.reads, .int .i64 x.writes, .int .i64 x.other, .int .i64 x.remote]] w fun e w' => e = .returned (.tuple #[]) ∧ BS w0 b (l ++ lineS x) w' ∧ Kp b w w' := by
  have hnb := BlkAt.new w 63 #[.int .i64 x.place.a, .int .i64 x.place.b, .int .i64 x.place.c, .int .i64 x.reads, .int .i64 x.writes, .int .i64 x.other, .int .i64 x.remote]
  have hba : Below w.heap.size w (w.alloc (.cells #[.int .i64 x.place.a, .int .i64 x.place.b, .int .i64 x.place.c, .int .i64 x.reads, .int .i64 x.writes, .int .i64 x.other, .int .i64 x.remote] 63)) := (Below.refl w.heap.size w).alloc (Nat.le_refl _) _
  have hbs := h.after hba
  have hkp : Kp b w (w.alloc (.cells #[.int .i64 x.place.a, .int .i64 x.place.b, .int .i64 x.place.c, .int .i64 x.reads, .int .i64 x.writes, .int .i64 x.other, .int .i64 x.remote] 63)) := .of_below hba
  have hne := bs_ne hbs hnb (by decide)
  have htt := hT.below hbs.below
  have HNE := Lib.hid hne
  have HL := Lib.hid (lineS_len hx)
  obtain ⟨i0, i1, i2, i3, i4, i5, i6⟩ := hx
  have HZ1 : Hid (∀ z ∈ [x.place.a, x.place.b, x.place.c], I64 z) := Lib.hid (by
    intro z hz; simp at hz; rcases hz with rfl | rfl | rfl <;> assumption)
  have HZ2 : Hid (∀ z ∈ [x.reads, x.writes, x.other, x.remote], I64 z) := Lib.hid (by
    intro z hz; simp at hz; rcases hz with rfl | rfl | rfl | rfl <;> assumption)
  clear i0 i1 i2 i3 i4 i5 i6
  have hl1 := join_len (sep := [46]) HZ1.out (by simp)
  have hl2 := join_len (sep := [32]) HZ2.out (by simp)
  rw [show [x.place.a, x.place.b, x.place.c].length = 3 from rfl] at hl1
  rw [show [x.reads, x.writes, x.other, x.remote].length = 4 from rfl] at hl2
  obtain ⟨J1, hj1⟩ : ∃ J1, Lib.join ([x.place.a, x.place.b, x.place.c].map Lib.itoa) [46] = J1 := ⟨_, rfl⟩
  obtain ⟨J2, hj2⟩ : ∃ J2, Lib.join ([x.reads, x.writes, x.other, x.remote].map Lib.itoa) [32] = J2 := ⟨_, rfl⟩
  have hle := spot_line x
  rw [hj1, hj2] at hle
  rw [hj1] at hl1
  rw [hj2] at hl2
  have HLE := Lib.hid hle
  have s1 : ¬ 9223372036854775807 < J1.length + 2 := by omega
  have s2 : ¬ 9223372036854775807 < J1.length + 2 + J2.length := by omega
  have s3 : ¬ 9223372036854775807 < J1.length + 2 + J2.length + 1 := by omega
  have HC1 : Hid (∀ W, Tab10 W → BlkAt W w.heap.size 63 #[.int .i64 x.place.a, .int .i64 x.place.b, .int .i64 x.place.c, .int .i64 x.reads, .int .i64 x.writes, .int .i64 x.other, .int .i64 x.remote] →
      Calls Tryz.prog 37 #[.string ⟨#[46]⟩, .slice (some ⟨w.heap.size, 0, none⟩) 3 3] W fun e w' => e = .returned (.string ⟨J1.toArray⟩) ∧ Below W.heap.size W w') := Lib.hid (fun W hT hN => by
    have := spot1_any (some ⟨w.heap.size, 0, none⟩) 3 3 [x.place.a, x.place.b, x.place.c] [46] W hT (rd_head (ys := [x.reads, x.writes, x.other, x.remote]) hN rfl) (by omega) (by omega) HZ1.out (by simp)
    rw [hj1] at this
    exact this)
  have HC2 : Hid (∀ (W : World) (g : Nat), Tab10 W → BlkAt W g 3 ([x.reads, x.writes, x.other, x.remote].map (fun z => (.int .i64 z : Value))).toArray →
      Calls Tryz.prog 37 #[.string ⟨#[32]⟩, .slice (some ⟨g, 0, none⟩) 4 4] W fun e w' => e = .returned (.string ⟨J2.toArray⟩) ∧ Below W.heap.size W w') := Lib.hid (fun W g hT hN => by
    have := spot1_any (some ⟨g, 0, none⟩) 4 4 [x.reads, x.writes, x.other, x.remote] [32] W hT (rd_ints hN rfl) (by omega) (by omega) HZ2.out (by simp)
    rw [hj2] at this
    exact this)
  clear hle hj1 hj2 HZ1 HZ2
  clear h hT hba hne
  go_enter Tryz.func21, Tryz.ntmps21
  go_wp2_with fail
  generalize (w.alloc (.cells #[.int .i64 x.place.a, .int .i64 x.place.b, .int .i64 x.place.c, .int .i64 x.reads, .int .i64 x.writes, .int .i64 x.other, .int .i64 x.remote] 63)) = W1 at *
  have HST : Hid (∀ W, Below W1.drew.heap.size W1.drew W → W.cell? ⟨w.heap.size, 3, none⟩ = some (.int .i64 x.reads) ∧ W.cell? ⟨w.heap.size, 4, none⟩ = some (.int .i64 x.writes) ∧ W.cell? ⟨w.heap.size, 5, none⟩ = some (.int .i64 x.other) ∧ W.cell? ⟨w.heap.size, 6, none⟩ = some (.int .i64 x.remote)) := Lib.hid (fun W hW => by
    have hb : BlkAt W w.heap.size 63 #[.int .i64 x.place.a, .int .i64 x.place.b, .int .i64 x.place.c, .int .i64 x.reads, .int .i64 x.writes, .int .i64 x.other, .int .i64 x.remote] := BlkAt.below (W := W1.drew) hnb hW hnb.lt
    exact ⟨hb.cell 3, hb.cell 4, hb.cell 5, hb.cell 6⟩)
  have HNB := Lib.hid (show BlkAt W1.drew w.heap.size 63 #[.int .i64 x.place.a, .int .i64 x.place.b, .int .i64 x.place.c, .int .i64 x.reads, .int .i64 x.writes, .int .i64 x.other, .int .i64 x.remote] from hnb)
  have HBB := Lib.hid (hbs.after (w' := W1.drew) (below_draw (Below.refl _ _) 1))
  have HK := Lib.hid (hkp.trans (.of_below (w' := W1.drew) (below_draw (Below.refl _ _) 1)))
  have HT := Lib.hid (htt.below (w' := W1.drew) (below_draw (Below.refl _ _) 1))
  have HR0 := Lib.hid (Below.refl W1.drew.heap.size W1.drew)
  clear hbs hkp hnb htt
  refine wp_region_held_drew (S := fun w' => w'.cell? ⟨w.heap.size, 3, none⟩ = some (.int .i64 x.reads) ∧ w'.cell? ⟨w.heap.size, 4, none⟩ = some (.int .i64 x.writes) ∧ w'.cell? ⟨w.heap.size, 5, none⟩ = some (.int .i64 x.other) ∧ w'.cell? ⟨w.heap.size, 6, none⟩ = some (.int .i64 x.remote)) (by kernel_rfl) (HST.out _ HR0.out) ?_
  intro hHeld
  generalize W1.drew = W2 at *
  clear W1
  refine take_drop 0 (v := ?_) rfl (by kernel_rfl) (by kernel_rfl) (by kernel_rfl) (fun _ _ _ h => h) (by rfl) ?_ (by assumption) ?_
  rotate_left 1
  · (intro w hSw; obtain ⟨hSw1, hSw2, hSw3, hSw4⟩ := hSw; go_simp; try with_reducible rfl)
  try simp only [Act.put, List.setIfInBounds_toArray, List.set_cons_zero, List.set_cons_succ]
  refine take_drop 1 (v := ?_) rfl (by kernel_rfl) (by kernel_rfl) (by kernel_rfl) (fun _ _ _ h => h) (by rfl) ?_ (by assumption) ?_
  rotate_left 1
  · (intro w hSw; obtain ⟨hSw1, hSw2, hSw3, hSw4⟩ := hSw; go_simp; try with_reducible rfl)
  try simp only [Act.put, List.setIfInBounds_toArray, List.set_cons_zero, List.set_cons_succ]
  refine take_drop 2 (v := ?_) rfl (by kernel_rfl) (by kernel_rfl) (by kernel_rfl) (fun _ _ _ h => h) (by rfl) ?_ (by assumption) ?_
  rotate_left 1
  · (intro w hSw; obtain ⟨hSw1, hSw2, hSw3, hSw4⟩ := hSw; go_simp; try with_reducible rfl)
  try simp only [Act.put, List.setIfInBounds_toArray, List.set_cons_zero, List.set_cons_succ]
  refine take_drop 3 (v := ?_) rfl (by kernel_rfl) (by kernel_rfl) (by kernel_rfl) (fun _ _ _ h => h) (by rfl) ?_ (by assumption) ?_
  rotate_left 1
  · (intro w hSw; obtain ⟨hSw1, hSw2, hSw3, hSw4⟩ := hSw; go_simp; try with_reducible rfl)
  try simp only [Act.put, List.setIfInBounds_toArray, List.set_cons_zero, List.set_cons_succ]
  refine take_drop 4 (v := ?_) rfl (by kernel_rfl) (by kernel_rfl) (by kernel_rfl) (fun _ _ _ h => h) (by rfl) ?_ (by assumption) ?_
  rotate_left 1
  · (intro w hSw; obtain ⟨hSw1, hSw2, hSw3, hSw4⟩ := hSw; go_simp; try with_reducible rfl)
  try simp only [Act.put, List.setIfInBounds_toArray, List.set_cons_zero, List.set_cons_succ]
  refine take_drop 5 (v := ?_) rfl (by kernel_rfl) (by kernel_rfl) (by kernel_rfl) (fun _ _ _ h => h) (by rfl) ?_ (by assumption) ?_
  rotate_left 1
  · (intro w hSw; obtain ⟨hSw1, hSw2, hSw3, hSw4⟩ := hSw; go_simp; try with_reducible rfl)
  try simp only [Act.put, List.setIfInBounds_toArray, List.set_cons_zero, List.set_cons_succ]
  refine take_drop 8 (v := ?_) rfl (by kernel_rfl) (by kernel_rfl) (by kernel_rfl) (fun _ _ _ h => h) (by rfl) ?_ (by assumption) ?_
  rotate_left 1
  · (intro w hSw; obtain ⟨hSw1, hSw2, hSw3, hSw4⟩ := hSw; go_simp; try with_reducible rfl)
  try simp only [Act.put, List.setIfInBounds_toArray, List.set_cons_zero, List.set_cons_succ]
  refine take_drop 9 (v := ?_) rfl (by kernel_rfl) (by kernel_rfl) (by kernel_rfl) (fun _ _ _ h => h) (by rfl) ?_ (by assumption) ?_
  rotate_left 1
  · (intro w hSw; obtain ⟨hSw1, hSw2, hSw3, hSw4⟩ := hSw; go_simp; try with_reducible rfl)
  try simp only [Act.put, List.setIfInBounds_toArray, List.set_cons_zero, List.set_cons_succ]
  refine take_drop 10 (v := ?_) rfl (by kernel_rfl) (by kernel_rfl) (by kernel_rfl) (fun _ _ _ h => h) (by rfl) ?_ (by assumption) ?_
  rotate_left 1
  · (intro w hSw; obtain ⟨hSw1, hSw2, hSw3, hSw4⟩ := hSw; go_simp; try with_reducible rfl)
  try simp only [Act.put, List.setIfInBounds_toArray, List.set_cons_zero, List.set_cons_succ]
  refine take_drop 11 (v := ?_) rfl (by kernel_rfl) (by kernel_rfl) (by kernel_rfl) (fun _ _ _ h => h) (by rfl) ?_ (by assumption) ?_
  rotate_left 1
  · (intro w hSw; obtain ⟨hSw1, hSw2, hSw3, hSw4⟩ := hSw; go_simp; try with_reducible rfl)
  try simp only [Act.put, List.setIfInBounds_toArray, List.set_cons_zero, List.set_cons_succ]
  refine take_drop 12 (v := ?_) rfl (by kernel_rfl) (by kernel_rfl) (by kernel_rfl) (fun _ _ _ h => h) (by rfl) ?_ (by assumption) ?_
  rotate_left 1
  · (intro w hSw; obtain ⟨hSw1, hSw2, hSw3, hSw4⟩ := hSw; go_simp; try with_reducible rfl)
  try simp only [Act.put, List.setIfInBounds_toArray, List.set_cons_zero, List.set_cons_succ]
  refine take_drop 13 (v := ?_) rfl (by kernel_rfl) (by kernel_rfl) (by kernel_rfl) (fun _ _ _ h => h) (by rfl) ?_ (by assumption) ?_
  rotate_left 1
  · (intro w hSw; obtain ⟨hSw1, hSw2, hSw3, hSw4⟩ := hSw; go_simp; try with_reducible rfl)
  try simp only [Act.put, List.setIfInBounds_toArray, List.set_cons_zero, List.set_cons_succ]
  refine take_drop 14 (v := ?_) rfl (by kernel_rfl) (by kernel_rfl) (by kernel_rfl) (fun _ _ _ h => h) (by rfl) ?_ (by assumption) ?_
  rotate_left 1
  · (intro w hSw; obtain ⟨hSw1, hSw2, hSw3, hSw4⟩ := hSw; go_simp; try with_reducible rfl)
  try simp only [Act.put, List.setIfInBounds_toArray, List.set_cons_zero, List.set_cons_succ]
  refine take_drop 15 (v := ?_) rfl (by kernel_rfl) (by kernel_rfl) (by kernel_rfl) (fun _ _ _ h => h) (by rfl) ?_ (by assumption) ?_
  rotate_left 1
  · (intro w hSw; obtain ⟨hSw1, hSw2, hSw3, hSw4⟩ := hSw; go_simp; try with_reducible rfl)
  try simp only [Act.put, List.setIfInBounds_toArray, List.set_cons_zero, List.set_cons_succ]
  refine take_drop 16 (v := ?_) rfl (by kernel_rfl) (by kernel_rfl) (by kernel_rfl) (fun _ _ _ h => h) (by rfl) ?_ (by assumption) ?_
  rotate_left 1
  · (intro w hSw; obtain ⟨hSw1, hSw2, hSw3, hSw4⟩ := hSw; go_simp; try with_reducible rfl)
  try simp only [Act.put, List.setIfInBounds_toArray, List.set_cons_zero, List.set_cons_succ]
  refine wpAnyH_ready (rs := [6, 17]) (by kernel_rfl) (by simp) ?_
  refine ready_drop rfl (fun K hK => ?_) (ready_drop rfl (fun K hK => ?_) AllReadyH.nil)
  · skip
    go_simp
    go_at_call 37
    refine (HC1.out _ (HT.out.below HR0.out) (HNB.out.below HR0.out HNB.out.lt)).mono ?_
    rintro e w3 ⟨rfl, hb3⟩
    have HB3 := Lib.hid (HR0.out.trans (hb3.mono HR0.out.size))
    have HA3 := Lib.hid hb3
    clear hb3
    refine hK.out _ _ (HST.out _ HB3.out) (fun hHeld => ?_)
    clear hK
    try simp only [Act.put, List.setIfInBounds_toArray, List.set_cons_zero, List.set_cons_succ]
    refine take_drop 7 (v := ?_) rfl (by kernel_rfl) (by kernel_rfl) (by kernel_rfl) (fun _ _ _ h => h) (by rfl) ?_ (by assumption) ?_
    rotate_left 1
    · (intro w hSw; obtain ⟨hSw1, hSw2, hSw3, hSw4⟩ := hSw; go_simp; try with_reducible rfl)
    try simp only [Act.put, List.setIfInBounds_toArray, List.set_cons_zero, List.set_cons_succ]
    refine wpAnyH_ready (rs := [17]) (by kernel_rfl) (by simp) ?_
    refine ready_drop rfl (fun K hK => ?_) AllReadyH.nil
    go_simp
    refine hK.out _ _ (HST.out _ (HB3.out.alloc HB3.out.size _)) (fun hHeld => ?_)
    clear hK
    try simp only [Act.put, List.setIfInBounds_toArray, List.set_cons_zero, List.set_cons_succ]
    have HV := Lib.hid (BlkAt.new w3 3 ([x.reads, x.writes, x.other, x.remote].map (fun z => (.int .i64 z : Value))).toArray)
    have HB4 := Lib.hid (HB3.out.alloc HB3.out.size (.cells ([x.reads, x.writes, x.other, x.remote].map (fun z => (.int .i64 z : Value))).toArray 3))
    refine wpAnyH_ready (rs := [18]) (by kernel_rfl) (by simp) ?_
    refine ready_drop rfl (fun K hK => ?_) AllReadyH.nil
    go_simp
    go_at_call 37
    refine (HC2.out _ _ (HT.out.below HB4.out) HV.out).mono ?_
    rintro e w8 ⟨rfl, hb8⟩
    have HB8 := Lib.hid (HB4.out.trans (hb8.mono HB4.out.size))
    clear hb8
    refine hK.out _ _ (HST.out _ HB8.out) (fun hHeld => ?_)
    clear hK
    try simp only [Act.put, List.setIfInBounds_toArray, List.set_cons_zero, List.set_cons_succ]
    refine take_drop 19 (v := ?_) rfl (by kernel_rfl) (by kernel_rfl) (by kernel_rfl) (fun _ _ _ h => h) (by rfl) ?_ (by assumption) ?_
    rotate_left 1
    · (intro w hSw; obtain ⟨hSw1, hSw2, hSw3, hSw4⟩ := hSw; go_simp; try with_reducible rfl)
    try simp only [Act.put, List.setIfInBounds_toArray, List.set_cons_zero, List.set_cons_succ]
    refine take_drop 20 (v := ?_) rfl (by kernel_rfl) (by kernel_rfl) (by kernel_rfl) (fun _ _ _ h => h) (by rfl) ?_ (by assumption) ?_
    rotate_left 1
    · (intro w hSw; obtain ⟨hSw1, hSw2, hSw3, hSw4⟩ := hSw; go_simp; try with_reducible rfl)
    try simp only [Act.put, List.setIfInBounds_toArray, List.set_cons_zero, List.set_cons_succ]
    refine wpAnyH_ready (rs := [21]) (by kernel_rfl) (by simp) ?_
    refine ready_drop rfl (fun K hK => ?_) AllReadyH.nil
    go_simp
    go_at_call 35
    refine (write_str w0 b l (lineS x) _ ?_ _ (HBB.out.after HB8.out) ?_).mono ?_
    · simp only [bcat]; exact congrArg (fun l => (⟨List.toArray l⟩ : ByteArray)) HLE.out
    · have := HL.out; omega
    rintro e w9 ⟨rfl, hb9, hk9⟩
    have HBF := Lib.hid hb9
    have HKF := Lib.hid (HK.out.trans ((Kp.of_below HB8.out).trans hk9))
    have hx9 := bl_kp (HNB.out.below HB8.out HNB.out.lt) hk9 HNE.out (by decide)
    clear hb9 hk9
    refine hK.out _ _ ⟨hx9.cell 3, hx9.cell 4, hx9.cell 5, hx9.cell 6⟩ (fun hHeld => ?_)
    clear hK
    try simp only [Act.put, List.setIfInBounds_toArray, List.set_cons_zero, List.set_cons_succ]
    refine wpAnyH_done (by kernel_rfl) ?_ _
    go_wp2
    go_end0
    exact ⟨rfl, HBF.out, HKF.out⟩
  · go_simp
    refine hK.out _ _ (HST.out _ (HR0.out.alloc (Nat.le_refl _) _)) (fun hHeld => ?_)
    clear hK
    try simp only [Act.put, List.setIfInBounds_toArray, List.set_cons_zero, List.set_cons_succ]
    have HV := Lib.hid (BlkAt.new W2 3 ([x.reads, x.writes, x.other, x.remote].map (fun z => (.int .i64 z : Value))).toArray)
    have HB4 := Lib.hid (HR0.out.alloc (Nat.le_refl _) (.cells ([x.reads, x.writes, x.other, x.remote].map (fun z => (.int .i64 z : Value))).toArray 3))
    refine wpAnyH_ready (rs := [6]) (by kernel_rfl) (by simp) ?_
    refine ready_drop rfl (fun K hK => ?_) AllReadyH.nil
    go_simp
    go_at_call 37
    refine (HC1.out _ (HT.out.below HB4.out) (HNB.out.below HB4.out HNB.out.lt)).mono ?_
    rintro e w3 ⟨rfl, hb3⟩
    have HB3 := Lib.hid (HB4.out.trans (hb3.mono HB4.out.size))
    have HA3 := Lib.hid hb3
    clear hb3
    refine hK.out _ _ (HST.out _ HB3.out) (fun hHeld => ?_)
    clear hK
    try simp only [Act.put, List.setIfInBounds_toArray, List.set_cons_zero, List.set_cons_succ]
    refine take_drop 7 (v := ?_) rfl (by kernel_rfl) (by kernel_rfl) (by kernel_rfl) (fun _ _ _ h => h) (by rfl) ?_ (by assumption) ?_
    rotate_left 1
    · (intro w hSw; obtain ⟨hSw1, hSw2, hSw3, hSw4⟩ := hSw; go_simp; try with_reducible rfl)
    try simp only [Act.put, List.setIfInBounds_toArray, List.set_cons_zero, List.set_cons_succ]
    have HV3 := Lib.hid (HV.out.below HA3.out HV.out.lt)
    refine wpAnyH_ready (rs := [18]) (by kernel_rfl) (by simp) ?_
    refine ready_drop rfl (fun K hK => ?_) AllReadyH.nil
    go_simp
    go_at_call 37
    refine (HC2.out _ _ (HT.out.below HB3.out) HV3.out).mono ?_
    rintro e w8 ⟨rfl, hb8⟩
    have HB8 := Lib.hid (HB3.out.trans (hb8.mono HB3.out.size))
    clear hb8
    refine hK.out _ _ (HST.out _ HB8.out) (fun hHeld => ?_)
    clear hK
    try simp only [Act.put, List.setIfInBounds_toArray, List.set_cons_zero, List.set_cons_succ]
    refine take_drop 19 (v := ?_) rfl (by kernel_rfl) (by kernel_rfl) (by kernel_rfl) (fun _ _ _ h => h) (by rfl) ?_ (by assumption) ?_
    rotate_left 1
    · (intro w hSw; obtain ⟨hSw1, hSw2, hSw3, hSw4⟩ := hSw; go_simp; try with_reducible rfl)
    try simp only [Act.put, List.setIfInBounds_toArray, List.set_cons_zero, List.set_cons_succ]
    refine take_drop 20 (v := ?_) rfl (by kernel_rfl) (by kernel_rfl) (by kernel_rfl) (fun _ _ _ h => h) (by rfl) ?_ (by assumption) ?_
    rotate_left 1
    · (intro w hSw; obtain ⟨hSw1, hSw2, hSw3, hSw4⟩ := hSw; go_simp; try with_reducible rfl)
    try simp only [Act.put, List.setIfInBounds_toArray, List.set_cons_zero, List.set_cons_succ]
    refine wpAnyH_ready (rs := [21]) (by kernel_rfl) (by simp) ?_
    refine ready_drop rfl (fun K hK => ?_) AllReadyH.nil
    go_simp
    go_at_call 35
    refine (write_str w0 b l (lineS x) _ ?_ _ (HBB.out.after HB8.out) ?_).mono ?_
    · simp only [bcat]; exact congrArg (fun l => (⟨List.toArray l⟩ : ByteArray)) HLE.out
    · have := HL.out; omega
    rintro e w9 ⟨rfl, hb9, hk9⟩
    have HBF := Lib.hid hb9
    have HKF := Lib.hid (HK.out.trans ((Kp.of_below HB8.out).trans hk9))
    have hx9 := bl_kp (HNB.out.below HB8.out HNB.out.lt) hk9 HNE.out (by decide)
    clear hb9 hk9
    refine hK.out _ _ ⟨hx9.cell 3, hx9.cell 4, hx9.cell 5, hx9.cell 6⟩ (fun hHeld => ?_)
    clear hK
    try simp only [Act.put, List.setIfInBounds_toArray, List.set_cons_zero, List.set_cons_succ]
    refine wpAnyH_done (by kernel_rfl) ?_ _
    go_wp2
    go_end0
    exact ⟨rfl, HBF.out, HKF.out⟩
end Go.Proofs.YtghjhlenkgkelaaGreatDoor
namespace Go.Proofs.YtghjhlenkgkelaaGreatDoor
open Go.RowKit Go.Shelf Go.Sort
theorem lineE_len2 {x : Edg} (h : okE x) : (lineE x).length ≤ 200 := Nat.le_trans (lineE_len h) (by omega)

set_option maxRecDepth 100000 in
set_option maxHeartbeats 4000000 in
theorem eachE_any (w0 : World) (b : Nat) (A : Option Addr) (n c : Nat) (es : List Edg) (l : List UInt8) (w : World) (hT : Tab10 w0) (h : BS w0 b l w) (hR : Rd encEL 4 w0 A n es) (hl : l.length + 200 * n ≤ 5000000) (hE : ∀ x ∈ es, okE x) :
    Calls Tryz.prog 18 #[.slice A n c, .func (.func 19) #[.pointer (some ⟨b, 0, none⟩)] #[]] w fun e w' => e = .returned (.tuple #[]) ∧ BS w0 b (l ++ es.flatMap lineE) w' ∧ Kp b w w' := by
  have HR := Lib.hid hR
  have HT := Lib.hid hT
  have HE := Lib.hid hE
  have HL := Lib.hid hR.len
  have H0 := Lib.hid h
  clear hR hT hE h
  go_enter Tryz.func18, Tryz.ntmps18
  go_wp2
  go_loopw [8] (fun i wr => ∃ k : Nat, k ≤ n ∧ i = .int .i64 k ∧ BS w0 b (l ++ (es.take k).flatMap lineE) wr ∧ Kp b w wr) (fun i _ => n - (intOf i).toNat)
  case atStart => exact ⟨0, by omega, rfl, by simpa using H0.out, Kp.refl _ _⟩
  case round =>
    obtain ⟨k, hk, rfl, hb, hkp⟩ := hrel
    by_cases hlt : k < n
    · obtain ⟨x, hx⟩ := get_some (xs := es) (k := k) (by rw [← HL.out]; omega)
      obtain ⟨blk, o, rfl, _, hc⟩ := (HR.out.below hb.below).at_ k x hx
      have c0 := hc 0 _ rfl; have c1 := hc 1 _ rfl; have c2 := hc 2 _ rfl; have c3 := hc 3 _ rfl
      rw [Nat.add_zero] at c0
      have hok := HE.out x (List.mem_of_getElem? hx)
      have hll : (l ++ (es.take k).flatMap lineE).length ≤ 10000000 := by
        have h1 := flat_le (f := lineE) (B := 200) (es.take k) (fun y hy => lineE_len2 (HE.out y (List.mem_of_mem_take hy)))
        have h2 : (es.take k).length ≤ k := List.length_take_le _ _
        rw [List.length_append]; omega
      have hts : l ++ (es.take (k + 1)).flatMap lineE = (l ++ (es.take k).flatMap lineE) ++ lineE x := by
        rw [List.take_add_one, hx, List.flatMap_append]; simp
      have HTS := Lib.hid hts
      have hal := (Below.refl wr.heap.size wr).alloc (Nat.le_refl _) (.cells #[.int .i64 x.frm, .int .i64 x.at', .int .i64 x.acc, .int .i64 x.msg] 52)
      have hcall := edge_any w0 b (l ++ (es.take k).flatMap lineE) x _ HT.out (hb.after hal) hll hok
      have HK := Lib.hid (hkp.trans (.of_below hal))
      have hk0 : (0 : Int) ≤ (k : Int) := by omega
      have hk1 : (k : Int) < (n : Int) := by omega
      clear hts hc hx hb hkp hal hll hok
      generalize l ++ (es.take k).flatMap lineE = L1 at *
      go_wp2_with (go_at_call 19
                   refine hcall.mono ?_
                   rintro e w1 ⟨rfl, hb1, hk1⟩
                   clear hcall
                   have HB1 := Lib.hid hb1
                   have HK1 := Lib.hid (HK.out.trans hk1)
                   clear hb1 hk1)
      go_roundw
      case rel => exact ⟨k + 1, by omega, by go_num, by rw [HTS.out]; exact HB1.out, HK1.out⟩
      case measure => simp [intOf]; omega
    · obtain rfl : n = k := by omega
      rw [List.take_of_length_le (by rw [← HL.out]; exact Nat.le_refl _)] at hb
      have HB := Lib.hid hb
      have HK := Lib.hid hkp
      clear hb hkp
      go_wp2
      go_end0
      exact ⟨rfl, HB.out, HK.out⟩

set_option maxRecDepth 100000 in
set_option maxHeartbeats 4000000 in
theorem eachS_any (w0 : World) (b : Nat) (A : Option Addr) (n c : Nat) (es : List Spt) (l : List UInt8) (w : World) (hT : Tab10 w0) (h : BS w0 b l w) (hR : Rd encSL 7 w0 A n es) (hl : l.length + 200 * n ≤ 5000000) (hE : ∀ x ∈ es, okS x) :
    Calls Tryz.prog 20 #[.slice A n c, .func (.func 21) #[.pointer (some ⟨b, 0, none⟩)] #[]] w fun e w' => e = .returned (.tuple #[]) ∧ BS w0 b (l ++ es.flatMap lineS) w' ∧ Kp b w w' := by
  have HR := Lib.hid hR
  have HT := Lib.hid hT
  have HE := Lib.hid hE
  have HL := Lib.hid hR.len
  have H0 := Lib.hid h
  clear hR hT hE h
  go_enter Tryz.func20, Tryz.ntmps20
  go_wp2
  go_loopw [8] (fun i wr => ∃ k : Nat, k ≤ n ∧ i = .int .i64 k ∧ BS w0 b (l ++ (es.take k).flatMap lineS) wr ∧ Kp b w wr) (fun i _ => n - (intOf i).toNat)
  case atStart => exact ⟨0, by omega, rfl, by simpa using H0.out, Kp.refl _ _⟩
  case round =>
    obtain ⟨k, hk, rfl, hb, hkp⟩ := hrel
    by_cases hlt : k < n
    · obtain ⟨x, hx⟩ := get_some (xs := es) (k := k) (by rw [← HL.out]; omega)
      obtain ⟨blk, o, rfl, _, hc⟩ := (HR.out.below hb.below).at_ k x hx
      have c0 := hc 0 _ rfl; have c1 := hc 1 _ rfl; have c2 := hc 2 _ rfl; have c3 := hc 3 _ rfl; have c4 := hc 4 _ rfl; have c5 := hc 5 _ rfl; have c6 := hc 6 _ rfl
      rw [Nat.add_zero] at c0
      have hok := HE.out x (List.mem_of_getElem? hx)
      have hll : (l ++ (es.take k).flatMap lineS).length ≤ 10000000 := by
        have h1 := flat_le (f := lineS) (B := 200) (es.take k) (fun y hy => lineS_len (HE.out y (List.mem_of_mem_take hy)))
        have h2 : (es.take k).length ≤ k := List.length_take_le _ _
        rw [List.length_append]; omega
      have hts : l ++ (es.take (k + 1)).flatMap lineS = (l ++ (es.take k).flatMap lineS) ++ lineS x := by
        rw [List.take_add_one, hx, List.flatMap_append]; simp
      have HTS := Lib.hid hts
      have hal := (Below.refl wr.heap.size wr).alloc (Nat.le_refl _) (.cells #[.int .i64 x.place.a, .int .i64 x.place.b, .int .i64 x.place.c, .int .i64 x.reads, .int .i64 x.writes, .int .i64 x.other, .int .i64 x.remote] 63)
      have hcall := spot_any w0 b (l ++ (es.take k).flatMap lineS) x _ HT.out (hb.after hal) hll hok
      have HK := Lib.hid (hkp.trans (.of_below hal))
      have hk0 : (0 : Int) ≤ (k : Int) := by omega
      have hk1 : (k : Int) < (n : Int) := by omega
      clear hts hc hx hb hkp hal hll hok
      generalize l ++ (es.take k).flatMap lineS = L1 at *
      go_wp2_with (go_at_call 21
                   refine hcall.mono ?_
                   rintro e w1 ⟨rfl, hb1, hk1⟩
                   clear hcall
                   have HB1 := Lib.hid hb1
                   have HK1 := Lib.hid (HK.out.trans hk1)
                   clear hb1 hk1)
      go_roundw
      case rel => exact ⟨k + 1, by omega, by go_num, by rw [HTS.out]; exact HB1.out, HK1.out⟩
      case measure => simp [intOf]; omega
    · obtain rfl : n = k := by omega
      rw [List.take_of_length_le (by rw [← HL.out]; exact Nat.le_refl _)] at hb
      have HB := Lib.hid hb
      have HK := Lib.hid hkp
      clear hb hkp
      go_wp2
      go_end0
      exact ⟨rfl, HB.out, HK.out⟩

end Go.Proofs.YtghjhlenkgkelaaGreatDoor
namespace Go.Proofs.YtghjhlenkgkelaaGreatDoor
open Go.RowKit Go.Shelf Go.Sort

set_option maxRecDepth 100000 in
set_option maxHeartbeats 4000000 in
theorem pText_any (A B : Option Addr) (n c m d f : Nat) (es : List Edg) (sl : List Spt) (w : World) (hT : Tab10 w) (hA : Rd encEL 4 w A n es) (hB : Rd encSL 7 w B m sl) (hn : n + m ≤ 10000) (hE : ∀ x ∈ es, okE x) (hS : ∀ s ∈ sl, okS s) :
    Calls Tryz.prog 9 #[.agg #[.slice A n c, .slice B m d, .float .f32 f]] w fun e w' => e = .returned (.tuple #[.string ⟨(textL es sl).toArray⟩, .int .i64 0]) ∧ Below w.heap.size w w' := by
  have hx0 := (BlkAt.new w 34 #[.slice A n c, .slice B m d, .float .f32 f]).alloc (.cells #[.pointer none, .slice none 0 0] 71)
  have hbb : Below w.heap.size w ((w.alloc (.cells #[.slice A n c, .slice B m d, .float .f32 f] 34)).alloc (.cells #[.pointer none, .slice none 0 0] 71)) := ((Below.refl w.heap.size w).alloc (Nat.le_refl _) _).alloc (by simp) _
  have hbs : BS w (w.heap.size + 1) [] ((w.alloc (.cells #[.slice A n c, .slice B m d, .float .f32 f] 34)).alloc (.cells #[.pointer none, .slice none 0 0] 71)) :=
    ⟨.inl ⟨by omega, .slice none 0 0, by
      have := BlkAt.new (w.alloc (.cells #[.slice A n c, .slice B m d, .float .f32 f] 34)) 71 #[.pointer none, .slice none 0 0]
      rw [World.size_alloc] at this
      exact this, World.ownsRow_nil _ _ _ _, by simp [Value.ownBlock]⟩, hbb⟩
  have hc1 := eachE_any w (w.heap.size + 1) A n c es [] _ hT hbs hA (by simp; omega) hE
  have HX := Lib.hid hx0
  have HFL : Hid ((es.flatMap lineE).length ≤ 200 * n) := Lib.hid (by rw [hA.len]; exact flat_le es (fun y hy => lineE_len2 (hE y hy)))
  have HC2 : Hid (∀ W, BS w (w.heap.size + 1) (es.flatMap lineE) W → Calls Tryz.prog 20 #[.slice B m d, .func (.func 21) #[.pointer (some ⟨w.heap.size + 1, 0, none⟩)] #[]] W fun e w' => e = .returned (.tuple #[]) ∧ BS w (w.heap.size + 1) (es.flatMap lineE ++ sl.flatMap lineS) w' ∧ Kp (w.heap.size + 1) W w') := Lib.hid (fun W hW => eachS_any w (w.heap.size + 1) B m d sl (es.flatMap lineE) W hT hW hB (by have := HFL.out; omega) hS)
  have HTX : Hid (es.flatMap lineE ++ sl.flatMap lineS = textL es sl) := Lib.hid rfl
  clear hA hB hE hS hT hbs hx0 hbb
  rw [List.nil_append] at hc1
  go_enter Tryz.func9, Tryz.ntmps9
  go_wp2_with (first
    | (go_at_call 18
       refine hc1.mono ?_
       rintro e w1 ⟨rfl, hb1, hk1⟩
       clear hc1
       have hx1 := bl_kp HX.out hk1 (by omega) (by decide)
       have x1 := hx1.cell 1
       simp only [List.getElem?_toArray, List.getElem?_cons_succ, List.getElem?_cons_zero] at x1
       have hc2 := HC2.out w1 hb1
       clear hx1 hk1 hb1)
    | (go_at_call 20
       refine hc2.mono ?_
       rintro e w2 ⟨rfl, hb2, hk2⟩
       clear hc2 x1
       rw [HTX.out] at hb2
       have hst := BString_any w.heap.size (w.heap.size + 1) (textL es sl) w2 hb2.bld hb2.below.size
       have HB2 := Lib.hid hb2.below
       clear hb2 hk2)
    | (go_at_call 22
       refine hst.mono ?_
       rintro e w3 ⟨rfl, hb3⟩
       clear hst
       have HB3 := Lib.hid (HB2.out.trans hb3)
       clear hb3))
  go_ret2
  exact ⟨rfl, HB3.out⟩
end Go.Proofs.YtghjhlenkgkelaaGreatDoor
