/- DERIVED. The chapter's example. -/
import Derived.Test.YtpahhcmiimllaaaGreatDoorAlo2
import Derived.Test.YtpahhcmiimllaaaGreatDoorEqs
import Derived.Test.YtpahhcmiimllaaaGreatDoorAwP
set_option linter.unusedSimpArgs false
set_option linter.unusedVariables false
namespace Go.Proofs.YtpahhcmiimllaaaGreatDoor
open Go.RowKit Go.Shelf

def awCells : List Value := [.int .i64 1, .int .i64 0, .int .i64 1, .int .i64 0, .int .i64 0, .string ⟨#[]⟩, .slice none 0 0,
  .int .i64 1, .int .i64 1, .int .i64 2, .int .i64 0, .int .i64 0, .string ⟨#[]⟩, .slice none 0 0,
  .int .i64 4, .int .i64 2, .int .i64 0, .int .i64 1, .int .i64 0, .string ⟨#[43]⟩, .slice none 0 0]
def awTail (L : Nat) : List Value := [.int .i64 36, .int .i64 0, .int .i64 0, .int .i64 0, .int .i64 0, .string ⟨#[0]⟩, .slice (some ⟨L, 0, none⟩) 1 1,
  .int .i64 22, .int .i64 (-1), .int .i64 0, .int .i64 0, .int .i64 0, .string ⟨#[]⟩, .slice none 0 0]
theorem aw_ins {w : World} {b o : Nat} {x : InsL} {cs : Array Value} {A : Option Addr} {n c : Nat} (hb : BlkAt w b 55 cs) (h0 : cs[o]? = some (.int .i64 x.op)) (h1 : cs[o + 1]? = some (.int .i64 x.a)) (h2 : cs[o + 2]? = some (.int .i64 x.b)) (h3 : cs[o + 3]? = some (.int .i64 x.c)) (h4 : cs[o + 4]? = some (.int .i64 x.d)) (h5 : cs[o + 5]? = some (.string ⟨x.text.toArray⟩)) (h6 : cs[o + 6]? = some (.slice A n c)) (hl : Rd encI 1 w A n x.list) (hz : A = none → c = 0) : InsAt w b o x :=
  ⟨A, n, c, (hb.cell _).trans h0, (hb.cell _).trans h1, (hb.cell _).trans h2, (hb.cell _).trans h3, (hb.cell _).trans h4, (hb.cell _).trans h5, (hb.cell _).trans h6, hl, hz⟩
theorem rd_nilI (w : World) : Rd encI 1 w none 0 ([] : List Int) := ⟨rfl, by simp⟩
theorem aw_bods {w : World} {L C B : Nat} (hL : BlkAt w L 3 #[.int .i64 2]) (hC : BlkAt w C 55 (awCells ++ awTail L).toArray) (hB : BlkAt w B 51 #[.string ⟨#[97]⟩, .int .i64 3, .int .i64 0, .slice (some ⟨C, 0, none⟩) 5 5]) : Bods w (some ⟨B, 0, none⟩) 1 awC.bodies := by
  have hl : Rd encI 1 w (some ⟨L, 0, none⟩) 1 ([2] : List Int) := ⟨rfl, fun i x hx => by
    match i, hx with
    | 0, hx =>
      cases hx
      refine ⟨L, 0, rfl, hL.lt, fun j u hu => ?_⟩
      match j, hu with
      | 0, hu => cases hu; exact hL.cell 0⟩
  have hI : Inss w (some ⟨C, 0, none⟩) 5 awB.code := ⟨rfl, fun i x hx => by
    match i, hx with
    | 0, hx => cases hx; exact ⟨C, 0, rfl, hC.lt, aw_ins hC rfl rfl rfl rfl rfl rfl rfl (rd_nilI w) (fun _ => rfl)⟩
    | 1, hx => cases hx; exact ⟨C, 0, rfl, hC.lt, aw_ins hC rfl rfl rfl rfl rfl rfl rfl (rd_nilI w) (fun _ => rfl)⟩
    | 2, hx => cases hx; exact ⟨C, 0, rfl, hC.lt, aw_ins hC rfl rfl rfl rfl rfl rfl rfl (rd_nilI w) (fun _ => rfl)⟩
    | 3, hx => cases hx; exact ⟨C, 0, rfl, hC.lt, aw_ins hC rfl rfl rfl rfl rfl rfl rfl hl (fun h => by cases h)⟩
    | 4, hx => cases hx; exact ⟨C, 0, rfl, hC.lt, aw_ins hC rfl rfl rfl rfl rfl rfl rfl (rd_nilI w) (fun _ => rfl)⟩
    | i + 5, hx => simp [awB] at hx⟩
  exact ⟨rfl, fun i x hx => by
    match i, hx with
    | 0, hx => cases hx; exact ⟨B, 0, rfl, hB.lt, some ⟨C, 0, none⟩, 5, 5, hB.cell 0, hB.cell 1, hB.cell 2, hB.cell 3, hI⟩
    | i + 1, hx => simp [awC] at hx⟩
def awA (w : World) : World := w.alloc (.cells #[.int .i64 2] 3)
def awBw (w : World) : World := (awA w).alloc (.cells #[.int .i64 1, .int .i64 0, .int .i64 1, .int .i64 0, .int .i64 0, .string ⟨#[]⟩, .slice none 0 0,
  .int .i64 1, .int .i64 1, .int .i64 2, .int .i64 0, .int .i64 0, .string ⟨#[]⟩, .slice none 0 0,
  .int .i64 4, .int .i64 2, .int .i64 0, .int .i64 1, .int .i64 0, .string ⟨#[43]⟩, .slice none 0 0,
  .int .i64 36, .int .i64 0, .int .i64 0, .int .i64 0, .int .i64 0, .string ⟨#[0]⟩, .slice (some ⟨w.heap.size, 0, none⟩) 1 1,
  .int .i64 22, .int .i64 (-1), .int .i64 0, .int .i64 0, .int .i64 0, .string ⟨#[]⟩, .slice none 0 0] 55)
def awCw (w : World) : World := (awBw w).alloc (.cells #[.string ⟨#[97]⟩, .int .i64 3, .int .i64 0, .slice (some ⟨w.heap.size + 1, 0, none⟩) 5 5] 51)
def awW (w : World) : World := (awCw w).alloc (.cells #[.int .i64 0, .slice (some ⟨w.heap.size + 1 + 1, 0, none⟩) 1 1] 24)
set_option maxRecDepth 100000 in
set_option maxHeartbeats 8000000 in
theorem awake_any (w : World) (hV : VarsR w) : Calls Tryz.prog 10 #[] w fun e w' => e = .returned (.bool true) ∧ Below w.heap.size w w' := by
  have s1 : (awA w).heap.size = w.heap.size + 1 := World.size_alloc _ _
  have s2 : (awBw w).heap.size = w.heap.size + 1 + 1 := by unfold awBw; rw [World.size_alloc, s1]
  have s3 : (awCw w).heap.size = w.heap.size + 1 + 1 + 1 := by unfold awCw; rw [World.size_alloc, s2]
  have hL : BlkAt (awW w) w.heap.size 3 #[.int .i64 2] := (((BlkAt.new w _ _).alloc _).alloc _).alloc _
  have hC : BlkAt (awW w) (w.heap.size + 1) 55 (awCells ++ awTail w.heap.size).toArray := by rw [← s1]; exact ((BlkAt.new (awA w) _ _).alloc _).alloc _
  have hB : BlkAt (awW w) (w.heap.size + 1 + 1) 51 #[.string ⟨#[97]⟩, .int .i64 3, .int .i64 0, .slice (some ⟨w.heap.size + 1, 0, none⟩) 5 5] := by
    have h := (BlkAt.new (awBw w) 51 #[.string ⟨#[97]⟩, .int .i64 3, .int .i64 0, .slice (some ⟨w.heap.size + 1, 0, none⟩) 5 5]).alloc (.cells #[.int .i64 0, .slice (some ⟨w.heap.size + 1 + 1, 0, none⟩) 1 1] 24)
    rw [s2] at h; exact h
  have hD : BlkAt (awW w) (w.heap.size + 1 + 1 + 1) 24 #[.int .i64 0, .slice (some ⟨w.heap.size + 1 + 1, 0, none⟩) 1 1] := by
    have h := BlkAt.new (awCw w) 24 #[.int .i64 0, .slice (some ⟨w.heap.size + 1 + 1, 0, none⟩) 1 1]
    rw [s3] at h; exact h
  have hbel : Below w.heap.size w (awW w) := ((((Below.refl w.heap.size w).alloc (Nat.le_refl _) _).alloc (alloc_sz (Nat.le_refl _)) _).alloc (alloc_sz (alloc_sz (Nat.le_refl _))) _).alloc (alloc_sz (alloc_sz (alloc_sz (Nat.le_refl _)))) _
  have HBD := Lib.hid (aw_bods hL hC hB)
  have HBE := Lib.hid hbel
  have HVD := Lib.hid (hV.below hbel)
  have HD := Lib.hid hD
  have HIV := Lib.hid (Intervals_ok awC (some ⟨w.heap.size + 1 + 1, 0, none⟩) 1 1 0 awB (awW w) HBD.out aw_few HVD.out aw_chk rfl)
  have HAL := Lib.hid (fun W (hW : Below (awW w).heap.size (awW w) W) => Allocate_ok awC (some ⟨w.heap.size + 1 + 1, 0, none⟩) 1 1 0 2 awB W (bods_below HBD.out hW) aw_few (HVD.out.below hW) aw_chk rfl (by omega))
  simp only [codeV, show awC.globals = 0 from rfl, show ((0 : Nat) : Int) = 0 from rfl, show ((2 : Nat) : Int) = 2 from rfl] at HIV HAL
  clear hV hL hC hB hD hbel s1 s2 s3
  go_enter Tryz.func10, Tryz.ntmps10
  go_wp2_with (first
    | (go_at_call 16
       go_loud (refine HIV.out.mono ?_)
       rintro e w5 ⟨⟨ah, be, v5, hfx, rfl, hrow⟩, hb5⟩
       rw [show awB.regs.toNat = 3 from rfl, show ((3 : Nat) / 64 + 1) = 1 from rfl] at hfx
       rw [show awB.regs.toNat = 3 from rfl, aw_itv hfx] at hrow
       obtain ⟨A5, cc5, hv5, _, _, _⟩ := own_slice hrow
       subst hv5
       have HROW5 := Lib.hid (rd_own' encItv_len hrow)
       have HB5 := Lib.hid hb5
       have HAL5 := Lib.hid (HAL.out w5 hb5)
       have d0 := (HD.out.below hb5 HD.out.lt).cell 0
       have d1 := (HD.out.below hb5 HD.out.lt).cell 1
       simp only [List.getElem?_toArray, List.getElem?_cons_succ, List.getElem?_cons_zero] at d0 d1
       clear hfx hrow hb5 HIV HAL)
    | (go_at_call 11
       go_loud (refine HAL5.out.mono ?_)
       rintro e w6 ⟨⟨ah, be, vm, vs, p, hfx, hp, rfl, hm, hms⟩, hb6⟩
       rw [show awB.regs.toNat = 3 from rfl, show ((3 : Nat) / 64 + 1) = 1 from rfl] at hfx
       rw [show awB.regs.toNat = 3 from rfl, show awB.args.toNat = 0 from rfl, aw_itv hfx, aw_plan] at hp
       subst hp
       obtain ⟨A6, cc6, hv6, _, _, _⟩ := own_slice hm
       subst hv6
       obtain ⟨As6, cs6, hvs6, _, _, _⟩ := own_slice hms
       subst hvs6
       have hm2 : w6.ownsRow w5.heap.size 3 1 (.slice A6 3 cc6) ([0, 1, -1] : List Int).length (([0, 1, -1] : List Int).flatMap encI) := hm
       have HM6 := Lib.hid (rd_own' encI_len hm2)
       have HPB := Lib.hid (BlkAt.new w6 29 #[.slice A6 3 cc6, .slice As6 3 cs6, .int .i64 1])
       have HB6 := Lib.hid (HB5.out.trans (hb6.mono HB5.out.size))
       have HR6 := Lib.hid (HROW5.out.below hb6)
       clear hfx hm hm2 hms hb6 HAL5 HROW5 d0 d1)
    | (go_at_call 39
       have hb7 := ((Below.refl w6.heap.size w6).alloc (Nat.le_refl _) (.cells #[.slice A6 3 cc6, .slice As6 3 cs6, .int .i64 1] 29)).alloc (alloc_sz (Nat.le_refl _)) (.cells #[.int .i64 0, .int .i64 0, .int .i64 2, .int .i64 1, .int .i64 1, .int .i64 2, .int .i64 2, .int .i64 2, .int .i64 3] 44)
       have hq := HPB.out.alloc (.cells #[.int .i64 0, .int .i64 0, .int .i64 2, .int .i64 1, .int .i64 1, .int .i64 2, .int .i64 2, .int .i64 2, .int .i64 3] 44)
       refine (eqItvs_any A5 (some ⟨w6.heap.size + 1, 0, none⟩) 3 3 cc5 3 [⟨0, 0, 2⟩, ⟨1, 1, 2⟩, ⟨2, 2, 3⟩] [⟨0, 0, 2⟩, ⟨1, 1, 2⟩, ⟨2, 2, 3⟩] _ (HR6.out.below hb7) (rd_new encItv_len _ [⟨0, 0, 2⟩, ⟨1, 1, 2⟩, ⟨2, 2, 3⟩] 44 3 rfl _ rfl _ (World.size_alloc _ _).symm) (by omega) (by omega)).mono ?_
       rintro e w7 ⟨rfl, hb8⟩
       have HB7 := Lib.hid (HB6.out.trans ((hb7.mono HB6.out.size).trans (hb8.mono (Nat.le_trans HB6.out.size hb7.size))))
       have HM7 := Lib.hid ((HM6.out.below hb7).below hb8)
       have hq7 := hq.below hb8 hq.lt
       have q0 := hq7.cell 0
       simp only [List.getElem?_toArray, List.getElem?_cons_succ, List.getElem?_cons_zero] at q0
       clear hb7 hb8 hq hq7 HR6 HM6 HB6)
    | (go_at_call 35
       refine (equalI_any A6 (some ⟨w7.heap.size, 0, none⟩) 3 3 cc6 3 [0, 1, -1] [0, 1, -1] _ (HM7.out.below ((Below.refl w7.heap.size w7).alloc (Nat.le_refl _) _)) (rd_new encI_len _ [0, 1, -1] 3 3 rfl _ rfl _ rfl) (by omega) (by omega)).mono ?_
       rintro e w8 ⟨rfl, hb9⟩
       have HB8 := Lib.hid (HB7.out.trans ((((Below.refl w7.heap.size w7).alloc (Nat.le_refl _) (.cells #[.int .i64 0, .int .i64 1, .int .i64 (-1)] 3)).trans (hb9.mono (alloc_sz (Nat.le_refl _)))).mono HB7.out.size))
       clear hb9 HM7 HB7)
    | fail)
  go_ret
  exact ⟨rfl, HBE.out.trans (HB8.out.mono HBE.out.size)⟩
end Go.Proofs.YtpahhcmiimllaaaGreatDoor
