/- DERIVED. Homes and Moved of the program and of the reference, whatever the trace and the homes. -/
import Derived.Test.YtghjhlenkgkelaaRMoved
import Derived.Test.YtghjhlenkgkelaaHLaw
set_option linter.unusedSimpArgs false
set_option linter.unusedVariables false
namespace Go.Proofs.Ytghjhlenkgkelaa
open Go.RowKit Go.Shelf Go.Sort

set_option maxRecDepth 100000 in
theorem rHomes_err (A : Option Addr) (n c : Nat) (xs : List Acc) (w : World) (hl : n ≤ 5000) (hr : Trace w w.heap.size A n xs) (hg : givenL xs ≠ 0) :
    Calls Try.prog 19 #[.slice A n c] w fun e w' => e = .returned (.tuple #[.slice none 0 0, .int .i64 (givenL xs)]) ∧ Below w.heap.size w w' := by
  have hgiv := refGiven A n c xs w hl hr
  have h0b : (givenL xs != 0) = true := by simpa using hg
  clear hr hg
  generalize givenL xs = e0 at *
  go_enter Try.func19, Try.ntmps19
  go_wp2_with (go_at_call 30; refine hgiv.mono ?_; rintro e w1 ⟨rfl, hb1⟩; clear hgiv)
  go_ret2
  exact ⟨rfl, hb1⟩
set_option maxRecDepth 100000 in
theorem rHomes_many (A : Option Addr) (n c : Nat) (w : World) (hl : 5000 < n) (hm : n ≤ 9223372036854775807) :
    Calls Try.prog 19 #[.slice A n c] w fun e w' => e = .returned (.tuple #[.slice none 0 0, .int .i64 5]) ∧ Below w.heap.size w w' := by
  have hgiv := refGiven_many A n c w hl hm
  go_enter Try.func19, Try.ntmps19
  go_wp2_with (go_at_call 30; refine hgiv.mono ?_; rintro e w1 ⟨rfl, rfl⟩; clear hgiv)
  go_ret2
  exact ⟨rfl, Below.refl _ _⟩
set_option maxRecDepth 100000 in
theorem Homes_many (A : Option Addr) (n c : Nat) (w : World) (hl : 5000 < n) (hm : n ≤ 9223372036854775807) :
    Calls Try.prog 18 #[.slice A n c] w fun e w' => e = .returned (.tuple #[.slice none 0 0, .int .i64 5]) ∧ Below w.heap.size w w' := by
  have hgiv := given_many A n c w hl hm
  go_enter Try.func18, Try.ntmps18
  go_wp2_with (go_at_call 22; refine hgiv.mono ?_; rintro e w1 ⟨rfl, rfl⟩; clear hgiv)
  go_ret2
  exact ⟨rfl, Below.refl _ _⟩
set_option maxRecDepth 100000 in
theorem rMoved_gerr (A AH : Option Addr) (n c m ch : Nat) (xs : List Acc) (w : World) (hl : n ≤ 5000) (hr : Trace w w.heap.size A n xs) (hg : givenL xs ≠ 0) :
    Calls Try.prog 21 #[.slice A n c, .slice AH m ch] w fun e w' => e = .returned (.tuple #[.slice none 0 0, .int .i64 (givenL xs)]) ∧ Below w.heap.size w w' := by
  have hgiv := refGiven A n c xs w hl hr
  have h0b : (givenL xs != 0) = true := by simpa using hg
  clear hr hg
  generalize givenL xs = e0 at *
  go_enter Try.func21, Try.ntmps21
  go_wp2_with (go_at_call 30; refine hgiv.mono ?_; rintro e w1 ⟨rfl, hb1⟩; clear hgiv)
  go_ret2
  exact ⟨rfl, hb1⟩
set_option maxRecDepth 100000 in
theorem Moved_gerr (A AH : Option Addr) (n c m ch : Nat) (xs : List Acc) (w : World) (hl : n ≤ 5000) (hr : Trace w w.heap.size A n xs) (hg : givenL xs ≠ 0) :
    Calls Try.prog 20 #[.slice A n c, .slice AH m ch] w fun e w' => e = .returned (.tuple #[.slice none 0 0, .int .i64 (givenL xs)]) ∧ Below w.heap.size w w' := by
  have hgiv := given_any A n c xs w hl hr
  have h0b : (givenL xs != 0) = true := by simpa using hg
  clear hr hg
  generalize givenL xs = e0 at *
  go_enter Try.func20, Try.ntmps20
  go_wp2_with (go_at_call 22; refine hgiv.mono ?_; rintro e w1 ⟨rfl, hb1⟩; clear hgiv)
  go_ret2
  exact ⟨rfl, hb1⟩
set_option maxRecDepth 100000 in
theorem rMoved_many (A AH : Option Addr) (n c m ch : Nat) (w : World) (hl : 5000 < n) (hm : n ≤ 9223372036854775807) :
    Calls Try.prog 21 #[.slice A n c, .slice AH m ch] w fun e w' => e = .returned (.tuple #[.slice none 0 0, .int .i64 5]) ∧ Below w.heap.size w w' := by
  have hgiv := refGiven_many A n c w hl hm
  go_enter Try.func21, Try.ntmps21
  go_wp2_with (go_at_call 30; refine hgiv.mono ?_; rintro e w1 ⟨rfl, rfl⟩; clear hgiv)
  go_ret2
  exact ⟨rfl, Below.refl _ _⟩
set_option maxRecDepth 100000 in
theorem Moved_many (A AH : Option Addr) (n c m ch : Nat) (w : World) (hl : 5000 < n) (hm : n ≤ 9223372036854775807) :
    Calls Try.prog 20 #[.slice A n c, .slice AH m ch] w fun e w' => e = .returned (.tuple #[.slice none 0 0, .int .i64 5]) ∧ Below w.heap.size w w' := by
  have hgiv := given_many A n c w hl hm
  go_enter Try.func20, Try.ntmps20
  go_wp2_with (go_at_call 22; refine hgiv.mono ?_; rintro e w1 ⟨rfl, rfl⟩; clear hgiv)
  go_ret2
  exact ⟨rfl, Below.refl _ _⟩

/-- some of the homes is no locale -/
def badH (hs : List Int) : Prop := ∃ h ∈ hs, h < 0 ∨ 8 ≤ h
theorem bad_step {hs : List Int} (hb : badH hs) {k : Nat} (hp : ∀ h ∈ hs.take k, 0 ≤ h ∧ h < 8) : k < hs.length := by
  refine Nat.lt_of_not_le fun hk => ?_
  obtain ⟨h, hh, hx⟩ := hb
  rw [List.take_of_length_le hk] at hp
  have := hp h hh
  omega
theorem good_step {hs : List Int} {k : Nat} {h : Int} (hp : ∀ h ∈ hs.take k, 0 ≤ h ∧ h < 8) (hh : hs[k]? = some h) (h1 : 0 ≤ h ∧ h < 8) : ∀ h ∈ hs.take (k + 1), 0 ≤ h ∧ h < 8 := by
  intro y hy
  rw [List.take_add_one, hh] at hy
  rcases List.mem_append.1 hy with hy | hy
  · exact hp y hy
  · simp at hy; subst hy; exact h1

set_option maxRecDepth 100000 in
set_option maxHeartbeats 2000000 in
theorem rMoved_cnt (A AH : Option Addr) (n c m ch : Nat) (xs : List Acc) (hs : List Int) (w : World) (hl : n ≤ 5000) (hr : Trace w w.heap.size A n xs) (hh : Sl w iv AH m hs) (hmm : m ≤ 9223372036854775807) (hg : givenL xs = 0) (hlen : hs.length ≠ (refS xs).length) :
    Calls Try.prog 21 #[.slice A n c, .slice AH m ch] w fun e w' => e = .returned (.tuple #[.slice none 0 0, .int .i64 5]) ∧ Below w.heap.size w w' := by
  have hgiv := refGiven A n c xs w hl hr
  rw [hg] at hgiv
  have HN := Lib.hid hr.len
  have HR := Lib.hid hr
  have hne : ((m : Int) != ((refS xs).length : Int)) = true := by have := hh.len; simp; omega
  clear hr hg hlen hh
  have hsl : (refS xs).length ≤ 5000 := by have := refS_len xs; have := HN.out; omega
  go_enter Try.func21, Try.ntmps21
  go_wp2_with (first
    | (go_at_call 30; refine hgiv.mono ?_; rintro e w1 ⟨rfl, hb1⟩; clear hgiv; have HB1 := Lib.hid hb1; have hs1 := hb1.size; have hsp := rspots_any A n c xs w1 hl ((HR.out.below hb1 (Nat.le_refl _)).mono hb1.size); clear hb1)
    | (go_at_call 33; refine hsp.mono ?_; rintro e w2 ⟨vs, rfl, hrow, hb2⟩; clear hsp; obtain ⟨As, cs, rfl, _, _, _⟩ := own_slice hrow; have HB2 := Lib.hid (HB1.out.trans (hb2.mono hs1)); clear hrow hb2))
  go_ret2
  exact ⟨rfl, HB2.out⟩
set_option maxRecDepth 100000 in
set_option maxHeartbeats 2000000 in
theorem rMoved_rng (A AH : Option Addr) (n c m ch : Nat) (xs : List Acc) (hs : List Int) (w : World) (hl : n ≤ 5000) (hr : Trace w w.heap.size A n xs) (hh : Sl w iv AH m hs) (hg : givenL xs = 0) (hlen : hs.length = (refS xs).length) (hbad : badH hs) :
    Calls Try.prog 21 #[.slice A n c, .slice AH m ch] w fun e w' => e = .returned (.tuple #[.slice none 0 0, .int .i64 4]) ∧ Below w.heap.size w w' := by
  have hgiv := refGiven A n c xs w hl hr
  rw [hg] at hgiv
  have HN := Lib.hid hr.len
  have HR := Lib.hid hr
  have HH := Lib.hid hh
  have HL := Lib.hid hlen
  have HBD := Lib.hid hbad
  clear hr hg hh hlen hbad
  go_enter Try.func21, Try.ntmps21
  go_wp2_with (first
    | (go_at_call 30; refine hgiv.mono ?_; rintro e w1 ⟨rfl, hb1⟩; clear hgiv; have HB1 := Lib.hid hb1; have hs1 := hb1.size; have hsp := rspots_any A n c xs w1 hl ((HR.out.below hb1 (Nat.le_refl _)).mono hb1.size); clear hb1)
    | (go_at_call 33; refine hsp.mono ?_; rintro e w2 ⟨vs, rfl, hrow, hb2⟩; clear hsp; obtain ⟨As, cs, rfl, _, _, _⟩ := own_slice hrow; have HB2 := Lib.hid (HB1.out.trans (hb2.mono hs1)); clear hrow hb2
       obtain rfl : m = (refS xs).length := by have h1 := HH.out.len; have h2 := HL.out; omega))
  have hsl : (refS xs).length ≤ 5000 := by have := refS_len xs; have := HN.out; omega
  have HL2 := Lib.hid HL.out
  clear HL
  generalize refS xs = sl at *
  go_loop [8] (fun i => ∃ k : Nat, k ≤ sl.length ∧ i = .int .i64 k ∧ Hid (∀ h ∈ hs.take k, 0 ≤ h ∧ h < 8)) (fun i => sl.length - (intOf i).toNat)
  case atStart => exact ⟨0, by omega, rfl, Lib.hid (by simp)⟩
  case round => as_aux_lemma =>
    obtain ⟨k, hk, rfl, HP⟩ := hrel
    have hlt : k < sl.length := by have := bad_step HBD.out HP.out; have := HL2.out; omega
    obtain ⟨h, hh⟩ := get_some (xs := hs) (k := k) (by have := HL2.out; omega)
    obtain ⟨bh, oh, rfl, hbh, hch⟩ := (HH.out.below HB2.out).at_ k h hh
    have hk0 : (0 : Int) ≤ (k : Int) := by omega
    have hk1 : (k : Int) < (sl.length : Int) := by omega
    have HHH := Lib.hid hh
    clear hh
    by_cases g1 : h < 0
    · have f1 : decide (h < 0) = true := decide_eq_true g1
      clear g1
      go_wp2
      go_ret2
      exact ⟨rfl, HB2.out⟩
    · by_cases g2 : 8 ≤ h
      · have f1 : decide (h < 0) = false := decide_eq_false g1
        have f2 : decide ((8 : Int) ≤ h) = true := decide_eq_true g2
        clear g1 g2
        go_wp2
        go_ret2
        exact ⟨rfl, HB2.out⟩
      · have f1 : decide (h < 0) = false := decide_eq_false g1
        have f2 : decide ((8 : Int) ≤ h) = false := decide_eq_false g2
        go_wp2
        go_round
        case rel => exact ⟨k + 1, by omega, by go_num, Lib.hid (good_step HP.out HHH.out (by omega))⟩
        case measure => simp [intOf]; omega

set_option maxRecDepth 100000 in
set_option maxHeartbeats 2000000 in
theorem Moved_cnt (A AH : Option Addr) (n c m ch : Nat) (xs : List Acc) (hs : List Int) (w : World) (hl : n ≤ 5000) (hr : Trace w w.heap.size A n xs) (hh : Sl w iv AH m hs) (hmm : m ≤ 9223372036854775807) (hg : givenL xs = 0) (hlen : hs.length ≠ (refS xs).length) :
    Calls Try.prog 20 #[.slice A n c, .slice AH m ch] w fun e w' => e = .returned (.tuple #[.slice none 0 0, .int .i64 5]) ∧ Below w.heap.size w w' := by
  have hgiv := given_any A n c xs w hl hr
  rw [hg] at hgiv
  have HN := Lib.hid hr.len
  have HR := Lib.hid hr
  have HNE : Hid (∀ q, q = (refS xs).length → ((m : Int) != (q : Int)) = true) := Lib.hid (fun q e => by have := hh.len; simp; omega)
  clear hr hg hlen hh
  have hsl : (refS xs).length ≤ 5000 := by have := refS_len xs; have := HN.out; omega
  go_enter Try.func20, Try.ntmps20
  go_wp2_with (first
    | (go_at_call 22; refine hgiv.mono ?_; rintro e w1 ⟨rfl, hb1⟩; clear hgiv; have HB1 := Lib.hid hb1; have hs1 := hb1.size; have hsp := spots_any A n c xs w1 hl ((HR.out.below hb1 (Nat.le_refl _)).mono hb1.size); clear hb1)
    | (go_at_call 29
       refine hsp.mono ?_
       rintro e w2 ⟨vs, ss, rfl, hp, hs2, hrow, hb2⟩
       clear hsp
       obtain ⟨As, cs, rfl, _, _, _⟩ := own_slice hrow
       have hssl : ss.length = (refS xs).length := by rw [refS_spots]; have := hp.length_eq; simpa using this
       have hne := HNE.out _ hssl
       have hss5 : ss.length ≤ 5000 := by omega
       have HB2 := Lib.hid (HB1.out.trans (hb2.mono hs1))
       clear hp hs2 hrow hb2 hssl))
  go_ret2
  exact ⟨rfl, HB2.out⟩
set_option maxRecDepth 100000 in
set_option maxHeartbeats 2000000 in
theorem Moved_rng (A AH : Option Addr) (n c m ch : Nat) (xs : List Acc) (hs : List Int) (w : World) (hl : n ≤ 5000) (hr : Trace w w.heap.size A n xs) (hh : Sl w iv AH m hs) (hg : givenL xs = 0) (hlen : hs.length = (refS xs).length) (hbad : badH hs) :
    Calls Try.prog 20 #[.slice A n c, .slice AH m ch] w fun e w' => e = .returned (.tuple #[.slice none 0 0, .int .i64 4]) ∧ Below w.heap.size w w' := by
  have hgiv := given_any A n c xs w hl hr
  rw [hg] at hgiv
  have HN := Lib.hid hr.len
  have HR := Lib.hid hr
  have HH := Lib.hid hh
  have HL : Hid (hs.length = (spotsR xs).length) := Lib.hid (by rw [hlen, refS_spots])
  have HBD := Lib.hid hbad
  have hmm := @run_makeMap Try.prog
  clear hr hg hlen hbad hh
  go_enter Try.func20, Try.ntmps20
  go_wp2_with (first
    | (go_at_call 22; refine hgiv.mono ?_; rintro e w1 ⟨rfl, hb1⟩; clear hgiv; have HB1 := Lib.hid hb1; have hs1 := hb1.size; have hsp := spots_any A n c xs w1 hl ((HR.out.below hb1 (Nat.le_refl _)).mono hb1.size); clear hb1)
    | (go_at_call 29
       refine hsp.mono ?_
       rintro e w2 ⟨vs, ss, rfl, hp, hs2, hrow, hb2⟩
       clear hsp
       obtain ⟨As, cs, rfl, _, _, _⟩ := own_slice hrow
       have hms : m = ss.length := by
         have h1 := HH.out.len; have h2 := HL.out; have h3 := hp.length_eq; rw [List.length_map] at h3; omega
       subst hms
       have HP := Lib.hid hp
       have HROW := Lib.hid hrow
       have HB2 := Lib.hid (HB1.out.trans (hb2.mono hs1))
       have hs22 : w.heap.size ≤ w2.heap.size := HB2.out.size
       clear hp hs2 hrow hb2))
  have HM0 := Lib.hid (MapOf.made (enc := enc3) (encV := iv) w2)
  have HB0 : Hid (Below w2.heap.size w2 (w2.alloc (.map #[] 0))) := Lib.hid ((Below.refl _ _).alloc (Nat.le_refl _) _)
  have HND : Hid ss.Nodup := Lib.hid (HP.out.nodup_iff.2 (spots_nodup xs))
  have hssl : ss.length ≤ 5000 := by
    have h1 := HP.out.length_eq; have h2 := spotsR_len xs; have h3 := HN.out; rw [List.length_map] at h1; omega
  go_loopw [28] (fun i wr => ∃ k : Nat, k ≤ ss.length ∧ i = .int .i64 k ∧ MapOf enc3 iv wr w2.heap.size ((ss.zip hs).take k) ∧ Below w2.heap.size w2 wr ∧ Hid (∀ h ∈ hs.take k, 0 ≤ h ∧ h < 8)) (fun i _ => ss.length - (intOf i).toNat)
  case atStart => exact ⟨0, by omega, rfl, HM0.out, HB0.out, Lib.hid (by simp)⟩
  case round => as_aux_lemma =>
    obtain ⟨k, hk, rfl, hm, hb, HPR⟩ := hrel
    have hlt : k < ss.length := by have := bad_step HBD.out HPR.out; have := HH.out.len; omega
    obtain ⟨p, hp⟩ := get_some hlt
    obtain ⟨h, hh⟩ := get_some (xs := hs) (k := k) (by have := HH.out.len; omega)
    obtain ⟨s0, hs0⟩ := look_of_key (HP.out.mem_iff.1 (List.mem_of_getElem? hp))
    have hpl := spot_place xs p s0 hs0
    have hbw : Below w.heap.size w wr := HB2.out.trans (hb.mono hs22)
    obtain ⟨bh, oh, rfl, hbh, hch⟩ := (HH.out.below hbw).at_ k h hh
    have hrow2 := HROW.out.kept (grown_of_below (row := none) hb) (none_or _)
    have hmap : (ss.map (fun x => (look (spotsR xs) x).getD spot0))[k]? = some s0 := by rw [List.getElem?_map, hp]; simp [hs0]
    obtain ⟨gs, rfl, hgs, hcs⟩ := row_cells' hrow2 (by omega)
    have hc := fun (i : Nat) (u : Value) (hu : (encSL s0)[i]? = some u) => hcs _ _ (flat_at (enc := encSL) (k := 7) (fun _ => rfl) hmap hu)
    have d0 := hc 0 _ rfl
    have d1 := hc 1 _ rfl
    have d2 := hc 2 _ rfl
    rw [Nat.add_zero] at d0
    rw [hpl] at d0 d1 d2
    have HU := Lib.hid (upd_zip HND.out hp hh)
    have HHH := Lib.hid hh
    have hk0 : (0 : Int) ≤ (k : Int) := by omega
    have hk1 : (k : Int) < (ss.length : Int) := by omega
    have HB := Lib.hid hb
    have HBW := Lib.hid hbw
    clear hc hcs hrow2 hmap hp hh hs0 hpl hbw hb
    unfold enc3 at hm
    by_cases g1 : h < 0
    · have f1 : decide (h < 0) = true := decide_eq_true g1
      clear g1
      go_wp2
      go_ret2
      exact ⟨rfl, HBW.out⟩
    · by_cases g2 : 8 ≤ h
      · have f1 : decide (h < 0) = false := decide_eq_false g1
        have f2 : decide ((8 : Int) ≤ h) = true := decide_eq_true g2
        clear g1 g2
        go_wp2
        go_ret2
        exact ⟨rfl, HBW.out⟩
      · have f1 : decide (h < 0) = false := decide_eq_false g1
        have f2 : decide ((8 : Int) ≤ h) = false := decide_eq_false g2
        go_wp2_with (at_mapUpdate; refine wpList_mapUpdate_of _ rfl _ _ _ 100 rfl 3 mkey3 Try.underlying100 w2.heap.size ((ss.zip hs).take k) rfl hm p rfl h rfl ?_; intro w5 hm5 hg5 hs5)
        go_roundw
        case rel => exact ⟨k + 1, by omega, by go_num, by rw [← HU.out]; exact hm5, HB.out.grown hg5 HB.out.size (fun j e => by cases e; exact Nat.le_refl _), Lib.hid (good_step HPR.out HHH.out (by omega))⟩
        case measure => simp [intOf]; omega

/-- the error of Homes and of Moved -/
def hoOut (xs : List Acc) : List Int := if givenL xs = 0 then (refH xs).map (fun h : Nat => (h : Int)) else []
open Classical in
noncomputable def mvErr (xs : List Acc) (hs : List Int) : Int := if givenL xs ≠ 0 then givenL xs else if hs.length ≠ (refS xs).length then 5 else if badH hs then 4 else 0
open Classical in
noncomputable def mvOut (xs : List Acc) (hs : List Int) : List Acc := if givenL xs ≠ 0 ∨ hs.length ≠ (refS xs).length ∨ badH hs then [] else xs.map (refM xs hs)
def HoC (w : World) (e0 : Int) (out : List Int) (e : Ending) (w' : World) : Prop := ∃ v, e = .returned (.tuple #[v, .int .i64 e0]) ∧ w'.ownsRow w.heap.size 3 1 v out.length (out.map iv) ∧ Below w.heap.size w w'
def MvC (w : World) (e0 : Int) (out : List Acc) (e : Ending) (w' : World) : Prop := ∃ v, e = .returned (.tuple #[v, .int .i64 e0]) ∧ w'.ownsRow w.heap.size 46 7 v out.length (out.flatMap accL) ∧ Below w.heap.size w w'
theorem iv_map (hs : List Nat) : (hs.map (fun h : Nat => (h : Int))).map iv = hs.map intV := by rw [List.map_map]; rfl
theorem Homes_all (A : Option Addr) (n c : Nat) (xs : List Acc) (w : World) (hl : n ≤ 5000) (hr : Trace w w.heap.size A n xs) :
    Calls Try.prog 18 #[.slice A n c] w (HoC w (givenL xs) (hoOut xs)) := by
  by_cases hg : givenL xs = 0
  · refine (Homes_any A n c xs w hl hr hg).mono ?_
    rintro e w' ⟨v, hs, rfl, h1, h2, h3⟩
    obtain rfl := homes_ref h1
    refine ⟨v, by rw [hg], ?_, h3⟩
    unfold hoOut; rw [if_pos hg, iv_map, List.length_map]; exact h2
  · refine (Homes_err A n c xs w hl hr hg).mono ?_
    rintro e w' ⟨rfl, h3⟩
    refine ⟨_, rfl, ?_, h3⟩
    unfold hoOut; rw [if_neg hg]; exact World.ownsRow_nil _ _ _ _
theorem rHomes_all (A : Option Addr) (n c : Nat) (xs : List Acc) (w : World) (hl : n ≤ 5000) (hr : Trace w w.heap.size A n xs) :
    Calls Try.prog 19 #[.slice A n c] w (HoC w (givenL xs) (hoOut xs)) := by
  by_cases hg : givenL xs = 0
  · refine (rHomes_any A n c xs w hl hr hg).mono ?_
    rintro e w' ⟨v, rfl, h2, h3⟩
    refine ⟨v, by rw [hg], ?_, h3⟩
    unfold hoOut; rw [if_pos hg, iv_map, List.length_map]; exact h2
  · refine (rHomes_err A n c xs w hl hr hg).mono ?_
    rintro e w' ⟨rfl, h3⟩
    refine ⟨_, rfl, ?_, h3⟩
    unfold hoOut; rw [if_neg hg]; exact World.ownsRow_nil _ _ _ _
theorem Moved_all (A AH : Option Addr) (n c m ch : Nat) (xs : List Acc) (hs : List Int) (w : World) (hl : n ≤ 5000) (hr : Trace w w.heap.size A n xs) (hh : Sl w iv AH m hs) (hmm : m ≤ 9223372036854775807) :
    Calls Try.prog 20 #[.slice A n c, .slice AH m ch] w (MvC w (mvErr xs hs) (mvOut xs hs)) := by
  by_cases hg : givenL xs = 0
  · by_cases hlen : hs.length = (refS xs).length
    · by_cases hb : badH hs
      · refine (Moved_rng A AH n c m ch xs hs w hl hr hh hg hlen hb).mono ?_
        rintro e w' ⟨rfl, h3⟩
        refine ⟨.slice none 0 0, by simp [mvErr, hg, hlen, hb], ?_, h3⟩
        rw [mvOut, if_pos (.inr (.inr hb))]; exact World.ownsRow_nil _ _ _ _
      · refine (Moved_any A AH n c m ch xs hs w hl hr hh hg (by rw [hlen, refS_spots]) (fun h hm => Classical.byContradiction fun hx => hb ⟨h, hm, by omega⟩)).mono ?_
        rintro e w' ⟨v, ys, rfl, h1, h2, h3⟩
        obtain rfl := moved_ref h1 hlen
        refine ⟨v, by simp [mvErr, hg, hlen, hb], ?_, h3⟩
        have hn : (xs.map (refM xs hs)).length = n := by rw [List.length_map]; exact hr.len.symm
        rw [mvOut, if_neg (by simp [hg, hlen, hb]), hn]; exact h2
    · refine (Moved_cnt A AH n c m ch xs hs w hl hr hh hmm hg hlen).mono ?_
      rintro e w' ⟨rfl, h3⟩
      refine ⟨.slice none 0 0, by simp [mvErr, hg, hlen], ?_, h3⟩
      rw [mvOut, if_pos (.inr (.inl hlen))]; exact World.ownsRow_nil _ _ _ _
  · refine (Moved_gerr A AH n c m ch xs w hl hr hg).mono ?_
    rintro e w' ⟨rfl, h3⟩
    refine ⟨.slice none 0 0, by simp [mvErr, hg], ?_, h3⟩
    rw [mvOut, if_pos (.inl hg)]; exact World.ownsRow_nil _ _ _ _
theorem rMoved_all (A AH : Option Addr) (n c m ch : Nat) (xs : List Acc) (hs : List Int) (w : World) (hl : n ≤ 5000) (hr : Trace w w.heap.size A n xs) (hh : Sl w iv AH m hs) (hmm : m ≤ 9223372036854775807) :
    Calls Try.prog 21 #[.slice A n c, .slice AH m ch] w (MvC w (mvErr xs hs) (mvOut xs hs)) := by
  by_cases hg : givenL xs = 0
  · by_cases hlen : hs.length = (refS xs).length
    · by_cases hb : badH hs
      · refine (rMoved_rng A AH n c m ch xs hs w hl hr hh hg hlen hb).mono ?_
        rintro e w' ⟨rfl, h3⟩
        refine ⟨.slice none 0 0, by simp [mvErr, hg, hlen, hb], ?_, h3⟩
        rw [mvOut, if_pos (.inr (.inr hb))]; exact World.ownsRow_nil _ _ _ _
      · refine (rMoved_any A AH n c m ch xs hs w hl hr hh hg hlen (fun h hm => Classical.byContradiction fun hx => hb ⟨h, hm, by omega⟩)).mono ?_
        rintro e w' ⟨v, rfl, h2, h3⟩
        refine ⟨v, by simp [mvErr, hg, hlen, hb], ?_, h3⟩
        have hn : (xs.map (refM xs hs)).length = n := by rw [List.length_map]; exact hr.len.symm
        rw [mvOut, if_neg (by simp [hg, hlen, hb]), hn]; exact h2
    · refine (rMoved_cnt A AH n c m ch xs hs w hl hr hh hmm hg hlen).mono ?_
      rintro e w' ⟨rfl, h3⟩
      refine ⟨.slice none 0 0, by simp [mvErr, hg, hlen], ?_, h3⟩
      rw [mvOut, if_pos (.inr (.inl hlen))]; exact World.ownsRow_nil _ _ _ _
  · refine (rMoved_gerr A AH n c m ch xs w hl hr hg).mono ?_
    rintro e w' ⟨rfl, h3⟩
    refine ⟨.slice none 0 0, by simp [mvErr, hg], ?_, h3⟩
    rw [mvOut, if_pos (.inl hg)]; exact World.ownsRow_nil _ _ _ _
end Go.Proofs.Ytghjhlenkgkelaa
