/- DERIVED. The bits of a word, one by one. -/
import Derived.Lib.TrailingZeros
set_option linter.unusedSimpArgs false
set_option linter.unusedVariables false
namespace Go.Proofs.YtpahhcmiimllaaaGreatDoor

structure InsL where
  op : Int
  a : Int
  b : Int
  c : Int
  d : Int
  text : List UInt8
  list : List Int
  deriving DecidableEq, Inhabited
structure BodyL where
  name : List UInt8
  regs : Int
  args : Int
  code : List InsL
  deriving DecidableEq, Inhabited
structure CodeL where
  globals : Int
  bodies : List BodyL
  deriving DecidableEq, Inhabited
/-- kinds of fields: 0 none, 1 read, 2 read or -1, 3 written, 4 written or -1, 5 number, 6 global, 7 target, 8 body, 9 dimension, 10 kind of maps -/
def kindsT : List (Int × Int × Int × Int) :=
  [(0, 0, 0, 0), (3, 5, 0, 0), (3, 1, 0, 0), (3, 1, 0, 0), (3, 1, 1, 0), (3, 6, 0, 0), (6, 1, 0, 0), (3, 1, 1, 0), (3, 1, 1, 0), (3, 1, 1, 0),
   (3, 0, 0, 0), (3, 1, 10, 2), (3, 1, 0, 0), (3, 0, 0, 0), (3, 0, 0, 0), (3, 1, 0, 0), (3, 1, 9, 1), (3, 1, 0, 0), (1, 1, 0, 0), (0, 0, 7, 0),
   (1, 0, 7, 0), (4, 8, 0, 0), (2, 0, 0, 0), (3, 0, 0, 0), (3, 0, 0, 0), (1, 0, 0, 0), (3, 0, 0, 0), (2, 8, 0, 0), (1, 0, 0, 0), (3, 0, 0, 0),
   (0, 0, 0, 0), (3, 1, 0, 0), (3, 1, 9, 1), (3, 1, 9, 1), (4, 1, 2, 0), (4, 1, 0, 0), (0, 0, 0, 0), (1, 0, 0, 0)]
def kindsOf (op : Int) : Int × Int × Int × Int := kindsT.getD op.toNat (0, 0, 0, 0)
/-- the texts of an instruction; none: it takes no text -/
def wordsU : List (List UInt8) := [[45], [33]]
def wordsB : List (List UInt8) := [[43], [45], [42], [47], [37], [61, 61], [33, 61], [60], [60, 61], [62], [62, 61], [109, 105, 110], [109, 97, 120], [38, 38], [124, 124]]
def wordsF : List (List UInt8) := [[115, 105, 122, 101], [108, 111, 119], [104, 105, 103, 104], [115, 116, 114, 105, 100, 101], [100, 111, 109, 97, 105, 110]]
def wordsCe : List (List UInt8) := [[114, 101, 97, 100, 70, 69], [114, 101, 97, 100, 70, 70], [114, 101, 97, 100, 88, 88], [119, 114, 105, 116, 101, 69, 70], [119, 114, 105, 116, 101, 70, 70], [119, 114, 105, 116, 101, 88, 70], [114, 101, 115, 101, 116], [105, 115, 70, 117, 108, 108]]
def wordsAt : List (List UInt8) := [[114, 101, 97, 100], [119, 114, 105, 116, 101], [97, 100, 100], [102, 101, 116, 99, 104, 65, 100, 100], [101, 120, 99, 104, 97, 110, 103, 101], [99, 111, 109, 112, 97, 114, 101, 65, 110, 100, 83, 119, 97, 112]]
def textsOf (op : Int) : List (List UInt8) :=
  if op = 3 then wordsU else if op = 4 then wordsB else if op = 15 then wordsF else if op = 34 then wordsCe else if op = 35 then wordsAt else []
/-- is a field right? -/
def fieldB (c : CodeL) (b : BodyL) (k n : Int) : Bool :=
  if k = 0 then decide (n = 0)
  else if k = 1 ∨ k = 3 then decide (0 ≤ n) && decide (n < b.regs)
  else if k = 2 ∨ k = 4 then decide (-1 ≤ n) && decide (n < b.regs)
  else if k = 6 then decide (0 ≤ n) && decide (n < c.globals)
  else if k = 7 then decide (0 ≤ n) && decide (n < b.code.length)
  else if k = 8 then decide (0 ≤ n) && decide (n < c.bodies.length)
  else if k = 9 then decide (n = 0) || decide (n = 1)
  else if k = 10 then decide (1 ≤ n) && decide (n ≤ 4)
  else true
def readW : List UInt8 := [114, 101, 97, 100]
def casW : List UInt8 := [99, 111, 109, 112, 97, 114, 101, 65, 110, 100, 83, 119, 97, 112]
/-- the least and the greatest length of the list -/
def lengthsOf (c : CodeL) (i : InsL) : Int × Int :=
  if i.op = 10 ∨ i.op = 17 ∨ i.op = 18 then (1, 2)
  else if i.op = 21 ∨ i.op = 27 then ((c.bodies.getD i.b.toNat default).args, (c.bodies.getD i.b.toNat default).args)
  else if i.op = 33 then (1, 1)
  else if i.op = 35 then (if i.text = readW then (0, 0) else if i.text = casW then (2, 2) else (1, 1))
  else if i.op = 36 then ((i.text.count 0 : Nat), (i.text.count 0 : Nat))
  else (0, 0)
def byteOK (x : UInt8) : Bool := x == 0 || (decide (32 ≤ x) && decide (x ≤ 126))
def textOK (i : InsL) : Bool := if i.op = 36 then i.text.all byteOK else if textsOf i.op = [] then decide (i.text = []) else decide (i.text ∈ textsOf i.op)
def insOK (c : CodeL) (b : BodyL) (i : InsL) : Bool :=
  decide (1 ≤ i.op) && decide (i.op ≤ 37) &&
  fieldB c b (kindsOf i.op).1 i.a && fieldB c b (kindsOf i.op).2.1 i.b && fieldB c b (kindsOf i.op).2.2.1 i.c && fieldB c b (kindsOf i.op).2.2.2 i.d &&
  textOK i && decide ((lengthsOf c i).1 ≤ i.list.length) && decide ((i.list.length : Int) ≤ (lengthsOf c i).2) && i.list.all (fieldB c b 1)
def letC (c : UInt8) : Bool := (97 ≤ c && c ≤ 122) || (65 ≤ c && c ≤ 90) || c == 95
def digC (c : UInt8) : Bool := 48 ≤ c && c ≤ 57
def namedB (s : List UInt8) : Bool := decide (1 ≤ s.length) && decide (s.length ≤ 60) && !(digC (s.headD 0)) && s.all (fun c => letC c || digC c)
def lastOp (b : BodyL) : Int := (b.code.getLast?.map (·.op)).getD 0
def bodyOK (c : CodeL) (k : Nat) (b : BodyL) : Bool :=
  namedB b.name && decide (0 ≤ b.args) && decide (b.args ≤ b.regs) && !(decide (k = 0) && decide (0 < b.args)) && decide (b.code ≠ []) &&
  (decide (lastOp b = 22) || decide (lastOp b = 19)) && b.code.all (insOK c b)
def totalI : List BodyL → Nat
  | [] => 0
  | b :: r => b.code.length + totalI r
def allBodies (c : CodeL) : Nat → List BodyL → Bool
  | _, [] => true
  | k, b :: r => bodyOK c k b && allBodies c (k + 1) r
/-- the error of code -/
def chkC (c : CodeL) : Int :=
  if c.bodies = [] ∨ 800 < c.bodies.length ∨ 20000 < totalI c.bodies ∨ c.globals < 0 ∨ 1000 < c.globals then 5
  else if c.bodies.any (fun b => decide (5000 < b.regs)) then 5
  else if allBodies c 0 c.bodies then 0 else 190
/-- few and short instructions -/
def smallI (i : InsL) : Bool := decide (i.text.length ≤ 300) && decide (i.list.length ≤ 100)
def smallGo (most : Nat) : Nat → List BodyL → Bool
  | _, [] => true
  | n, b :: r => decide (n + 1 + b.code.length ≤ most) && decide (b.name.length ≤ 200) && b.code.all smallI && smallGo most (n + 1 + b.code.length) r
def smallC (most : Nat) (c : CodeL) : Bool := smallGo most 0 c.bodies
/-- the registers that an instruction reads, and the one that it writes -/
def kindRead (k : Int) : Bool := k == 1 || k == 2
def kindWrite (k : Int) : Bool := k == 3 || k == 4
def fieldsOf (i : InsL) : List (Int × Int) := [((kindsOf i.op).1, i.a), ((kindsOf i.op).2.1, i.b), ((kindsOf i.op).2.2.1, i.c), ((kindsOf i.op).2.2.2, i.d)]
def opOK (op : Int) : Bool := decide (1 ≤ op) && decide (op ≤ 37)
def usesR (i : InsL) : List Int := if opOK i.op then (((fieldsOf i).filter (fun f => kindRead f.1)).map (·.2) ++ i.list).filter (· != -1) else []
def usesW (i : InsL) : Int := if opOK i.op then (((fieldsOf i).filter (fun f => kindWrite f.1)).map (·.2)).getLast?.getD (-1) else -1
/-- the instructions that may follow -/
def nextL (k : Nat) (i : InsL) : List Nat :=
  if i.op = 22 then [] else if i.op = 19 then [i.c.toNat] else if i.op = 20 then [k + 1, i.c.toNat] else [k + 1]
/-- live ahead of an instruction -/
inductive LiveA (code : List InsL) : Nat → Int → Prop
  | read {k : Nat} {x : InsL} {r : Int} : code[k]? = some x → r ∈ usesR x → LiveA code k r
  | pass {k n : Nat} {x : InsL} {r : Int} : code[k]? = some x → r ≠ usesW x → n ∈ nextL k x → LiveA code n r → LiveA code k r
/-- live behind an instruction -/
def LiveB (code : List InsL) (k : Nat) (r : Int) : Prop := ∃ x n, code[k]? = some x ∧ n ∈ nextL k x ∧ LiveA code n r
end Go.Proofs.YtpahhcmiimllaaaGreatDoor
namespace Go.Proofs.YtpahhcmiimllaaaGreatDoor

theorem live_iff {code : List InsL} {k : Nat} {r : Int} : LiveA code k r ↔ ∃ x, code[k]? = some x ∧ (r ∈ usesR x ∨ (r ≠ usesW x ∧ LiveB code k r)) := by
  constructor
  · intro h
    cases h with
    | read hx hr => exact ⟨_, hx, .inl hr⟩
    | pass hx hw hn h => exact ⟨_, hx, .inr ⟨hw, _, _, hx, hn, h⟩⟩
  · rintro ⟨x, hx, h | ⟨hw, y, n, hy, hn, h⟩⟩
    · exact .read hx h
    · rw [hx] at hy; cases hy
      exact .pass hx hw hn h
/-- sets that hold what the rules ask hold all that is live -/
theorem live_sub {code : List InsL} {S : Nat → Int → Prop} (h1 : ∀ k x r, code[k]? = some x → r ∈ usesR x → S k r) (h2 : ∀ k x n r, code[k]? = some x → n ∈ nextL k x → S n r → r ≠ usesW x → S k r) : ∀ {k r}, LiveA code k r → S k r := by
  intro k r h
  induction h with
  | read hx hr => exact h1 _ _ _ hx hr
  | pass hx hw hn _ ih => exact h2 _ _ _ _ hx hn ih hw
/-- what is live is a register that some instruction reads -/
theorem live_reg {code : List InsL} {P : Int → Prop} (h : ∀ x ∈ code, ∀ r ∈ usesR x, P r) {k : Nat} {r : Int} (hl : LiveA code k r) : P r := by
  induction hl with
  | read hx hr => exact h _ (List.mem_of_getElem? hx) _ hr
  | pass _ _ _ _ ih => exact ih
theorem live_lt {code : List InsL} {k : Nat} {r : Int} (hl : LiveA code k r) : k < code.length := by
  cases hl with
  | read hx _ => exact (List.getElem?_eq_some_iff.1 hx).1
  | pass hx _ _ _ => exact (List.getElem?_eq_some_iff.1 hx).1
end Go.Proofs.YtpahhcmiimllaaaGreatDoor
namespace Go.Proofs.YtpahhcmiimllaaaGreatDoor

structure Itv where
  reg : Nat
  frm : Nat
  to : Nat
  deriving DecidableEq, Inhabited
structure Pln where
  mach : List Int
  slot : List Int
  slots : Int
  deriving DecidableEq
structure Scn where
  free : List Int
  active : List Itv
  p : Pln
def pushL (l : List Int) (x : Int) : List Int := l.takeWhile (fun y => decide (y < x)) ++ x :: l.dropWhile (fun y => decide (y < x))
def gone (v a : Itv) : Bool := decide (a.to < v.frm)
def freed (m : List Int) (f : List Int) (as : List Itv) : List Int := as.foldl (fun f a => pushL f (m.getD a.reg (-1))) f
def worse (a b : Itv) : Bool := decide (b.to < a.to) || (decide (a.to = b.to) && decide (b.reg < a.reg))
def worstOf (v : Itv) (as : List Itv) : Itv := as.foldl (fun w a => if worse a w then a else w) v
def spill (args : Nat) (x : Itv) (p : Pln) : Pln := if args ≤ x.reg then ⟨p.mach, p.slot.set x.reg p.slots, p.slots + 1⟩ else p
def scanStep (args : Nat) (s : Scn) (v : Itv) : Scn :=
  let f := freed s.p.mach s.free (s.active.filter (gone v))
  let as := s.active.filter (fun a => !gone v a)
  match f with
  | m :: rest => ⟨rest, as ++ [v], ⟨s.p.mach.set v.reg m, s.p.slot, s.p.slots⟩⟩
  | [] =>
    let x := worstOf v as
    let p := spill args x s.p
    if x = v then ⟨[], as, p⟩ else ⟨[], as.filter (fun a => !decide (a = x)) ++ [v], ⟨(p.mach.set v.reg (p.mach.getD x.reg (-1))).set x.reg (-1), p.slot, p.slots⟩⟩
def plan0 (regs args : Nat) : Pln := ⟨List.replicate regs (-1), (List.range regs).map (fun r => if r < args then (r : Int) else -1), args⟩
def scan0 (regs args machine : Nat) : Scn := ⟨(List.range machine).map Int.ofNat, [], plan0 regs args⟩
def planOf (regs args machine : Nat) (l : List Itv) : Pln := (l.foldl (scanStep args) (scan0 regs args machine)).p

theorem pushL_mem {l : List Int} {x y : Int} : y ∈ pushL l x ↔ y = x ∨ y ∈ l := by
  unfold pushL
  rw [List.mem_append, List.mem_cons]
  constructor
  · rintro (h | h | h)
    · exact .inr ((List.takeWhile_prefix _).mem h)
    · exact .inl h
    · exact .inr ((List.dropWhile_suffix _).mem h)
  · rintro (h | h)
    · exact .inr (.inl h)
    · rw [← List.takeWhile_append_dropWhile (p := fun y => decide (y < x)) (l := l)] at h
      rcases List.mem_append.1 h with h | h
      · exact .inl h
      · exact .inr (.inr h)
theorem pushL_nodup {l : List Int} {x : Int} (h : l.Nodup) (hx : x ∉ l) : (pushL l x).Nodup := by
  have hp : (pushL l x).Perm (x :: l) := by
    unfold pushL
    refine List.perm_middle.trans ?_
    rw [List.takeWhile_append_dropWhile]
  exact hp.nodup_iff.2 (List.nodup_cons.2 ⟨hx, h⟩)
theorem pushL_length (l : List Int) (x : Int) : (pushL l x).length = l.length + 1 := by
  unfold pushL
  rw [List.length_append, List.length_cons, ← Nat.add_assoc, ← List.length_append, List.takeWhile_append_dropWhile]
theorem freed_mem {m : List Int} : ∀ {as : List Itv} {f : List Int} {y : Int}, y ∈ freed m f as ↔ y ∈ f ∨ ∃ a ∈ as, y = m.getD a.reg (-1)
  | [], f, y => by simp [freed]
  | a :: as, f, y => by
    rw [freed, List.foldl_cons, ← freed, freed_mem, pushL_mem]
    simp only [List.mem_cons, exists_eq_or_imp]
    constructor
    · rintro ((h | h) | h)
      · exact .inr (.inl h)
      · exact .inl h
      · exact .inr (.inr h)
    · rintro (h | h | h)
      · exact .inl (.inr h)
      · exact .inl (.inl h)
      · exact .inr h
theorem freed_nodup {m : List Int} : ∀ {as : List Itv} {f : List Int}, f.Nodup → (as.map (fun a => m.getD a.reg (-1))).Nodup → (∀ a ∈ as, m.getD a.reg (-1) ∉ f) → (freed m f as).Nodup
  | [], f, h, _, _ => h
  | a :: as, f, h, hn, hd => by
    rw [freed, List.foldl_cons, ← freed]
    rw [List.map_cons, List.nodup_cons] at hn
    refine freed_nodup (pushL_nodup h (hd a (by simp))) hn.2 (fun b hb hm => ?_)
    rcases pushL_mem.1 hm with e | e
    · exact hn.1 (List.mem_map.2 ⟨b, hb, e⟩)
    · exact hd b (by simp [hb]) e
theorem worst_mem (v : Itv) : ∀ (as : List Itv) (w : Itv), w = v ∨ w ∈ as → ∀ bs : List Itv, (∀ b ∈ bs, b ∈ as) → bs.foldl (fun w a => if worse a w then a else w) w = v ∨ bs.foldl (fun w a => if worse a w then a else w) w ∈ as
  | as, w, h, [], _ => h
  | as, w, h, b :: bs, hb => by
    rw [List.foldl_cons]
    refine worst_mem v as _ ?_ bs (fun c hc => hb c (by simp [hc]))
    split
    · exact .inr (hb b (by simp))
    · exact h
theorem worstOf_mem (v : Itv) (as : List Itv) : worstOf v as = v ∨ worstOf v as ∈ as := worst_mem v as v (.inl rfl) as (fun _ h => h)
/-- what holds between two steps; L: the intervals so far; t: the last beginning -/
structure ScanInv (regs args machine : Nat) (L : List Itv) (t : Nat) (s : Scn) : Prop where
  mlen : s.p.mach.length = regs
  slen : s.p.slot.length = regs
  mrange : ∀ (r : Nat) (m : Int), s.p.mach[r]? = some m → -1 ≤ m ∧ m < machine
  srange : ∀ (r : Nat) (k : Int), s.p.slot[r]? = some k → -1 ≤ k ∧ k < s.p.slots
  sargs : ∀ r : Nat, r < args → r < regs → s.p.slot[r]? = some (r : Int)
  sabove : ∀ (r : Nat) (k : Int), s.p.slot[r]? = some k → args ≤ r → k = -1 ∨ (args : Int) ≤ k
  sdist : ∀ (r r' : Nat) (k : Int), s.p.slot[r]? = some k → s.p.slot[r']? = some k → 0 ≤ k → r = r'
  sneed : (args : Int) ≤ s.p.slots
  act : ∀ a ∈ s.active, a ∈ L ∧ 0 ≤ s.p.mach.getD a.reg (-1)
  actd : (s.active.map (fun a => s.p.mach.getD a.reg (-1))).Nodup
  fnod : s.free.Nodup
  frange : ∀ m ∈ s.free, 0 ≤ m ∧ m < machine
  fdis : ∀ a ∈ s.active, s.p.mach.getD a.reg (-1) ∉ s.free
  retired : ∀ u ∈ L, 0 ≤ s.p.mach.getD u.reg (-1) → u ∈ s.active ∨ u.to < t
  regd : ∀ u ∈ L, ∀ v ∈ L, u.reg = v.reg → u = v
  inr : ∀ u ∈ L, u.reg < regs
  placed : ∀ u ∈ L, 0 ≤ s.p.mach.getD u.reg (-1) ∨ 0 ≤ s.p.slot.getD u.reg (-1)
  later : ∀ r : Nat, (∀ u ∈ L, u.reg ≠ r) → r < regs → s.p.mach.getD r (-1) = -1
  dist : ∀ u ∈ L, ∀ v ∈ L, u ≠ v → 0 ≤ s.p.mach.getD u.reg (-1) → s.p.mach.getD u.reg (-1) = s.p.mach.getD v.reg (-1) → u.to < v.frm ∨ v.to < u.frm
theorem set_get {l : List Int} {i j : Nat} {a k : Int} (h : (l.set i a)[j]? = some k) : (j = i ∧ k = a) ∨ (j ≠ i ∧ l[j]? = some k) := by
  rw [List.getElem?_set] at h
  split at h
  · rename_i e
    split at h
    · cases h; exact .inl ⟨e.symm, rfl⟩
    · cases h
  · rename_i e
    exact .inr ⟨fun e' => e e'.symm, h⟩
theorem getD_set_ne {l : List Int} {i j : Nat} {a d : Int} (h : i ≠ j) : (l.set i a).getD j d = l.getD j d := by
  simp [List.getD_eq_getElem?_getD, h]
theorem getD_set_eq {l : List Int} {i : Nat} {a d : Int} (h : i < l.length) : (l.set i a).getD i d = a := by
  simp [List.getD_eq_getElem?_getD, h]
theorem nodup_inj {f : Itv → Int} : ∀ {l : List Itv}, (l.map f).Nodup → ∀ a ∈ l, ∀ b ∈ l, f a = f b → a = b
  | [], _, a, ha, _, _, _ => by simp at ha
  | c :: l, h, a, ha, b, hb, e => by
    rw [List.map_cons, List.nodup_cons] at h
    rcases List.mem_cons.1 ha with ha1 | ha1 <;> rcases List.mem_cons.1 hb with hb1 | hb1
    · rw [ha1, hb1]
    · exact absurd (List.mem_map.2 ⟨b, hb1, by rw [← e, ha1]⟩ : f c ∈ l.map f) h.1
    · exact absurd (List.mem_map.2 ⟨a, ha1, by rw [e, hb1]⟩ : f c ∈ l.map f) h.1
    · exact nodup_inj h.2 a ha1 b hb1 e
theorem nodup_filter {f : Itv → Int} {p : Itv → Bool} {l : List Itv} (h : (l.map f).Nodup) : ((l.filter p).map f).Nodup :=
  h.sublist (List.filter_sublist.map f)
/-- after what is over has gone -/
structure Mid (regs args machine : Nat) (L : List Itv) (v : Itv) (s : Scn) (f : List Int) (as : List Itv) : Prop where
  act : ∀ a ∈ as, a ∈ s.active
  live : ∀ a ∈ as, v.frm ≤ a.to
  nod : (as.map (fun a => s.p.mach.getD a.reg (-1))).Nodup
  fnod : f.Nodup
  frange : ∀ m ∈ f, 0 ≤ m ∧ m < machine
  fdis : ∀ a ∈ as, s.p.mach.getD a.reg (-1) ∉ f
  ret : ∀ u ∈ L, 0 ≤ s.p.mach.getD u.reg (-1) → u ∈ as ∨ u.to < v.frm
theorem getD_range {l : List Int} {P : Int → Prop} {r : Nat} (h : ∀ (r : Nat) (m : Int), l[r]? = some m → P m) (hr : r < l.length) : P (l.getD r (-1)) := by
  rw [List.getD_eq_getElem?_getD, List.getElem?_eq_getElem hr]
  exact h r _ (List.getElem?_eq_getElem hr)
theorem mid {regs args machine : Nat} {L : List Itv} {t : Nat} {s : Scn} (h : ScanInv regs args machine L t s) {v : Itv} (ht : t ≤ v.frm) :
    Mid regs args machine L v s (freed s.p.mach s.free (s.active.filter (gone v))) (s.active.filter (fun a => !gone v a)) := by
  refine ⟨fun a ha => (List.mem_filter.1 ha).1, fun a ha => ?_, nodup_filter h.actd, ?_, fun m hm => ?_, fun a ha hm => ?_, fun u hu hm => ?_⟩
  · have := (List.mem_filter.1 ha).2
    simp [gone] at this; exact this
  · exact freed_nodup h.fnod (nodup_filter h.actd) (fun a ha => h.fdis a ((List.mem_filter.1 ha).1))
  · rcases freed_mem.1 hm with hm | ⟨a, ha, rfl⟩
    · exact h.frange m hm
    · have ha := (List.mem_filter.1 ha).1
      have h1 := h.act a ha
      have h2 := getD_range (P := fun m => -1 ≤ m ∧ m < machine) h.mrange (r := a.reg) (by rw [h.mlen]; exact h.inr a h1.1)
      exact ⟨h1.2, h2.2⟩
  · have ha' := (List.mem_filter.1 ha).1
    rcases freed_mem.1 hm with hm | ⟨b, hb, e⟩
    · exact h.fdis a ha' hm
    · have hb' := (List.mem_filter.1 hb).1
      obtain rfl := nodup_inj h.actd a ha' b hb' e
      have h1 := (List.mem_filter.1 ha).2
      have h2 := (List.mem_filter.1 hb).2
      rw [h2] at h1; cases h1
  · rcases h.retired u hu hm with h1 | h1
    · by_cases hg : gone v u = true
      · right; simpa [gone] using hg
      · left; exact List.mem_filter.2 ⟨h1, by simp [hg]⟩
    · right; omega
theorem spill_mach (args : Nat) (x : Itv) (p : Pln) : (spill args x p).mach = p.mach := by unfold spill; split <;> rfl
/-- slots after one more is given -/
theorem spill_inv {regs args machine : Nat} {L : List Itv} {t : Nat} {s : Scn} (h : ScanInv regs args machine L t s) {x : Itv} (hx : x.reg < regs) :
    let p := spill args x s.p
    p.slot.length = regs ∧ (∀ (r : Nat) (k : Int), p.slot[r]? = some k → -1 ≤ k ∧ k < p.slots) ∧ (∀ r : Nat, r < args → r < regs → p.slot[r]? = some (r : Int)) ∧
    (∀ (r : Nat) (k : Int), p.slot[r]? = some k → args ≤ r → k = -1 ∨ (args : Int) ≤ k) ∧ (∀ (r r' : Nat) (k : Int), p.slot[r]? = some k → p.slot[r']? = some k → 0 ≤ k → r = r') ∧
    (args : Int) ≤ p.slots ∧ 0 ≤ p.slot.getD x.reg (-1) ∧ (∀ r, r ≠ x.reg → p.slot.getD r (-1) = s.p.slot.getD r (-1)) := by
  have hs := h.sneed
  unfold spill
  by_cases ha : args ≤ x.reg
  · rw [if_pos ha]
    have hxl : x.reg < s.p.slot.length := by rw [h.slen]; exact hx
    refine ⟨by simp [h.slen], fun r k hk => ?_, fun r hr hr' => ?_, fun r k hk hr => ?_, fun r r' k hk hk' h0 => ?_, by simp only; omega, by simp only; rw [getD_set_eq hxl]; omega, fun r hr => getD_set_ne (Ne.symm hr)⟩
    · rcases set_get hk with ⟨_, rfl⟩ | ⟨_, hk⟩
      · simp only; omega
      · have := h.srange r k hk; simp only; omega
    · simp only [List.getElem?_set]
      rw [if_neg (by omega)]
      exact h.sargs r hr hr'
    · rcases set_get hk with ⟨_, rfl⟩ | ⟨_, hk⟩
      · right; omega
      · exact h.sabove r k hk hr
    · rcases set_get hk with ⟨e1, rfl⟩ | ⟨e1, hk⟩ <;> rcases set_get hk' with ⟨e2, e3⟩ | ⟨e2, hk'⟩
      · omega
      · have := h.srange r' _ hk'; omega
      · subst e3; have := h.srange r _ hk; omega
      · exact h.sdist r r' k hk hk' h0
  · rw [if_neg ha]
    refine ⟨h.slen, h.srange, h.sargs, h.sabove, h.sdist, hs, ?_, fun r _ => rfl⟩
    rw [List.getD_eq_getElem?_getD, h.sargs x.reg (by omega) hx]; simp
theorem scan_step {regs args machine : Nat} {L : List Itv} {t : Nat} {s : Scn} (h : ScanInv regs args machine L t s) {v : Itv} (ht : t ≤ v.frm) (hr : v.reg < regs) (hv : ∀ u ∈ L, u.reg ≠ v.reg) :
    ScanInv regs args machine (L ++ [v]) v.frm (scanStep args s v) := by
  have hm := mid h ht
  have hvm : s.p.mach.getD v.reg (-1) = -1 := h.later v.reg hv hr
  have hregd : ∀ u ∈ L ++ [v], ∀ w ∈ L ++ [v], u.reg = w.reg → u = w := by
    intro u hu w hw e
    rcases List.mem_append.1 hu with hu | hu <;> rcases List.mem_append.1 hw with hw | hw
    · exact h.regd u hu w hw e
    · rw [List.mem_singleton.1 hw] at e; exact absurd e (hv u hu)
    · rw [List.mem_singleton.1 hu] at e; exact absurd e.symm (hv w hw)
    · rw [List.mem_singleton.1 hu, List.mem_singleton.1 hw]
  have hinr : ∀ u ∈ L ++ [v], u.reg < regs := by
    intro u hu
    rcases List.mem_append.1 hu with hu | hu
    · exact h.inr u hu
    · rw [List.mem_singleton.1 hu]; exact hr
  unfold scanStep
  simp only
  generalize freed s.p.mach s.free (s.active.filter (gone v)) = f at hm ⊢
  generalize s.active.filter (fun a => !gone v a) = as at hm ⊢
  have hvl : v.reg < s.p.mach.length := by rw [h.mlen]; exact hr
  cases f with
  | cons m rest =>
    simp only
    have hold : ∀ u ∈ L, (s.p.mach.set v.reg m).getD u.reg (-1) = s.p.mach.getD u.reg (-1) := fun u hu => getD_set_ne (Ne.symm (hv u hu))
    have hnew : (s.p.mach.set v.reg m).getD v.reg (-1) = m := getD_set_eq hvl
    have hmr := hm.frange m (by simp)
    have hasL : ∀ a ∈ as, a ∈ L := fun a ha => (h.act a (hm.act a ha)).1
    have hmap : as.map (fun a => (s.p.mach.set v.reg m).getD a.reg (-1)) = as.map (fun a => s.p.mach.getD a.reg (-1)) := List.map_congr_left (fun a ha => hold a (hasL a ha))
    have hfn := List.nodup_cons.1 hm.fnod
    refine ⟨by simp [h.mlen], h.slen, fun r k hk => ?_, h.srange, h.sargs, h.sabove, h.sdist, h.sneed, fun a ha => ?_, ?_, hfn.2, fun k hk => hm.frange k (by simp [hk]), fun a ha hk => ?_, fun u hu hk => ?_, hregd, hinr, fun u hu => ?_, fun r hr' hlt => ?_, fun u hu w hw hne h0 he => ?_⟩
    · rcases set_get hk with ⟨_, rfl⟩ | ⟨_, hk⟩
      · omega
      · exact h.mrange r k hk
    · rcases List.mem_append.1 ha with ha | ha
      · exact ⟨List.mem_append_left _ (hasL a ha), by simp only; rw [hold a (hasL a ha)]; exact (h.act a (hm.act a ha)).2⟩
      · rw [List.mem_singleton.1 ha]; exact ⟨by simp, by simp only; rw [hnew]; exact hmr.1⟩
    · simp only [List.map_append, List.map_cons, List.map_nil]
      rw [hmap, hnew]
      refine List.nodup_append.2 ⟨hm.nod, by simp, fun a ha b hb e => ?_⟩
      rw [List.mem_singleton.1 hb] at e
      obtain ⟨a', ha', rfl⟩ := List.mem_map.1 ha
      exact hm.fdis a' ha' (by rw [e]; simp)
    · rcases List.mem_append.1 ha with ha | ha
      · simp only at hk; rw [hold a (hasL a ha)] at hk; exact hm.fdis a ha (List.mem_cons_of_mem _ hk)
      · rw [List.mem_singleton.1 ha] at hk; simp only at hk; rw [hnew] at hk; exact hfn.1 hk
    · rcases List.mem_append.1 hu with hu | hu
      · simp only at hk; rw [hold u hu] at hk
        rcases hm.ret u hu hk with h1 | h1
        · exact .inl (List.mem_append_left _ h1)
        · exact .inr h1
      · exact .inl (List.mem_append_right _ hu)
    · rcases List.mem_append.1 hu with hu | hu
      · simp only; rw [hold u hu]; exact h.placed u hu
      · rw [List.mem_singleton.1 hu]; simp only; rw [hnew]; exact .inl hmr.1
    · simp only
      rw [getD_set_ne (hr' v (by simp))]
      exact h.later r (fun u hu => hr' u (by simp [hu])) hlt
    · simp only at h0 he
      rcases List.mem_append.1 hu with hu | hu <;> rcases List.mem_append.1 hw with hw | hw
      · rw [hold u hu, hold w hw] at he; rw [hold u hu] at h0; exact h.dist u hu w hw hne h0 he
      · rw [List.mem_singleton.1 hw] at he hne ⊢
        rw [hold u hu] at h0; rw [hold u hu, hnew] at he
        rcases hm.ret u hu h0 with h1 | h1
        · exact absurd (by rw [he]; simp) (hm.fdis u h1)
        · exact .inl h1
      · rw [List.mem_singleton.1 hu] at he hne h0 ⊢
        rw [hold w hw, hnew] at he; rw [hnew] at h0
        rcases hm.ret w hw (by omega) with h1 | h1
        · exact absurd (by rw [← he]; simp) (hm.fdis w h1)
        · exact .inr h1
      · rw [List.mem_singleton.1 hu, List.mem_singleton.1 hw] at hne; exact absurd rfl hne
  | nil =>
    simp only
    have hxm := worstOf_mem v as
    generalize worstOf v as = x at hxm ⊢
    by_cases hxv : x = v
    · subst hxv
      rw [if_pos rfl]
      obtain ⟨g1, g2, g3, g4, g5, g6, g7, g8⟩ := spill_inv h (x := x) hr
      have hmc : (spill args x s.p).mach = s.p.mach := spill_mach _ _ _
      have hasL : ∀ a ∈ as, a ∈ L := fun a ha => (h.act a (hm.act a ha)).1
      refine ⟨by rw [hmc]; exact h.mlen, g1, by rw [hmc]; exact h.mrange, g2, g3, g4, g5, g6, fun a ha => ?_, by rw [hmc]; exact hm.nod, by simp, by simp, by simp, fun u hu hk => ?_, hregd, hinr, fun u hu => ?_, fun r hr' hlt => ?_, fun u hu w hw hne h0 he => ?_⟩
      · rw [hmc]; exact ⟨List.mem_append_left _ (hasL a ha), (h.act a (hm.act a ha)).2⟩
      · rw [hmc] at hk
        rcases List.mem_append.1 hu with hu | hu
        · exact hm.ret u hu hk
        · rw [List.mem_singleton.1 hu, hvm] at hk; omega
      · rw [hmc]
        rcases List.mem_append.1 hu with hu | hu
        · rw [g8 u.reg (hv u hu)]; exact h.placed u hu
        · rw [List.mem_singleton.1 hu]; exact .inr g7
      · rw [hmc]; exact h.later r (fun u hu => hr' u (by simp [hu])) hlt
      · rw [hmc] at h0 he
        rcases List.mem_append.1 hu with hu | hu <;> rcases List.mem_append.1 hw with hw | hw
        · exact h.dist u hu w hw hne h0 he
        · rw [List.mem_singleton.1 hw, hvm] at he; omega
        · rw [List.mem_singleton.1 hu, hvm] at h0; omega
        · rw [List.mem_singleton.1 hu, List.mem_singleton.1 hw] at hne; exact absurd rfl hne
    · rw [if_neg hxv]
      have hxa : x ∈ as := hxm.resolve_left hxv
      have hasL : ∀ a ∈ as, a ∈ L := fun a ha => (h.act a (hm.act a ha)).1
      have hxL := hasL x hxa
      have hxr := h.inr x hxL
      have hxne : x.reg ≠ v.reg := hv x hxL
      obtain ⟨g1, g2, g3, g4, g5, g6, g7, g8⟩ := spill_inv h (x := x) hxr
      have hmc : (spill args x s.p).mach = s.p.mach := spill_mach _ _ _
      rw [hmc]
      have hmx := (h.act x (hm.act x hxa)).2
      have hxl : x.reg < (s.p.mach.set v.reg (s.p.mach.getD x.reg (-1))).length := by rw [List.length_set, h.mlen]; exact hxr
      have nv : ((s.p.mach.set v.reg (s.p.mach.getD x.reg (-1))).set x.reg (-1)).getD v.reg (-1) = s.p.mach.getD x.reg (-1) := by rw [getD_set_ne hxne, getD_set_eq hvl]
      have nx : ((s.p.mach.set v.reg (s.p.mach.getD x.reg (-1))).set x.reg (-1)).getD x.reg (-1) = -1 := getD_set_eq hxl
      have nu : ∀ u ∈ L, u ≠ x → ((s.p.mach.set v.reg (s.p.mach.getD x.reg (-1))).set x.reg (-1)).getD u.reg (-1) = s.p.mach.getD u.reg (-1) := fun u hu hne => by
        rw [getD_set_ne (fun e => hne (h.regd u hu x hxL e.symm)), getD_set_ne (Ne.symm (hv u hu))]
      have hmem : ∀ a, a ∈ as.filter (fun a => !decide (a = x)) → a ∈ as ∧ a ≠ x := fun a ha => by
        have := List.mem_filter.1 ha
        exact ⟨this.1, by simpa using this.2⟩
      have hmap : (as.filter (fun a => !decide (a = x))).map (fun a => ((s.p.mach.set v.reg (s.p.mach.getD x.reg (-1))).set x.reg (-1)).getD a.reg (-1)) = (as.filter (fun a => !decide (a = x))).map (fun a => s.p.mach.getD a.reg (-1)) :=
        List.map_congr_left (fun a ha => nu a (hasL a (hmem a ha).1) (hmem a ha).2)
      refine ⟨by simp [h.mlen], g1, fun r k hk => ?_, g2, g3, g4, g5, g6, fun a ha => ?_, ?_, by simp, by simp, by simp, fun u hu hk => ?_, hregd, hinr, fun u hu => ?_, fun r hr' hlt => ?_, fun u hu w hw hne h0 he => ?_⟩
      · rcases set_get hk with ⟨_, rfl⟩ | ⟨_, hk⟩
        · omega
        · rcases set_get hk with ⟨_, rfl⟩ | ⟨_, hk⟩
          · exact getD_range (P := fun m => -1 ≤ m ∧ m < machine) h.mrange (r := x.reg) (by rw [h.mlen]; exact hxr)
          · exact h.mrange r k hk
      · rcases List.mem_append.1 ha with ha | ha
        · obtain ⟨h1, h2⟩ := hmem a ha
          exact ⟨List.mem_append_left _ (hasL a h1), by simp only; rw [nu a (hasL a h1) h2]; exact (h.act a (hm.act a h1)).2⟩
        · rw [List.mem_singleton.1 ha]; exact ⟨by simp, by simp only; rw [nv]; exact hmx⟩
      · simp only [List.map_append, List.map_cons, List.map_nil]
        rw [hmap, nv]
        refine List.nodup_append.2 ⟨nodup_filter hm.nod, by simp, fun a ha b hb e => ?_⟩
        rw [List.mem_singleton.1 hb] at e
        obtain ⟨a', ha', rfl⟩ := List.mem_map.1 ha
        obtain ⟨h1, h2⟩ := hmem a' ha'
        exact h2 (nodup_inj hm.nod a' h1 x hxa e)
      · rcases List.mem_append.1 hu with hu | hu
        · by_cases hux : u = x
          · subst hux; simp only at hk; rw [nx] at hk; omega
          · simp only at hk; rw [nu u hu hux] at hk
            rcases hm.ret u hu hk with h1 | h1
            · exact .inl (List.mem_append_left _ (List.mem_filter.2 ⟨h1, by simp [hux]⟩))
            · exact .inr h1
        · exact .inl (List.mem_append_right _ hu)
      · rcases List.mem_append.1 hu with hu | hu
        · by_cases hux : u = x
          · subst hux; exact .inr g7
          · simp only; rw [nu u hu hux, g8 u.reg (fun e => hux (h.regd u hu x hxL e))]; exact h.placed u hu
        · rw [List.mem_singleton.1 hu]; simp only; rw [nv]; exact .inl hmx
      · simp only
        rw [getD_set_ne (hr' x (by simp [hxL])), getD_set_ne (hr' v (by simp))]
        exact h.later r (fun u hu => hr' u (by simp [hu])) hlt
      · simp only at h0 he
        rcases List.mem_append.1 hu with hu | hu <;> rcases List.mem_append.1 hw with hw | hw
        · by_cases hux : u = x
          · subst hux; rw [nx] at h0; omega
          · by_cases hwx : w = x
            · subst hwx; rw [nx] at he; omega
            · rw [nu u hu hux] at h0; rw [nu u hu hux, nu w hw hwx] at he
              exact h.dist u hu w hw hne h0 he
        · rw [List.mem_singleton.1 hw] at he hne ⊢
          by_cases hux : u = x
          · subst hux; rw [nx] at h0; omega
          · rw [nu u hu hux] at h0; rw [nu u hu hux, nv] at he
            rcases hm.ret u hu h0 with h1 | h1
            · exact absurd (nodup_inj hm.nod u h1 x hxa he) hux
            · exact .inl h1
        · rw [List.mem_singleton.1 hu] at he hne h0 ⊢
          by_cases hwx : w = x
          · subst hwx; rw [nv] at h0; rw [nv, nx] at he; omega
          · rw [nv] at h0; rw [nu w hw hwx, nv] at he
            rcases hm.ret w hw (by omega) with h1 | h1
            · exact absurd (nodup_inj hm.nod w h1 x hxa he.symm) hwx
            · exact .inr h1
        · rw [List.mem_singleton.1 hu, List.mem_singleton.1 hw] at hne; exact absurd rfl hne
theorem scan_start (regs args machine : Nat) : ScanInv regs args machine [] 0 (scan0 regs args machine) := by
  have hslot : ∀ (r : Nat) (k : Int), ((List.range regs).map (fun r => if r < args then (r : Int) else -1))[r]? = some k → r < regs ∧ k = if r < args then (r : Int) else -1 := fun r k h => by
    rw [List.getElem?_map] at h
    obtain ⟨a, ha, rfl⟩ := Option.map_eq_some_iff.1 h
    have := List.getElem?_eq_some_iff.1 ha
    obtain ⟨h1, h2⟩ := this
    simp at h1 h2
    subst h2
    exact ⟨h1, rfl⟩
  refine ⟨by simp [scan0, plan0], by simp [scan0, plan0], fun r m h => ?_, fun r k h => ?_, fun r h1 h2 => ?_, fun r k h h1 => ?_, fun r r' k h h' h0 => ?_, Int.le_refl _, by simp [scan0], by simp [scan0], ?_, fun m hm => ?_, by simp [scan0], by simp, by simp, by simp, by simp, fun r _ hr => ?_, by simp⟩
  · simp only [scan0, plan0, List.getElem?_replicate] at h
    split at h
    · cases h; omega
    · cases h
  · obtain ⟨h1, rfl⟩ := hslot r k h
    simp only [scan0, plan0]
    split <;> omega
  · simp only [scan0, plan0, List.getElem?_map, List.getElem?_range h2, Option.map_some]
    rw [if_pos h1]
  · obtain ⟨_, rfl⟩ := hslot r k h
    rw [if_neg (by omega)]; exact .inl rfl
  · obtain ⟨_, h1⟩ := hslot r k h
    obtain ⟨_, h2⟩ := hslot r' k h'
    split at h1 <;> split at h2 <;> omega
  · simp only [scan0]
    exact List.pairwise_map.2 (List.Pairwise.imp (fun h e => h (Int.ofNat.inj e)) List.nodup_range)
  · simp only [scan0] at hm
    obtain ⟨a, ha, rfl⟩ := List.mem_map.1 hm
    have := List.mem_range.1 ha
    simp; omega
  · simp only [scan0, plan0, List.getD_eq_getElem?_getD, List.getElem?_replicate]
    rw [if_pos hr]; rfl
/-- intervals in order: each register once, ascending beginnings, registers below a number -/
structure ItvOK (regs : Nat) (l : List Itv) : Prop where
  inr : ∀ v ∈ l, v.reg < regs
  regd : l.Pairwise (fun u v => u.reg ≠ v.reg)
  asc : l.Pairwise (fun u v => u.frm ≤ v.frm)
theorem scan_fold {regs args machine : Nat} : ∀ (l L : List Itv) (t : Nat) (s : Scn), ScanInv regs args machine L t s → ItvOK regs l → (∀ u ∈ L, ∀ v ∈ l, u.reg ≠ v.reg) → (∀ v ∈ l, t ≤ v.frm) → ∃ t', ScanInv regs args machine (L ++ l) t' (l.foldl (scanStep args) s)
  | [], L, t, s, h, _, _, _ => ⟨t, by rw [List.append_nil]; exact h⟩
  | v :: l, L, t, s, h, ho, hd, ht => by
    have h1 := List.pairwise_cons.1 ho.regd
    have h2 := List.pairwise_cons.1 ho.asc
    have hs := scan_step h (v := v) (ht v (by simp)) (ho.inr v (by simp)) (fun u hu => hd u hu v (by simp))
    obtain ⟨t', h3⟩ := scan_fold l (L ++ [v]) v.frm (scanStep args s v) hs ⟨fun u hu => ho.inr u (by simp [hu]), h1.2, h2.2⟩ (fun u hu w hw => by
      rcases List.mem_append.1 hu with hu | hu
      · exact hd u hu w (by simp [hw])
      · rw [List.mem_singleton.1 hu]; exact h1.1 w hw) (fun w hw => h2.1 w hw)
    exact ⟨t', by rw [List.append_assoc] at h3; exact h3⟩
/-- the place of a register -/
def placeOf (p : Pln) (r : Nat) : Bool × Int := if 0 ≤ p.mach.getD r (-1) then (false, p.mach.getD r (-1)) else (true, p.slot.getD r (-1))
def hasPlace (p : Pln) (r : Nat) : Bool := decide (0 ≤ p.mach.getD r (-1)) || decide (0 ≤ p.slot.getD r (-1))
/-- what a right plan is -/
structure PlanOK (regs args machine : Nat) (l : List Itv) (p : Pln) : Prop where
  mlen : p.mach.length = regs
  slen : p.slot.length = regs
  mrange : ∀ (r : Nat) (m : Int), p.mach[r]? = some m → -1 ≤ m ∧ m < machine
  srange : ∀ (r : Nat) (k : Int), p.slot[r]? = some k → -1 ≤ k ∧ k < p.slots
  sargs : ∀ r : Nat, r < args → r < regs → p.slot[r]? = some (r : Int)
  sabove : ∀ (r : Nat) (k : Int), p.slot[r]? = some k → args ≤ r → k = -1 ∨ (args : Int) ≤ k
  placed : ∀ u ∈ l, hasPlace p u.reg = true
  apart : ∀ u ∈ l, ∀ v ∈ l, u ≠ v → u.frm ≤ v.to → v.frm ≤ u.to → placeOf p u.reg ≠ placeOf p v.reg
theorem plan_right {regs args machine : Nat} {l : List Itv} (h : ItvOK regs l) : PlanOK regs args machine l (planOf regs args machine l) := by
  obtain ⟨t, h1⟩ := scan_fold (args := args) (machine := machine) l [] 0 _ (scan_start regs args machine) h (by simp) (by simp)
  rw [List.nil_append] at h1
  unfold planOf
  refine ⟨h1.mlen, h1.slen, h1.mrange, h1.srange, h1.sargs, h1.sabove, fun u hu => ?_, fun u hu v hv hne h2 h3 he => ?_⟩
  · unfold hasPlace
    rcases h1.placed u hu with h2 | h2
    · rw [decide_eq_true h2]; rfl
    · rw [decide_eq_true h2, Bool.or_true]
  · unfold placeOf at he
    split at he
    · rename_i h4
      split at he
      · simp only [Prod.mk.injEq, true_and] at he
        rcases h1.dist u hu v hv hne h4 he with h5 | h5 <;> omega
      · simp at he
    · rename_i h4
      split at he
      · simp at he
      · rename_i h5
        simp only [Prod.mk.injEq, true_and] at he
        have h6 := (h1.placed u hu).resolve_left h4
        have h7 := (h1.placed v hv).resolve_left h5
        have hu' : u.reg < (l.foldl (scanStep args) (scan0 regs args machine)).p.slot.length := by rw [h1.slen]; exact h1.inr u hu
        have hv' : v.reg < (l.foldl (scanStep args) (scan0 regs args machine)).p.slot.length := by rw [h1.slen]; exact h1.inr v hv
        rw [List.getD_eq_getElem?_getD, List.getD_eq_getElem?_getD, List.getElem?_eq_getElem hu', List.getElem?_eq_getElem hv'] at he
        simp only [Option.getD_some] at he
        have h8 : u.reg = v.reg := h1.sdist u.reg v.reg _ (List.getElem?_eq_getElem hu') (by rw [List.getElem?_eq_getElem hv', he]) (by rw [List.getD_eq_getElem?_getD, List.getElem?_eq_getElem hu'] at h6; simpa using h6)
        exact hne (h1.regd u hu v hv h8)
end Go.Proofs.YtpahhcmiimllaaaGreatDoor
namespace Go.Proofs.YtpahhcmiimllaaaGreatDoor

theorem freed_length {m : List Int} : ∀ {as : List Itv} {f : List Int}, (freed m f as).length = f.length + as.length
  | [], f => by simp [freed]
  | a :: as, f => by
    rw [freed, List.foldl_cons, ← freed, freed_length, pushL_length, List.length_cons]; omega
theorem filter_split (p : Itv → Bool) : ∀ (l : List Itv), (l.filter p).length + (l.filter (fun a => !p a)).length = l.length
  | [] => rfl
  | a :: l => by
    have := filter_split p l
    simp only [List.filter_cons]
    cases p a <;> simp <;> omega
theorem worse_trans {a b c : Itv} (h : worse a b = true) (g : worse b c = true) : worse a c = true := by
  unfold worse at *; simp at *; omega
theorem worse_total {a b : Itv} (h : a.reg ≠ b.reg) : worse a b = true ∨ worse b a = true := by
  unfold worse; simp; omega
theorem worse_anti {a b : Itv} (h : worse a b = true) : worse b a = false := by
  unfold worse at *; simp at *; omega
/-- the worst of some is it, or worse than each -/
theorem worst_max : ∀ (as : List Itv) (w : Itv), (∀ a ∈ as, a.reg ≠ w.reg) → as.Pairwise (fun a b => a.reg ≠ b.reg) →
    ∀ a, a = w ∨ a ∈ as → a = as.foldl (fun w a => if worse a w then a else w) w ∨ worse (as.foldl (fun w a => if worse a w then a else w) w) a = true
  | [], w, _, _, a, h => by
    rcases h with h | h
    · exact .inl h
    · simp at h
  | b :: as, w, hd, hp, a, h => by
    rw [List.foldl_cons]
    have hp1 := List.pairwise_cons.1 hp
    cases hb : worse b w with
    | true =>
      rw [if_pos rfl]
      have ih := worst_max as b (fun c hc => Ne.symm (hp1.1 c hc)) hp1.2
      rcases h with rfl | h
      · rcases ih b (.inl rfl) with e | e
        · rw [← e]; exact .inr hb
        · exact .inr (worse_trans e hb)
      · rcases List.mem_cons.1 h with rfl | h
        · exact ih a (.inl rfl)
        · exact ih a (.inr h)
    | false =>
      simp only [Bool.false_eq_true, if_false]
      have ih := worst_max as w (fun c hc => hd c (by simp [hc])) hp1.2
      rcases h with rfl | h
      · exact ih a (.inl rfl)
      · rcases List.mem_cons.1 h with rfl | h
        · have hw : worse w a = true := (worse_total (hd a (by simp))).resolve_left (by rw [hb]; simp)
          rcases ih w (.inl rfl) with e | e
          · rw [← e]; exact .inr hw
          · exact .inr (worse_trans e hw)
        · exact ih a (.inr h)
/-- what is in a set and worse than each other one of it is the worst -/
theorem worst_is {v : Itv} {as : List Itv} (hd : ∀ a ∈ as, a.reg ≠ v.reg) (hp : as.Pairwise (fun a b => a.reg ≠ b.reg)) {x : Itv} (hx : x = v ∨ x ∈ as) (h : ∀ a, a = v ∨ a ∈ as → a = x ∨ worse x a = true) : worstOf v as = x := by
  rcases h _ (worstOf_mem v as) with e | e
  · exact e
  · rcases worst_max as v hd hp x hx with e2 | e2
    · exact e2.symm
    · have := worse_anti e
      have e3 : worse (worstOf v as) x = true := e2
      rw [e3] at this; cases this
structure Twin (machine : Nat) (L : List Itv) (s s' : Scn) : Prop where
  cnt : s.free.length + s.active.length = machine
  cnt' : s'.free.length + s'.active.length = machine + 1
  ext : ∃ ex : List Itv, s'.active.Perm (s.active ++ ex) ∧ ex.length ≤ 1
  kept : ∀ u ∈ L, 0 ≤ s.p.mach.getD u.reg (-1) → 0 ≤ s'.p.mach.getD u.reg (-1)
theorem act_pair {regs args machine : Nat} {L : List Itv} {t : Nat} {s : Scn} (h : ScanInv regs args machine L t s) : s.active.Pairwise (fun a b => a.reg ≠ b.reg) := by
  have h1 := List.pairwise_map.1 h.actd
  exact h1.imp (fun hne e => hne (by rw [e]))
theorem pair_nodup {as : List Itv} (h : as.Pairwise (fun a b => a.reg ≠ b.reg)) : as.Nodup := h.imp (fun hne e => hne (by rw [e]))
theorem perm_take {as : List Itv} (h : as.Nodup) {x : Itv} (hx : x ∈ as) : as.Perm (x :: as.filter (fun a => !decide (a = x))) := by
  induction as with
  | nil => simp at hx
  | cons b as ih =>
    have h1 := List.nodup_cons.1 h
    by_cases hb : b = x
    · subst hb
      have : as.filter (fun a => !decide (a = b)) = as := List.filter_eq_self.2 (fun a ha => by
        have : a ≠ b := fun e => h1.1 (by rw [← e]; exact ha)
        simp [this])
      simp [this]
    · have hx' : x ∈ as := by
        rcases List.mem_cons.1 hx with e | e
        · exact absurd e.symm hb
        · exact e
      have h2 := ih h1.2 hx'
      simp only [List.filter_cons, hb, decide_false, Bool.not_false, if_true]
      exact (List.Perm.cons b h2).trans (List.Perm.swap x b _)
/-- what a step does to the machine registers -/
inductive StepM (L : List Itv) (v : Itv) (s : Scn) (f : List Int) (as : List Itv) : Scn → Prop
  | take (m : Int) (rest : List Int) (p : Pln) : f = m :: rest → 0 ≤ m → (∀ u ∈ L, p.mach.getD u.reg (-1) = s.p.mach.getD u.reg (-1)) → p.mach.getD v.reg (-1) = m → StepM L v s f as ⟨rest, as ++ [v], p⟩
  | pass (p : Pln) : f = [] → worstOf v as = v → p.mach = s.p.mach → StepM L v s f as ⟨[], as, p⟩
  | swap (x : Itv) (p : Pln) : f = [] → worstOf v as = x → x ≠ v → x ∈ as → p.mach.getD x.reg (-1) = -1 → p.mach.getD v.reg (-1) = s.p.mach.getD x.reg (-1) → (∀ u ∈ L, u ≠ x → p.mach.getD u.reg (-1) = s.p.mach.getD u.reg (-1)) →
      StepM L v s f as ⟨[], as.filter (fun a => !decide (a = x)) ++ [v], p⟩
theorem step_m {regs args machine : Nat} {L : List Itv} {t : Nat} {s : Scn} (h : ScanInv regs args machine L t s) {v : Itv} (ht : t ≤ v.frm) (hr : v.reg < regs) (hv : ∀ u ∈ L, u.reg ≠ v.reg) :
    StepM L v s (freed s.p.mach s.free (s.active.filter (gone v))) (s.active.filter (fun a => !gone v a)) (scanStep args s v) := by
  have hm := mid h ht
  have hvl : v.reg < s.p.mach.length := by rw [h.mlen]; exact hr
  unfold scanStep
  simp only
  generalize freed s.p.mach s.free (s.active.filter (gone v)) = f at hm ⊢
  generalize s.active.filter (fun a => !gone v a) = as at hm ⊢
  cases f with
  | cons m rest =>
    simp only
    exact .take m rest _ rfl (hm.frange m (by simp)).1 (fun u hu => getD_set_ne (Ne.symm (hv u hu))) (getD_set_eq hvl)
  | nil =>
    simp only
    have hxm := worstOf_mem v as
    by_cases hxv : worstOf v as = v
    · rw [if_pos hxv]
      exact .pass _ rfl hxv (spill_mach _ _ _)
    · rw [if_neg hxv]
      have hxa := hxm.resolve_left hxv
      have hxL := (h.act _ (hm.act _ hxa)).1
      refine .swap (worstOf v as) _ rfl rfl hxv hxa ?_ ?_ (fun u hu hne => ?_)
      · simp only [spill_mach]
        exact getD_set_eq (by rw [List.length_set, h.mlen]; exact h.inr _ hxL)
      · simp only [spill_mach]
        rw [getD_set_ne (hv _ hxL), getD_set_eq hvl]
      · simp only [spill_mach]
        rw [getD_set_ne (fun e => hne (h.regd u hu _ hxL e.symm)), getD_set_ne (Ne.symm (hv u hu))]
theorem scan_cnt {machine : Nat} {s : Scn} {v : Itv} (h : s.free.length + s.active.length = machine) :
    ((freed s.p.mach s.free (s.active.filter (gone v))).length + (s.active.filter (fun a => !gone v a)).length = machine) := by
  rw [freed_length]
  have := filter_split (gone v) s.active
  omega
theorem twin_step {regs args machine : Nat} {L : List Itv} {t t' : Nat} {s s' : Scn} (h : ScanInv regs args machine L t s) (h' : ScanInv regs args (machine + 1) L t' s') (tw : Twin machine L s s') {v : Itv} (ht : t ≤ v.frm) (ht' : t' ≤ v.frm) (hr : v.reg < regs) (hv : ∀ u ∈ L, u.reg ≠ v.reg) :
    Twin machine (L ++ [v]) (scanStep args s v) (scanStep args s' v) := by
  have hm := mid h ht
  have hm' := mid h' ht'
  have st := step_m h ht hr hv
  have st' := step_m h' ht' hr hv
  have c1 := scan_cnt (v := v) tw.cnt
  have c2 := scan_cnt (v := v) tw.cnt'
  have hvm : s.p.mach.getD v.reg (-1) = -1 := h.later v.reg hv hr
  have hp := (act_pair h).sublist (List.filter_sublist (p := fun a => !gone v a))
  have hp' := (act_pair h').sublist (List.filter_sublist (p := fun a => !gone v a))
  obtain ⟨ex, hex, hel⟩ := tw.ext
  have hpm : (s'.active.filter (fun a => !gone v a)).Perm (s.active.filter (fun a => !gone v a) ++ ex.filter (fun a => !gone v a)) := by
    have := hex.filter (fun a => !gone v a)
    rwa [List.filter_append] at this
  have hel2 : (ex.filter (fun a => !gone v a)).length ≤ 1 := Nat.le_trans (List.length_filter_le _ _) hel
  generalize freed s.p.mach s.free (s.active.filter (gone v)) = f at *
  generalize s.active.filter (fun a => !gone v a) = as at *
  generalize freed s'.p.mach s'.free (s'.active.filter (gone v)) = f' at *
  generalize s'.active.filter (fun a => !gone v a) = as' at *
  generalize ex.filter (fun a => !gone v a) = e1 at *
  have hlen : as'.length = as.length + e1.length := by rw [hpm.length_eq, List.length_append]
  have hasL : ∀ a ∈ as, a ∈ L := fun a ha => (h.act a (hm.act a ha)).1
  have hasL' : ∀ a ∈ as', a ∈ L := fun a ha => (h'.act a (hm'.act a ha)).1
  generalize scanStep args s v = S at *
  generalize scanStep args s' v = S' at *
  have hkv : ∀ (p p' : Pln), (∀ u ∈ L, 0 ≤ p.mach.getD u.reg (-1) → 0 ≤ p'.mach.getD u.reg (-1)) → (0 ≤ p.mach.getD v.reg (-1) → 0 ≤ p'.mach.getD v.reg (-1)) → ∀ u ∈ L ++ [v], 0 ≤ p.mach.getD u.reg (-1) → 0 ≤ p'.mach.getD u.reg (-1) := fun p p' h1 h2 u hu => by
    rcases List.mem_append.1 hu with hu | hu
    · exact h1 u hu
    · rw [List.mem_singleton.1 hu]; exact h2
  cases st with
  | take m rest p hf h0 hpu hpv =>
    subst hf
    cases st' with
    | take m' rest' p' hf' h0' hpu' hpv' =>
      subst hf'
      simp only [List.length_cons] at c1 c2
      refine ⟨by simp; omega, by simp; omega, ⟨e1, ?_, hel2⟩, hkv _ _ (fun u hu hk => ?_) (fun _ => by rw [hpv']; exact h0')⟩
      · refine (hpm.append_right [v]).trans ?_
        rw [List.append_assoc, List.append_assoc]
        exact List.Perm.append_left _ List.perm_append_comm
      · rw [hpu u hu] at hk; rw [hpu' u hu]; exact tw.kept u hu hk
    | pass p' hf' hw' hp2 => subst hf'; simp at c1 c2; omega
    | swap x' p' hf' hw' hne' hxa' g1' g2' g3' => subst hf'; simp at c1 c2; omega
  | pass p hf hw hp2 =>
    subst hf
    simp only [List.length_nil, Nat.zero_add] at c1
    cases st' with
    | take m' rest' p' hf' h0' hpu' hpv' =>
      subst hf'
      simp only [List.length_cons] at c2
      have he : e1 = [] := List.eq_nil_of_length_eq_zero (by omega)
      subst he
      rw [List.append_nil] at hpm
      refine ⟨by simpa using c1, by simp; omega, ⟨[v], hpm.append_right [v], by simp⟩, hkv _ _ (fun u hu hk => ?_) (fun _ => by rw [hpv']; exact h0')⟩
      rw [hp2] at hk; rw [hpu' u hu]; exact tw.kept u hu hk
    | pass p' hf' hw' hp2' =>
      subst hf'
      refine ⟨by simpa using c1, by simpa using c2, ⟨e1, hpm, hel2⟩, hkv _ _ (fun u hu hk => ?_) (fun hk => ?_)⟩
      · rw [hp2] at hk; rw [hp2']; exact tw.kept u hu hk
      · rw [hp2, hvm] at hk; omega
    | swap x' p' hf' hw' hne' hxa' g1' g2' g3' =>
      subst hf'
      simp only [List.length_nil, Nat.zero_add] at c2
      obtain ⟨y, rfl⟩ : ∃ y, e1 = [y] := List.length_eq_one_iff.1 (by omega)
      have hmax' := worst_max as' v (fun a ha => hv a (hasL' a ha)) hp'
      have hmem' : ∀ a, a ∈ as' ↔ a ∈ as ∨ a = y := fun a => by rw [hpm.mem_iff]; simp
      have hyn : y ∉ as := by
        have := hpm.nodup_iff.1 (pair_nodup hp')
        rw [List.nodup_append] at this
        exact fun e => this.2.2 y e y (by simp) rfl
      have hx'y : x' = y := by
        rcases (hmem' x').1 hxa' with e | e
        · exfalso
          have := worst_is (v := v) (as := as) (fun a ha => hv a (hasL a ha)) hp (x := x') (.inr e) (fun a ha => by
            have h3 := hmax' a (ha.imp id (fun h => (hmem' a).2 (.inl h)))
            have h4 : as'.foldl (fun w a => if worse a w then a else w) v = x' := hw'
            rwa [h4] at h3)
          rw [hw] at this
          exact hne' this.symm
        · exact e
      subst hx'y
      have hfil : (as'.filter (fun a => !decide (a = x'))).Perm as := by
        have h1 := perm_take (pair_nodup hp') hxa'
        have h2 := (h1.symm.trans hpm).trans List.perm_append_comm
        exact (List.perm_cons x').1 h2
      refine ⟨by simpa using c1, ?_, ⟨[v], hfil.append_right [v], by simp⟩, hkv _ _ (fun u hu hk => ?_) (fun hk => ?_)⟩
      · simp only [List.length_append, List.length_nil, List.length_singleton]; rw [hfil.length_eq]; omega
      · rw [hp2] at hk
        by_cases hux : u = x'
        · exfalso
          subst hux
          rcases hm.ret u hu hk with h1 | h1
          · exact hyn h1
          · have := hm'.live u hxa'; omega
        · rw [g3' u hu hux]; exact tw.kept u hu hk
      · rw [hp2, hvm] at hk; omega
  | swap x p hf hw hne hxa g1 g2 g3 =>
    subst hf
    simp only [List.length_nil, Nat.zero_add] at c1
    have hfx := perm_take (pair_nodup hp) hxa
    have hfl : (as.filter (fun a => !decide (a = x))).length + 1 = as.length := by rw [hfx.length_eq]; simp
    cases st' with
    | take m' rest' p' hf' h0' hpu' hpv' =>
      subst hf'
      simp only [List.length_cons] at c2
      have he : e1 = [] := List.eq_nil_of_length_eq_zero (by omega)
      subst he
      rw [List.append_nil] at hpm
      refine ⟨by simp; omega, by simp; omega, ⟨[x], ?_, by simp⟩, hkv _ _ (fun u hu hk => ?_) (fun _ => by rw [hpv']; exact h0')⟩
      · refine ((hpm.trans hfx).append_right [v]).trans ?_
        rw [List.append_assoc]
        exact (List.perm_append_comm (l₁ := [x]) (l₂ := as.filter (fun a => !decide (a = x)) ++ [v])).trans (by rw [List.append_assoc])
      · by_cases hux : u = x
        · subst hux; rw [g1] at hk; omega
        · rw [g3 u hu hux] at hk; rw [hpu' u hu]; exact tw.kept u hu hk
    | pass p' hf' hw' hp2' =>
      subst hf'
      exfalso
      simp only [List.length_nil, Nat.zero_add] at c2
      have hmax' := worst_max as' v (fun a ha => hv a (hasL' a ha)) hp'
      have := worst_is (v := v) (as := as) (fun a ha => hv a (hasL a ha)) hp (x := v) (.inl rfl) (fun a ha => by
        have h3 := hmax' a (ha.imp id (fun h => hpm.mem_iff.2 (List.mem_append_left _ h)))
        have h4 : as'.foldl (fun w a => if worse a w then a else w) v = v := hw'
        rwa [h4] at h3)
      rw [hw] at this
      exact hne this
    | swap x' p' hf' hw' hne' hxa' g1' g2' g3' =>
      subst hf'
      simp only [List.length_nil, Nat.zero_add] at c2
      obtain ⟨y, rfl⟩ : ∃ y, e1 = [y] := List.length_eq_one_iff.1 (by omega)
      have hmax' := worst_max as' v (fun a ha => hv a (hasL' a ha)) hp'
      have hmem' : ∀ a, a ∈ as' ↔ a ∈ as ∨ a = y := fun a => by rw [hpm.mem_iff]; simp
      have hyn : y ∉ as := by
        have := hpm.nodup_iff.1 (pair_nodup hp')
        rw [List.nodup_append] at this
        exact fun e => this.2.2 y e y (by simp) rfl
      have hfx' := perm_take (pair_nodup hp') hxa'
      have hfl' : (as'.filter (fun a => !decide (a = x'))).length + 1 = as'.length := by rw [hfx'.length_eq]; simp
      rcases (hmem' x').1 hxa' with e | e
      · have hxx := worst_is (v := v) (as := as) (fun a ha => hv a (hasL a ha)) hp (x := x') (.inr e) (fun a ha => by
          have h3 := hmax' a (ha.imp id (fun h => (hmem' a).2 (.inl h)))
          have h4 : as'.foldl (fun w a => if worse a w then a else w) v = x' := hw'
          rwa [h4] at h3)
        rw [hw] at hxx
        subst hxx
        have hyx : y ≠ x := fun e2 => hyn (by rw [e2]; exact e)
        have hff : (as'.filter (fun a => !decide (a = x))).Perm (as.filter (fun a => !decide (a = x)) ++ [y]) := by
          have := hpm.filter (fun a => !decide (a = x))
          rw [List.filter_append] at this
          simpa [hyx] using this
        refine ⟨by simp; omega, by simp; omega, ⟨[y], ?_, by simp⟩, hkv _ _ (fun u hu hk => ?_) (fun hk => ?_)⟩
        · refine (hff.append_right [v]).trans ?_
          rw [List.append_assoc, List.append_assoc]
          exact List.Perm.append_left _ List.perm_append_comm
        · by_cases hux : u = x
          · subst hux; rw [g1] at hk; omega
          · rw [g3 u hu hux] at hk; rw [g3' u hu hux]; exact tw.kept u hu hk
        · rw [g2']; exact (h'.act x (hm'.act x hxa')).2
      · subst e
        have hfil : (as'.filter (fun a => !decide (a = x'))).Perm as := by
          have h2 := (hfx'.symm.trans hpm).trans List.perm_append_comm
          exact (List.perm_cons x').1 h2
        refine ⟨by simp; omega, by simp; omega, ⟨[x], ?_, by simp⟩, hkv _ _ (fun u hu hk => ?_) (fun hk => ?_)⟩
        · refine ((hfil.trans hfx).append_right [v]).trans ?_
          rw [List.append_assoc]
          exact (List.perm_append_comm (l₁ := [x]) (l₂ := as.filter (fun a => !decide (a = x)) ++ [v])).trans (by rw [List.append_assoc])
        · by_cases hux : u = x
          · subst hux; rw [g1] at hk; omega
          · rw [g3 u hu hux] at hk
            by_cases huy : u = x'
            · exfalso
              subst huy
              rcases hm.ret u hu hk with h1 | h1
              · exact hyn h1
              · have := hm'.live u hxa'; omega
            · rw [g3' u hu huy]; exact tw.kept u hu hk
        · rw [g2']; exact (h'.act x' (hm'.act x' hxa')).2
theorem twin_start (regs args machine : Nat) : Twin machine [] (scan0 regs args machine) (scan0 regs args (machine + 1)) :=
  ⟨by simp [scan0], by simp [scan0], ⟨[], by simp [scan0], by simp⟩, by simp⟩
theorem twin_fold {regs args machine : Nat} : ∀ (l L : List Itv) (t t' : Nat) (s s' : Scn), ScanInv regs args machine L t s → ScanInv regs args (machine + 1) L t' s' → Twin machine L s s' → ItvOK regs l → (∀ u ∈ L, ∀ v ∈ l, u.reg ≠ v.reg) → (∀ v ∈ l, t ≤ v.frm) → (∀ v ∈ l, t' ≤ v.frm) → Twin machine (L ++ l) (l.foldl (scanStep args) s) (l.foldl (scanStep args) s')
  | [], L, _, _, _, _, _, _, tw, _, _, _, _ => by rw [List.append_nil]; exact tw
  | v :: l, L, t, t', s, s', h, h', tw, ho, hd, ht, ht' => by
    have h1 := List.pairwise_cons.1 ho.regd
    have h2 := List.pairwise_cons.1 ho.asc
    have hv : ∀ u ∈ L, u.reg ≠ v.reg := fun u hu => hd u hu v (by simp)
    have hs := scan_step h (v := v) (ht v (by simp)) (ho.inr v (by simp)) hv
    have hs' := scan_step h' (v := v) (ht' v (by simp)) (ho.inr v (by simp)) hv
    have tw2 := twin_step h h' tw (ht v (by simp)) (ht' v (by simp)) (ho.inr v (by simp)) hv
    have := twin_fold l (L ++ [v]) v.frm v.frm _ _ hs hs' tw2 ⟨fun u hu => ho.inr u (by simp [hu]), h1.2, h2.2⟩ (fun u hu w hw => by
      rcases List.mem_append.1 hu with hu | hu
      · exact hd u hu w (by simp [hw])
      · rw [List.mem_singleton.1 hu]; exact h1.1 w hw) (fun w hw => h2.1 w hw) (fun w hw => h2.1 w hw)
    rw [List.append_assoc] at this
    exact this
/-- what goes without under one more goes without under fewer -/
theorem more_kept {regs args machine : Nat} {l : List Itv} (h : ItvOK regs l) : ∀ u ∈ l, 0 ≤ (planOf regs args machine l).mach.getD u.reg (-1) → 0 ≤ (planOf regs args (machine + 1) l).mach.getD u.reg (-1) := by
  have := twin_fold l [] 0 0 _ _ (scan_start regs args machine) (scan_start regs args (machine + 1)) (twin_start regs args machine) h (by simp) (by simp) (by simp)
  rw [List.nil_append] at this
  exact this.kept
theorem nodup_le : ∀ (l1 l2 : List Itv), l1.Nodup → (∀ a ∈ l1, a ∈ l2) → l1.length ≤ l2.length
  | [], _, _, _ => Nat.zero_le _
  | a :: l1, l2, hn, hs => by
    have h1 := List.nodup_cons.1 hn
    have h2 := nodup_le l1 (l2.erase a) h1.2 (fun b hb => (List.mem_erase_of_ne (fun e => h1.1 (by rw [← e]; exact hb))).2 (hs b (by simp [hb])))
    have h3 := List.length_erase_of_mem (hs a (by simp))
    have h4 : 0 < l2.length := List.length_pos_of_mem (hs a (by simp))
    rw [List.length_cons]; omega
def overlap (l : List Itv) (v : Itv) : Nat := (l.filter (fun u => decide (u.frm ≤ v.frm) && decide (v.frm ≤ u.to))).length
theorem all_fold {regs args machine : Nat} (all : List Itv) (hall : ∀ v ∈ all, overlap all v ≤ machine) (hto : ∀ v ∈ all, v.frm ≤ v.to) : ∀ (l L : List Itv) (t : Nat) (s : Scn), all = L ++ l → ScanInv regs args machine L t s → s.free.length + s.active.length = machine → ItvOK regs l → (∀ u ∈ L, ∀ v ∈ l, u.reg ≠ v.reg) → (∀ v ∈ l, t ≤ v.frm) → (∀ u ∈ L, ∀ v ∈ l, u.frm ≤ v.frm) → (∀ u ∈ L, 0 ≤ s.p.mach.getD u.reg (-1)) → ∀ u ∈ L ++ l, 0 ≤ (l.foldl (scanStep args) s).p.mach.getD u.reg (-1)
  | [], L, _, _, _, _, _, _, _, _, _, hk => by rw [List.append_nil]; exact hk
  | v :: l, L, t, s, he, h, hc, ho, hd, ht, hf, hk => by
    have h1 := List.pairwise_cons.1 ho.regd
    have h2 := List.pairwise_cons.1 ho.asc
    have hv : ∀ u ∈ L, u.reg ≠ v.reg := fun u hu => hd u hu v (by simp)
    have hvr := ho.inr v (by simp)
    have hs := scan_step h (v := v) (ht v (by simp)) hvr hv
    have st := step_m h (ht v (by simp)) hvr hv
    have hm := mid h (ht v (by simp))
    have hcnt := scan_cnt (v := v) hc
    have hp := (act_pair h).sublist (List.filter_sublist (p := fun a => !gone v a))
    have hva : v ∈ all := by rw [he]; simp
    have hlen : (s.active.filter (fun a => !gone v a)).length + 1 ≤ machine := by
      have hsub : ∀ a ∈ v :: s.active.filter (fun a => !gone v a), a ∈ all.filter (fun u => decide (u.frm ≤ v.frm) && decide (v.frm ≤ u.to)) := fun a ha => by
        rcases List.mem_cons.1 ha with rfl | ha
        · exact List.mem_filter.2 ⟨hva, by simp [hto a hva]⟩
        · have haL := (h.act a (hm.act a ha)).1
          exact List.mem_filter.2 ⟨by rw [he]; exact List.mem_append_left _ haL, by simp [hm.live a ha, hf a haL v (by simp)]⟩
      have hnd : (v :: s.active.filter (fun a => !gone v a)).Nodup := List.nodup_cons.2 ⟨fun hm' => hv v ((h.act v (hm.act v hm')).1) rfl, pair_nodup hp⟩
      have := nodup_le _ _ hnd hsub
      have h5 := hall v hva
      unfold overlap at h5
      rw [List.length_cons] at this; omega
    rw [List.foldl_cons]
    generalize freed s.p.mach s.free (s.active.filter (gone v)) = f at *
    generalize s.active.filter (fun a => !gone v a) = as at *
    have key : (scanStep args s v).free.length + (scanStep args s v).active.length = machine ∧ ∀ u ∈ L ++ [v], 0 ≤ (scanStep args s v).p.mach.getD u.reg (-1) := by
      generalize scanStep args s v = S at *
      cases st with
      | take m rest p hf2 h0 hpu hpv =>
        subst hf2
        rw [List.length_cons] at hcnt
        refine ⟨by simp; omega, fun u hu => ?_⟩
        rcases List.mem_append.1 hu with hu | hu
        · rw [hpu u hu]; exact hk u hu
        · rw [List.mem_singleton.1 hu, hpv]; exact h0
      | pass p hf2 _ _ => subst hf2; simp at hcnt; omega
      | swap x p hf2 _ _ _ _ _ _ => subst hf2; simp at hcnt; omega
    have := all_fold all hall hto l (L ++ [v]) v.frm (scanStep args s v) (by rw [he, List.append_assoc]; rfl) hs key.1 ⟨fun u hu => ho.inr u (by simp [hu]), h1.2, h2.2⟩ (fun u hu w hw => by
      rcases List.mem_append.1 hu with hu | hu
      · exact hd u hu w (by simp [hw])
      · rw [List.mem_singleton.1 hu]; exact h1.1 w hw) (fun w hw => h2.1 w hw) (fun u hu w hw => by
      rcases List.mem_append.1 hu with hu | hu
      · exact hf u hu w (by simp [hw])
      · rw [List.mem_singleton.1 hu]; exact h2.1 w hw) key.2
    rw [List.append_assoc] at this
    exact this
/-- with as many machine registers as overlap none goes without -/
theorem enough_all {regs args machine : Nat} {l : List Itv} (h : ItvOK regs l) (hto : ∀ v ∈ l, v.frm ≤ v.to) (ho : ∀ v ∈ l, overlap l v ≤ machine) : ∀ u ∈ l, 0 ≤ (planOf regs args machine l).mach.getD u.reg (-1) := by
  have := all_fold (regs := regs) (args := args) (machine := machine) l ho hto l [] 0 _ rfl (scan_start regs args machine) (by simp [scan0]) h (by simp) (by simp) (by simp) (by simp)
  rw [List.nil_append] at this
  exact this
end Go.Proofs.YtpahhcmiimllaaaGreatDoor
namespace Go.Proofs.YtpahhcmiimllaaaGreatDoor

def memW (ws : List Nat) (r : Nat) : Bool := (ws.getD (r / 64) 0).testBit (r % 64)
def putW (ws : List Nat) (r : Nat) : List Nat := ws.set (r / 64) (ws.getD (r / 64) 0 ||| 2 ^ (r % 64))
def dropW (ws : List Nat) (r : Nat) : List Nat := ws.set (r / 64) (ws.getD (r / 64) 0 &&& (18446744073709551615 ^^^ 2 ^ (r % 64)))
def orW (a b : List Nat) : List Nat := List.zipWith (fun x y => x ||| y) a b
def WOK (nw : Nat) (ws : List Nat) : Prop := ws.length = nw ∧ ∀ x ∈ ws, x < 18446744073709551616

theorem bit_big {x r : Nat} (h : x < 18446744073709551616) (hr : 64 ≤ r) : x.testBit r = false := Nat.testBit_lt_two_pow (Nat.lt_of_lt_of_le h (by rw [show (18446744073709551616 : Nat) = 2 ^ 64 by decide]; exact Nat.pow_le_pow_right (by omega) hr))
theorem or_lt {x y : Nat} (hx : x < 18446744073709551616) (hy : y < 18446744073709551616) : x ||| y < 18446744073709551616 := Nat.or_lt_two_pow (n := 64) hx hy
theorem and_lt {x y : Nat} (hx : x < 18446744073709551616) : x &&& y < 18446744073709551616 := Nat.lt_of_le_of_lt Nat.and_le_left hx
theorem pow_lt (r : Nat) : 2 ^ (r % 64) < 18446744073709551616 := by
  rw [show (18446744073709551616 : Nat) = 2 ^ 64 by decide]
  exact Nat.pow_lt_pow_right (by omega) (Nat.mod_lt _ (by omega))
theorem getD_lt {nw : Nat} {ws : List Nat} (h : WOK nw ws) (i : Nat) : ws.getD i 0 < 18446744073709551616 := by
  rw [List.getD_eq_getElem?_getD]
  rcases hh : ws[i]? with _ | x
  · simp
  · exact h.2 x (List.mem_of_getElem? hh)
theorem set_wok {nw : Nat} {ws : List Nat} (h : WOK nw ws) (i x : Nat) (hx : x < 18446744073709551616) : WOK nw (ws.set i x) := by
  refine ⟨by rw [List.length_set]; exact h.1, fun y hy => ?_⟩
  rcases List.mem_or_eq_of_mem_set hy with h1 | h1
  · exact h.2 y h1
  · rw [h1]; exact hx
theorem putW_ok {nw : Nat} {ws : List Nat} (h : WOK nw ws) (r : Nat) : WOK nw (putW ws r) := set_wok h _ _ (or_lt (getD_lt h _) (pow_lt r))
theorem dropW_ok {nw : Nat} {ws : List Nat} (h : WOK nw ws) (r : Nat) : WOK nw (dropW ws r) := set_wok h _ _ (and_lt (getD_lt h _))
theorem orW_ok {nw : Nat} {a b : List Nat} (ha : WOK nw a) (hb : WOK nw b) : WOK nw (orW a b) := by
  refine ⟨by unfold orW; rw [List.length_zipWith, ha.1, hb.1, Nat.min_self], fun y hy => ?_⟩
  unfold orW at hy
  obtain ⟨i, hi⟩ := List.mem_iff_getElem?.1 hy
  rw [List.getElem?_zipWith] at hi
  rcases h1 : a[i]? with _ | x <;> rcases h2 : b[i]? with _ | z <;> rw [h1, h2] at hi
  · cases hi
  · cases hi
  · cases hi
  · cases hi
    exact or_lt (ha.2 x (List.mem_of_getElem? h1)) (hb.2 z (List.mem_of_getElem? h2))
theorem getD_set (ws : List Nat) (i j x : Nat) (hi : i < ws.length) : (ws.set i x).getD j 0 = if i = j then x else ws.getD j 0 := by
  rw [List.getD_eq_getElem?_getD, List.getD_eq_getElem?_getD, List.getElem?_set]
  by_cases h : i = j
  · subst h; simp [hi]
  · simp [h]
theorem mod_div_eq {q r : Nat} : q = r ↔ q / 64 = r / 64 ∧ q % 64 = r % 64 := by omega
theorem memW_put {ws : List Nat} {r : Nat} (hr : r / 64 < ws.length) (q : Nat) : memW (putW ws r) q = (memW ws q || decide (q = r)) := by
  unfold memW putW
  rw [getD_set _ _ _ _ hr]
  by_cases h : r / 64 = q / 64
  · rw [if_pos h, Nat.testBit_or, Nat.testBit_two_pow, ← h]
    congr 1
    by_cases h2 : q = r
    · simp [h2]
    · have : ¬ r % 64 = q % 64 := fun e => h2 (by omega)
      simp [h2, this]
  · rw [if_neg h]
    have : q ≠ r := fun e => h (by rw [e])
    simp [this]
theorem ones_bit {k : Nat} (h : k < 64) : (18446744073709551615 : Nat).testBit k = true := by
  rw [show (18446744073709551615 : Nat) = 2 ^ 64 - 1 by decide, Nat.testBit_two_pow_sub_one]
  simp [h]
theorem memW_drop {ws : List Nat} {r : Nat} (hr : r / 64 < ws.length) (q : Nat) : memW (dropW ws r) q = (memW ws q && !decide (q = r)) := by
  unfold memW dropW
  rw [getD_set _ _ _ _ hr]
  by_cases h : r / 64 = q / 64
  · rw [if_pos h, Nat.testBit_and, Nat.testBit_xor, Nat.testBit_two_pow, ones_bit (Nat.mod_lt _ (by omega)), ← h]
    congr 1
    by_cases h2 : q = r
    · simp [h2]
    · have : ¬ r % 64 = q % 64 := fun e => h2 (by omega)
      simp [h2, this]
  · rw [if_neg h]
    have : q ≠ r := fun e => h (by rw [e])
    simp [this]
theorem memW_or {a b : List Nat} (h : a.length = b.length) (q : Nat) : memW (orW a b) q = (memW a q || memW b q) := by
  unfold memW orW
  rw [← Nat.testBit_or]
  congr 1
  rw [List.getD_eq_getElem?_getD, List.getD_eq_getElem?_getD, List.getD_eq_getElem?_getD, List.getElem?_zipWith]
  rcases h1 : a[q / 64]? with _ | x <;> rcases h2 : b[q / 64]? with _ | z
  · rfl
  · rw [List.getElem?_eq_none_iff] at h1; have := (List.getElem?_eq_some_iff.1 h2).1; omega
  · rw [List.getElem?_eq_none_iff] at h2; have := (List.getElem?_eq_some_iff.1 h1).1; omega
  · rfl
theorem memW_lt {nw : Nat} {ws : List Nat} (h : WOK nw ws) {r : Nat} (hm : memW ws r = true) : r < 64 * nw := by
  unfold memW at hm
  rw [List.getD_eq_getElem?_getD] at hm
  rcases hh : ws[r / 64]? with _ | x
  · rw [hh] at hm; simp at hm
  · have := (List.getElem?_eq_some_iff.1 hh).1
    rw [h.1] at this; omega
theorem words_ext {nw : Nat} {a b : List Nat} (ha : WOK nw a) (hb : WOK nw b) (h : ∀ q, memW a q = memW b q) : a = b := by
  refine List.ext_getElem? fun i => ?_
  rcases h1 : a[i]? with _ | x
  · rw [List.getElem?_eq_none_iff] at h1
    rw [List.getElem?_eq_none (by rw [hb.1, ← ha.1]; exact h1)]
  · have hi := (List.getElem?_eq_some_iff.1 h1).1
    rcases h2 : b[i]? with _ | y
    · rw [List.getElem?_eq_none_iff] at h2; rw [ha.1] at hi; rw [hb.1] at h2; omega
    · congr 1
      refine Nat.eq_of_testBit_eq fun k => ?_
      rcases Nat.lt_or_ge k 64 with hk | hk
      · have := h (i * 64 + k)
        unfold memW at this
        rw [show (i * 64 + k) / 64 = i by omega, show (i * 64 + k) % 64 = k by omega] at this
        rw [List.getD_eq_getElem?_getD, List.getD_eq_getElem?_getD, h1, h2] at this
        exact this
      · rw [bit_big (ha.2 x (List.mem_of_getElem? h1)) hk, bit_big (hb.2 y (List.mem_of_getElem? h2)) hk]
/-- how many a set holds -/
def cardW (ws : List Nat) : Nat := ((List.range (64 * ws.length)).filter (memW ws)).length
theorem cardW_le (ws : List Nat) : cardW ws ≤ 64 * ws.length := by
  unfold cardW
  refine Nat.le_trans (List.length_filter_le _ _) ?_
  rw [List.length_range]; exact Nat.le_refl _
theorem filter_le {α : Type} {p q : α → Bool} : ∀ (l : List α), (∀ x ∈ l, p x = true → q x = true) → (l.filter p).length ≤ (l.filter q).length
  | [], _ => Nat.le_refl _
  | x :: l, h => by
    have ih := filter_le l fun y hy => h y (List.mem_cons_of_mem _ hy)
    rw [List.filter_cons, List.filter_cons]
    by_cases hp : p x = true
    · rw [if_pos hp, if_pos (h x (by simp) hp)]; simp; exact ih
    · rw [if_neg hp]
      split
      · simp; omega
      · exact ih
theorem filter_lt {α : Type} {p q : α → Bool} : ∀ (l : List α), (∀ x ∈ l, p x = true → q x = true) → (∃ x ∈ l, p x = false ∧ q x = true) → (l.filter p).length < (l.filter q).length
  | [], _, h => by obtain ⟨x, hx, _⟩ := h; cases hx
  | x :: l, h, hx => by
    have ih := filter_le l fun y hy => h y (List.mem_cons_of_mem _ hy)
    rw [List.filter_cons, List.filter_cons]
    obtain ⟨y, hy, h1, h2⟩ := hx
    rcases List.mem_cons.1 hy with rfl | hy
    · rw [h1, h2]; simp; omega
    · have ih2 := filter_lt l (fun y hy => h y (List.mem_cons_of_mem _ hy)) ⟨y, hy, h1, h2⟩
      by_cases hp : p x = true
      · rw [if_pos hp, if_pos (h x (by simp) hp)]; simp; exact ih2
      · rw [if_neg hp]
        split
        · simp; omega
        · exact ih2
theorem cardW_mono {nw : Nat} {a b : List Nat} (ha : WOK nw a) (hb : WOK nw b) (h : ∀ q, memW a q = true → memW b q = true) : cardW a ≤ cardW b := by
  unfold cardW; rw [ha.1, hb.1]; exact filter_le _ fun x _ => h x
theorem cardW_lt {nw : Nat} {a b : List Nat} (ha : WOK nw a) (hb : WOK nw b) (h : ∀ q, memW a q = true → memW b q = true) (hne : a ≠ b) : cardW a < cardW b := by
  unfold cardW; rw [ha.1, hb.1]
  refine filter_lt _ (fun x _ => h x) ?_
  apply Classical.byContradiction
  intro hno
  refine hne (words_ext ha hb fun q => ?_)
  cases h1 : memW a q with
  | true => exact (h q h1).symm
  | false =>
    cases h2 : memW b q with
    | false => rfl
    | true => exact absurd ⟨q, List.mem_range.2 (memW_lt hb h2), h1, h2⟩ hno
/-- the state of the search -/
structure LS where
  ah : List (List Nat)
  be : List (List Nat)
  ch : Bool
def joinW (ah : List (List Nat)) (b : List Nat) (ns : List Nat) : List Nat := ns.foldl (fun b n => orW b (ah.getD n [])) b
def aheadOf (x : InsL) (b : List Nat) : List Nat := ((usesR x).map Int.toNat).foldl putW (if 0 ≤ usesW x then dropW b (usesW x).toNat else b)
def stepL (code : List InsL) (s : LS) (i : Nat) : LS :=
  let x := code.getD i default
  let b := joinW s.ah (s.be.getD i []) (nextL i x)
  let a := aheadOf x b
  if a = s.ah.getD i [] then ⟨s.ah, s.be.set i b, s.ch⟩ else ⟨s.ah.set i a, s.be.set i b, true⟩
/-- what is asked of code -/
structure CodeOK (nw : Nat) (code : List InsL) : Prop where
  rd : ∀ x ∈ code, ∀ r ∈ usesR x, 0 ≤ r ∧ r.toNat / 64 < nw
  wr : ∀ x ∈ code, -1 ≤ usesW x ∧ ((usesW x).toNat / 64 < nw)
  nx : ∀ k x, code[k]? = some x → ∀ n ∈ nextL k x, n < code.length
structure InvL (nw : Nat) (code : List InsL) (s : LS) : Prop where
  la : s.ah.length = code.length
  lb : s.be.length = code.length
  wa : ∀ a ∈ s.ah, WOK nw a
  wb : ∀ b ∈ s.be, WOK nw b
  sa : ∀ k r, memW (s.ah.getD k []) r = true → LiveA code k (r : Int)
  sb : ∀ k r, memW (s.be.getD k []) r = true → LiveB code k (r : Int)
  grow : ∀ k x r, code[k]? = some x → memW (s.ah.getD k []) r = true → (memW (s.be.getD k []) r = true ∧ (r : Int) ≠ usesW x) ∨ (r : Int) ∈ usesR x
def muL (s : LS) : Nat := (s.ah.map cardW).sum
def StableAt (code : List InsL) (s : LS) (i : Nat) : Prop := ∀ x, code[i]? = some x → s.ah.getD i [] = aheadOf x (s.be.getD i []) ∧ ∀ n ∈ nextL i x, ∀ r, memW (s.ah.getD n []) r = true → memW (s.be.getD i []) r = true
theorem getD_ok {nw : Nat} {l : List (List Nat)} (h : ∀ a ∈ l, WOK nw a) {i : Nat} (hi : i < l.length) : WOK nw (l.getD i []) := by
  rw [List.getD_eq_getElem?_getD, List.getElem?_eq_getElem hi]; exact h _ (List.getElem_mem hi)
theorem join_spec {nw : Nat} {ah : List (List Nat)} (h : ∀ a ∈ ah, WOK nw a) : ∀ (ns : List Nat) (b : List Nat), WOK nw b → (∀ n ∈ ns, n < ah.length) → WOK nw (joinW ah b ns) ∧ ∀ q, memW (joinW ah b ns) q = true ↔ memW b q = true ∨ ∃ n ∈ ns, memW (ah.getD n []) q = true
  | [], b, hb, _ => ⟨hb, fun q => by simp [joinW]⟩
  | n :: ns, b, hb, hn => by
    have hg := getD_ok h (hn n (by simp))
    have ih := join_spec h ns (orW b (ah.getD n [])) (orW_ok hb hg) fun m hm => hn m (by simp [hm])
    refine ⟨ih.1, fun q => ?_⟩
    rw [show joinW ah b (n :: ns) = joinW ah (orW b (ah.getD n [])) ns from rfl, ih.2 q, memW_or (by rw [hb.1, hg.1]), Bool.or_eq_true]
    simp only [List.mem_cons, exists_eq_or_imp, or_assoc]
theorem puts_spec {nw : Nat} : ∀ (rs : List Int) (b : List Nat), WOK nw b → (∀ r ∈ rs, 0 ≤ r ∧ r.toNat / 64 < nw) → WOK nw ((rs.map Int.toNat).foldl putW b) ∧ ∀ q, memW ((rs.map Int.toNat).foldl putW b) q = true ↔ memW b q = true ∨ (q : Int) ∈ rs
  | [], b, hb, _ => ⟨hb, fun q => by simp⟩
  | r :: rs, b, hb, hr => by
    have h1 := hr r (by simp)
    have ih := puts_spec rs (putW b r.toNat) (putW_ok hb _) fun m hm => hr m (by simp [hm])
    refine ⟨ih.1, fun q => ?_⟩
    rw [List.map_cons, List.foldl_cons, ih.2 q, memW_put (by rw [hb.1]; exact h1.2), Bool.or_eq_true, decide_eq_true_eq, List.mem_cons, or_assoc]
    have : q = r.toNat ↔ (q : Int) = r := by omega
    rw [this]
theorem ahead_spec {nw : Nat} {code : List InsL} (hc : CodeOK nw code) {x : InsL} (hx : x ∈ code) {b : List Nat} (hb : WOK nw b) : WOK nw (aheadOf x b) ∧ ∀ q : Nat, memW (aheadOf x b) q = true ↔ (memW b q = true ∧ (q : Int) ≠ usesW x) ∨ (q : Int) ∈ usesR x := by
  unfold aheadOf
  have hw := hc.wr x hx
  have h0 : WOK nw (if 0 ≤ usesW x then dropW b (usesW x).toNat else b) ∧ ∀ q : Nat, memW (if 0 ≤ usesW x then dropW b (usesW x).toNat else b) q = true ↔ memW b q = true ∧ (q : Int) ≠ usesW x := by
    by_cases h : 0 ≤ usesW x
    · rw [if_pos h]
      refine ⟨dropW_ok hb _, fun q => ?_⟩
      rw [memW_drop (by rw [hb.1]; exact hw.2), Bool.and_eq_true, Bool.not_eq_true', decide_eq_false_iff_not]
      have : q = (usesW x).toNat ↔ (q : Int) = usesW x := by omega
      rw [this]
    · rw [if_neg h]
      refine ⟨hb, fun q => ?_⟩
      have : (q : Int) ≠ usesW x := by omega
      simp [this]
  have h1 := puts_spec (usesR x) _ h0.1 (hc.rd x hx)
  exact ⟨h1.1, fun q => by rw [h1.2 q, h0.2 q]⟩
theorem getD_setL (l : List (List Nat)) (i j : Nat) (a : List Nat) (hi : i < l.length) : (l.set i a).getD j [] = if i = j then a else l.getD j [] := by
  rw [List.getD_eq_getElem?_getD, List.getD_eq_getElem?_getD, List.getElem?_set]
  by_cases h : i = j
  · subst h; simp [hi]
  · simp [h]
theorem mem_set_ok {nw : Nat} {l : List (List Nat)} (h : ∀ a ∈ l, WOK nw a) {i : Nat} {a : List Nat} (ha : WOK nw a) : ∀ b ∈ l.set i a, WOK nw b := fun b hb => by
  rcases List.mem_or_eq_of_mem_set hb with h1 | h1
  · exact h b h1
  · rw [h1]; exact ha
theorem sum_set (f : List Nat → Nat) : ∀ (l : List (List Nat)) (i : Nat) (a : List Nat), i < l.length → ((l.set i a).map f).sum + f (l.getD i []) = (l.map f).sum + f a
  | [], i, a, h => by simp at h
  | y :: l, 0, a, h => by simp; omega
  | y :: l, i + 1, a, h => by
    have := sum_set f l i a (by simpa using h)
    simp only [List.set_cons_succ, List.map_cons, List.sum_cons, List.getD_cons_succ]; omega
theorem step_inv {nw : Nat} {code : List InsL} (hc : CodeOK nw code) {s : LS} (h : InvL nw code s) {i : Nat} (hi : i < code.length) :
    InvL nw code (stepL code s i) ∧ muL s ≤ muL (stepL code s i) ∧ ((stepL code s i).ch = false → s.ch = false ∧ (stepL code s i).ah = s.ah ∧ StableAt code (stepL code s i) i ∧ ∀ j, j ≠ i → (stepL code s i).be.getD j [] = s.be.getD j []) ∧ ((stepL code s i).ch = true → s.ch = true ∨ muL s < muL (stepL code s i)) := by
  obtain ⟨x, hx⟩ : ∃ x, code[i]? = some x := ⟨code[i], List.getElem?_eq_getElem hi⟩
  have hxm := List.mem_of_getElem? hx
  have hxd : code.getD i default = x := by rw [List.getD_eq_getElem?_getD, hx]; rfl
  have hb0 : WOK nw (s.be.getD i []) := getD_ok h.wb (by rw [h.lb]; exact hi)
  have hia : i < s.ah.length := by rw [h.la]; exact hi
  have hib : i < s.be.length := by rw [h.lb]; exact hi
  have ha0 : WOK nw (s.ah.getD i []) := getD_ok h.wa hia
  have hj := join_spec h.wa (nextL i x) (s.be.getD i []) hb0 (fun n hn => by rw [h.la]; exact hc.nx i x hx n hn)
  obtain ⟨b, hb⟩ : ∃ b, joinW s.ah (s.be.getD i []) (nextL i x) = b := ⟨_, rfl⟩
  rw [hb] at hj
  have hah := ahead_spec hc hxm hj.1
  obtain ⟨a, haa⟩ : ∃ a, aheadOf x b = a := ⟨_, rfl⟩
  rw [haa] at hah
  have hsub : ∀ q, memW (s.ah.getD i []) q = true → memW a q = true := fun q hq => by
    rw [hah.2 q]
    rcases h.grow i x q hx hq with ⟨h1, h2⟩ | h1
    · exact .inl ⟨(hj.2 q).2 (.inl h1), h2⟩
    · exact .inr h1
  have hsb : ∀ r, memW b r = true → LiveB code i (r : Int) := fun r hr => by
    rcases (hj.2 r).1 hr with h1 | ⟨n, hn, h1⟩
    · exact h.sb i r h1
    · exact ⟨x, n, hx, hn, h.sa n r h1⟩
  have hsa : ∀ r, memW a r = true → LiveA code i (r : Int) := fun r hr => by
    rw [live_iff]
    rcases (hah.2 r).1 hr with ⟨h1, h2⟩ | h1
    · exact ⟨x, hx, .inr ⟨h2, hsb r h1⟩⟩
    · exact ⟨x, hx, .inl h1⟩
  have hE : stepL code s i = if a = s.ah.getD i [] then ⟨s.ah, s.be.set i b, s.ch⟩ else ⟨s.ah.set i a, s.be.set i b, true⟩ := by
    unfold stepL
    rw [hxd]
    simp only []
    rw [hb, haa]
  rw [hE]
  have hbe : ∀ k r, memW ((s.be.set i b).getD k []) r = true → LiveB code k (r : Int) := fun k r hr => by
    rw [getD_setL _ _ _ _ hib] at hr
    split at hr
    · rename_i e; subst e; exact hsb r hr
    · exact h.sb k r hr
  have hbsub : ∀ k r, memW (s.be.getD k []) r = true → memW ((s.be.set i b).getD k []) r = true := fun k r hr => by
    rw [getD_setL _ _ _ _ hib]
    split
    · rename_i e; subst e; exact (hj.2 r).2 (.inl hr)
    · exact hr
  have hnx : ∀ n ∈ nextL i x, ∀ r, memW (s.ah.getD n []) r = true → memW b r = true := fun n hn r hr => (hj.2 r).2 (.inr ⟨n, hn, hr⟩)
  by_cases he : a = s.ah.getD i []
  · rw [if_pos he]
    refine ⟨⟨h.la, by rw [List.length_set]; exact h.lb, h.wa, mem_set_ok h.wb hj.1, h.sa, hbe, fun k y r hy hr => ?_⟩, Nat.le_refl _, fun hch => ⟨hch, rfl, fun y hy => ?_, fun j hjn => ?_⟩, fun hch => .inl hch⟩
    · rcases h.grow k y r hy hr with ⟨h1, h2⟩ | h1
      · exact .inl ⟨hbsub k r h1, h2⟩
      · exact .inr h1
    · rw [hx] at hy; cases hy
      simp only []
      rw [getD_setL _ _ _ _ hib, if_pos rfl]
      exact ⟨by rw [haa, he], hnx⟩
    · simp only []
      rw [getD_setL _ _ _ _ hib, if_neg (fun e => hjn e.symm)]
  · rw [if_neg he]
    have hlt : muL s < muL ⟨s.ah.set i a, s.be.set i b, true⟩ := by
      unfold muL
      have := sum_set cardW s.ah i a hia
      have := cardW_lt ha0 hah.1 hsub (fun e => he e.symm)
      simp only []; omega
    refine ⟨⟨by rw [List.length_set]; exact h.la, by rw [List.length_set]; exact h.lb, mem_set_ok h.wa hah.1, mem_set_ok h.wb hj.1, fun k r hr => ?_, hbe, fun k y r hy hr => ?_⟩, Nat.le_of_lt hlt, fun hch => by simp at hch, fun _ => .inr hlt⟩
    · simp only [] at hr
      rw [getD_setL _ _ _ _ hia] at hr
      split at hr
      · rename_i e; subst e; exact hsa r hr
      · exact h.sa k r hr
    · simp only [] at hr ⊢
      rw [getD_setL _ _ _ _ hia] at hr
      split at hr
      · rename_i e; subst e
        rw [hx] at hy; cases hy
        rw [getD_setL _ _ _ _ hib, if_pos rfl]
        exact (hah.2 r).1 hr
      · rcases h.grow k y r hy hr with ⟨h1, h2⟩ | h1
        · exact .inl ⟨hbsub k r h1, h2⟩
        · exact .inr h1
theorem fold_inv {nw : Nat} {code : List InsL} (hc : CodeOK nw code) : ∀ (l : List Nat) (s : LS), InvL nw code s → l.Nodup → (∀ i ∈ l, i < code.length) →
    InvL nw code (l.foldl (stepL code) s) ∧ muL s ≤ muL (l.foldl (stepL code) s) ∧ ((l.foldl (stepL code) s).ch = false → s.ch = false ∧ (l.foldl (stepL code) s).ah = s.ah ∧ (∀ i ∈ l, StableAt code (l.foldl (stepL code) s) i) ∧ ∀ j, j ∉ l → (l.foldl (stepL code) s).be.getD j [] = s.be.getD j []) ∧ ((l.foldl (stepL code) s).ch = true → s.ch = true ∨ muL s < muL (l.foldl (stepL code) s))
  | [], s, h, _, _ => ⟨h, Nat.le_refl _, fun h => ⟨h, rfl, by simp, fun _ _ => rfl⟩, fun h => .inl h⟩
  | i :: l, s, h, hn, hi => by
    have hn2 := List.nodup_cons.1 hn
    obtain ⟨h1, h2, h3, h4⟩ := step_inv hc h (hi i (by simp))
    obtain ⟨k1, k2, k3, k4⟩ := fold_inv hc l (stepL code s i) h1 hn2.2 (fun j hj => hi j (by simp [hj]))
    rw [List.foldl_cons]
    refine ⟨k1, by omega, fun hch => ?_, fun hch => ?_⟩
    · obtain ⟨m1, m2, m3, m4⟩ := k3 hch
      obtain ⟨n1, n2, n3, n4⟩ := h3 m1
      refine ⟨n1, m2.trans n2, fun j hj => ?_, fun j hj => ?_⟩
      · rcases List.mem_cons.1 hj with rfl | hj
        · have hbj := m4 _ hn2.1
          intro x hx
          have := n3 x hx
          rw [m2, hbj]
          exact this
        · exact m3 j hj
      · have h1 : j ≠ i := fun e => hj (by simp [e])
        have h2 : j ∉ l := fun e => hj (by simp [e])
        rw [m4 j h2, n4 j h1]
    · rcases k4 hch with h5 | h5
      · rcases h4 h5 with h6 | h6
        · exact .inl h6
        · right; omega
      · right; omega
/-- the indices from the last down -/
def downTo (n : Nat) : List Nat := (List.range n).reverse
def passL (code : List InsL) (s : LS) : LS := (downTo code.length).foldl (stepL code) ⟨s.ah, s.be, false⟩
theorem pass_inv {nw : Nat} {code : List InsL} (hc : CodeOK nw code) {s : LS} (h : InvL nw code s) :
    InvL nw code (passL code s) ∧ ((passL code s).ch = true → muL s < muL (passL code s)) ∧ ((passL code s).ch = false → ∀ i, i < code.length → StableAt code (passL code s) i) := by
  obtain ⟨h1, h2, h3, h4⟩ := fold_inv hc (downTo code.length) ⟨s.ah, s.be, false⟩ ⟨h.la, h.lb, h.wa, h.wb, h.sa, h.sb, h.grow⟩ ((List.reverse_perm _).nodup_iff.2 List.nodup_range) (fun i hi => by unfold downTo at hi; simpa using hi)
  refine ⟨h1, fun hch => ?_, fun hch i hi => (h3 hch).2.2.1 i (by unfold downTo; simpa using hi)⟩
  rcases h4 hch with h5 | h5
  · cases h5
  · exact h5
theorem mu_le {nw : Nat} {code : List InsL} {s : LS} (h : InvL nw code s) : muL s ≤ code.length * (64 * nw) := by
  have : ∀ l : List (List Nat), (∀ a ∈ l, WOK nw a) → (l.map cardW).sum ≤ l.length * (64 * nw) := fun l => by
    induction l with
    | nil => intro _; simp
    | cons a l ih =>
      intro hl
      have h1 := ih fun b hb => hl b (by simp [hb])
      have h2 := cardW_le a
      rw [(hl a (by simp)).1] at h2
      rw [List.map_cons, List.sum_cons, List.length_cons, Nat.succ_mul]; omega
  have := this s.ah h.wa
  rw [h.la] at this
  exact this
/-- the sets are what is live -/
structure FixL (nw : Nat) (code : List InsL) (ah be : List (List Nat)) : Prop where
  la : ah.length = code.length
  lb : be.length = code.length
  wa : ∀ a ∈ ah, WOK nw a
  wb : ∀ b ∈ be, WOK nw b
  memA : ∀ k r, memW (ah.getD k []) r = true ↔ LiveA code k (r : Int)
  memB : ∀ k r, memW (be.getD k []) r = true ↔ LiveB code k (r : Int)
theorem stable_fix {nw : Nat} {code : List InsL} (hc : CodeOK nw code) {s : LS} (h : InvL nw code s) (hs : ∀ i, i < code.length → StableAt code s i) : FixL nw code s.ah s.be := by
  have hA : ∀ k (r : Int), LiveA code k r → memW (s.ah.getD k []) r.toNat = true := fun k r hl => by
    refine (live_sub (code := code) (S := fun k r => 0 ≤ r ∧ memW (s.ah.getD k []) r.toNat = true) ?_ ?_ hl).2
    · intro k x r hx hr
      have hi := (List.getElem?_eq_some_iff.1 hx).1
      have hm := List.mem_of_getElem? hx
      have h1 := (hs k hi x hx).1
      have h2 := ahead_spec hc hm (getD_ok h.wb (i := k) (by rw [h.lb]; exact hi))
      have h0 := (hc.rd x hm r hr).1
      refine ⟨h0, ?_⟩
      rw [h1, h2.2]
      right
      rw [Int.toNat_of_nonneg h0]; exact hr
    · intro k x n r hx hn hSr hw
      have hi := (List.getElem?_eq_some_iff.1 hx).1
      have hm := List.mem_of_getElem? hx
      have h1 := hs k hi x hx
      have h2 := ahead_spec hc hm (getD_ok h.wb (i := k) (by rw [h.lb]; exact hi))
      refine ⟨hSr.1, ?_⟩
      rw [h1.1, h2.2]
      left
      exact ⟨h1.2 n hn _ hSr.2, by rw [Int.toNat_of_nonneg hSr.1]; exact hw⟩
  refine ⟨h.la, h.lb, h.wa, h.wb, fun k r => ⟨h.sa k r, fun hl => by have := hA k r hl; simpa using this⟩, fun k r => ⟨h.sb k r, fun hl => ?_⟩⟩
  obtain ⟨x, n, hx, hn, hl⟩ := hl
  have hi := (List.getElem?_eq_some_iff.1 hx).1
  have := hA n r hl
  exact (hs k hi x hx).2 n hn r (by simpa using this)
end Go.Proofs.YtpahhcmiimllaaaGreatDoor
namespace Go.Proofs.YtpahhcmiimllaaaGreatDoor

theorem all_bodies_get (c : CodeL) : ∀ (l : List BodyL) (k : Nat), allBodies c k l = true → ∀ b ∈ l, ∃ j, bodyOK c j b = true
  | [], k, _, b, hb => by cases hb
  | a :: l, k, h, b, hb => by
    rw [allBodies, Bool.and_eq_true] at h
    rcases List.mem_cons.1 hb with rfl | hb
    · exact ⟨k, h.1⟩
    · exact all_bodies_get c l (k + 1) h.2 b hb
/-- what a right body has -/
structure BodyRight (c : CodeL) (b : BodyL) : Prop where
  args0 : 0 ≤ b.args
  args1 : b.args ≤ b.regs
  regs : b.regs ≤ 5000
  ne : b.code ≠ []
  last : lastOp b = 22 ∨ lastOp b = 19
  ins : ∀ x ∈ b.code, insOK c b x = true
theorem chk_right {c : CodeL} (h : chkC c = 0) {b : BodyL} (hb : b ∈ c.bodies) : BodyRight c b := by
  unfold chkC at h
  split at h
  · cases h
  · split at h
    · cases h
    · rename_i h2
      split at h
      · rename_i h3
        obtain ⟨j, hj⟩ := all_bodies_get c _ _ h3 b hb
        unfold bodyOK at hj
        simp only [Bool.and_eq_true, Bool.or_eq_true, decide_eq_true_eq, List.all_eq_true] at hj
        obtain ⟨⟨⟨⟨⟨⟨_, h4⟩, h5⟩, _⟩, h6⟩, h7⟩, h8⟩ := hj
        refine ⟨h4, h5, ?_, h6, h7, h8⟩
        apply Int.not_lt.1
        intro hlt
        exact h2 (List.any_eq_true.2 ⟨b, hb, decide_eq_true hlt⟩)
      · cases h
theorem field_read {c : CodeL} {b : BodyL} {k n : Int} (hk : kindRead k = true) (h : fieldB c b k n = true) : (-1 ≤ n ∧ n < b.regs) := by
  unfold kindRead at hk
  simp only [Bool.or_eq_true, beq_iff_eq] at hk
  rcases hk with rfl | rfl
  · simp [fieldB] at h; omega
  · simp [fieldB] at h; omega
theorem field_write {c : CodeL} {b : BodyL} {k n : Int} (hk : kindWrite k = true) (h : fieldB c b k n = true) : (-1 ≤ n ∧ n < b.regs) := by
  unfold kindWrite at hk
  simp only [Bool.or_eq_true, beq_iff_eq] at hk
  rcases hk with rfl | rfl
  · simp [fieldB] at h; omega
  · simp [fieldB] at h; omega
structure InsRight (c : CodeL) (b : BodyL) (i : InsL) : Prop where
  fs : ∀ f ∈ fieldsOf i, fieldB c b f.1 f.2 = true
  ls : ∀ r ∈ i.list, 0 ≤ r ∧ r < b.regs
  op1 : 1 ≤ i.op
  op2 : i.op ≤ 37
theorem ins_right {c : CodeL} {b : BodyL} {i : InsL} (h : insOK c b i = true) : InsRight c b i := by
  unfold insOK at h
  simp only [Bool.and_eq_true, decide_eq_true_eq, List.all_eq_true] at h
  obtain ⟨⟨⟨⟨⟨⟨⟨⟨⟨h1, h2⟩, h3⟩, h4⟩, h5⟩, h6⟩, _⟩, _⟩, _⟩, h7⟩ := h
  refine ⟨fun f hf => ?_, fun r hr => ?_, h1, h2⟩
  · unfold fieldsOf at hf
    simp only [List.mem_cons, List.not_mem_nil, or_false] at hf
    rcases hf with rfl | rfl | rfl | rfl <;> assumption
  · have := h7 r hr
    simp [fieldB] at this; exact this
theorem uses_range {c : CodeL} {b : BodyL} {i : InsL} (h : InsRight c b i) : (∀ r ∈ usesR i, 0 ≤ r ∧ r < b.regs) ∧ -1 ≤ usesW i ∧ (0 ≤ b.regs → usesW i < b.regs) := by
  refine ⟨fun r hr => ?_, ?_⟩
  · unfold usesR at hr
    split at hr
    · rw [List.mem_filter] at hr
      have hne : r ≠ -1 := by simpa using hr.2
      rcases List.mem_append.1 hr.1 with hr | hr
      · obtain ⟨f, hf, rfl⟩ := List.mem_map.1 hr
        rw [List.mem_filter] at hf
        have := field_read hf.2 (h.fs f hf.1)
        omega
      · exact h.ls r hr
    · cases hr
  · unfold usesW
    split
    · generalize hl : (((fieldsOf i).filter (fun f => kindWrite f.1)).map (·.2)).getLast? = o
      cases o with
      | none =>
        show -1 ≤ (-1 : Int) ∧ (0 ≤ b.regs → (-1 : Int) < b.regs)
        omega
      | some w =>
        have hm := List.mem_of_getLast? hl
        obtain ⟨f, hf, rfl⟩ := List.mem_map.1 hm
        rw [List.mem_filter] at hf
        have := field_write hf.2 (h.fs f hf.1)
        show -1 ≤ f.2 ∧ (0 ≤ b.regs → f.2 < b.regs)
        omega
    · omega
theorem next_range {c : CodeL} {b : BodyL} (hb : BodyRight c b) {k : Nat} {i : InsL} (hi : b.code[k]? = some i) : ∀ n ∈ nextL k i, n < b.code.length := by
  have hr := ins_right (hb.ins i (List.mem_of_getElem? hi))
  have hk := (List.getElem?_eq_some_iff.1 hi).1
  have hc : (i.op = 19 ∨ i.op = 20) → i.c.toNat < b.code.length := fun h => by
    have := hr.fs ((kindsOf i.op).2.2.1, i.c) (by simp [fieldsOf])
    rcases h with h | h <;> rw [h] at this <;> simp [kindsOf, kindsT, fieldB] at this <;> omega
  have hs : i.op ≠ 22 → i.op ≠ 19 → k + 1 < b.code.length := fun h1 h2 => by
    rcases Nat.lt_or_ge (k + 1) b.code.length with h | h
    · exact h
    · exfalso
      have hl := hb.last
      unfold lastOp at hl
      rw [List.getLast?_eq_getElem?, show b.code.length - 1 = k by omega, hi] at hl
      simp at hl
      omega
  intro n hn
  unfold nextL at hn
  split at hn
  · cases hn
  · split at hn
    · simp at hn; subst hn; exact hc (.inl (by assumption))
    · split at hn
      · simp at hn
        rcases hn with rfl | rfl
        · exact hs (by assumption) (by assumption)
        · exact hc (.inr (by assumption))
      · simp at hn; subst hn; exact hs (by assumption) (by assumption)
theorem code_ok {c : CodeL} {b : BodyL} (hb : BodyRight c b) : CodeOK (b.regs.toNat / 64 + 1) b.code := by
  have h0 := hb.args0
  have h1 := hb.args1
  refine ⟨fun x hx r hr => ?_, fun x hx => ?_, fun k x hx => next_range hb hx⟩
  · have := (uses_range (ins_right (hb.ins x hx))).1 r hr
    omega
  · have := (uses_range (ins_right (hb.ins x hx))).2
    omega
theorem live_range {c : CodeL} {b : BodyL} (hb : BodyRight c b) {k : Nat} {r : Int} (h : LiveA b.code k r) : 0 ≤ r ∧ r < b.regs :=
  live_reg (P := fun r => 0 ≤ r ∧ r < b.regs) (fun x hx => (uses_range (ins_right (hb.ins x hx))).1) h
theorem liveB_range {c : CodeL} {b : BodyL} (hb : BodyRight c b) {k : Nat} {r : Int} (h : LiveB b.code k r) : 0 ≤ r ∧ r < b.regs := by
  obtain ⟨x, n, _, _, h⟩ := h
  exact live_range hb h
/-- the search begins with nothing -/
theorem mem_nil (nw r : Nat) : memW (List.replicate nw 0) r = false := by
  unfold memW
  rw [List.getD_eq_getElem?_getD, List.getElem?_replicate]
  split <;> simp
theorem rep_getD (n nw k r : Nat) : memW ((List.replicate n (List.replicate nw 0)).getD k []) r = false := by
  rw [List.getD_eq_getElem?_getD, List.getElem?_replicate]
  split
  · exact mem_nil nw r
  · simp [memW]
def start (nw n : Nat) : LS := ⟨List.replicate n (List.replicate nw 0), List.replicate n (List.replicate nw 0), true⟩
theorem start_inv (nw : Nat) (code : List InsL) : InvL nw code (start nw code.length) := by
  have hw : ∀ a ∈ List.replicate code.length (List.replicate nw 0), WOK nw a := fun a ha => by
    rw [(List.mem_replicate.1 ha).2]
    exact ⟨List.length_replicate, fun x hx => by rw [(List.mem_replicate.1 hx).2]; decide⟩
  refine ⟨List.length_replicate, List.length_replicate, hw, hw, fun k r h => ?_, fun k r h => ?_, fun k x r _ h => ?_⟩
  · have := rep_getD code.length nw k r
    rw [show (start nw code.length).ah = List.replicate code.length (List.replicate nw 0) from rfl] at h
    rw [this] at h; cases h
  · have := rep_getD code.length nw k r
    rw [show (start nw code.length).be = List.replicate code.length (List.replicate nw 0) from rfl] at h
    rw [this] at h; cases h
  · have := rep_getD code.length nw k r
    rw [show (start nw code.length).ah = List.replicate code.length (List.replicate nw 0) from rfl] at h
    rw [this] at h; cases h
end Go.Proofs.YtpahhcmiimllaaaGreatDoor
namespace Go.Proofs.YtpahhcmiimllaaaGreatDoor

/-- the first and the last place where t holds -/
def firstT (t : Nat → Nat → Bool) (n r : Nat) : Option Nat := (List.range n).find? (fun i => t i r)
def lastT (t : Nat → Nat → Bool) (n r : Nat) : Nat := ((List.range n).reverse.find? (fun i => t i r)).getD 0
def itvsOf (t : Nat → Nat → Bool) (n regs : Nat) : List Itv := (List.range n).flatMap fun i => ((List.range regs).filter fun r => firstT t n r == some i).map fun r => ⟨r, i, lastT t n r⟩
def ltI (a b : Itv) : Prop := a.frm < b.frm ∨ (a.frm = b.frm ∧ a.reg < b.reg)

theorem mem_itvs {t : Nat → Nat → Bool} {n regs : Nat} {v : Itv} : v ∈ itvsOf t n regs ↔ v.reg < regs ∧ firstT t n v.reg = some v.frm ∧ v.to = lastT t n v.reg := by
  unfold itvsOf
  simp only [List.mem_flatMap, List.mem_map, List.mem_filter, List.mem_range, beq_iff_eq]
  constructor
  · rintro ⟨i, _, r, ⟨h1, h2⟩, rfl⟩
    exact ⟨h1, h2, rfl⟩
  · rintro ⟨h1, h2, h3⟩
    have hm := List.mem_of_find?_eq_some h2
    exact ⟨v.frm, List.mem_range.1 hm, v.reg, ⟨h1, h2⟩, by rw [← h3]⟩
theorem itvs_sorted (t : Nat → Nat → Bool) (n regs : Nat) : (itvsOf t n regs).Pairwise ltI := by
  unfold itvsOf
  rw [List.pairwise_flatMap]
  constructor
  · intro i _
    rw [List.pairwise_map]
    refine List.Pairwise.imp ?_ ((List.pairwise_lt_range (n := regs)).sublist List.filter_sublist)
    intro a b h
    exact .inr ⟨rfl, h⟩
  · refine List.Pairwise.imp ?_ (List.pairwise_lt_range (n := n))
    intro i j h a ha b hb
    obtain ⟨r, _, rfl⟩ := List.mem_map.1 ha
    obtain ⟨q, _, rfl⟩ := List.mem_map.1 hb
    exact .inl h
theorem ltI_trans {a b c : Itv} (h : ltI a b) (k : ltI b c) : ltI a c := by unfold ltI at *; omega
theorem ltI_irr {a : Itv} : ¬ ltI a a := by unfold ltI; omega
theorem itvs_pair (t : Nat → Nat → Bool) (n regs : Nat) : (itvsOf t n regs).Pairwise (fun u v => u.reg ≠ v.reg) := by
  refine List.Pairwise.imp_of_mem ?_ (itvs_sorted t n regs)
  intro a b ha hb h e
  have h1 := mem_itvs.1 ha
  have h2 := mem_itvs.1 hb
  rw [e, h2.2.1] at h1
  have := Option.some.inj h1.2.1
  unfold ltI at h; omega
theorem itvs_ok (t : Nat → Nat → Bool) (n regs : Nat) : ItvOK regs (itvsOf t n regs) :=
  ⟨fun v hv => (mem_itvs.1 hv).1, itvs_pair t n regs, (itvs_sorted t n regs).imp (fun h => by unfold ltI at h; omega)⟩
theorem first_iff {t : Nat → Nat → Bool} {n r i : Nat} : firstT t n r = some i ↔ i < n ∧ t i r = true ∧ ∀ j, j < i → t j r = false := by
  unfold firstT
  rw [List.find?_eq_some_iff_append]
  constructor
  · rintro ⟨h1, as, bs, h2, h3⟩
    have hl : as.length = i := by
      have := congrArg (fun l => l[as.length]?) h2
      simp only [List.getElem?_append_right (Nat.le_refl _), Nat.sub_self, List.getElem?_cons_zero] at this
      rcases Nat.lt_or_ge as.length n with h | h
      · rw [List.getElem?_range h] at this; exact Option.some.inj this
      · rw [List.getElem?_eq_none (by simpa using h)] at this; cases this
    have hn := congrArg List.length h2
    rw [List.length_range, List.length_append, List.length_cons] at hn
    refine ⟨by omega, by simpa using h1, fun j hj => ?_⟩
    have : as[j]? = some j := by
      have := congrArg (fun l => l[j]?) h2
      simp only [List.getElem?_append_left (show j < as.length by omega)] at this
      rw [List.getElem?_range (show j < n by omega)] at this
      exact this.symm
    have := h3 j (List.mem_of_getElem? this)
    simpa using this
  · rintro ⟨h1, h2, h3⟩
    refine ⟨h2, List.range i, (List.range (n - i)).map (· + i) |>.tail, ?_, fun j hj => by simpa using h3 j (List.mem_range.1 hj)⟩
    rw [show n = i + (n - i - 1 + 1) by omega, List.range_add]
    congr 1
    rw [show i + (n - i - 1 + 1) - i = n - i - 1 + 1 by omega, List.range_succ_eq_map]
    simp [Nat.add_comm]
theorem last_ge {t : Nat → Nat → Bool} {n r i : Nat} (hi : i < n) (h : t i r = true) : i ≤ lastT t n r ∧ lastT t n r < n ∧ t (lastT t n r) r = true := by
  unfold lastT
  rcases hf : (List.range n).reverse.find? (fun i => t i r) with _ | k
  · rw [List.find?_eq_none] at hf
    have := hf i (by simpa using hi)
    rw [h] at this; simp at this
  · have h1 := List.find?_some hf
    have h2 := List.mem_of_find?_eq_some hf
    refine ⟨?_, by simpa using h2, h1⟩
    rw [List.find?_eq_some_iff_append] at hf
    obtain ⟨_, as, bs, e, h3⟩ := hf
    show i ≤ k
    apply Nat.le_of_not_lt
    intro hlt
    have hm : i ∈ as := by
      have hmem : i ∈ (List.range n).reverse := by simpa using hi
      rw [e] at hmem
      rcases List.mem_append.1 hmem with hm | hm
      · exact hm
      · exfalso
        have hs : (List.range n).reverse.Pairwise (fun a b => b < a) := List.pairwise_reverse.2 List.pairwise_lt_range
        rw [e, List.pairwise_append] at hs
        rcases List.mem_cons.1 hm with e2 | hm
        · omega
        · have := (List.pairwise_cons.1 hs.2.1).1 i hm; omega
    have := h3 i hm
    rw [h] at this; simp at this
/-- what the map holds after the events E -/
structure Evs (E : Nat → Nat → Prop) (ms : List Itv) : Prop where
  own : ∀ v ∈ ms, E v.reg v.frm ∧ E v.reg v.to
  all : ∀ r i, E r i → ∃ v ∈ ms, v.reg = r ∧ v.frm ≤ i ∧ i ≤ v.to
  nd : (ms.map Itv.reg).Nodup
def extV (r i : Nat) (v : Itv) : Itv := if v.reg = r then ⟨r, min v.frm i, max v.to i⟩ else v
def extM (ms : List Itv) (r i : Nat) : List Itv := if r ∈ ms.map Itv.reg then ms.map (extV r i) else ms ++ [⟨r, i, i⟩]
theorem extV_reg (r i : Nat) (v : Itv) : (extV r i v).reg = v.reg := by unfold extV; split <;> simp_all
theorem extM_reg (ms : List Itv) (r i : Nat) : (ms.map (extV r i)).map Itv.reg = ms.map Itv.reg := by
  rw [List.map_map]
  exact List.map_congr_left fun v _ => extV_reg r i v
theorem ext_evs {E : Nat → Nat → Prop} {ms : List Itv} (h : Evs E ms) (r i : Nat) : Evs (fun q j => E q j ∨ (q = r ∧ j = i)) (extM ms r i) := by
  unfold extM
  split
  · rename_i hm
    obtain ⟨v0, hv0, hr0⟩ := List.mem_map.1 hm
    refine ⟨fun v hv => ?_, fun q j hq => ?_, by rw [extM_reg]; exact h.nd⟩
    · obtain ⟨u, hu, rfl⟩ := List.mem_map.1 hv
      have h1 := h.own u hu
      rw [extV_reg]
      unfold extV
      split
      · rename_i e
        constructor
        · show E u.reg (min u.frm i) ∨ (u.reg = r ∧ min u.frm i = i)
          rcases Nat.le_total u.frm i with hle | hle
          · rw [Nat.min_eq_left hle]; exact .inl h1.1
          · rw [Nat.min_eq_right hle]; exact .inr ⟨e, rfl⟩
        · show E u.reg (max u.to i) ∨ (u.reg = r ∧ max u.to i = i)
          rcases Nat.le_total u.to i with hle | hle
          · rw [Nat.max_eq_right hle]; exact .inr ⟨e, rfl⟩
          · rw [Nat.max_eq_left hle]; exact .inl h1.2
      · exact ⟨.inl h1.1, .inl h1.2⟩
    · rcases hq with hq | ⟨rfl, rfl⟩
      · obtain ⟨v, hv, h1, h2, h3⟩ := h.all q j hq
        refine ⟨extV r i v, List.mem_map_of_mem hv, (extV_reg r i v).trans h1, ?_⟩
        unfold extV
        split
        · simp only []; omega
        · exact ⟨h2, h3⟩
      · refine ⟨extV q j v0, List.mem_map_of_mem hv0, (extV_reg q j v0).trans hr0, ?_⟩
        unfold extV
        rw [if_pos hr0]
        simp only []; omega
  · rename_i hm
    refine ⟨fun v hv => ?_, fun q j hq => ?_, ?_⟩
    · rcases List.mem_append.1 hv with hv | hv
      · exact ⟨.inl (h.own v hv).1, .inl (h.own v hv).2⟩
      · rw [List.mem_singleton.1 hv]
        exact ⟨.inr ⟨rfl, rfl⟩, .inr ⟨rfl, rfl⟩⟩
    · rcases hq with hq | ⟨rfl, rfl⟩
      · obtain ⟨v, hv, h1⟩ := h.all q j hq
        exact ⟨v, List.mem_append_left _ hv, h1⟩
      · exact ⟨⟨q, j, j⟩, by simp, rfl, Nat.le_refl _, Nat.le_refl _⟩
    · rw [List.map_append, List.nodup_append]
      refine ⟨h.nd, by simp, fun a ha b hb e => ?_⟩
      simp at hb; subst hb; subst e; exact hm ha
theorem evs_nil : Evs (fun _ _ => False) [] := ⟨(fun _ h => by cases h), (fun _ _ h => h.elim), List.nodup_nil⟩
theorem evs_iff {E E' : Nat → Nat → Prop} {ms : List Itv} (h : Evs E ms) (he : ∀ r i, E r i ↔ E' r i) : Evs E' ms :=
  ⟨fun v hv => ⟨(he _ _).1 (h.own v hv).1, (he _ _).1 (h.own v hv).2⟩, fun r i hr => h.all r i ((he r i).2 hr), h.nd⟩
theorem sorted_uniq : ∀ (a b : List Itv), a.Pairwise ltI → b.Pairwise ltI → (∀ v, v ∈ a ↔ v ∈ b) → a = b
  | [], [], _, _, _ => rfl
  | [], y :: b, _, _, h => absurd ((h y).2 (by simp)) (by simp)
  | x :: a, [], _, _, h => absurd ((h x).1 (by simp)) (by simp)
  | x :: a, y :: b, ha, hb, h => by
    have ha' := List.pairwise_cons.1 ha
    have hb' := List.pairwise_cons.1 hb
    have e : x = y := by
      rcases List.mem_cons.1 ((h x).1 (by simp)) with h1 | h1
      · exact h1
      · rcases List.mem_cons.1 ((h y).2 (by simp)) with h2 | h2
        · exact h2.symm
        · exact absurd (ltI_trans (ha'.1 y h2) (hb'.1 x h1)) ltI_irr
    subst e
    congr 1
    refine sorted_uniq a b ha'.2 hb'.2 fun v => ⟨fun hv => ?_, fun hv => ?_⟩
    · rcases List.mem_cons.1 ((h v).1 (by simp [hv])) with h1 | h1
      · subst h1; exact absurd (ha'.1 v hv) ltI_irr
      · exact h1
    · rcases List.mem_cons.1 ((h v).2 (by simp [hv])) with h1 | h1
      · subst h1; exact absurd (hb'.1 v hv) ltI_irr
      · exact h1
theorem evs_itvs {t : Nat → Nat → Bool} {n regs : Nat} {ms : List Itv} (h : Evs (fun r i => i < n ∧ t i r = true) ms) (ht : ∀ i r, i < n → t i r = true → r < regs) (v : Itv) : v ∈ ms ↔ v ∈ itvsOf t n regs := by
  rw [mem_itvs]
  have key : ∀ u ∈ ms, u.reg < regs ∧ firstT t n u.reg = some u.frm ∧ u.to = lastT t n u.reg := fun u hu => by
    have h1 := h.own u hu
    have huniq : ∀ q ∈ ms, q.reg = u.reg → q = u := fun q hq e => by
      have hnd := h.nd
      rw [List.Nodup, List.pairwise_map] at hnd
      apply Classical.byContradiction
      intro hne
      rcases List.pairwise_iff_getElem.1 hnd with hp
      obtain ⟨i, hi, rfl⟩ := List.mem_iff_getElem.1 hq
      obtain ⟨j, hj, rfl⟩ := List.mem_iff_getElem.1 hu
      rcases Nat.lt_trichotomy i j with hij | hij | hij
      · exact hp i j hi hj hij e
      · subst hij; exact hne rfl
      · exact hp j i hj hi hij e.symm
    have hrng : ∀ j, j < n → t j u.reg = true → u.frm ≤ j ∧ j ≤ u.to := fun j hj htj => by
      obtain ⟨q, hq, e, h2, h3⟩ := h.all u.reg j ⟨hj, htj⟩
      obtain rfl := huniq q hq e
      exact ⟨h2, h3⟩
    refine ⟨ht _ _ h1.1.1 h1.1.2, first_iff.2 ⟨h1.1.1, h1.1.2, fun j hj => ?_⟩, ?_⟩
    · cases htj : t j u.reg with
      | false => rfl
      | true => have := (hrng j (by have := h1.1.1; omega) htj).1; omega
    · have h4 := last_ge h1.2.1 h1.2.2
      have := (hrng _ h4.2.1 h4.2.2).2
      omega
  constructor
  · exact key v
  · rintro ⟨h1, h2, h3⟩
    have h4 := first_iff.1 h2
    obtain ⟨q, hq, e, _, _⟩ := h.all v.reg v.frm ⟨h4.1, h4.2.1⟩
    have hk := key q hq
    rw [e, h2] at hk
    have e1 := Option.some.inj hk.2.1
    have e2 : q.to = v.to := by rw [hk.2.2, h3]
    have : q = v := by cases q; cases v; simp_all
    rw [← this]; exact hq
/-- where a register is touched -/
def tchB (code : List InsL) (ah be : List (List Nat)) (i r : Nat) : Bool :=
  decide ((r : Int) ∈ usesR (code.getD i default)) || decide ((r : Int) = usesW (code.getD i default)) || memW (ah.getD i []) r || memW (be.getD i []) r
def itvL (code : List InsL) (ah be : List (List Nat)) (regs : Nat) : List Itv := itvsOf (tchB code ah be) code.length regs
end Go.Proofs.YtpahhcmiimllaaaGreatDoor
namespace Go.Proofs.YtpahhcmiimllaaaGreatDoor

/-- what a set holds, ascending -/
def elemsW (ws : List Nat) : List Nat := (List.range (64 * ws.length)).filter (memW ws)
theorem mem_elems {nw : Nat} {ws : List Nat} (h : WOK nw ws) {r : Nat} : r ∈ elemsW ws ↔ memW ws r = true := by
  unfold elemsW
  rw [List.mem_filter, List.mem_range]
  exact ⟨fun h => h.2, fun hm => ⟨by rw [h.1]; exact memW_lt h hm, hm⟩⟩
def shapedB (regs args : Nat) (machine : Int) (p : Pln) : Bool :=
  decide (p.mach.length = regs) && decide (p.slot.length = regs) && (List.range regs).all fun r =>
    !(decide (p.mach.getD r (-1) < -1) || decide (machine ≤ p.mach.getD r (-1)) || decide (p.slot.getD r (-1) < -1) || decide (p.slots ≤ p.slot.getD r (-1)) || (decide (r < args) && !decide (p.slot.getD r (-1) = (r : Int))))
/-- is one instruction right under a plan? -/
def useB (p : Pln) (reads : List Int) (w : Int) (b : List Nat) : Bool :=
  reads.all (fun r => hasPlace p r.toNat) &&
  (decide (w < 0) || (hasPlace p w.toNat && (elemsW b).all fun r => !(!decide ((r : Int) = w) && hasPlace p r && decide (placeOf p r = placeOf p w.toNat))))
def usesB (p : Pln) (code : List InsL) (be : List (List Nat)) : Bool := (List.range code.length).all fun i => useB p (usesR (code.getD i default)) (usesW (code.getD i default)) (be.getD i [])
def firstB (p : Pln) : List (Bool × Int) → List Nat → Bool
  | _, [] => true
  | seen, r :: l => !(hasPlace p r && seen.contains (placeOf p r)) && firstB p (placeOf p r :: seen) l
def argB (p : Pln) (args : Nat) (a0 : List Nat) (r : Nat) : Bool :=
  !(hasPlace p r && (placeOf p r).1 && decide ((placeOf p r).2 < (args : Int)) && !decide ((placeOf p r).2 = (r : Int)) && memW a0 (placeOf p r).2.toNat)
def chkP (code : List InsL) (ah be : List (List Nat)) (regs args : Nat) (machine : Int) (p : Pln) : Bool :=
  shapedB regs args machine p && usesB p code be && firstB p [] (elemsW (ah.getD 0 [])) && (List.range regs).all (argB p args (ah.getD 0 []))

theorem firstB_iff (p : Pln) : ∀ (l : List Nat) (seen : List (Bool × Int)), l.Pairwise (fun a b => placeOf p a ≠ placeOf p b) → (∀ r ∈ l, placeOf p r ∉ seen) → firstB p seen l = true
  | [], _, _, _ => rfl
  | r :: l, seen, h, hs => by
    have h' := List.pairwise_cons.1 h
    rw [firstB, Bool.and_eq_true]
    refine ⟨?_, firstB_iff p l _ h'.2 fun q hq hm => ?_⟩
    · have : seen.contains (placeOf p r) = false := by
        rw [Bool.eq_false_iff]
        intro hc
        exact hs r (by simp) (by simpa using hc)
      rw [this, Bool.and_false]; rfl
    · rcases List.mem_cons.1 hm with e | hm
      · exact h'.1 q hq e.symm
      · exact hs q (by simp [hq]) hm
theorem tch_live {nw : Nat} {code : List InsL} {ah be : List (List Nat)} (hf : FixL nw code ah be) {i r : Nat} : tchB code ah be i r = true ↔ (r : Int) ∈ usesR (code.getD i default) ∨ (r : Int) = usesW (code.getD i default) ∨ LiveA code i r ∨ LiveB code i r := by
  unfold tchB
  rw [Bool.or_eq_true, Bool.or_eq_true, Bool.or_eq_true, decide_eq_true_eq, decide_eq_true_eq, hf.memA, hf.memB, or_assoc, or_assoc]
/-- a touched register has an interval there -/
theorem tch_itv {code : List InsL} {ah be : List (List Nat)} {regs i r : Nat} (hi : i < code.length) (hr : r < regs) (h : tchB code ah be i r = true) : ∃ v ∈ itvL code ah be regs, v.reg = r ∧ v.frm ≤ i ∧ i ≤ v.to := by
  have hl := last_ge hi h
  rcases hfi : firstT (tchB code ah be) code.length r with _ | k
  · unfold firstT at hfi
    rw [List.find?_eq_none] at hfi
    exact absurd h (hfi i (List.mem_range.2 hi))
  · have h1 := first_iff.1 hfi
    refine ⟨⟨r, k, lastT (tchB code ah be) code.length r⟩, mem_itvs.2 ⟨hr, hfi, rfl⟩, rfl, ?_, hl.1⟩
    apply Nat.le_of_not_lt
    intro hlt
    have := h1.2.2 i hlt
    rw [h] at this; cases this
theorem tch_range {c : CodeL} {b : BodyL} (hb : BodyRight c b) {nw : Nat} {ah be : List (List Nat)} (hf : FixL nw b.code ah be) {i r : Nat} (hi : i < b.code.length) (h : tchB b.code ah be i r = true) : r < b.regs.toNat := by
  have hx : b.code.getD i default ∈ b.code := by rw [List.getD_eq_getElem?_getD, List.getElem?_eq_getElem hi]; exact List.getElem_mem hi
  have hu := uses_range (ins_right (hb.ins _ hx))
  have h0 := hb.args0
  have h1 := hb.args1
  rcases (tch_live hf).1 h with h2 | h2 | h2 | h2
  · have := hu.1 _ h2; omega
  · have := hu.2; omega
  · have := live_range hb h2; omega
  · have := liveB_range hb h2; omega
theorem plan_chk {c : CodeL} {b : BodyL} (hb : BodyRight c b) {nw : Nat} {ah be : List (List Nat)} (hf : FixL nw b.code ah be) (machine : Nat) :
    chkP b.code ah be b.regs.toNat b.args.toNat machine (planOf b.regs.toNat b.args.toNat machine (itvL b.code ah be b.regs.toNat)) = true := by
  have hp := plan_right (args := b.args.toNat) (machine := machine) (itvs_ok (tchB b.code ah be) b.code.length b.regs.toNat)
  change PlanOK _ _ _ _ (planOf b.regs.toNat b.args.toNat machine (itvL b.code ah be b.regs.toNat)) at hp
  generalize planOf b.regs.toNat b.args.toNat machine (itvL b.code ah be b.regs.toNat) = p at *
  have hreg : ∀ i r, i < b.code.length → tchB b.code ah be i r = true → r < b.regs.toNat := fun i r hi h => tch_range hb hf hi h
  have hpl : ∀ i r, i < b.code.length → tchB b.code ah be i r = true → hasPlace p r = true := fun i r hi h => by
    obtain ⟨v, hv, e, _⟩ := tch_itv hi (hreg i r hi h) h
    rw [← e]; exact hp.placed v hv
  have hap : ∀ i r q, i < b.code.length → tchB b.code ah be i r = true → tchB b.code ah be i q = true → r ≠ q → placeOf p r ≠ placeOf p q := fun i r q hi h1 h2 hne => by
    obtain ⟨v, hv, e, k1, k2⟩ := tch_itv hi (hreg i r hi h1) h1
    obtain ⟨u, hu, e2, k3, k4⟩ := tch_itv hi (hreg i q hi h2) h2
    rw [← e, ← e2]
    exact hp.apart v hv u hu (fun e3 => hne (by rw [← e, ← e2, e3])) (by omega) (by omega)
  unfold chkP
  rw [Bool.and_eq_true, Bool.and_eq_true, Bool.and_eq_true]
  refine ⟨⟨⟨?_, ?_⟩, ?_⟩, ?_⟩
  · unfold shapedB
    rw [hp.mlen, hp.slen]
    simp only [decide_true, Bool.true_and, List.all_eq_true, List.mem_range]
    intro r hr
    have hm := hp.mrange r (p.mach.getD r (-1)) (by rw [List.getD_eq_getElem?_getD, List.getElem?_eq_getElem (by rw [hp.mlen]; exact hr)]; rfl)
    have hs := hp.srange r (p.slot.getD r (-1)) (by rw [List.getD_eq_getElem?_getD, List.getElem?_eq_getElem (by rw [hp.slen]; exact hr)]; rfl)
    have ha : r < b.args.toNat → p.slot.getD r (-1) = (r : Int) := fun h => by rw [List.getD_eq_getElem?_getD, hp.sargs r h hr]; rfl
    have e1 : decide (p.mach.getD r (-1) < -1) = false := decide_eq_false (by omega)
    have e2 : decide ((machine : Int) ≤ p.mach.getD r (-1)) = false := decide_eq_false (by omega)
    have e3 : decide (p.slot.getD r (-1) < -1) = false := decide_eq_false (by omega)
    have e4 : decide (p.slots ≤ p.slot.getD r (-1)) = false := decide_eq_false (by omega)
    rw [e1, e2, e3, e4]
    by_cases h : r < b.args.toNat
    · rw [ha h]; simp
    · simp [h]
  · unfold usesB
    rw [List.all_eq_true]
    intro i hi
    have hi := List.mem_range.1 hi
    have hxm : b.code.getD i default ∈ b.code := by rw [List.getD_eq_getElem?_getD, List.getElem?_eq_getElem hi]; exact List.getElem_mem hi
    have hu := uses_range (ins_right (hb.ins _ hxm))
    have hwb := getD_ok hf.wb (i := i) (by rw [hf.lb]; exact hi)
    unfold useB
    rw [Bool.and_eq_true, List.all_eq_true]
    refine ⟨fun r hr => hpl i _ hi ((tch_live hf).2 (.inl ?_)), ?_⟩
    · rw [Int.toNat_of_nonneg (hu.1 r hr).1]; exact hr
    · by_cases hw : usesW (b.code.getD i default) < 0
      · rw [decide_eq_true hw]; rfl
      · have hw0 : ((usesW (b.code.getD i default)).toNat : Int) = usesW (b.code.getD i default) := Int.toNat_of_nonneg (by omega)
        have htw : tchB b.code ah be i (usesW (b.code.getD i default)).toNat = true := (tch_live hf).2 (.inr (.inl hw0))
        rw [Bool.or_eq_true, Bool.and_eq_true, List.all_eq_true]
        refine .inr ⟨hpl i _ hi htw, fun r hr => ?_⟩
        have hr := (hf.memB i r).1 ((mem_elems hwb).1 hr)
        have htr : tchB b.code ah be i r = true := (tch_live hf).2 (.inr (.inr (.inr hr)))
        by_cases he : (r : Int) = usesW (b.code.getD i default)
        · simp [he]
        · have := hap i r _ hi htr htw (fun e => he (by rw [e]; exact hw0))
          rw [decide_eq_false this, Bool.and_false]; rfl
  · have hn0 : 0 < b.code.length := List.length_pos_iff.2 hb.ne
    have hwa := getD_ok hf.wa (i := 0) (by rw [hf.la]; exact hn0)
    refine firstB_iff p _ [] ?_ (by simp)
    unfold elemsW
    have hlt : ((List.range (64 * (ah.getD 0 []).length)).filter (memW (ah.getD 0 []))).Pairwise (· < ·) := List.Pairwise.sublist List.filter_sublist List.pairwise_lt_range
    refine List.Pairwise.imp_of_mem ?_ hlt
    intro r q hr hq hlt
    have hr := (hf.memA 0 r).1 (List.mem_filter.1 hr).2
    have hq := (hf.memA 0 q).1 (List.mem_filter.1 hq).2
    exact hap 0 r q hn0 ((tch_live hf).2 (.inr (.inr (.inl hr)))) ((tch_live hf).2 (.inr (.inr (.inl hq)))) (by omega)
  · rw [List.all_eq_true]
    intro r hr
    have hr := List.mem_range.1 hr
    unfold argB
    by_cases hh : hasPlace p r = true
    · rw [hh]
      unfold placeOf
      by_cases hm : 0 ≤ p.mach.getD r (-1)
      · rw [if_pos hm]; rfl
      · rw [if_neg hm]
        have hs : p.slot[r]? = some (p.slot.getD r (-1)) := by rw [List.getD_eq_getElem?_getD, List.getElem?_eq_getElem (by rw [hp.slen]; exact hr)]; rfl
        have h0 : 0 ≤ p.slot.getD r (-1) := by
          unfold hasPlace at hh
          rw [Bool.or_eq_true, decide_eq_true_eq, decide_eq_true_eq] at hh
          exact hh.resolve_left hm
        by_cases ha : r < b.args.toNat
        · have : p.slot.getD r (-1) = (r : Int) := by rw [List.getD_eq_getElem?_getD, hp.sargs r ha hr]; rfl
          simp only []
          rw [this]; simp
        · rcases hp.sabove r _ hs (by omega) with h1 | h1
          · omega
          · have : decide (p.slot.getD r (-1) < ((b.args.toNat : Nat) : Int)) = false := decide_eq_false (by omega)
            simp only []
            rw [this]; simp
    · have : hasPlace p r = false := by simpa using hh
      rw [this]; rfl
theorem itv_le {code : List InsL} {ah be : List (List Nat)} {regs : Nat} {v : Itv} (h : v ∈ itvL code ah be regs) : v.frm ≤ v.to ∧ v.to < code.length ∧ v.reg < regs := by
  have h1 := mem_itvs.1 h
  have h2 := first_iff.1 h1.2.1
  have h3 := last_ge h2.1 h2.2.1
  exact ⟨by rw [h1.2.2]; exact h3.1, by rw [h1.2.2]; exact h3.2.1, h1.1⟩
end Go.Proofs.YtpahhcmiimllaaaGreatDoor
namespace Go.Proofs.YtpahhcmiimllaaaGreatDoor

def spillR (p : Pln) (r : Nat) : Bool := !decide (p.slot.getD r (-1) = -1) && (decide (p.mach.length ≤ r) || decide (p.mach.getD r (-1) = -1))
def spillsN (p : Pln) : Nat := ((List.range p.slot.length).filter (spillR p)).length
theorem spill_other (args : Nat) (x : Itv) (p : Pln) {r : Nat} (h : x.reg ≠ r) : (spill args x p).slot.getD r (-1) = p.slot.getD r (-1) := by
  unfold spill
  split
  · exact getD_set_ne h
  · rfl
theorem step_other {args : Nat} {s : Scn} {v : Itv} {r : Nat} (ha : ∀ a ∈ s.active, a.reg ≠ r) (hv : v.reg ≠ r) : (∀ a ∈ (scanStep args s v).active, a.reg ≠ r) ∧ (scanStep args s v).p.slot.getD r (-1) = s.p.slot.getD r (-1) := by
  unfold scanStep
  simp only []
  have hf : ∀ a ∈ s.active.filter (fun a => !gone v a), a.reg ≠ r := fun a h => ha a (List.mem_filter.1 h).1
  split
  · refine ⟨fun a h => ?_, rfl⟩
    rcases List.mem_append.1 h with h | h
    · exact hf a h
    · rw [List.mem_singleton.1 h]; exact hv
  · have hw : (worstOf v (s.active.filter (fun a => !gone v a))).reg ≠ r := by
      rcases worstOf_mem v (s.active.filter (fun a => !gone v a)) with h | h
      · rw [h]; exact hv
      · exact hf _ h
    split
    · exact ⟨hf, spill_other _ _ _ hw⟩
    · refine ⟨fun a h => ?_, spill_other _ _ _ hw⟩
      rcases List.mem_append.1 h with h | h
      · exact hf a (List.mem_filter.1 h).1
      · rw [List.mem_singleton.1 h]; exact hv
theorem fold_other {args r : Nat} : ∀ (l : List Itv) (s : Scn), (∀ a ∈ s.active, a.reg ≠ r) → (∀ v ∈ l, v.reg ≠ r) → (l.foldl (scanStep args) s).p.slot.getD r (-1) = s.p.slot.getD r (-1)
  | [], _, _, _ => rfl
  | v :: l, s, ha, hl => by
    have h1 := step_other (args := args) ha (hl v (by simp))
    rw [List.foldl_cons, fold_other l _ h1.1 (fun u hu => hl u (by simp [hu])), h1.2]
theorem plan_other {regs args machine r : Nat} {l : List Itv} (h : ∀ v ∈ l, v.reg ≠ r) : (planOf regs args machine l).slot.getD r (-1) = (plan0 regs args).slot.getD r (-1) :=
  fold_other l (scan0 regs args machine) (by simp [scan0]) h
theorem spills_le {regs args machine : Nat} {l : List Itv} (h : ItvOK regs l) : spillsN (planOf regs args (machine + 1) l) ≤ spillsN (planOf regs args machine l) := by
  have h1 := plan_right (args := args) (machine := machine) h
  have h2 := plan_right (args := args) (machine := machine + 1) h
  have hk := more_kept (args := args) (machine := machine) h
  obtain ⟨t, h3⟩ := scan_fold (args := args) (machine := machine) l [] 0 _ (scan_start regs args machine) h (by simp) (by simp)
  rw [List.nil_append] at h3
  have hlat : ∀ r : Nat, (∀ u ∈ l, u.reg ≠ r) → r < regs → (planOf regs args machine l).mach.getD r (-1) = -1 := h3.later
  have ho := fun r (hr : ∀ v ∈ l, v.reg ≠ r) => (plan_other (regs := regs) (args := args) (machine := machine) hr)
  have ho2 := fun r (hr : ∀ v ∈ l, v.reg ≠ r) => (plan_other (regs := regs) (args := args) (machine := machine + 1) hr)
  clear h3
  generalize planOf regs args machine l = p at *
  generalize planOf regs args (machine + 1) l = q at *
  unfold spillsN
  rw [h1.slen, h2.slen]
  refine filter_le _ fun r hr hq => ?_
  have hr := List.mem_range.1 hr
  unfold spillR at hq ⊢
  rw [h2.mlen] at hq
  rw [h1.mlen]
  have e1 : decide (regs ≤ r) = false := decide_eq_false (by omega)
  rw [e1, Bool.false_or, Bool.and_eq_true, Bool.not_eq_true', decide_eq_false_iff_not, decide_eq_true_eq] at hq
  rw [e1, Bool.false_or, Bool.and_eq_true, Bool.not_eq_true', decide_eq_false_iff_not, decide_eq_true_eq]
  by_cases hin : ∃ u ∈ l, u.reg = r
  · obtain ⟨u, hu, rfl⟩ := hin
    have hm := h1.mrange u.reg (p.mach.getD u.reg (-1)) (by rw [List.getD_eq_getElem?_getD, List.getElem?_eq_getElem (by rw [h1.mlen]; exact hr)]; rfl)
    have hk := hk u hu
    have hp := h1.placed u hu
    unfold hasPlace at hp
    rw [Bool.or_eq_true, decide_eq_true_eq, decide_eq_true_eq] at hp
    omega
  · have hin : ∀ u ∈ l, u.reg ≠ r := fun u hu e => hin ⟨u, hu, e⟩
    rw [ho2 r hin] at hq
    rw [ho r hin]
    exact ⟨hq.1, hlat r hin hr⟩
end Go.Proofs.YtpahhcmiimllaaaGreatDoor
namespace Go.Proofs.YtpahhcmiimllaaaGreatDoor

def bitsW (x : Nat) : List Nat := (List.range 64).filter (fun j => x.testBit j)
theorem ctz_form {x : Nat} (h0 : x ≠ 0) (h : x < 18446744073709551616) : ∃ m, x = 2 ^ Lib.ctz 64 x * (2 * m + 1) ∧ Lib.ctz 64 x < 64 := by
  have := Lib.ctzFrom_spec 64 x (by omega) (by omega)
  unfold Lib.ctz
  rw [if_neg h0]
  exact this
theorem bit_form (c m j : Nat) : (2 ^ c * (2 * m + 1)).testBit j = (decide (j = c) || (decide (c < j) && (2 ^ c * (2 * m)).testBit j)) := by
  rw [Nat.testBit_two_pow_mul, Nat.testBit_two_pow_mul]
  rcases Nat.lt_trichotomy j c with h | h | h
  · simp [show ¬ c ≤ j by omega, show ¬ j = c by omega]
  · subst h; simp
  · have e : j - c = (j - c - 1) + 1 := by omega
    rw [e, Nat.testBit_succ, Nat.testBit_succ]
    have e1 : (2 * m + 1) / 2 = m := by omega
    have e2 : 2 * m / 2 = m := by omega
    rw [e1, e2]
    simp [h, show ¬ j = c by omega, show c ≤ j by omega]
theorem clear_low {x : Nat} (h0 : x ≠ 0) (h : x < 18446744073709551616) (j : Nat) : (x &&& (x - 1)).testBit j = (x.testBit j && !decide (j = Lib.ctz 64 x)) ∧ (j < Lib.ctz 64 x → x.testBit j = false) ∧ x.testBit (Lib.ctz 64 x) = true := by
  obtain ⟨m, hx, hc⟩ := ctz_form h0 h
  generalize Lib.ctz 64 x = c at *
  subst hx
  have hp : 0 < 2 ^ c := Nat.two_pow_pos c
  have e1 : 2 ^ c * (2 * m + 1) - 1 = 2 ^ c * (2 * m) + (2 ^ c - 1) := by rw [Nat.mul_add]; omega
  refine ⟨?_, fun hj => ?_, ?_⟩
  · rw [Nat.testBit_and, e1, Nat.testBit_two_pow_mul_add _ (by omega), bit_form]
    rcases Nat.lt_trichotomy j c with hj | hj | hj
    · simp [show ¬ c < j by omega, show ¬ j = c by omega]
    · subst hj; simp
    · rw [if_neg (by omega), Nat.testBit_two_pow_mul]
      simp [hj, show ¬ j = c by omega, show c ≤ j by omega]
  · rw [bit_form]; simp [show ¬ c < j by omega, show ¬ j = c by omega]
  · rw [bit_form]; simp
theorem filter_range_lt {p : Nat → Bool} {n c : Nat} (hc : c < n) (hp : p c = true) (hl : ∀ j, j < c → p j = false) : (List.range n).filter p = c :: (List.range n).filter (fun j => p j && !decide (j = c)) := by
  have h : List.range n = List.range c ++ (c :: (List.range n).drop (c + 1)) := by
    conv => lhs; rw [← List.take_append_drop c (List.range n)]
    rw [List.take_range, Nat.min_eq_left (by omega)]
    congr 1
    rw [List.drop_eq_getElem_cons (by simpa using hc)]
    simp
  have hd : ∀ x ∈ (List.range n).drop (c + 1), c < x := fun x hx => by
    obtain ⟨i, hi⟩ := List.getElem?_of_mem hx
    rw [List.getElem?_drop] at hi
    have := List.getElem?_eq_some_iff.1 hi
    obtain ⟨h1, h2⟩ := this
    simp at h2; omega
  rw [h, List.filter_append, List.filter_append, List.filter_cons, List.filter_cons, if_pos hp, if_neg (by simp)]
  have e1 : (List.range c).filter p = [] := List.filter_eq_nil_iff.2 fun j hj => by rw [hl j (List.mem_range.1 hj)]; simp
  have e2 : (List.range c).filter (fun j => p j && !decide (j = c)) = [] := List.filter_eq_nil_iff.2 fun j hj => by rw [hl j (List.mem_range.1 hj)]; simp
  rw [e1, e2, List.nil_append, List.nil_append]
  congr 1
  exact List.filter_congr fun x hx => by have := hd x hx; simp [show ¬ x = c by omega]
theorem bits_cons {x : Nat} (h0 : x ≠ 0) (h : x < 18446744073709551616) : bitsW x = Lib.ctz 64 x :: bitsW (x &&& (x - 1)) := by
  unfold bitsW
  obtain ⟨m, _, hc⟩ := ctz_form h0 h
  rw [filter_range_lt (p := fun j => x.testBit j) hc (clear_low h0 h 0).2.2 (fun j hj => (clear_low h0 h j).2.1 hj)]
  congr 1
  exact List.filter_congr fun j _ => ((clear_low h0 h j).1).symm
theorem bits_zero : bitsW 0 = [] := by
  unfold bitsW
  exact List.filter_eq_nil_iff.2 fun j _ => by simp
theorem bits_len (x : Nat) : (bitsW x).length ≤ 64 := by
  unfold bitsW
  refine Nat.le_trans (List.length_filter_le _ _) ?_
  rw [List.length_range]; exact Nat.le_refl _
/-- what stands in the words from i on -/
def elemsFrom (ws : List Nat) (i : Nat) : List Nat := ((List.range (ws.length - i)).map (· + i)).flatMap fun k => (bitsW (ws.getD k 0)).map (fun j => 64 * k + j)
theorem elems_step {ws : List Nat} {i : Nat} (h : i < ws.length) : elemsFrom ws i = (bitsW (ws.getD i 0)).map (fun j => 64 * i + j) ++ elemsFrom ws (i + 1) := by
  unfold elemsFrom
  rw [show ws.length - i = (ws.length - (i + 1)) + 1 by omega, List.range_succ_eq_map, List.map_cons, List.flatMap_cons, Nat.zero_add, List.map_map]
  congr 2
  exact List.map_congr_left fun a _ => by simp [Nat.add_assoc, Nat.add_comm 1 i]
theorem elems_end {ws : List Nat} {i : Nat} (h : ws.length ≤ i) : elemsFrom ws i = [] := by
  unfold elemsFrom
  rw [show ws.length - i = 0 by omega]; rfl
theorem range_mul (n : Nat) : List.range (64 * n) = (List.range n).flatMap fun k => (List.range 64).map (fun j => 64 * k + j) := by
  induction n with
  | zero => rfl
  | succ n ih =>
    rw [show 64 * (n + 1) = 64 * n + 64 by omega, List.range_add, ih, List.range_succ (n := n), List.flatMap_append, List.flatMap_singleton]
theorem flatMap_eq {α β : Type} {f g : α → List β} : ∀ (l : List α), (∀ x ∈ l, f x = g x) → l.flatMap f = l.flatMap g
  | [], _ => rfl
  | x :: l, h => by rw [List.flatMap_cons, List.flatMap_cons, h x (by simp), flatMap_eq l fun y hy => h y (by simp [hy])]
theorem elems_all (ws : List Nat) : elemsFrom ws 0 = elemsW ws := by
  unfold elemsFrom elemsW
  rw [range_mul, List.filter_flatMap]
  simp only [Nat.sub_zero, Nat.add_zero, List.map_id']
  refine flatMap_eq _ fun k _ => ?_
  unfold bitsW
  rw [List.filter_map]
  congr 1
  refine List.filter_congr fun j hj => ?_
  have hj := List.mem_range.1 hj
  unfold memW
  simp only [Function.comp]
  rw [show (64 * k + j) / 64 = k by omega, show (64 * k + j) % 64 = j by omega]
theorem elems_sorted (ws : List Nat) : (elemsW ws).Pairwise (· < ·) := List.Pairwise.sublist List.filter_sublist List.pairwise_lt_range
theorem elems_len (ws : List Nat) : (elemsW ws).length ≤ 64 * ws.length := by
  unfold elemsW
  refine Nat.le_trans (List.length_filter_le _ _) ?_
  rw [List.length_range]; exact Nat.le_refl _
end Go.Proofs.YtpahhcmiimllaaaGreatDoor
