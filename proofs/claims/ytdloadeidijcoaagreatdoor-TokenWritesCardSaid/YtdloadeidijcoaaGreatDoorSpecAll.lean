set_option linter.unusedSimpArgs false
set_option linter.unusedVariables false
/- DERIVED. How long joined tokens are. -/

namespace Go.Proofs.YtdloadeidijcoaaGreatDoor

def letB (c : UInt8) : Bool := (97 ≤ c && c ≤ 122) || (65 ≤ c && c ≤ 90) || c == 95
def digB (c : UInt8) : Bool := 48 ≤ c && c ≤ 57
def wordB (c : UInt8) : Bool := letB c || digB c
def whiteB (c : UInt8) : Bool := c == 32 || c == 9 || c == 10 || c == 13
structure Tok where
  kind : Int
  text : List UInt8
  value : Int
  at_ : Int
  deriving DecidableEq, Inhabited
/-- behind a comment of depth d that is open; none: it does not end -/
def skipC : Nat → List UInt8 → Option (List UInt8)
  | _, [] => none
  | _, [_] => none
  | d, a :: b :: r =>
    if a = 47 ∧ b = 42 then skipC (d + 1) r
    else if a = 42 ∧ b = 47 then (if d ≤ 1 then some r else skipC (d - 1) r)
    else skipC d (b :: r)
theorem skipC_len : ∀ (l : List UInt8) (d : Nat) (r : List UInt8), skipC d l = some r → r.length < l.length
  | [], _, _, h => by simp [skipC] at h
  | [_], _, _, h => by simp [skipC] at h
  | a :: b :: t, d, r, h => by
    rw [skipC] at h
    split at h
    · have := skipC_len t _ _ h; simp; omega
    · split at h
      · split at h
        · cases h; simp; omega
        · have := skipC_len t _ _ h; simp; omega
      · have := skipC_len (b :: t) _ _ h; simp at this ⊢; omega
/-- the value of digits -/
def digitsV (l : List UInt8) : Nat := l.foldl (fun n c => 10 * n + (c.toNat - 48)) 0
/-- the number with some digits -/
def numL (l : List UInt8) : Option Int :=
  if l = [] ∨ l.all digB = false ∨ (l.head? = some 48 ∧ 1 < l.length) then none
  else if digitsV l ≤ 9223372036854775807 then some (digitsV l) else none
def hexV (c : UInt8) : Option Nat :=
  if digB c then some (c.toNat - 48) else if 97 ≤ c ∧ c ≤ 102 then some (c.toNat - 87) else if 65 ≤ c ∧ c ≤ 70 then some (c.toNat - 55) else none
/-- behind a backslash: the byte that is meant, and the rest -/
def escL : List UInt8 → Option (UInt8 × List UInt8)
  | [] => none
  | c :: r =>
    if c = 92 ∨ c = 34 then some (c, r)
    else if c = 110 then some (10, r)
    else if c = 116 then some (9, r)
    else if c = 120 then
      match r with
      | a :: b :: r' => match hexV a, hexV b with
        | some x, some y => some (UInt8.ofNat (16 * x + y), r')
        | _, _ => none
      | _ => none
    else none
theorem escL_len {l r : List UInt8} {b : UInt8} (h : escL l = some (b, r)) : r.length < l.length := by
  unfold escL at h
  split at h
  · cases h
  · rename_i c t
    split at h
    · cases h; simp
    · split at h
      · cases h; simp
      · split at h
        · cases h; simp
        · split at h
          · split at h
            · split at h
              · cases h; simp; omega
              · cases h
            · cases h
          · cases h
/-- behind the first quote: the text that is meant, and the rest -/
def quoL : List UInt8 → Option (List UInt8 × List UInt8)
  | [] => none
  | c :: r =>
    if c = 34 then some ([], r)
    else if c = 92 then
      match h : escL r with
      | none => none
      | some (b, r') => (quoL r').map (fun x => (b :: x.1, x.2))
    else if c < 32 ∨ 126 < c then none
    else (quoL r).map (fun x => (c :: x.1, x.2))
termination_by l => l.length
decreasing_by
  · have := escL_len h; simp; omega
  · simp
theorem quoL_len : ∀ (n : Nat) (l : List UInt8) (s r : List UInt8), l.length ≤ n → quoL l = some (s, r) → r.length < l.length
  | 0, [], _, _, _, h => by rw [quoL] at h; cases h
  | 0, _ :: _, _, _, hn, _ => by simp at hn
  | n + 1, [], _, _, _, h => by rw [quoL] at h; cases h
  | n + 1, c :: t, s, r, hn, h => by
    rw [quoL] at h
    split at h
    · cases h; simp
    · split at h
      · split at h
        · cases h
        · rename_i b r' he
          have h1 := escL_len he
          obtain ⟨⟨x1, x2⟩, hx, e⟩ := Option.map_eq_some_iff.1 h
          cases e
          have := quoL_len n r' _ _ (by simp at hn; omega) hx
          simp; omega
      · split at h
        · cases h
        · obtain ⟨⟨x1, x2⟩, hx, e⟩ := Option.map_eq_some_iff.1 h
          cases e
          have := quoL_len n t _ _ (by simp at hn; omega) hx
          simp; omega
def keyL : List (List UInt8) := [[97, 114, 114, 97, 121], [97, 115], [97, 115, 115, 101, 114, 116], [97, 116, 111, 109, 105, 99], [98, 101, 103, 105, 110], [98, 108, 111, 99, 107],
  [98, 108, 111, 99, 107, 99, 121, 99, 108, 105, 99], [98, 111, 111, 108], [98, 121], [99, 111, 98, 101, 103, 105, 110], [99, 111, 102, 111, 114, 97, 108, 108], [99, 111, 110, 115, 116],
  [99, 121, 99, 108, 105, 99], [100, 109, 97, 112, 112, 101, 100], [100, 111, 109, 97, 105, 110], [101, 108, 115, 101], [101, 120, 99, 101, 112, 116], [102, 97, 108, 115, 101],
  [102, 111, 114], [102, 111, 114, 97, 108, 108], [104, 97, 115, 104, 101, 100], [104, 101, 114, 101], [105, 102], [105, 109, 112, 111, 114, 116],
  [105, 110], [105, 110, 116], [105, 116, 101, 114], [109, 97, 120], [109, 105, 110], [109, 111, 100, 117, 108, 101],
  [110, 117, 109, 76, 111, 99, 97, 108, 101, 115], [111, 110], [111, 110, 108, 121], [112, 97, 114, 97, 109], [112, 114, 105, 118, 97, 116, 101], [112, 114, 111, 99],
  [114, 97, 110, 103, 101], [114, 101, 100, 117, 99, 101], [114, 101, 102], [114, 101, 116, 117, 114, 110], [115, 121, 110, 99], [116, 104, 101, 110],
  [116, 114, 117, 101], [116, 121, 112, 101], [117, 115, 101], [118, 97, 114], [118, 111, 105, 100], [119, 104, 101, 114, 101],
  [119, 104, 105, 108, 101], [119, 105, 116, 104], [119, 114, 105, 116, 101], [121, 105, 101, 108, 100]]
def signL : List (List UInt8) := [[33, 61], [38, 38], [42, 61], [43, 61], [45, 61], [46, 46], [60, 61], [61, 61], [62, 61], [124, 124],
  [33], [35], [37], [40], [41], [42], [43], [44], [45], [46],
  [47], [58], [59], [60], [61], [62], [63], [91], [93], [123],
  [125]]
/-- the token at the head of a text that is not empty, at an offset; or an error -/
inductive One where
  | tok (t : Tok) (r : List UInt8)
  | bad (e : Int)
def oneL (at_ : Int) (l : List UInt8) : One :=
  match l with
  | [] => .bad 110
  | c :: r =>
    if letB c then
      (if 40 < (l.takeWhile wordB).length then .bad 114
       else if l.takeWhile wordB ∈ keyL then .tok ⟨2, l.takeWhile wordB, 0, at_⟩ (l.dropWhile wordB)
       else .tok ⟨1, l.takeWhile wordB, 0, at_⟩ (l.dropWhile wordB))
    else if digB c then
      match numL (l.takeWhile wordB) with
      | none => .bad 113
      | some n => .tok ⟨3, l.takeWhile wordB, n, at_⟩ (l.dropWhile wordB)
    else if c = 34 then
      match quoL r with
      | none => .bad 111
      | some (s, r') => .tok ⟨4, s, 0, at_⟩ r'
    else match signL.find? (fun w => w.isPrefixOf l) with
      | some w => .tok ⟨5, w, 0, at_⟩ (l.drop w.length)
      | none => .bad 110
theorem takeWhile_pos {p : UInt8 → Bool} {c : UInt8} {r : List UInt8} (h : p c = true) : 0 < ((c :: r).takeWhile p).length := by simp [List.takeWhile_cons, h]
theorem dropWhile_lt {p : UInt8 → Bool} {c : UInt8} {r : List UInt8} (h : p c = true) : ((c :: r).dropWhile p).length < (c :: r).length := by
  rw [List.dropWhile_cons_of_pos h]
  have : (r.dropWhile p).length ≤ r.length := (List.dropWhile_suffix p).length_le
  simp; omega
theorem sign_pos : ∀ w ∈ signL, 0 < w.length := by decide
theorem oneL_len {at_ : Int} {l r : List UInt8} {t : Tok} (h : oneL at_ l = .tok t r) : r.length < l.length := by
  unfold oneL at h
  split at h
  · cases h
  · rename_i c q
    split at h
    · rename_i hc
      have hw : wordB c = true := by simp [wordB, hc]
      split at h
      · cases h
      · split at h <;> (cases h; exact dropWhile_lt hw)
    · split at h
      · rename_i hc
        have hw : wordB c = true := by simp [wordB, hc]
        split at h
        · cases h
        · cases h; exact dropWhile_lt hw
      · split at h
        · split at h
          · cases h
          · rename_i s r' hq
            cases h
            have := quoL_len _ _ _ _ (Nat.le_refl _) hq
            simp; omega
        · split at h
          · rename_i w hw
            cases h
            have := sign_pos w (List.mem_of_find?_eq_some hw)
            simp; omega
          · cases h
/-- what scanning tells: tokens, or an offset and an error -/
inductive Sc where
  | ok (l : List Tok)
  | bad (at_ : Nat) (e : Int)
  deriving DecidableEq
def Sc.cons (t : Tok) : Sc → Sc
  | .ok l => .ok (t :: l)
  | .bad i e => .bad i e
/-- the tokens of a text whose rest is l; n: the length of all -/
def scanL (n : Nat) (l : List UInt8) : Sc :=
  match l with
  | [] => .ok []
  | c :: r =>
    if whiteB c then scanL n r
    else if c = 47 ∧ r.head? = some 47 then scanL n ((c :: r).dropWhile (fun c => c != 10))
    else if c = 47 ∧ r.head? = some 42 then
      match h : skipC 1 (r.drop 1) with
      | none => .bad (n - (c :: r).length) 112
      | some r' => scanL n r'
    else match h : oneL ((n - (c :: r).length : Nat) : Int) (c :: r) with
      | .bad e => .bad (n - (c :: r).length) e
      | .tok t r' => (scanL n r').cons t
termination_by l.length
decreasing_by
  · simp
  · rename_i hc
    exact dropWhile_lt (by simp [hc.1])
  · have := skipC_len _ _ _ h
    simp at this ⊢; omega
  · exact oneL_len h
end Go.Proofs.YtdloadeidijcoaaGreatDoor
namespace Go.Proofs.YtdloadeidijcoaaGreatDoor

def nameB (s : List UInt8) : Bool := (match s with | [] => false | c :: _ => letB c) && s.all wordB && decide (s.length ≤ 40) && decide (s ∉ keyL)
def rightB (t : Tok) : Bool :=
  (if t.kind = 1 then nameB t.text else if t.kind = 2 then decide (t.text ∈ keyL) else if t.kind = 3 then decide (numL t.text = some t.value) else if t.kind = 4 then true else if t.kind = 5 then decide (t.text ∈ signL) else false) &&
  decide (0 ≤ t.at_) && (decide (t.kind = 3) || decide (t.value = 0))
def hexD (n : Nat) : UInt8 := if n < 10 then UInt8.ofNat (48 + n) else UInt8.ofNat (87 + n)
def escB (c : UInt8) : List UInt8 :=
  if c = 92 ∨ c = 34 then [92, c] else if c = 10 then [92, 110] else if c = 9 then [92, 116]
  else if c < 32 ∨ 126 < c then [92, 120, hexD (c.toNat / 16), hexD (c.toNat % 16)] else [c]
def writeL (t : Tok) : List UInt8 := if t.kind = 4 then 34 :: (t.text.flatMap escB ++ [34]) else t.text
def Tok.put (t : Tok) (i : Int) : Tok := { t with at_ := i }

theorem u8_all {p : UInt8 → Prop} [DecidablePred p] (h : ∀ n : Fin 256, p (UInt8.ofNat n.val)) (c : UInt8) : p c := by
  have := h ⟨c.toNat, c.toNat_lt⟩
  simpa using this
theorem hex_back (c : UInt8) : hexV (hexD (c.toNat / 16)) = some (c.toNat / 16) ∧ hexV (hexD (c.toNat % 16)) = some (c.toNat % 16) := by
  have h : ∀ n : Fin 256, hexV (hexD ((UInt8.ofNat n.val).toNat / 16)) = some ((UInt8.ofNat n.val).toNat / 16) ∧ hexV (hexD ((UInt8.ofNat n.val).toNat % 16)) = some ((UInt8.ofNat n.val).toNat % 16) := by decide +kernel
  have := h ⟨c.toNat, c.toNat_lt⟩
  simpa using this
theorem esc_back (c : UInt8) (r : List UInt8) : (escB c ++ r = c :: r ∧ c ≠ 34 ∧ c ≠ 92 ∧ ¬ (c < 32 ∨ 126 < c)) ∨ ∃ q, escB c ++ r = 92 :: q ∧ escL q = some (c, r) := by
  unfold escB
  split
  · rename_i h; exact .inr ⟨c :: r, rfl, by unfold escL; simp [h]⟩
  · rename_i h1
    split
    · rename_i h; subst h; exact .inr ⟨110 :: r, rfl, by simp [escL]⟩
    · split
      · rename_i h; subst h; exact .inr ⟨116 :: r, rfl, by simp [escL]⟩
      · split
        · obtain ⟨e1, e2⟩ := hex_back c
          refine .inr ⟨120 :: hexD (c.toNat / 16) :: hexD (c.toNat % 16) :: r, rfl, ?_⟩
          unfold escL
          simp only [e1, e2]
          have : UInt8.ofNat (16 * (c.toNat / 16) + c.toNat % 16) = c := by
            rw [Nat.div_add_mod]; simp
          simp [this]
        · rename_i h2 h3 h4
          exact .inl ⟨rfl, fun e => h1 (.inr e), fun e => h1 (.inl e), h4⟩
theorem quo_write : ∀ (s r : List UInt8), quoL (s.flatMap escB ++ 34 :: r) = some (s, r)
  | [], r => by rw [List.flatMap_nil, List.nil_append, quoL]; simp
  | c :: s, r => by
    rw [List.flatMap_cons, List.append_assoc]
    rcases esc_back c (s.flatMap escB ++ 34 :: r) with ⟨h1, h2, h3, h4⟩ | ⟨q, h1, h2⟩
    · rw [h1, quoL, if_neg h2, if_neg h3, if_neg h4, quo_write s r]; rfl
    · rw [h1, quoL, if_neg (by decide), if_pos rfl]
      split
      · rename_i h; rw [h2] at h; cases h
      · rename_i b r' h
        rw [h2] at h; cases h
        rw [quo_write s r]; rfl
/-- what follows does not go on with a word -/
def noWord (r : List UInt8) : Prop := ∀ c, r.head? = some c → wordB c = false
theorem take_all {p : UInt8 → Bool} {s r : List UInt8} (hs : s.all p = true) (hr : ∀ c, r.head? = some c → p c = false) : (s ++ r).takeWhile p = s ∧ (s ++ r).dropWhile p = r := by
  induction s with
  | nil =>
    cases r with
    | nil => simp
    | cons c r => have := hr c rfl; simp [this]
  | cons a s ih =>
    simp only [List.all_cons, Bool.and_eq_true] at hs
    obtain ⟨h1, h2⟩ := ih hs.2
    simp [hs.1, h1, h2]
theorem key_word : ∀ w ∈ keyL, w.all wordB = true ∧ w.length ≤ 40 ∧ w ≠ [] ∧ letB (w.headD 0) = true := by decide +kernel
theorem sign_fact : ∀ w ∈ signL, w.length ≤ 2 ∧ letB (w.headD 0) = false ∧ digB (w.headD 0) = false ∧ w.headD 0 ≠ 34 ∧ whiteB (w.headD 0) = false ∧ w ≠ [47, 47] ∧ w ≠ [47, 42] := by decide +kernel
theorem let_not_dig {c : UInt8} (h : letB c = true) : digB c = false := by
  have := u8_all (p := fun c => letB c = true → digB c = false) (by decide +kernel) c
  exact this h
theorem let_not_white {c : UInt8} (h : letB c = true ∨ digB c = true) : whiteB c = false ∧ c ≠ 47 ∧ c ≠ 34 := by
  have := u8_all (p := fun c => letB c = true ∨ digB c = true → whiteB c = false ∧ c ≠ 47 ∧ c ≠ 34) (by decide +kernel) c
  exact this h
end Go.Proofs.YtdloadeidijcoaaGreatDoor
namespace Go.Proofs.YtdloadeidijcoaaGreatDoor

/-- what may follow the text of a token -/
def Bdry (t : Tok) (r : List UInt8) : Prop :=
  (t.kind = 1 ∨ t.kind = 2 ∨ t.kind = 3 → noWord r) ∧ (t.kind = 5 → signL.find? (fun w => w.isPrefixOf (t.text ++ r)) = some t.text ∧ ¬ (t.text = [47] ∧ (r.head? = some 47 ∨ r.head? = some 42)))
theorem num_word {s : List UInt8} {n : Int} (h : numL s = some n) : s ≠ [] ∧ s.all digB = true := by
  unfold numL at h
  split at h
  · cases h
  · rename_i h1
    simp only [not_or] at h1
    exact ⟨h1.1, by simpa using h1.2.1⟩
theorem dig_word {s : List UInt8} (h : s.all digB = true) : s.all wordB = true := by
  rw [List.all_eq_true] at h ⊢
  intro c hc; simp [wordB, h c hc]
theorem right_kind {t : Tok} (h : rightB t = true) : t.kind = 1 ∨ t.kind = 2 ∨ t.kind = 3 ∨ t.kind = 4 ∨ t.kind = 5 := by
  unfold rightB at h
  simp only [Bool.and_eq_true] at h
  have h1 := h.1.1
  split at h1
  · omega
  · split at h1
    · omega
    · split at h1
      · omega
      · split at h1
        · omega
        · split at h1
          · omega
          · cases h1
theorem right_parts {t : Tok} (h : rightB t = true) : 0 ≤ t.at_ ∧ (t.kind ≠ 3 → t.value = 0) := by
  unfold rightB at h
  simp only [Bool.and_eq_true, Bool.or_eq_true, decide_eq_true_eq] at h
  exact ⟨h.1.2, fun hk => by rcases h.2 with h2 | h2; exact absurd h2 hk; exact h2⟩
theorem right1 {t : Tok} (h : rightB t = true) (hk : t.kind = 1) : nameB t.text = true := by
  unfold rightB at h; simp only [hk, Bool.and_eq_true] at h; simpa using h.1.1
theorem right2 {t : Tok} (h : rightB t = true) (hk : t.kind = 2) : t.text ∈ keyL := by
  unfold rightB at h; simp only [hk, Bool.and_eq_true] at h; simpa using h.1.1
theorem right3 {t : Tok} (h : rightB t = true) (hk : t.kind = 3) : numL t.text = some t.value := by
  unfold rightB at h; simp only [hk, Bool.and_eq_true] at h; simpa using h.1.1
theorem right5 {t : Tok} (h : rightB t = true) (hk : t.kind = 5) : t.text ∈ signL := by
  unfold rightB at h; simp only [hk, Bool.and_eq_true] at h; simpa using h.1.1
theorem name_parts {s : List UInt8} (h : nameB s = true) : ∃ c r, s = c :: r ∧ letB c = true ∧ s.all wordB = true ∧ s.length ≤ 40 ∧ s ∉ keyL := by
  unfold nameB at h
  simp only [Bool.and_eq_true, decide_eq_true_eq] at h
  cases s with
  | nil => simp at h
  | cons c r => exact ⟨c, r, rfl, h.1.1.1, h.1.1.2, h.1.2, h.2⟩
theorem tok_eta (t : Tok) (k : Int) (s : List UInt8) (v i : Int) (h1 : t.kind = k) (h2 : t.text = s) (h3 : t.value = v) : (⟨k, s, v, i⟩ : Tok) = t.put i := by subst h1 h2 h3; rfl
/-- the first byte of a right token's text -/
theorem write_head {t : Tok} (h : rightB t = true) : ∃ c q, writeL t = c :: q ∧ whiteB c = false ∧ (c = 47 → t.kind = 5) := by
  rcases right_kind h with hk | hk | hk | hk | hk
  · obtain ⟨c, r, e, h1, _⟩ := name_parts (right1 h hk)
    exact ⟨c, r, by simp [writeL, hk, e], (let_not_white (.inl h1)).1, fun e => absurd e (let_not_white (.inl h1)).2.1⟩
  · obtain ⟨_, _, h3, h4⟩ := key_word _ (right2 h hk)
    obtain ⟨c, r, e⟩ := List.exists_cons_of_ne_nil h3
    rw [e] at h4
    exact ⟨c, r, by simp [writeL, hk, e], (let_not_white (.inl h4)).1, fun e => absurd e (let_not_white (.inl h4)).2.1⟩
  · obtain ⟨h3, h4⟩ := num_word (right3 h hk)
    obtain ⟨c, r, e⟩ := List.exists_cons_of_ne_nil h3
    rw [e, List.all_cons, Bool.and_eq_true] at h4
    exact ⟨c, r, by simp [writeL, hk, e], (let_not_white (.inr h4.1)).1, fun e => absurd e (let_not_white (.inr h4.1)).2.1⟩
  · exact ⟨34, _, by simp [writeL, hk]; rfl, by decide, fun e => by cases e⟩
  · have hs := right5 h hk
    have hp := sign_pos _ hs
    obtain ⟨c, r, e⟩ := List.exists_cons_of_ne_nil (l := t.text) (by intro e; rw [e] at hp; simp at hp)
    have := (sign_fact _ hs).2.2.2.2.1
    rw [e] at this
    exact ⟨c, r, by simp [writeL, hk, e], this, fun _ => hk⟩
theorem one_write {t : Tok} (h : rightB t = true) (i : Int) {r : List UInt8} (hb : Bdry t r) : oneL i (writeL t ++ r) = .tok (t.put i) r := by
  rcases right_kind h with hk | hk | hk | hk | hk
  · obtain ⟨c, q, e, h1, h2, h3, h4⟩ := name_parts (right1 h hk)
    have hv := (right_parts h).2 (by omega)
    have hw : writeL t = t.text := by simp [writeL, hk]
    obtain ⟨e1, e2⟩ := take_all (p := wordB) h2 (hb.1 (.inl hk))
    rw [hw]
    unfold oneL
    rw [e] at e1 e2 h3 h4 ⊢
    simp only [List.cons_append] at e1 e2 ⊢
    rw [if_pos h1, e1, if_neg (by omega), if_neg h4, e2, tok_eta t 1 (c :: q) 0 i hk e hv]
  · obtain ⟨g1, g2, g3, g4⟩ := key_word _ (right2 h hk)
    have hkey := right2 h hk
    obtain ⟨c, q, e⟩ := List.exists_cons_of_ne_nil g3
    have hv := (right_parts h).2 (by omega)
    have hw : writeL t = t.text := by simp [writeL, hk]
    obtain ⟨e1, e2⟩ := take_all (p := wordB) g1 (hb.1 (.inr (.inl hk)))
    rw [hw]
    unfold oneL
    rw [e] at e1 e2 g2 g4 hkey ⊢
    simp only [List.cons_append, List.headD_cons] at e1 e2 g4 ⊢
    rw [if_pos g4, e1, if_neg (by omega), if_pos hkey, e2, tok_eta t 2 (c :: q) 0 i hk e hv]
  · have hn := right3 h hk
    obtain ⟨g1, g2⟩ := num_word hn
    obtain ⟨c, q, e⟩ := List.exists_cons_of_ne_nil g1
    have hw : writeL t = t.text := by simp [writeL, hk]
    obtain ⟨e1, e2⟩ := take_all (p := wordB) (dig_word g2) (hb.1 (.inr (.inr hk)))
    have hc : digB c = true := by rw [e, List.all_cons, Bool.and_eq_true] at g2; exact g2.1
    have hl : letB c = false := by
      cases hl : letB c with
      | false => rfl
      | true => rw [let_not_dig hl] at hc; cases hc
    rw [hw]
    unfold oneL
    rw [e] at e1 e2 hn ⊢
    simp only [List.cons_append] at e1 e2 ⊢
    rw [if_neg (by simp [hl]), if_pos hc, e1, hn, e2]
    simp only []
    rw [tok_eta t 3 (c :: q) t.value i hk e rfl]
  · have hv := (right_parts h).2 (by omega)
    have hw : writeL t ++ r = 34 :: (t.text.flatMap escB ++ 34 :: r) := by simp [writeL, hk]
    rw [hw]
    unfold oneL
    have n1 : letB 34 = false := by decide
    have n2 : digB 34 = false := by decide
    simp only [n1, n2, Bool.false_eq_true, if_false, if_true, quo_write]
    rw [tok_eta t 4 t.text 0 i hk rfl hv]
  · have hs := right5 h hk
    have hv := (right_parts h).2 (by omega)
    have hw : writeL t = t.text := by simp [writeL, hk]
    obtain ⟨f1, f2, f3, f4, f5, f6, f7⟩ := sign_fact _ hs
    have hp := sign_pos _ hs
    obtain ⟨c, q, e⟩ := List.exists_cons_of_ne_nil (l := t.text) (by intro e; rw [e] at hp; simp at hp)
    have hf := (hb.2 hk).1
    rw [hw]
    unfold oneL
    rw [e] at f2 f3 f4 hf ⊢
    simp only [List.cons_append, List.headD_cons] at f2 f3 f4 hf ⊢
    rw [if_neg (by simp [f2]), if_neg (by simp [f3]), if_neg f4, hf]
    simp only []
    rw [tok_eta t 5 (c :: q) 0 i hk e hv]
    congr 1
    rw [← List.cons_append, List.drop_left]
theorem scan_tok {n : Nat} {c : UInt8} {q : List UInt8} {t : Tok} {r : List UInt8} (hw : whiteB c = false) (hc : ¬ (c = 47 ∧ (q.head? = some 47 ∨ q.head? = some 42))) (h : oneL ((n - (c :: q).length : Nat) : Int) (c :: q) = .tok t r) : scanL n (c :: q) = (scanL n r).cons t := by
  rw [scanL, if_neg (by simp [hw]), if_neg (fun e => hc ⟨e.1, .inl e.2⟩), if_neg (fun e => hc ⟨e.1, .inr e.2⟩)]
  split
  · rename_i h'; rw [h] at h'; cases h'
  · rename_i h'; rw [h] at h'; cases h'; rfl
/-- the text of a right token, and something behind it -/
theorem scan_write {t : Tok} (h : rightB t = true) (n : Nat) {r : List UInt8} (hb : Bdry t r) : scanL n (writeL t ++ r) = (scanL n r).cons (t.put ((n - (writeL t ++ r).length : Nat) : Int)) := by
  obtain ⟨c, q, e, h1, h2⟩ := write_head h
  have ho := one_write h ((n - (writeL t ++ r).length : Nat) : Int) hb
  rw [e] at ho ⊢
  refine scan_tok h1 ?_ ho
  rintro ⟨rfl, hh⟩
  have hk := h2 rfl
  have hw : writeL t = t.text := by simp [writeL, hk]
  have hb2 := (hb.2 hk).2
  have hs := right5 h hk
  rw [hw] at e
  obtain ⟨f1, _, _, _, _, f6, f7⟩ := sign_fact _ hs
  rw [e] at f1 f6 f7 hb2
  match q, f1, f6, f7, hb2, hh with
  | [], _, _, _, hb2, hh => exact hb2 ⟨rfl, by simpa using hh⟩
  | [x], _, f6, f7, _, hh =>
    simp at hh
    rcases hh with rfl | rfl
    · exact f6 rfl
    · exact f7 rfl
  | x :: y :: z, f1, _, _, _, _ => simp at f1
end Go.Proofs.YtdloadeidijcoaaGreatDoor
namespace Go.Proofs.YtdloadeidijcoaaGreatDoor

theorem pre_take2 {w l : List UInt8} (h : w.length ≤ 2) : w.isPrefixOf l = w.isPrefixOf (l.take 2) := by
  match w, l, h with
  | [], _, _ => simp
  | [_], [], _ => rfl
  | [_], [_], _ => rfl
  | [_], _ :: _ :: _, _ => rfl
  | [_, _], [], _ => rfl
  | [_, _], [_], _ => rfl
  | [_, _], _ :: _ :: _, _ => rfl
theorem find_congr {α : Type} {p q : α → Bool} : ∀ {l : List α}, (∀ x ∈ l, p x = q x) → l.find? p = l.find? q
  | [], _ => rfl
  | x :: l, h => by
    rw [List.find?_cons, List.find?_cons, h x (by simp), find_congr (fun y hy => h y (by simp [hy]))]
theorem find_take2 (l : List UInt8) : signL.find? (fun w => w.isPrefixOf l) = signL.find? (fun w => w.isPrefixOf (l.take 2)) :=
  find_congr (fun w hw => pre_take2 (sign_fact w hw).1)
theorem take2_app {l u : List UInt8} (h : 2 ≤ l.length) : (l ++ u).take 2 = l.take 2 := by
  rw [List.take_append_of_le_length h]
/-- nothing, or a space -/
def spaceOr (r : List UInt8) : Prop := r = [] ∨ ∃ q, r = 32 :: q
theorem sign_space : ∀ w ∈ signL, signL.find? (fun v => v.isPrefixOf (w.take 2)) = some w ∧ signL.find? (fun v => v.isPrefixOf ((w ++ [32]).take 2)) = some w := by decide +kernel
theorem bd_space {t : Tok} (h : rightB t = true) {r : List UInt8} (hr : spaceOr r) : Bdry t r := by
  refine ⟨fun _ c hc => ?_, fun hk => ⟨?_, ?_⟩⟩
  · rcases hr with rfl | ⟨q, rfl⟩
    · simp at hc
    · simp at hc; subst hc; decide
  · have hs := right5 h hk
    have hp := sign_pos _ hs
    obtain ⟨g1, g2⟩ := sign_space _ hs
    rcases hr with rfl | ⟨q, rfl⟩
    · rw [List.append_nil, find_take2]; exact g1
    · rw [find_take2]
      have e : (t.text ++ 32 :: q).take 2 = (t.text ++ [32]).take 2 := by
        rw [show t.text ++ 32 :: q = (t.text ++ [32]) ++ q by simp]
        exact take2_app (by simp; omega)
      rw [e]; exact g2
  · rintro ⟨_, hh⟩
    rcases hr with rfl | ⟨q, rfl⟩ <;> simp at hh
/-- l' is what is left of l behind white space and comments -/
inductive Gap : List UInt8 → List UInt8 → Prop
  | refl (l) : Gap l l
  | white {c l l'} : whiteB c = true → Gap l l' → Gap (c :: l) l'
  | line {r l'} : Gap ((47 :: 47 :: r).dropWhile (fun c => c != 10)) l' → Gap (47 :: 47 :: r) l'
  | block {r r' l'} : skipC 1 r = some r' → Gap r' l' → Gap (47 :: 42 :: r) l'
theorem scan_white {n : Nat} {c : UInt8} {r : List UInt8} (h : whiteB c = true) : scanL n (c :: r) = scanL n r := by rw [scanL, if_pos h]
theorem scan_line {n : Nat} {r : List UInt8} : scanL n (47 :: 47 :: r) = scanL n ((47 :: 47 :: r).dropWhile (fun c => c != 10)) := by
  rw [scanL, if_neg (by decide), if_pos (by simp)]
theorem scan_block {n : Nat} {r r' : List UInt8} (h : skipC 1 r = some r') : scanL n (47 :: 42 :: r) = scanL n r' := by
  rw [scanL, if_neg (by decide), if_neg (by simp), if_pos (by simp)]
  split
  · rename_i h'; rw [show ((42 :: r).drop 1) = r from rfl, h] at h'; cases h'
  · rename_i h'; rw [show ((42 :: r).drop 1) = r from rfl, h] at h'; cases h'; rfl
theorem scan_gap {l l' : List UInt8} (h : Gap l l') (n : Nat) : scanL n l = scanL n l' := by
  induction h with
  | refl => rfl
  | white h _ ih => rw [scan_white h, ih]
  | line _ ih => rw [scan_line, ih]
  | block h _ ih => rw [scan_block h, ih]
theorem Gap.trans {a b c : List UInt8} (h : Gap a b) (g : Gap b c) : Gap a c := by
  induction h with
  | refl => exact g
  | white h _ ih => exact .white h (ih g)
  | line _ ih => exact .line (ih g)
  | block h _ ih => exact .block h (ih g)
/-- how scanning goes on -/
theorem scan_cases (n : Nat) (c : UInt8) (r : List UInt8) :
    (∃ l', l'.length < (c :: r).length ∧ Gap (c :: r) l' ∧ scanL n (c :: r) = scanL n l') ∨
    (c = 47 ∧ r.head? = some 42 ∧ skipC 1 (r.drop 1) = none ∧ scanL n (c :: r) = .bad (n - (c :: r).length) 112) ∨
    (whiteB c = false ∧ ¬ (c = 47 ∧ (r.head? = some 47 ∨ r.head? = some 42)) ∧
      ((∃ e, oneL ((n - (c :: r).length : Nat) : Int) (c :: r) = .bad e ∧ scanL n (c :: r) = .bad (n - (c :: r).length) e) ∨
       (∃ t r', oneL ((n - (c :: r).length : Nat) : Int) (c :: r) = .tok t r' ∧ r'.length < (c :: r).length ∧ scanL n (c :: r) = (scanL n r').cons t))) := by
  by_cases hw : whiteB c = true
  · exact .inl ⟨r, by simp, .white hw (.refl _), scan_white hw⟩
  · have hw' : whiteB c = false := by simpa using hw
    by_cases h1 : c = 47 ∧ r.head? = some 47
    · obtain ⟨rfl, h1⟩ := h1
      obtain ⟨q, rfl⟩ : ∃ q, r = 47 :: q := by
        cases r with
        | nil => simp at h1
        | cons a q => simp at h1; exact ⟨q, by rw [h1]⟩
      exact .inl ⟨_, dropWhile_lt (by decide), .line (.refl _), scan_line⟩
    · by_cases h2 : c = 47 ∧ r.head? = some 42
      · obtain ⟨rfl, h2⟩ := h2
        obtain ⟨q, rfl⟩ : ∃ q, r = 42 :: q := by
          cases r with
          | nil => simp at h2
          | cons a q => simp at h2; exact ⟨q, by rw [h2]⟩
        rcases hs : skipC 1 q with _ | r'
        · refine .inr (.inl ⟨rfl, rfl, hs, ?_⟩)
          rw [scanL, if_neg hw, if_neg h1, if_pos (by simp)]
          split
          · rfl
          · rename_i h'; rw [show ((42 :: q).drop 1) = q from rfl, hs] at h'; cases h'
        · refine .inl ⟨r', ?_, .block hs (.refl _), scan_block hs⟩
          have := skipC_len _ _ _ hs
          simp; omega
      · refine .inr (.inr ⟨hw', fun e => e.2.elim (fun e2 => h1 ⟨e.1, e2⟩) (fun e2 => h2 ⟨e.1, e2⟩), ?_⟩)
        rcases ho : oneL ((n - (c :: r).length : Nat) : Int) (c :: r) with ⟨t, r'⟩ | e
        · refine .inr ⟨t, r', rfl, oneL_len ho, ?_⟩
          exact scan_tok hw' (fun e => e.2.elim (fun e2 => h1 ⟨e.1, e2⟩) (fun e2 => h2 ⟨e.1, e2⟩)) ho
        · refine .inl ⟨e, rfl, ?_⟩
          rw [scanL, if_neg hw, if_neg h1, if_neg h2]
          split
          · rename_i h'; rw [ho] at h'; cases h'; rfl
          · rename_i h'; rw [ho] at h'; cases h'
end Go.Proofs.YtdloadeidijcoaaGreatDoor
namespace Go.Proofs.YtdloadeidijcoaaGreatDoor

theorem tw_all {p : UInt8 → Bool} (l : List UInt8) : (l.takeWhile p).all p = true := by
  induction l with
  | nil => rfl
  | cons c l ih =>
    by_cases h : p c = true
    · simp [h, ih]
    · simp [h]
theorem one_right {i : Int} {l r : List UInt8} {t : Tok} (h : oneL i l = .tok t r) (hi : 0 ≤ i) : rightB t = true ∧ t.at_ = i ∧ (t.kind ≠ 4 → l = t.text ++ r) := by
  unfold oneL at h
  split at h
  · cases h
  · rename_i c q
    split at h
    · rename_i hc
      have hw : wordB c = true := by simp [wordB, hc]
      split at h
      · cases h
      · rename_i hlen
        split at h
        · rename_i hk
          cases h
          exact ⟨by simp [rightB, hk, hi], rfl, fun _ => (List.takeWhile_append_dropWhile).symm⟩
        · rename_i hk
          cases h
          refine ⟨?_, rfl, fun _ => (List.takeWhile_append_dropWhile).symm⟩
          have hn : nameB ((c :: q).takeWhile wordB) = true := by
            unfold nameB
            have e : (c :: q).takeWhile wordB = c :: q.takeWhile wordB := by simp [hw]
            have hh : (match (c :: q).takeWhile wordB with | [] => false | c :: _ => letB c) = true := by rw [e]; exact hc
            simp only [Bool.and_eq_true, decide_eq_true_eq]
            exact ⟨⟨⟨hh, tw_all _⟩, by omega⟩, hk⟩
          simp [rightB, hn, hi]
    · split at h
      · split at h
        · cases h
        · rename_i m hm
          cases h
          exact ⟨by simp [rightB, hm, hi], rfl, fun _ => (List.takeWhile_append_dropWhile).symm⟩
      · split at h
        · split at h
          · cases h
          · cases h
            exact ⟨by simp [rightB, hi], rfl, fun hk => absurd rfl hk⟩
        · split at h
          · rename_i w hw
            cases h
            have hm := List.mem_of_find?_eq_some hw
            have hp := List.find?_some hw
            refine ⟨by simp [rightB, hm, hi], rfl, fun _ => ?_⟩
            obtain ⟨z, hz⟩ := List.isPrefixOf_iff_prefix.1 hp
            rw [← hz]; simp
          · cases h
theorem cons_ok {t : Tok} {s : Sc} {l : List Tok} (h : s.cons t = .ok l) : ∃ l', s = .ok l' ∧ l = t :: l' := by
  cases s with
  | ok l' => simp only [Sc.cons] at h; cases h; exact ⟨l', rfl, rfl⟩
  | bad i e => cases h
/-- the places of what is scanned -/
theorem scan_at (n : Nat) : ∀ (k : Nat) (l : List UInt8) (ts : List Tok), l.length ≤ k → l.length ≤ n → scanL n l = .ok ts → ∀ t ∈ ts, ((n - l.length : Nat) : Int) ≤ t.at_ ∧ t.at_ < n ∧ rightB t = true
  | _, [], ts, _, _, h => by rw [scanL] at h; cases h; simp
  | 0, _ :: _, _, hk, _, _ => by simp at hk
  | k + 1, c :: r, ts, hk, hn, h => by
    rcases scan_cases n c r with ⟨l', h1, _, h3⟩ | ⟨_, _, _, h3⟩ | ⟨_, _, ⟨e, _, h3⟩ | ⟨t, r', ho, h2, h3⟩⟩
    · rw [h3] at h
      intro t ht
      have := scan_at n k l' ts (by simp only [List.length_cons] at h1 hk; omega) (by omega) h t ht
      exact ⟨by omega, this.2⟩
    · rw [h3] at h; cases h
    · rw [h3] at h; cases h
    · rw [h3] at h
      obtain ⟨l', h4, rfl⟩ := cons_ok h
      obtain ⟨g1, g2, _⟩ := one_right ho (by omega)
      intro x hx
      rcases List.mem_cons.1 hx with rfl | hx
      · rw [g2]; simp only [List.length_cons] at hn ⊢; exact ⟨by omega, by omega, g1⟩
      · have := scan_at n k r' l' (by simp only [List.length_cons] at h2 hk; omega) (by omega) h4 x hx
        exact ⟨by omega, this.2⟩
theorem scan_first {n : Nat} {l : List UInt8} {t : Tok} {ts : List Tok} (h : scanL n l = .ok (t :: ts)) (hn : l.length = n) (ht : t.at_ = 0) (hl : l ≠ []) :
    ∃ c q r, l = c :: q ∧ whiteB c = false ∧ ¬ (c = 47 ∧ (q.head? = some 47 ∨ q.head? = some 42)) ∧ oneL 0 l = .tok t r ∧ scanL n r = .ok ts := by
  obtain ⟨c, q, rfl⟩ := List.exists_cons_of_ne_nil hl
  rcases scan_cases n c q with ⟨l', h1, _, h3⟩ | ⟨_, _, _, h3⟩ | ⟨hw, hc, ⟨e, _, h3⟩ | ⟨t', r', ho, h2, h3⟩⟩
  · rw [h3] at h
    have := (scan_at n l'.length l' _ (Nat.le_refl _) (by omega) h t (by simp)).1
    omega
  · rw [h3] at h; cases h
  · rw [h3] at h; cases h
  · rw [h3] at h
    obtain ⟨l', h4, e⟩ := cons_ok h
    cases e
    rw [hn, Nat.sub_self] at ho
    exact ⟨c, q, r', rfl, hw, hc, ho, h4⟩
theorem put_put (t : Tok) (i j : Int) : (t.put i).put j = t.put j := rfl
theorem one_text {i : Int} {c : UInt8} {q r : List UInt8} {t : Tok} (hc : letB c = true ∨ digB c = true) (h : oneL i (c :: q) = .tok t r) : t.text = (c :: q).takeWhile wordB := by
  unfold oneL at h
  simp only [] at h
  split at h
  · split at h
    · cases h
    · split at h <;> (cases h; rfl)
  · rename_i h1
    have h2 : digB c = true := hc.resolve_left h1
    rw [if_pos h2] at h
    split at h
    · cases h
    · cases h; rfl
theorem one_sign {i : Int} {c : UInt8} {q r : List UInt8} {t : Tok} (h1 : letB c = false) (h2 : digB c = false) (h3 : c ≠ 34) (h : oneL i (c :: q) = .tok t r) : signL.find? (fun w => w.isPrefixOf (c :: q)) = some t.text := by
  unfold oneL at h
  simp only [] at h
  rw [if_neg (by simp [h1]), if_neg (by simp [h2]), if_neg h3] at h
  split at h
  · rename_i w hw; cases h; exact hw
  · cases h
theorem write_ne {t : Tok} (h : rightB t = true) : writeL t ≠ [] := by
  obtain ⟨c, q, e, _⟩ := write_head h
  rw [e]; simp
/-- two tokens that are scanned as they are: the second one ends the first, whatever follows -/
theorem bd_of_scan {a b : Tok} (ha : rightB a = true) (hb : rightB b = true) {x : Tok} {ts : List Tok} (hx : x.at_ = 0) (hxa : x.text = a.text) (h : scanL (writeL a ++ writeL b).length (writeL a ++ writeL b) = .ok (x :: ts)) (u : List UInt8) : Bdry a (writeL b ++ u) := by
  obtain ⟨c, q, r, e, hw, hc, ho, _⟩ := scan_first h rfl hx (by simp [write_ne ha])
  obtain ⟨cb, qb, eb, _⟩ := write_head hb
  refine ⟨fun hk => ?_, fun hk => ?_⟩
  · have hwr : writeL a = a.text := by
      unfold writeL; rw [if_neg (by omega)]
    have hall : a.text.all wordB = true ∧ ∃ c1 q1, a.text = c1 :: q1 ∧ (letB c1 = true ∨ digB c1 = true) := by
      rcases hk with hk | hk | hk
      · obtain ⟨c1, q1, e1, h1, h2, _⟩ := name_parts (right1 ha hk)
        exact ⟨h2, c1, q1, e1, .inl h1⟩
      · obtain ⟨g1, _, g3, g4⟩ := key_word _ (right2 ha hk)
        obtain ⟨c1, q1, e1⟩ := List.exists_cons_of_ne_nil g3
        rw [e1] at g4
        exact ⟨g1, c1, q1, e1, .inl g4⟩
      · obtain ⟨g1, g2⟩ := num_word (right3 ha hk)
        obtain ⟨c1, q1, e1⟩ := List.exists_cons_of_ne_nil g1
        have : digB c1 = true := by rw [e1, List.all_cons, Bool.and_eq_true] at g2; exact g2.1
        exact ⟨dig_word g2, c1, q1, e1, .inr this⟩
    obtain ⟨hall, c1, q1, e1, hc1⟩ := hall
    have ecc : c = c1 := by rw [hwr, e1] at e; simp at e; exact e.1.symm
    subst ecc
    rw [e] at ho
    have ht := one_text hc1 ho
    rw [hxa, ← e, hwr, eb, List.takeWhile_append_of_pos (by simpa using hall)] at ht
    have ht2 : (cb :: qb).takeWhile wordB = [] := by
      have := congrArg List.length ht
      rw [List.length_append] at this
      exact List.eq_nil_of_length_eq_zero (by omega)
    intro d hd
    rw [eb] at hd
    simp at hd
    subst hd
    cases hcb : wordB cb with
    | false => rfl
    | true => simp [hcb] at ht2
  · have hs := right5 ha hk
    have hwr : writeL a = a.text := by simp [writeL, hk]
    obtain ⟨f1, f2, f3, f4, _⟩ := sign_fact _ hs
    have hp := sign_pos _ hs
    obtain ⟨c1, q1, e1⟩ := List.exists_cons_of_ne_nil (l := a.text) (by intro e; rw [e] at hp; simp at hp)
    have ecc : c = c1 := by rw [hwr, e1] at e; simp at e; exact e.1.symm
    subst ecc
    rw [e1, List.headD_cons] at f2 f3 f4
    rw [e] at ho
    have hf := one_sign f2 f3 f4 ho
    rw [← e, hxa] at hf
    refine ⟨?_, ?_⟩
    · rw [hwr] at hf
      rw [← List.append_assoc, find_take2, take2_app, ← find_take2]
      · exact hf
      · rw [e1, eb]; simp; omega
    · rintro ⟨h1, h2⟩
      rw [hwr, h1, eb] at e
      simp at e
      rw [eb] at h2
      simp at h2
      refine hc ⟨e.1.symm, ?_⟩
      rw [← e.2]
      simpa using h2
def apartB (a b : Tok) : Bool := decide (scanL (writeL a ++ writeL b).length (writeL a ++ writeL b) ≠ .ok [a.put 0, b.put (writeL a).length])
def joinL : List Tok → List UInt8
  | [] => []
  | [a] => writeL a
  | a :: b :: r => writeL a ++ ((if apartB a b then [32] else []) ++ joinL (b :: r))
theorem scan_join : ∀ (l : List Tok), (∀ t ∈ l, rightB t = true) → ∀ n, ∃ l', scanL n (joinL l) = .ok l' ∧ l'.map (·.put 0) = l.map (·.put 0)
  | [], _, n => ⟨[], by rw [joinL, scanL], rfl⟩
  | [a], h, n => by
    have h1 := scan_write (h a (by simp)) n (r := []) (bd_space (h a (by simp)) (.inl rfl))
    rw [List.append_nil, scanL] at h1
    rw [joinL]
    exact ⟨_ :: [], h1, rfl⟩
  | a :: b :: r, h, n => by
    have ha := h a (by simp)
    have hb := h b (by simp)
    obtain ⟨l', e1, e2⟩ := scan_join (b :: r) (fun t ht => h t (by simp [ht])) n
    rw [joinL]
    cases hp : apartB a b with
    | true =>
      have h1 := scan_write ha n (r := 32 :: joinL (b :: r)) (bd_space ha (.inr ⟨_, rfl⟩))
      rw [scan_white (by decide), e1] at h1
      rw [if_pos rfl, List.singleton_append]
      exact ⟨_ :: l', h1, by rw [List.map_cons, e2]; rfl⟩
    | false =>
      have hs : scanL (writeL a ++ writeL b).length (writeL a ++ writeL b) = .ok [a.put 0, b.put (writeL a).length] := by simpa [apartB] using hp
      have hj : ∃ u, joinL (b :: r) = writeL b ++ u := by
        cases r with
        | nil => exact ⟨[], by rw [joinL, List.append_nil]⟩
        | cons d r => exact ⟨_, by rw [joinL]⟩
      obtain ⟨u, hu⟩ := hj
      have hbd := bd_of_scan ha hb (x := a.put 0) rfl rfl hs u
      have h1 := scan_write ha n hbd
      rw [← hu, e1] at h1
      rw [if_neg (by simp), List.nil_append]
      exact ⟨_ :: l', h1, by rw [List.map_cons, e2]; rfl⟩
end Go.Proofs.YtdloadeidijcoaaGreatDoor
namespace Go.Proofs.YtdloadeidijcoaaGreatDoor

/-- what the law puts between tokens: number k of seven -/
def betweenL : Nat → List UInt8
  | 0 => [32]
  | 1 => [10]
  | 2 => [9, 13, 32]
  | 3 => [47, 42, 42, 47]
  | 4 => [32, 47, 47, 32, 120, 32, 34, 32, 47, 42, 10]
  | 5 => [47, 42, 32, 97, 32, 47, 42, 32, 34, 32, 42, 47, 32, 47, 47, 32, 42, 47]
  | _ => [10, 10]
/-- a gap: a space, or something of the seven between two spaces -/
def IsGap (g : List UInt8) : Prop := g = [32] ∨ ∃ k, g = 32 :: (betweenL k ++ [32])
theorem gap_skip {g : List UInt8} (h : IsGap g) (r : List UInt8) : Gap (g ++ r) r := by
  rcases h with rfl | ⟨k, rfl⟩
  · exact .white (by decide) (.refl _)
  · rw [List.cons_append]
    refine .white (by decide) ?_
    rw [List.append_assoc, List.singleton_append]
    match k with
    | 0 => exact .white (by decide) (.white (by decide) (.refl _))
    | 1 => exact .white (by decide) (.white (by decide) (.refl _))
    | 2 => exact .white (by decide) (.white (by decide) (.white (by decide) (.white (by decide) (.refl _))))
    | 3 => exact .block (r' := 32 :: r) (by simp [skipC]) (.white (by decide) (.refl _))
    | 4 => exact .white (by decide) (.line (.white (by decide) (.white (by decide) (.refl _))))
    | 5 => exact .block (r' := 32 :: r) (by simp [skipC]) (.white (by decide) (.refl _))
    | _ + 6 => exact .white (by decide) (.white (by decide) (.white (by decide) (.refl _)))
theorem gap_space {g : List UInt8} (h : IsGap g) (r : List UInt8) : spaceOr (g ++ r) := by
  rcases h with rfl | ⟨k, rfl⟩ <;> exact .inr ⟨_, rfl⟩
/-- tokens with gaps ahead, between and behind -/
def gapL (gap : Nat → List UInt8) : List Tok → Nat → List UInt8
  | [], i => gap i
  | t :: r, i => gap i ++ (writeL t ++ gapL gap r (i + 1))
/-- the tokens at their places; o: the offset of what is written -/
def gapT (gap : Nat → List UInt8) : List Tok → Nat → Nat → List Tok
  | [], _, _ => []
  | t :: r, i, o => t.put ((o + (gap i).length : Nat) : Int) :: gapT gap r (i + 1) (o + (gap i).length + (writeL t).length)
theorem scan_gaps {gap : Nat → List UInt8} (hg : ∀ i, IsGap (gap i)) : ∀ (l : List Tok) (i o n : Nat), (∀ t ∈ l, rightB t = true) → n = o + (gapL gap l i).length → scanL n (gapL gap l i) = .ok (gapT gap l i o)
  | [], i, o, n, _, _ => by
    rw [gapL, gapT]
    have := scan_gap (gap_skip (hg i) []) n
    rw [List.append_nil] at this
    rw [this, scanL]
  | t :: r, i, o, n, h, hn => by
    have ht := h t (by simp)
    rw [gapL] at hn ⊢
    rw [gapT, scan_gap (gap_skip (hg i) _) n]
    have hs : spaceOr (gapL gap r (i + 1)) := by
      cases r with
      | nil => rw [gapL]; have := gap_space (hg (i + 1)) []; rwa [List.append_nil] at this
      | cons a r => rw [gapL]; exact gap_space (hg (i + 1)) _
    rw [scan_write ht n (bd_space ht hs), scan_gaps hg r (i + 1) (o + (gap i).length + (writeL t).length) n (fun x hx => h x (by simp [hx])) (by rw [hn]; simp; omega)]
    simp only [Sc.cons]
    congr 3
    rw [hn]; simp; omega
end Go.Proofs.YtdloadeidijcoaaGreatDoor
namespace Go.Proofs.YtdloadeidijcoaaGreatDoor

theorem skip_alone : ∀ (q : List UInt8) (d : Nat) (x r : List UInt8), skipC d (q ++ x) = some r → x.length ≤ r.length → ∃ q', r = q' ++ x ∧ skipC d q = some q'
  | [], d, x, r, h, hl => by
    have := skipC_len _ _ _ h
    simp at this; omega
  | [a], d, x, r, h, hl => by
    exfalso
    cases x with
    | nil => simp [skipC] at h
    | cons b y =>
      simp only [List.singleton_append] at h
      rw [skipC] at h
      split at h
      · have := skipC_len _ _ _ h; simp at hl; omega
      · split at h
        · split at h
          · cases h; simp at hl; omega
          · have := skipC_len _ _ _ h; simp at hl; omega
        · have := skipC_len _ _ _ h; simp at hl this; omega
  | a :: b :: q, d, x, r, h, hl => by
    simp only [List.cons_append] at h
    rw [skipC] at h
    rw [skipC]
    split at h
    · rename_i hc
      rw [if_pos hc]
      exact skip_alone q _ x r h hl
    · rename_i hc
      rw [if_neg hc]
      split at h
      · rename_i hc2
        rw [if_pos hc2]
        split at h
        · rename_i hd
          cases h
          exact ⟨q, rfl, by rw [if_pos hd]⟩
        · rename_i hd
          rw [if_neg hd]
          exact skip_alone q _ x r h hl
      · rename_i hc2
        rw [if_neg hc2]
        exact skip_alone (b :: q) _ x r (by simpa using h) hl
theorem gap_len {l x : List UInt8} (h : Gap l x) : x.length ≤ l.length := by
  induction h with
  | refl => exact Nat.le_refl _
  | white _ _ ih => simp; omega
  | line _ ih =>
    rename_i r l' _
    have : ((47 :: 47 :: r).dropWhile (fun c => c != 10)).length ≤ (47 :: 47 :: r).length := (List.dropWhile_suffix _).length_le
    omega
  | block h _ ih => have := skipC_len _ _ _ h; simp; omega
theorem drop_alone (p : UInt8 → Bool) : ∀ (g x : List UInt8), (g ++ x).dropWhile p = g.dropWhile p ++ x ∨ (g.dropWhile p = [] ∧ (g ++ x).dropWhile p = x.dropWhile p)
  | [], x => .inr ⟨rfl, rfl⟩
  | c :: g, x => by
    by_cases h : p c = true
    · simp only [List.cons_append, List.dropWhile_cons_of_pos h]
      exact drop_alone p g x
    · left
      simp only [List.cons_append, List.dropWhile_cons_of_neg h]
/-- what is skipped has no tokens by itself -/
theorem gap_alone {l x : List UInt8} (h : Gap l x) (hx : x = [] ∨ x.head? ≠ some 10) : ∀ g, l = g ++ x → Gap g [] := by
  induction h with
  | refl x => intro g e; have : g = [] := by have := congrArg List.length e; simp at this; exact this
              subst this; exact .refl _
  | white hc hg ih =>
    rename_i c l l'
    intro g e
    have hlen := gap_len hg
    cases g with
    | nil => have := congrArg List.length e; simp at this; omega
    | cons a g => simp at e; obtain ⟨rfl, e⟩ := e; exact .white hc (ih hx g e)
  | line hg ih =>
    rename_i r l'
    intro g e
    have hlen := gap_len hg
    have hlt : ((47 :: 47 :: r).dropWhile (fun c => c != 10)).length ≤ r.length := by
      simp only [show ((47 : UInt8) != 10) = true from rfl, List.dropWhile_cons_of_pos]
      exact (List.dropWhile_suffix _).length_le
    match g, e with
    | [], e => have := congrArg List.length e; simp at this; omega
    | [a], e => have := congrArg List.length e; simp at this; omega
    | a :: b :: g, e =>
      simp at e
      obtain ⟨rfl, rfl, e⟩ := e
      subst e
      refine .line ?_
      rcases drop_alone (fun c => c != 10) (47 :: 47 :: g) l' with h1 | ⟨h1, h2⟩
      · exact ih hx _ h1
      · rw [h1]; exact .refl _
  | block h hg ih =>
    rename_i r r' l'
    intro g e
    have hlen := gap_len hg
    have hlt := skipC_len _ _ _ h
    match g, e with
    | [], e => have := congrArg List.length e; simp at this; omega
    | [a], e => have := congrArg List.length e; simp at this; omega
    | a :: b :: g, e =>
      simp at e
      obtain ⟨rfl, rfl, e⟩ := e
      subst e
      obtain ⟨q', rfl, hs⟩ := skip_alone g 1 l' r' h hlen
      exact .block hs (ih hx _ rfl)
theorem gap_suffix {l x : List UInt8} (h : Gap l x) : ∃ g, l = g ++ x := by
  induction h with
  | refl => exact ⟨[], rfl⟩
  | white _ _ ih => obtain ⟨g, e⟩ := ih; exact ⟨_ :: g, by rw [e]; rfl⟩
  | line _ ih =>
    rename_i r l' _
    obtain ⟨g, e⟩ := ih
    obtain ⟨g2, e2⟩ := List.dropWhile_suffix (fun c : UInt8 => c != 10) (l := 47 :: 47 :: r)
    exact ⟨g2 ++ g, by rw [← e2, e]; simp⟩
  | block h _ ih =>
    rename_i r r' l' _
    obtain ⟨g, e⟩ := ih
    have hs : ∃ g2, r = g2 ++ r' := skip_suffix _ _ _ h
    obtain ⟨g2, e2⟩ := hs
    exact ⟨47 :: 42 :: (g2 ++ g), by rw [e2, e]; simp⟩
where
  skip_suffix : ∀ (l : List UInt8) (d : Nat) (r : List UInt8), skipC d l = some r → ∃ g, l = g ++ r
  | [], _, _, h => by simp [skipC] at h
  | [_], _, _, h => by simp [skipC] at h
  | a :: b :: t, d, r, h => by
    rw [skipC] at h
    split at h
    · obtain ⟨g, e⟩ := skip_suffix t _ _ h; exact ⟨a :: b :: g, by rw [e]; rfl⟩
    · split at h
      · split at h
        · cases h; exact ⟨[a, b], rfl⟩
        · obtain ⟨g, e⟩ := skip_suffix t _ _ h; exact ⟨a :: b :: g, by rw [e]; rfl⟩
      · obtain ⟨g, e⟩ := skip_suffix (b :: t) _ _ h; exact ⟨a :: g, by rw [e]; rfl⟩
/-- the first token of a text, what is ahead of it and behind it -/
theorem scan_split (n : Nat) : ∀ (k : Nat) (l : List UInt8) (ts : List Tok), l.length ≤ k → scanL n l = .ok ts →
    (ts = [] ∧ Gap l []) ∨ ∃ t ts' x r, ts = t :: ts' ∧ Gap l x ∧ x ≠ [] ∧ x.head? ≠ some 10 ∧ oneL ((n - x.length : Nat) : Int) x = .tok t r ∧ r.length < x.length ∧ scanL n r = .ok ts'
  | _, [], ts, _, h => by rw [scanL] at h; cases h; exact .inl ⟨rfl, .refl _⟩
  | 0, _ :: _, _, hk, _ => by simp at hk
  | k + 1, c :: r, ts, hk, h => by
    rcases scan_cases n c r with ⟨l', h1, hg, h3⟩ | ⟨_, _, _, h3⟩ | ⟨hw, _, ⟨e, _, h3⟩ | ⟨t, r', ho, h2, h3⟩⟩
    · rw [h3] at h
      rcases scan_split n k l' ts (by simp only [List.length_cons] at h1 hk; omega) h with ⟨rfl, g⟩ | ⟨t, ts', x, r, e, g, rest⟩
      · exact .inl ⟨rfl, hg.trans g⟩
      · exact .inr ⟨t, ts', x, r, e, hg.trans g, rest⟩
    · rw [h3] at h; cases h
    · rw [h3] at h; cases h
    · rw [h3] at h
      obtain ⟨l', h4, rfl⟩ := cons_ok h
      refine .inr ⟨t, l', c :: r, r', rfl, .refl _, by simp, ?_, ho, h2, h4⟩
      intro e
      simp at e
      subst e
      exact absurd hw (by decide)
end Go.Proofs.YtdloadeidijcoaaGreatDoor
namespace Go.Proofs.YtdloadeidijcoaaGreatDoor

/-- how many bytes stand ahead of the closing quote -/
def endQ : List UInt8 → Nat
  | [] => 0
  | c :: r => if c = 34 then 0 else if c = 92 then 2 + endQ (r.drop 1) else 1 + endQ r
termination_by l => l.length
decreasing_by
  · simp; omega
  · simp
theorem hex_plain {c : UInt8} {n : Nat} (h : hexV c = some n) : c ≠ 34 ∧ c ≠ 92 := by
  constructor <;> (rintro rfl; revert h; decide +revert)
theorem end_quo : ∀ (n : Nat) (l s r : List UInt8), l.length ≤ n → quoL l = some (s, r) → endQ l + 1 + r.length = l.length ∧ l.drop (endQ l + 1) = r
  | _, [], _, _, _, h => by rw [quoL] at h; cases h
  | 0, _ :: _, _, _, hn, _ => by simp at hn
  | n + 1, c :: t, s, r, hn, h => by
    rw [quoL] at h
    rw [endQ]
    split at h
    · rename_i hc; cases h; rw [if_pos hc]; simp; omega
    · rename_i hc
      rw [if_neg hc]
      split at h
      · rename_i hb
        rw [if_pos hb]
        split at h
        · cases h
        · rename_i b r' he
          obtain ⟨⟨x1, x2⟩, hx, e⟩ := Option.map_eq_some_iff.1 h
          cases e
          have hl := escL_len he
          have ih := end_quo n r' _ _ (by simp at hn; omega) hx
          have key : endQ (t.drop 1) + 2 + r'.length = endQ r' + 1 + t.length ∧ (t.drop 1).drop (endQ (t.drop 1) + 1) = r'.drop (endQ r' + 1) := by
            unfold escL at he
            split at he
            · cases he
            · rename_i d q
              split at he
              · cases he; simp; omega
              · split at he
                · cases he; simp; omega
                · split at he
                  · cases he; simp; omega
                  · split at he
                    · split at he
                      · rename_i a b' r2
                        split at he
                        · rename_i x y hx1 hx2
                          cases he
                          obtain ⟨a1, a2⟩ := hex_plain hx1
                          obtain ⟨b1, b2⟩ := hex_plain hx2
                          simp only [List.drop_succ_cons, List.drop_zero]
                          rw [endQ, if_neg a1, if_neg a2, endQ, if_neg b1, if_neg b2]
                          simp only [List.length_cons]
                          refine ⟨by omega, ?_⟩
                          rw [show 1 + (1 + endQ r') = endQ r' + 1 + 1 by omega]
                          rfl
                        · cases he
                      · cases he
                    · cases he
          have hne : t ≠ [] := by intro e; subst e; simp at hl
          obtain ⟨d, q, rfl⟩ := List.exists_cons_of_ne_nil hne
          simp only [List.drop_succ_cons, List.drop_zero, List.length_cons] at key ⊢
          refine ⟨by omega, ?_⟩
          rw [show 2 + endQ q = endQ q + 1 + 1 by omega, List.drop_succ_cons, key.2]
          exact ih.2
      · rename_i hb
        rw [if_neg hb]
        split at h
        · cases h
        · obtain ⟨⟨x1, x2⟩, hx, e⟩ := Option.map_eq_some_iff.1 h
          cases e
          have ih := end_quo n t _ _ (by simp at hn; omega) hx
          simp only [List.length_cons]
          refine ⟨by omega, ?_⟩
          rw [show 1 + endQ t + 1 = (endQ t + 1) + 1 by omega, List.drop_succ_cons]
          exact ih.2
/-- line and column behind some bytes -/
def plStep (p : Nat × Nat) (c : UInt8) : Nat × Nat := if c = 10 then (p.1 + 1, 1) else (p.1, p.2 + 1)
def plL (l : List UInt8) : Nat × Nat := l.foldl plStep (1, 1)
def lexLt (a b : Nat × Nat) : Prop := a.1 < b.1 ∨ (a.1 = b.1 ∧ a.2 < b.2)
theorem lex_trans {a b c : Nat × Nat} (h : lexLt a b) (g : lexLt b c) : lexLt a c := by unfold lexLt at *; omega
theorem pl_step (p : Nat × Nat) (c : UInt8) : lexLt p (plStep p c) := by
  unfold lexLt plStep; split
  · left; exact Nat.lt_succ_self _
  · right; exact ⟨rfl, Nat.lt_succ_self _⟩
theorem pl_fold : ∀ (l : List UInt8) (p : Nat × Nat), l ≠ [] → lexLt p (l.foldl plStep p)
  | [], _, h => absurd rfl h
  | [c], p, _ => pl_step p c
  | c :: d :: l, p, _ => lex_trans (pl_step p c) (pl_fold (d :: l) _ (by simp))
theorem pl_asc (l : List UInt8) (i j : Nat) (h : i < j) (hj : j ≤ l.length) : lexLt (plL (l.take i)) (plL (l.take j)) := by
  unfold plL
  have e : l.take j = l.take i ++ (l.take j).drop i := (List.take_append_drop i (l.take j)).symm.trans (by rw [List.take_take, Nat.min_eq_left (by omega)])
  rw [e, List.foldl_append]
  exact pl_fold _ _ (by intro e; have := congrArg List.length e; simp at this; omega)
theorem pl_pos (l : List UInt8) : 1 ≤ (plL l).1 ∧ 1 ≤ (plL l).2 := by
  unfold plL
  suffices h : ∀ (l : List UInt8) (p : Nat × Nat), 1 ≤ p.1 → 1 ≤ p.2 → 1 ≤ (l.foldl plStep p).1 ∧ 1 ≤ (l.foldl plStep p).2 from h l _ (by simp) (by simp)
  intro l
  induction l with
  | nil => intro p h1 h2; exact ⟨h1, h2⟩
  | cons c l ih =>
    intro p h1 h2
    rw [List.foldl_cons]
    apply ih <;> (unfold plStep; split) <;> simp <;> omega
end Go.Proofs.YtdloadeidijcoaaGreatDoor
namespace Go.Proofs.YtdloadeidijcoaaGreatDoor

theorem esc_len (c : UInt8) : (escB c).length ≤ 4 := by
  unfold escB
  split
  · simp
  · split
    · simp
    · split
      · simp
      · split <;> simp
theorem flat_len4 : ∀ (s : List UInt8), (s.flatMap escB).length ≤ 4 * s.length
  | [] => by simp
  | c :: s => by
    rw [List.flatMap_cons, List.length_append, List.length_cons]
    have := esc_len c; have := flat_len4 s; omega
theorem write_len (t : Tok) : (writeL t).length ≤ 4 * t.text.length + 2 := by
  unfold writeL
  split
  · have := flat_len4 t.text; rw [List.length_cons, List.length_append, List.length_singleton]; omega
  · omega
theorem quo_len : ∀ (n : Nat) (l s r : List UInt8), l.length ≤ n → quoL l = some (s, r) → s.length + 1 + r.length ≤ l.length
  | _, [], _, _, _, h => by rw [quoL] at h; cases h
  | 0, _ :: _, _, _, hn, _ => by simp at hn
  | n + 1, c :: t, s, r, hn, h => by
    rw [quoL] at h
    split at h
    · cases h; simp; omega
    · split at h
      · split at h
        · cases h
        · rename_i b r' he
          obtain ⟨⟨x1, x2⟩, hx, e⟩ := Option.map_eq_some_iff.1 h
          cases e
          have hl := escL_len he
          have ih := quo_len n r' _ _ (by simp at hn; omega) hx
          simp; omega
      · split at h
        · cases h
        · obtain ⟨⟨x1, x2⟩, hx, e⟩ := Option.map_eq_some_iff.1 h
          cases e
          have ih := quo_len n t _ _ (by simp at hn; omega) hx
          simp; omega
theorem one_len {i : Int} {l r : List UInt8} {t : Tok} (h : oneL i l = .tok t r) (hi : 0 ≤ i) : (writeL t).length + 4 * r.length ≤ 4 * l.length ∧ t.text.length ≤ l.length := by
  obtain ⟨h1, h2, h3⟩ := one_right h hi
  by_cases hk : t.kind = 4
  · obtain ⟨c, q, e⟩ : ∃ c q, l = c :: q := by
      cases l with
      | nil => unfold oneL at h; cases h
      | cons c q => exact ⟨c, q, rfl⟩
    subst e
    have hq : quoL q = some (t.text, r) := by
      unfold oneL at h
      simp only [] at h
      split at h
      · split at h
        · cases h
        · split at h <;> (cases h; simp at hk)
      · split at h
        · split at h
          · cases h
          · cases h; simp at hk
        · split at h
          · split at h
            · cases h
            · rename_i s r' hq; cases h; exact hq
          · split at h
            · cases h; simp at hk
            · cases h
    have := quo_len _ _ _ _ (Nat.le_refl _) hq
    have := write_len t
    simp; omega
  · have e := h3 hk
    have hw : writeL t = t.text := by simp [writeL, hk]
    rw [hw, e]; simp; omega
def sumW : List Tok → Nat
  | [] => 0
  | t :: l => (writeL t).length + sumW l
theorem scan_sum (n : Nat) : ∀ (k : Nat) (l : List UInt8) (ts : List Tok), l.length ≤ k → scanL n l = .ok ts → sumW ts ≤ 4 * l.length ∧ ts.length ≤ l.length
  | _, [], ts, _, h => by rw [scanL] at h; cases h; simp [sumW]
  | 0, _ :: _, _, hk, _ => by simp at hk
  | k + 1, c :: r, ts, hk, h => by
    rcases scan_cases n c r with ⟨l', h1, _, h3⟩ | ⟨_, _, _, h3⟩ | ⟨_, _, ⟨e, _, h3⟩ | ⟨t, r', ho, h2, h3⟩⟩
    · rw [h3] at h
      have := scan_sum n k l' ts (by simp only [List.length_cons] at h1 hk; omega) h
      omega
    · rw [h3] at h; cases h
    · rw [h3] at h; cases h
    · rw [h3] at h
      obtain ⟨l', h4, rfl⟩ := cons_ok h
      have h5 := one_len ho (by omega)
      have := scan_sum n k r' l' (by simp only [List.length_cons] at h2 hk; omega) h4
      simp only [sumW, List.length_cons] at *
      omega
theorem join_len : ∀ (l : List Tok), (joinL l).length ≤ sumW l + l.length
  | [] => by simp [joinL, sumW]
  | [a] => by simp [joinL, sumW]
  | a :: b :: r => by
    have := join_len (b :: r)
    rw [joinL, sumW, List.length_append, List.length_append]
    simp only [List.length_cons] at *
    split <;> simp only [List.length_cons, List.length_nil] <;> omega
/-- what was scanned is joined to a text of the same tokens -/
theorem scan_back {n : Nat} {l : List UInt8} {ts : List Tok} (h : scanL n l = .ok ts) (hn : l.length ≤ n) : (joinL ts).length ≤ 5 * l.length ∧ ∀ m, ∃ ts', scanL m (joinL ts) = .ok ts' ∧ ts'.map (·.put 0) = ts.map (·.put 0) := by
  have h1 := scan_sum n l.length l ts (Nat.le_refl _) h
  have h2 := join_len ts
  exact ⟨by omega, scan_join ts (fun t ht => (scan_at n l.length l ts (Nat.le_refl _) hn h t ht).2.2)⟩
end Go.Proofs.YtdloadeidijcoaaGreatDoor
