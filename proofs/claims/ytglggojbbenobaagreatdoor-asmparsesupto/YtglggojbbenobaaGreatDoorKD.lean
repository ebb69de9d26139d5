/- A verified evaluator of loaded functions, part KD: what it computes, the machine does. Plain texts joined. -/
import Derived.Lib.Join
import Derived.Lib.Fields
import Derived.Lib.Split
import Derived.Lib.SplitLaws
import Derived.Lib.Bytealg
import Derived.Lib.ItoaNum
import Derived.Lib.AtoiAll
import Derived.Lib.AtoiAllCases
import Derived.ProofKit
set_option linter.all false

/- Scripts, plainly: the lexer's names, the shapes of commands, the text form and its reading. No program in sight. -/
section
namespace Go.Proofs
structure ShRow where
  word : List UInt8
  kind : Int
  name : Bool
  nums : Int
  text : Bool
end Go.Proofs

namespace Go.Ev.S
open Go.Proofs

/-! ## The lexer's names -/
def isLetter (c : Int) : Bool := decide (97 ≤ c ∧ c ≤ 122)
def isDigit (c : Int) : Bool := decide (48 ≤ c ∧ c ≤ 57)
def isSpace (c : Int) : Bool := decide (c = 32 ∨ c = 9 ∨ c = 13 ∨ c = 10)
def spanLen (p : UInt8 → Bool) (s : List UInt8) : Nat := (s.takeWhile p).length
def wordByte (b : UInt8) : Bool := isLetter b.toNat || isDigit b.toNat
def kwWords : List (List UInt8) := Lib.fields [105, 110, 116, 32, 97, 114, 114, 97, 121, 32, 115, 116, 97, 99, 107, 32, 112, 114, 111, 99, 32, 109, 97, 105, 110, 32, 112, 117, 115, 104, 32, 112, 111, 112, 32, 114, 101, 97, 100, 32, 117, 110, 114, 101, 97, 100, 32, 119, 114, 105, 116, 101, 32, 117, 110, 119, 114, 105, 116, 101, 32, 99, 97, 108, 108, 32, 117, 110, 99, 97, 108, 108, 32, 105, 102, 32, 101, 108, 115, 101, 32, 102, 105, 32, 102, 114, 111, 109, 32, 108, 111, 111, 112, 32, 117, 110, 116, 105, 108, 32, 108, 111, 99, 97, 108, 32, 100, 101, 108, 111, 99, 97, 108, 32, 116, 111, 112, 32, 115, 105, 122, 101]
/-- lexer.Name. -/
def isName (s : List UInt8) : Bool := match s with
  | [] => false
  | b :: l => decide ((b :: l).length ≤ 16) && !kwWords.contains (b :: l) && isLetter b.toNat && (b :: l).all wordByte

/-! ## Shapes -/
def shapeRows : List ShRow := [⟨[108, 111, 97, 100], 1, false, 0, true⟩, ⟨[105, 110, 112, 117, 116], 2, false, -1, false⟩, ⟨[114, 117, 110], 3, false, 1, false⟩, ⟨[98, 97, 99, 107], 4, false, 1, false⟩, ⟨[99, 104, 101, 99, 107], 5, false, 0, false⟩, ⟨[105, 110, 118, 101, 114, 116], 6, false, 0, false⟩, ⟨[99, 111, 109, 112, 105, 108, 101], 7, false, 0, false⟩, ⟨[115, 116, 101, 112], 8, false, 1, false⟩, ⟨[115, 104, 111, 119], 9, false, 0, false⟩, ⟨[102, 117, 110, 99, 116, 105, 111, 110, 115], 10, false, 0, true⟩, ⟨[101, 118, 97, 108, 117, 97, 116, 101], 11, true, -1, false⟩, ⟨[115, 117, 98, 109, 105, 116], 12, true, 4, true⟩, ⟨[117, 110, 100, 111], 13, false, 0, false⟩, ⟨[112, 111, 105, 110, 116, 115], 14, true, 0, false⟩]
def shapeOf (k : Int) : Option ShRow := shapeRows.find? fun r => r.kind == k
def shapeBy (w : List UInt8) : Option ShRow := shapeRows.find? fun r => r.word == w

structure Cmd where
  kind : Int
  name : List UInt8
  text : List UInt8
  nums : List Int
  deriving DecidableEq

/-- A command as a Go value: a byte, ints. -/
def Cmd.fits (c : Cmd) : Prop := 0 ≤ c.kind ∧ c.kind ≤ 255 ∧ ∀ n ∈ c.nums, -9223372036854775808 ≤ n ∧ n ≤ 9223372036854775807

def validC (c : Cmd) : Bool :=
  match shapeOf c.kind with
  | none => false
  | some s => (if s.name then isName c.name else decide (c.name = [])) && decide (c.nums.length ≤ 4096) && (decide (s.nums = -1) || decide ((c.nums.length : Int) = s.nums)) &&
      (s.text || decide (c.text = [])) && decide (c.text.length ≤ 65536) && (decide (c.text = []) || Lib.hasSuffix c.text [10])

def validL (l : List Cmd) : Bool := l.all validC && decide (l.length ≤ 1000)

def wordsOf (c : Cmd) (s : ShRow) : List (List UInt8) :=
  [s.word] ++ (if s.name then [c.name] else []) ++ c.nums.map Lib.itoa ++ (if s.text then [Lib.itoa (Lib.countByte c.text 10)] else [])

def fmt1 (c : Cmd) : List UInt8 :=
  match shapeOf c.kind with
  | none => []
  | some s => Lib.join (wordsOf c s) [32] ++ [10] ++ c.text

def fmt (l : List Cmd) : List UInt8 := (l.map fmt1).flatten

/-! ## Reading -/
def canon (w : List UInt8) : Option Int :=
  match Lib.atoiAll w with
  | .ok v => if Lib.itoa v = w then some v else none
  | _ => none

def canons : List (List UInt8) → Option (List Int)
  | [] => some []
  | w :: l => match canon w with
    | none => none
    | some n => match canons l with
      | none => none
      | some r => some (n :: r)

def headName : List (List UInt8) → Bool
  | [] => false
  | w :: _ => isName w
def lastOk (nums : List Int) : Bool := decide (nums ≠ []) && decide (0 ≤ nums.getLast?.getD 0)

/-- The first line of a command: the command without its text, the number of the text's lines. -/
def firstM (line : List UInt8) : Option (Cmd × Nat) :=
  let words := Lib.split line [32]
  match shapeBy (words.headD []) with
  | none => none
  | some s =>
    let ws := words.drop 1
    if s.name && !headName ws then none else
    let name := if s.name then ws.headD [] else []
    match canons (if s.name then ws.drop 1 else ws) with
    | none => none
    | some nums =>
      if s.text && !lastOk nums then none else
      let lines := if s.text then (nums.getLast?.getD 0).toNat else 0
      let nums := if s.text then nums.dropLast else nums
      if s.nums = -1 ∨ (nums.length : Int) = s.nums then some (⟨s.kind, name, [], nums⟩, lines) else none

/-- The first n lines, and the rest. -/
def cutM : Nat → List UInt8 → Option (List UInt8 × List UInt8)
  | 0, s => some ([], s)
  | n + 1, s => if Lib.indexByte s 10 < 0 then none else
    match cutM n (s.drop ((Lib.indexByte s 10).toNat + 1)) with
    | none => none
    | some (a, r) => some (s.take ((Lib.indexByte s 10).toNat + 1) ++ a, r)

/-- One command from the front of a text: or the error's number. -/
def oneM (s : List UInt8) (before : Nat) : Except Int (Cmd × List UInt8 × Nat) :=
  if 1000 ≤ before then .error 5 else
  if (Lib.cut s [10]).2.2 then
    match firstM (Lib.cut s [10]).1 with
    | none => .error 3
    | some (c, n) => match cutM n (Lib.cut s [10]).2.1 with
      | none => .error 4
      | some (t, r) => if validC { c with text := t } then .ok ({ c with text := t }, r, n + 1) else .error 3
  else .error 4

def parseGo : Nat → List UInt8 → List Cmd → Nat → List Cmd × Nat × Int
  | 0, _, out, _ => (out, 0, 0)
  | f + 1, s, out, line => if s = [] then (out, 0, 0) else
    match oneM s out.length with
    | .error e => ([], line, e)
    | .ok (c, r, n) => parseGo f r (out ++ [c]) (line + n)
def parseM (s : List UInt8) : List Cmd × Nat × Int := parseGo (s.length + 1) s [] 1

end Go.Ev.S
end

/- Scripts, plainly: a script's text is read as that script; what is read is valid and has that text. -/
section
set_option linter.unusedVariables false
namespace Go.Ev.S
open Go.Proofs

/-! ## Where a byte is first -/
theorem index_at {w t : List UInt8} {c : UInt8} (h : c ∉ w) : Lib.index (w ++ c :: t) [c] = w.length := by
  induction w with
  | nil => simp [Lib.index]
  | cons b w ih =>
    simp only [List.mem_cons, not_or] at h
    have hp : ([c] : List UInt8).isPrefixOf (b :: (w ++ c :: t)) = false := by simp [List.isPrefixOf, h.1]
    rw [List.cons_append, Lib.index, hp, ih h.2]
    have : ¬ ((w.length : Int) = -1) := by omega
    simp [this]
theorem index_none {w : List UInt8} {c : UInt8} (h : c ∉ w) : Lib.index w [c] = -1 := by
  induction w with
  | nil => simp [Lib.index]
  | cons b w ih =>
    simp only [List.mem_cons, not_or] at h
    have hp : ([c] : List UInt8).isPrefixOf (b :: w) = false := by simp [List.isPrefixOf, h.1]
    rw [Lib.index, hp, ih h.2]
    simp
theorem index_cases (s : List UInt8) (c : UInt8) : (c ∉ s ∧ Lib.index s [c] = -1) ∨ ∃ w t, s = w ++ c :: t ∧ c ∉ w ∧ Lib.index s [c] = w.length := by
  by_cases h : c ∈ s
  · right
    induction s with
    | nil => simp at h
    | cons b s ih =>
      by_cases hb : c = b
      · subst hb
        exact ⟨[], s, rfl, by simp, by simpa using index_at (w := []) (t := s) (c := c) (by simp)⟩
      · have hs : c ∈ s := by simpa [hb] using h
        obtain ⟨w, t, e, h1, h2⟩ := ih hs
        have hn : c ∉ b :: w := by simp [hb, h1]
        refine ⟨b :: w, t, by rw [e]; rfl, hn, ?_⟩
        rw [e, ← List.cons_append]
        exact index_at hn
  · exact .inl ⟨h, index_none h⟩

theorem indexByte_at {w t : List UInt8} {c : UInt8} (h : c ∉ w) : Lib.indexByte (w ++ c :: t) c = w.length := by
  induction w with
  | nil => simp [Lib.indexByte]
  | cons b w ih =>
    simp only [List.mem_cons, not_or] at h
    have hb : (b == c) = false := by rw [Bool.eq_false_iff]; intro e; exact h.1 (beq_iff_eq.1 e).symm
    rw [List.cons_append, Lib.indexByte, hb, ih h.2]
    have : ¬ ((w.length : Int) = -1) := by omega
    simp [this]
theorem indexByte_none {w : List UInt8} {c : UInt8} (h : c ∉ w) : Lib.indexByte w c = -1 := by
  induction w with
  | nil => rfl
  | cons b w ih =>
    simp only [List.mem_cons, not_or] at h
    have hb : (b == c) = false := by rw [Bool.eq_false_iff]; intro e; exact h.1 (beq_iff_eq.1 e).symm
    rw [Lib.indexByte, hb, ih h.2]
    simp
theorem indexByte_cases (s : List UInt8) (c : UInt8) : (c ∉ s ∧ Lib.indexByte s c = -1) ∨ ∃ w t, s = w ++ c :: t ∧ c ∉ w ∧ Lib.indexByte s c = w.length := by
  rcases index_cases s c with ⟨h, _⟩ | ⟨w, t, e, h, _⟩
  · exact .inl ⟨h, indexByte_none h⟩
  · exact .inr ⟨w, t, e, h, by rw [e]; exact indexByte_at h⟩

theorem cut_at {w t : List UInt8} {c : UInt8} (h : c ∉ w) : Lib.cut (w ++ c :: t) [c] = (w, t, true) := by
  unfold Lib.cut
  rw [index_at h, if_pos (by omega)]
  simp
theorem cut_none {w : List UInt8} {c : UInt8} (h : c ∉ w) : Lib.cut w [c] = (w, [], false) := by
  unfold Lib.cut
  rw [index_none h, if_neg (by omega)]

/-! ## Splitting and joining -/
theorem count_at {w t : List UInt8} {c : UInt8} (h : c ∉ w) : Lib.count (w ++ c :: t) [c] = Lib.count t [c] + 1 := by
  rw [Lib.count_one, Lib.count_one, List.count_append, List.count_cons_self, List.count_eq_zero_of_not_mem h, Nat.zero_add]
theorem split_at {w t : List UInt8} {c : UInt8} (h : c ∉ w) : Lib.split (w ++ c :: t) [c] = w :: Lib.split t [c] := by
  unfold Lib.split
  rw [count_at h, Lib.splitK, index_at h, if_neg (by simp)]
  simp
theorem split_none {w : List UInt8} {c : UInt8} (h : c ∉ w) : Lib.split w [c] = [w] := by
  unfold Lib.split
  rw [Lib.count_one, List.count_eq_zero_of_not_mem h, Lib.splitK]

theorem join_cons (w : List UInt8) (v : List UInt8) (ws : List (List UInt8)) (c : UInt8) : Lib.join (w :: v :: ws) [c] = w ++ c :: Lib.join (v :: ws) [c] := by
  simp [Lib.join, List.intercalate, List.intersperse]
theorem join_one (w : List UInt8) (c : UInt8) : Lib.join [w] [c] = w := by simp [Lib.join, List.intercalate]

theorem split_join (c : UInt8) : ∀ (ws : List (List UInt8)), ws ≠ [] → (∀ w ∈ ws, c ∉ w) → Lib.split (Lib.join ws [c]) [c] = ws
  | [], h, _ => absurd rfl h
  | [w], _, h => by rw [join_one]; exact split_none (h w (by simp))
  | w :: v :: ws, _, h => by
    rw [join_cons, split_at (h w (by simp)), split_join c (v :: ws) (by simp) (fun x hx => h x (by simp at hx ⊢; right; exact hx))]

theorem join_split (c : UInt8) : ∀ (n : Nat) (s : List UInt8), s.length ≤ n → Lib.join (Lib.split s [c]) [c] = s
  | n, s, hn => by
    rcases index_cases s c with ⟨h, _⟩ | ⟨w, t, e, h, _⟩
    · rw [split_none h, join_one]
    · subst e
      cases n with
      | zero => simp at hn
      | succ n =>
        rw [split_at h]
        have ih := join_split c n t (by simp at hn; omega)
        cases hs : Lib.split t [c] with
        | nil => rw [hs] at ih; exfalso; revert hs; unfold Lib.split; cases Lib.count t [c] <;> unfold Lib.splitK <;> (try split) <;> simp
        | cons v ws => rw [join_cons, ← hs, ih]

/-! ## Numerals -/
theorem parseUint_app : ∀ (l : List UInt8) (acc u : Nat) (d : Nat), d < 10 → Lib.parseUint10 acc l = .ok u → 10 * u + d < 18446744073709551616 → Lib.parseUint10 acc (l ++ [UInt8.ofNat (48 + d)]) = .ok (10 * u + d)
  | [], acc, u, d, hd, h, hb => by
    simp only [Lib.parseUint10, Lib.NumEnd.ok.injEq] at h
    subst h
    have e : (UInt8.ofNat (48 + d)).toNat = 48 + d := by rw [UInt8.toNat_ofNat']; omega
    simp only [List.nil_append, Lib.parseUint10, e]
    rw [if_pos (by omega), if_neg (by omega), if_neg (by omega)]
    congr 1; omega
  | c :: l, acc, u, d, hd, h, hb => by
    simp only [List.cons_append, Lib.parseUint10] at h ⊢
    split at h
    · rename_i hc
      rw [if_pos hc]
      split at h
      · cases h
      · rename_i h1
        rw [if_neg h1]
        split at h
        · cases h
        · rename_i h2
          rw [if_neg h2]
          exact parseUint_app l _ u d hd h hb
    · cases h

theorem parseUint_dec : ∀ (n u : Nat), u ≤ n → u < 18446744073709551616 → Lib.parseUint10 0 (Lib.decDigits u) = .ok u
  | n, u, hn, hu => by
    rw [Lib.decDigits]
    by_cases h : u < 10
    · rw [dif_pos h]
      have := parseUint_app [] 0 0 u h rfl (by omega)
      simpa using this
    · rw [dif_neg h]
      cases n with
      | zero => omega
      | succ n =>
        have := parseUint_app _ 0 (u / 10) (u % 10) (by omega) (parseUint_dec n (u / 10) (by omega) (by omega)) (by omega)
        rw [this]
        congr 1; omega

theorem dec_digit : ∀ (n u : Nat), u ≤ n → ∀ b ∈ Lib.decDigits u, 48 ≤ b.toNat ∧ b.toNat ≤ 57
  | n, u, hn, b, hb => by
    rw [Lib.decDigits] at hb
    by_cases h : u < 10
    · rw [dif_pos h] at hb
      rw [List.mem_singleton] at hb
      subst hb
      rw [UInt8.toNat_ofNat']; omega
    · rw [dif_neg h] at hb
      rcases List.mem_append.1 hb with hb | hb
      · cases n with
        | zero => omega
        | succ n => exact dec_digit n (u / 10) (by omega) b hb
      · rw [List.mem_singleton] at hb
        subst hb
        rw [UInt8.toNat_ofNat']; omega

theorem dec_ne (u : Nat) : Lib.decDigits u ≠ [] := by rw [Lib.decDigits]; split <;> simp

theorem parseMag_dec {u : Nat} (hu : u < 18446744073709551616) : Lib.parseMag (Lib.decDigits u) = .ok u := by
  unfold Lib.parseMag
  rw [if_neg (dec_ne u)]
  exact parseUint_dec u u (Nat.le_refl u) hu

theorem atoi_itoa {n : Int} (h1 : -9223372036854775808 ≤ n) (h2 : n ≤ 9223372036854775807) : Lib.atoiAll (Lib.itoa n) = .ok n := by
  unfold Lib.itoa
  by_cases hn : n < 0
  · rw [if_pos hn]
    unfold Lib.atoiAll
    have e1 : (45 : UInt8).toNat = 45 := rfl
    simp only [e1, or_true, if_true, parseMag_dec (u := n.natAbs) (by omega)]
    rw [if_neg (by simp), if_neg (by simp; omega)]
    simp
    omega
  · rw [if_neg hn]
    have hne := dec_ne n.toNat
    have hd := dec_digit _ n.toNat (Nat.le_refl _)
    have hp := parseMag_dec (u := n.toNat) (by omega)
    cases hl : Lib.decDigits n.toNat with
    | nil => exact absurd hl hne
    | cons c r =>
      rw [hl] at hd hp
      have hc := hd c (by simp)
      unfold Lib.atoiAll
      have e1 : ¬ c.toNat = 43 := by omega
      have e2 : ¬ c.toNat = 45 := by omega
      simp only [e1, e2, or_self, if_false, hp]
      rw [if_neg (by simp; omega), if_neg (by simp)]
      simp
      omega

theorem canon_itoa {n : Int} (h1 : -9223372036854775808 ≤ n) (h2 : n ≤ 9223372036854775807) : canon (Lib.itoa n) = some n := by
  unfold canon
  rw [atoi_itoa h1 h2]
  simp
theorem canon_inv {w : List UInt8} {n : Int} (h : canon w = some n) : Lib.itoa n = w := by
  unfold canon at h
  split at h
  · split at h
    · simp only [Option.some.injEq] at h; subst h; assumption
    · cases h
  · cases h
theorem canons_itoa : ∀ (ns : List Int), (∀ n ∈ ns, -9223372036854775808 ≤ n ∧ n ≤ 9223372036854775807) → canons (ns.map Lib.itoa) = some ns
  | [], _ => rfl
  | n :: ns, h => by
    simp only [List.map_cons, canons, canon_itoa (h n (by simp)).1 (h n (by simp)).2, canons_itoa ns (fun x hx => h x (by simp [hx]))]
theorem canons_inv : ∀ {ws : List (List UInt8)} {ns : List Int}, canons ws = some ns → ns.map Lib.itoa = ws
  | [], ns, h => by simp [canons] at h; subst h; rfl
  | w :: ws, ns, h => by
    simp only [canons] at h
    cases hc : canon w with
    | none => simp [hc] at h
    | some n =>
      simp only [hc] at h
      cases hq : canons ws with
      | none => simp [hq] at h
      | some r => simp only [hq, Option.some.injEq] at h; subst h; rw [List.map_cons, canon_inv hc, canons_inv hq]

theorem canon_bounds {w : List UInt8} {v : Int} (h : canon w = some v) : -9223372036854775808 ≤ v ∧ v ≤ 9223372036854775807 := by
  unfold canon at h
  split at h
  · rename_i u hu
    split at h
    · simp only [Option.some.injEq] at h; subst h; exact Lib.atoiAll_bounds hu
    · cases h
  · cases h
theorem canons_bounds : ∀ {L : List (List UInt8)} {ns : List Int}, canons L = some ns → ∀ n ∈ ns, -9223372036854775808 ≤ n ∧ n ≤ 9223372036854775807
  | [], ns, h, n, hn => by simp [canons] at h; subst h; simp at hn
  | w :: L, ns, h, n, hn => by
    simp only [canons] at h
    cases hc : canon w with
    | none => simp [hc] at h
    | some v =>
      simp only [hc] at h
      cases hq : canons L with
      | none => simp [hq] at h
      | some r =>
        simp only [hq, Option.some.injEq] at h; subst h
        rcases List.mem_cons.1 hn with rfl | hn
        · exact canon_bounds hc
        · exact canons_bounds hq n hn

theorem itoa_clean (n : Int) : ∀ b ∈ Lib.itoa n, b ≠ 32 ∧ b ≠ 10 := by
  intro b hb
  unfold Lib.itoa at hb
  have key : ∀ u, b ∈ Lib.decDigits u → b ≠ 32 ∧ b ≠ 10 := fun u hu => by
    have := dec_digit u u (Nat.le_refl u) b hu
    constructor <;> (intro e; subst e; revert this; decide)
  split at hb
  · rcases List.mem_cons.1 hb with rfl | hb
    · decide
    · exact key _ hb
  · exact key _ hb

theorem name_clean {s : List UInt8} (h : isName s = true) : ∀ b ∈ s, b ≠ 32 ∧ b ≠ 10 := by
  intro b hb
  cases s with
  | nil => simp at hb
  | cons a l =>
    simp only [isName, Bool.and_eq_true, List.all_eq_true] at h
    have := h.2 b hb
    simp only [wordByte, isLetter, isDigit, Bool.or_eq_true, decide_eq_true_eq] at this
    constructor <;> (intro e; subst e; revert this; decide)

/-! ## Shapes -/
theorem shape_word_clean : ∀ r ∈ shapeRows, ∀ b ∈ r.word, b ≠ 32 ∧ b ≠ 10 := by
  have : (shapeRows.all fun r => r.word.all fun b => b != 32 && b != 10) = true := by decide
  intro r hr b hb
  have := List.all_eq_true.1 (List.all_eq_true.1 this r hr) b hb
  simpa using this
theorem shape_by : ∀ r ∈ shapeRows, shapeBy r.word = some r := by
  intro r hr
  simp only [shapeRows, List.mem_cons, List.not_mem_nil, or_false] at hr
  rcases hr with rfl | rfl | rfl | rfl | rfl | rfl | rfl | rfl | rfl | rfl | rfl | rfl | rfl | rfl <;> rfl
theorem shape_of : ∀ r ∈ shapeRows, shapeOf r.kind = some r := by
  intro r hr
  simp only [shapeRows, List.mem_cons, List.not_mem_nil, or_false] at hr
  rcases hr with rfl | rfl | rfl | rfl | rfl | rfl | rfl | rfl | rfl | rfl | rfl | rfl | rfl | rfl <;> rfl
theorem shapeOf_mem {k : Int} {r : ShRow} (h : shapeOf k = some r) : r ∈ shapeRows ∧ r.kind = k :=
  ⟨List.mem_of_find?_eq_some h, by have := List.find?_some h; simpa using this⟩
theorem shapeBy_mem {w : List UInt8} {r : ShRow} (h : shapeBy w = some r) : r ∈ shapeRows ∧ r.word = w :=
  ⟨List.mem_of_find?_eq_some h, by have := List.find?_some h; simpa using this⟩


/-! ## One command -/
theorem mem_join : ∀ (ws : List (List UInt8)) (c b : UInt8), b ∈ Lib.join ws [c] → b = c ∨ ∃ w ∈ ws, b ∈ w
  | [], c, b, h => by simp [Lib.join, List.intercalate] at h
  | [w], c, b, h => by rw [join_one] at h; exact .inr ⟨w, by simp, h⟩
  | w :: v :: ws, c, b, h => by
    rw [join_cons] at h
    rcases List.mem_append.1 h with h | h
    · exact .inr ⟨w, by simp, h⟩
    · rcases List.mem_cons.1 h with h | h
      · exact .inl h
      · rcases mem_join (v :: ws) c b h with h | ⟨x, hx, h⟩
        · exact .inl h
        · exact .inr ⟨x, by simp at hx ⊢; right; exact hx, h⟩

/-- What a valid command is. -/
structure IsValid (c : Cmd) (r : ShRow) : Prop where
  mem : r ∈ shapeRows
  kind : r.kind = c.kind
  name : if r.name then isName c.name = true else c.name = []
  many : c.nums.length ≤ 4096
  nums : r.nums = -1 ∨ (c.nums.length : Int) = r.nums
  text : r.text = true ∨ c.text = []
  size : c.text.length ≤ 65536
  nl : c.text = [] ∨ Lib.hasSuffix c.text [10] = true

theorem validC_iff (c : Cmd) : validC c = true ↔ ∃ r, IsValid c r := by
  unfold validC
  constructor
  · intro h
    cases hs : shapeOf c.kind with
    | none => rw [hs] at h; cases h
    | some r =>
      rw [hs] at h
      simp only [Bool.and_eq_true, Bool.or_eq_true, decide_eq_true_eq] at h
      obtain ⟨⟨⟨⟨⟨h1, h2⟩, h3⟩, h4⟩, h5⟩, h6⟩ := h
      obtain ⟨m1, m2⟩ := shapeOf_mem hs
      refine ⟨r, m1, m2, ?_, h2, h3, h4, h5, h6⟩
      cases hn : r.name <;> simp [hn] at h1 ⊢ <;> exact h1
  · rintro ⟨r, m1, m2, h1, h2, h3, h4, h5, h6⟩
    rw [show shapeOf c.kind = some r by rw [← m2]; exact shape_of r m1]
    simp only [Bool.and_eq_true, Bool.or_eq_true, decide_eq_true_eq]
    refine ⟨⟨⟨⟨⟨?_, h2⟩, h3⟩, h4⟩, h5⟩, h6⟩
    cases hn : r.name <;> simp [hn] at h1 ⊢ <;> exact h1

theorem words_clean {c : Cmd} {r : ShRow} (h : IsValid c r) : ∀ w ∈ wordsOf c r, ∀ b ∈ w, b ≠ 32 ∧ b ≠ 10 := by
  intro w hw
  unfold wordsOf at hw
  simp only [List.mem_append, List.mem_singleton, List.mem_map] at hw
  rcases hw with ((rfl | hw) | ⟨n, _, rfl⟩) | hw
  · exact shape_word_clean r h.mem
  · have hn := h.name
    cases hr : r.name with
    | false => simp [hr] at hw
    | true =>
      simp [hr] at hw hn
      subst hw
      exact name_clean hn
  · exact itoa_clean n
  · cases hr : r.text with
    | false => simp [hr] at hw
    | true => simp [hr] at hw; subst hw; exact itoa_clean _

theorem line_clean {c : Cmd} {r : ShRow} (h : IsValid c r) : (10 : UInt8) ∉ Lib.join (wordsOf c r) [32] := by
  intro hb
  rcases mem_join _ _ _ hb with e | ⟨w, hw, hb⟩
  · revert e; decide
  · exact (words_clean h w hw 10 hb).2 rfl

theorem fmt1_eq {c : Cmd} {r : ShRow} (h : IsValid c r) : fmt1 c = Lib.join (wordsOf c r) [32] ++ 10 :: c.text := by
  unfold fmt1
  rw [show shapeOf c.kind = some r by rw [← h.kind]; exact shape_of r h.mem]
  simp

theorem firstM_fmt {c : Cmd} {r : ShRow} (h : IsValid c r) (hf : c.fits) : firstM (Lib.join (wordsOf c r) [32]) = some ({ c with text := [] }, Lib.countByte c.text 10) := by
  have hs : Lib.split (Lib.join (wordsOf c r) [32]) [32] = wordsOf c r := split_join 32 _ (by unfold wordsOf; simp) (fun w hw hb => (words_clean h w hw 32 hb).1 rfl)
  unfold firstM
  rw [hs]
  dsimp only
  have hhead : (wordsOf c r).headD [] = r.word := by unfold wordsOf; simp
  have htail : (wordsOf c r).drop 1 = (if r.name then [c.name] else []) ++ c.nums.map Lib.itoa ++ (if r.text then [Lib.itoa (Lib.countByte c.text 10)] else []) := by unfold wordsOf; simp
  rw [hhead, htail, shape_by r h.mem]
  have hcnt : -9223372036854775808 ≤ ((Lib.countByte c.text 10 : Nat) : Int) ∧ ((Lib.countByte c.text 10 : Nat) : Int) ≤ 9223372036854775807 := by
    have h1 : Lib.countByte c.text 10 ≤ c.text.length := List.count_le_length
    have := h.size
    omega
  have hn1 := h.name
  have hn2 := h.nums
  have ht := h.text
  have key : ∀ (b : Bool), canons (c.nums.map Lib.itoa ++ (if b then [Lib.itoa (Lib.countByte c.text 10)] else [])) = some (c.nums ++ if b then [(Lib.countByte c.text 10 : Int)] else []) := by
    intro b
    have : c.nums.map Lib.itoa ++ (if b then [Lib.itoa (Lib.countByte c.text 10)] else []) = (c.nums ++ if b then [(Lib.countByte c.text 10 : Int)] else []).map Lib.itoa := by cases b <;> simp
    rw [this]
    refine canons_itoa _ fun n hn => ?_
    rcases List.mem_append.1 hn with hn | hn
    · exact hf.2.2 n hn
    · cases b <;> simp at hn; subst hn; exact hcnt
  obtain ⟨rw_, rk, rn, rm, rt⟩ := r
  obtain ⟨k, name, text, nums⟩ := c
  have hk := h.kind
  simp only at *
  subst hk
  cases rn
  · simp at hn1
    subst hn1
    cases rt
    · have := key false
      simp at ht this
      subst ht
      simp [this, hn2, Lib.countByte]
    · have := key true
      simp at this
      simp [this, lastOk, hn2]
  · simp at hn1
    cases rt
    · have := key false
      simp at ht this
      subst ht
      simp [headName, hn1, this, hn2, Lib.countByte]
    · have := key true
      simp at this
      simp [headName, hn1, this, lastOk, hn2]

theorem take_nl (w u : List UInt8) : (w ++ 10 :: u).take (w.length + 1) = w ++ [10] := by
  rw [show w ++ 10 :: u = (w ++ [10]) ++ u by simp, List.take_left' (by simp)]

theorem suffix_iff (s : List UInt8) : Lib.hasSuffix s [10] = true ↔ ∃ p, s = p ++ [10] := by
  unfold Lib.hasSuffix
  rw [List.isSuffixOf_iff_suffix]
  exact ⟨fun ⟨p, h⟩ => ⟨p, h.symm⟩, fun ⟨p, h⟩ => ⟨p, h.symm⟩⟩

theorem cutM_text : ∀ (n : Nat) (t rest : List UInt8), t.length ≤ n → (t = [] ∨ Lib.hasSuffix t [10] = true) → cutM (Lib.countByte t 10) (t ++ rest) = some (t, rest)
  | n, t, rest, hn, h => by
    rcases h with rfl | h
    · simp [Lib.countByte, cutM]
    · obtain ⟨p, hp⟩ := (suffix_iff t).1 h
      rcases indexByte_cases t 10 with ⟨h1, _⟩ | ⟨w, u, e, h1, h2⟩
      · exact absurd (by rw [hp]; simp) h1
      · cases n with
        | zero => rw [e] at hn; simp at hn
        | succ n =>
          have hu : u = [] ∨ Lib.hasSuffix u [10] = true := by
            by_cases hu : u = []
            · exact .inl hu
            · right
              refine (suffix_iff u).2 ?_
              have e2 : w ++ 10 :: u = p ++ [10] := e.symm.trans hp
              obtain ⟨q, x, rfl⟩ : ∃ q x, u = q ++ [x] := by
                rcases List.eq_nil_or_concat u with h | ⟨q, x, h⟩
                · exact absurd h hu
                · exact ⟨q, x, by rw [h, List.concat_eq_append]⟩
              have e3 : (w ++ 10 :: q) ++ [x] = p ++ [10] := by rw [← e2]; simp
              have := (List.append_inj' e3 rfl).2
              simp at this
              subst this
              exact ⟨q, rfl⟩
          have hc : Lib.countByte t 10 = Lib.countByte u 10 + 1 := by
            rw [e]; unfold Lib.countByte
            rw [List.count_append, List.count_cons_self, List.count_eq_zero_of_not_mem h1, Nat.zero_add]
          rw [hc, cutM]
          have hi : Lib.indexByte (t ++ rest) 10 = w.length := by
            rw [e, List.append_assoc, List.cons_append]; exact indexByte_at h1
          rw [hi, if_neg (by omega)]
          have hd : (t ++ rest).drop ((w.length : Int).toNat + 1) = u ++ rest := by rw [e]; simp
          have htk : (t ++ rest).take ((w.length : Int).toNat + 1) = w ++ [10] := by rw [e, Int.toNat_natCast, List.append_assoc, List.cons_append]; exact take_nl w (u ++ rest)
          rw [hd, htk, cutM_text n u rest (by rw [e] at hn; simp at hn; omega) hu]
          simp [e]

theorem oneM_fmt {c : Cmd} (h : validC c = true) (hf : c.fits) (rest : List UInt8) {b : Nat} (hb : b < 1000) : oneM (fmt1 c ++ rest) b = .ok (c, rest, Lib.countByte c.text 10 + 1) := by
  obtain ⟨r, hr⟩ := (validC_iff c).1 h
  unfold oneM
  have hc : Lib.cut (fmt1 c ++ rest) [10] = (Lib.join (wordsOf c r) [32], c.text ++ rest, true) := by
    rw [fmt1_eq hr, List.append_assoc, List.cons_append]
    exact cut_at (line_clean hr)
  rw [if_neg (by omega), hc, if_pos rfl]
  simp only [firstM_fmt hr hf, cutM_text _ c.text rest (Nat.le_refl _) hr.nl]
  rw [if_pos h]

/-! ## The other way -/
theorem cutM_inv : ∀ (k : Nat) (t a r : List UInt8), cutM k t = some (a, r) → t = a ++ r ∧ Lib.countByte a 10 = k
  | 0, t, a, r, h => by simp [cutM] at h; obtain ⟨rfl, rfl⟩ := h; simp [Lib.countByte]
  | k + 1, t, a, r, h => by
    unfold cutM at h
    rcases indexByte_cases t 10 with ⟨_, h2⟩ | ⟨w, u, e, h1, h2⟩
    · rw [h2, if_pos (by omega)] at h; cases h
    · rw [h2, if_neg (by omega)] at h
      have hd : t.drop ((w.length : Int).toNat + 1) = u := by rw [e]; simp
      have htk : t.take ((w.length : Int).toNat + 1) = w ++ [10] := by rw [e, Int.toNat_natCast]; exact take_nl w u
      rw [hd, htk] at h
      cases hq : cutM k u with
      | none => simp [hq] at h
      | some q =>
        obtain ⟨a', r'⟩ := q
        simp only [hq, Option.some.injEq, Prod.mk.injEq] at h
        obtain ⟨rfl, rfl⟩ := h
        obtain ⟨e1, e2⟩ := cutM_inv k u a' r' hq
        refine ⟨by rw [e, e1]; simp, ?_⟩
        unfold Lib.countByte at e2 ⊢
        rw [List.count_append, List.count_append, List.count_eq_zero_of_not_mem h1, e2]
        simp; omega

theorem firstM_inv {line : List UInt8} {c : Cmd} {n : Nat} (h : firstM line = some (c, n)) : c.fits ∧ c.text = [] ∧ ∃ r ∈ shapeRows, r.kind = c.kind ∧ (r.text = false → n = 0) ∧
    line = Lib.join ([r.word] ++ (if r.name then [c.name] else []) ++ c.nums.map Lib.itoa ++ (if r.text then [Lib.itoa (n : Int)] else [])) [32] := by
  unfold firstM at h
  have hj := join_split 32 _ line (Nat.le_refl _)
  cases hw : Lib.split line [32] with
  | nil => rw [hw] at h; simp [shapeBy, shapeRows] at h
  | cons w ws =>
    rw [hw] at h hj
    simp only [List.headD_cons, List.drop_succ_cons, List.drop_zero] at h
    cases hs : shapeBy w with
    | none => simp [hs] at h
    | some r =>
      simp only [hs] at h
      obtain ⟨m1, m2⟩ := shapeBy_mem hs
      cases hc : (r.name && !headName ws) with
      | true => rw [hc] at h; cases h
      | false =>
        rw [hc, if_neg (by decide)] at h
        cases hq : canons (if r.name = true then List.drop 1 ws else ws) with
        | none => rw [hq] at h; cases h
        | some nums =>
          rw [hq] at h
          dsimp only at h
          cases hc2 : (r.text && !lastOk nums) with
          | true => rw [hc2] at h; cases h
          | false =>
            rw [hc2, if_neg (by decide)] at h
            by_cases hm : r.nums = -1 ∨ ((if r.text = true then nums.dropLast else nums).length : Int) = r.nums
            · rw [if_pos hm] at h
              simp only [Option.some.injEq, Prod.mk.injEq] at h
              obtain ⟨rfl, rfl⟩ := h
              have hk : 0 ≤ r.kind ∧ r.kind ≤ 255 := by
                have := m1
                simp only [shapeRows, List.mem_cons, List.not_mem_nil, or_false] at this
                rcases this with rfl | rfl | rfl | rfl | rfl | rfl | rfl | rfl | rfl | rfl | rfl | rfl | rfl | rfl <;> decide
              have hnb := canons_bounds hq
              refine ⟨⟨hk.1, hk.2, fun x hx => ?_⟩, rfl, r, m1, rfl, fun ht => by simp [ht], ?_⟩
              · dsimp only at hx
                split at hx
                · exact hnb x ((List.dropLast_sublist _).subset hx)
                · exact hnb x hx
              rw [← hj]
              congr 1
              have hi := canons_inv hq
              subst m2
              have hname : ws = (if r.name = true then [ws.headD []] else []) ++ (if r.name = true then List.drop 1 ws else ws) := by
                cases hr : r.name with
                | false => simp
                | true =>
                  cases ws with
                  | nil => simp [hr, headName] at hc
                  | cons x ws => simp
              rw [List.append_assoc, List.append_assoc, List.singleton_append]
              congr 1
              conv => lhs; rw [hname]
              congr 1
              · cases r.name <;> simp
              · rw [← hi]
                cases ht : r.text with
                | false => simp
                | true =>
                  simp [ht, lastOk] at hc2
                  rcases List.eq_nil_or_concat nums with hn | ⟨ns, n, hn⟩
                  · exact absurd hn hc2.1
                  · rw [List.concat_eq_append] at hn
                    subst hn
                    simp at hc2 ⊢
                    congr 2
                    omega
            · rw [if_neg hm] at h; cases h

theorem oneM_inv {s : List UInt8} {b : Nat} {c : Cmd} {r : List UInt8} {n : Nat} (h : oneM s b = .ok (c, r, n)) : c.fits ∧ b < 1000 ∧ validC c = true ∧ s = fmt1 c ++ r ∧ n = Lib.countByte c.text 10 + 1 := by
  unfold oneM at h
  by_cases hb : 1000 ≤ b
  · rw [if_pos hb] at h; cases h
  · rw [if_neg hb] at h
    rcases index_cases s 10 with ⟨h1, _⟩ | ⟨w, t, e, h1, _⟩
    · rw [cut_none h1, if_neg (by simp)] at h; cases h
    · subst e
      rw [cut_at h1, if_pos rfl] at h
      dsimp only at h
      cases hf : firstM w with
      | none => rw [hf] at h; cases h
      | some q =>
        obtain ⟨c0, n0⟩ := q
        rw [hf] at h
        dsimp only at h
        cases hq : cutM n0 t with
        | none => rw [hq] at h; cases h
        | some q =>
          obtain ⟨tx, r'⟩ := q
          rw [hq] at h
          dsimp only at h
          cases hv : validC { c0 with text := tx } with
          | false => rw [hv, if_neg (by decide)] at h; cases h
          | true =>
            rw [hv, if_pos rfl] at h
            simp only [Except.ok.injEq, Prod.mk.injEq] at h
            obtain ⟨rfl, rfl, rfl⟩ := h
            obtain ⟨e1, e2⟩ := cutM_inv _ _ _ _ hq
            obtain ⟨f0, f1, r0, f2, f3, f4, f5⟩ := firstM_inv hf
            obtain ⟨r1, hr1⟩ := (validC_iff _).1 hv
            have hrr : r1 = r0 := by
              have g1 := shape_of r1 hr1.mem
              have g2 := shape_of r0 f2
              rw [hr1.kind] at g1
              rw [f3] at g2
              exact Option.some.inj (g1.symm.trans g2)
            subst hrr
            refine ⟨⟨f0.1, f0.2.1, f0.2.2⟩, by omega, hv, ?_, by rw [e2]⟩
            rw [fmt1_eq hr1, e1, List.append_assoc, List.cons_append]
            congr 1
            rw [f5]
            unfold wordsOf
            congr 2
            cases ht : r1.text with
            | false => simp
            | true => simp [e2]

/-! ## Scripts -/
def linesOf (l : List Cmd) : Nat := (l.map fun c => Lib.countByte c.text 10 + 1).sum

theorem parse_fmt : ∀ (l : List Cmd) (f : Nat) (s : List UInt8) (out : List Cmd) (line : Nat), (∀ c ∈ l, validC c = true ∧ c.fits) → out.length + l.length ≤ 1000 →
    parseGo (f + l.length) (fmt l ++ s) out line = parseGo f s (out ++ l) (line + linesOf l)
  | [], f, s, out, line, _, _ => by simp [fmt, linesOf]
  | c :: l, f, s, out, line, h, hl => by
    have hc := h c (by simp)
    have hne : fmt1 c ≠ [] := by
      obtain ⟨r, hr⟩ := (validC_iff c).1 hc.1
      rw [fmt1_eq hr]; simp
    have e : fmt (c :: l) ++ s = fmt1 c ++ (fmt l ++ s) := by simp [fmt]
    rw [e, List.length_cons, ← Nat.add_assoc, parseGo, if_neg (by simp [hne]), oneM_fmt hc.1 hc.2 _ (by simp at hl; omega)]
    dsimp only
    rw [parse_fmt l f s (out ++ [c]) _ (fun x hx => h x (by simp [hx])) (by simp at hl ⊢; omega)]
    simp [linesOf]; congr 1; omega

theorem parse_inv : ∀ (f : Nat) (s : List UInt8) (out : List Cmd) (line : Nat), s.length < f → out.length ≤ 1000 →
    ((parseGo f s out line).2.2 = 0 ∧ (parseGo f s out line).2.1 = 0 ∧ ∃ l, (parseGo f s out line).1 = out ++ l ∧ (∀ c ∈ l, validC c = true ∧ c.fits) ∧ s = fmt l ∧ out.length + l.length ≤ 1000) ∨
    ((parseGo f s out line).2.2 ≠ 0 ∧ (parseGo f s out line).1 = [] ∧ line ≤ (parseGo f s out line).2.1)
  | 0, s, out, line, h, _ => by omega
  | f + 1, s, out, line, h, ho => by
    unfold parseGo
    by_cases hs : s = []
    · subst hs
      rw [if_pos rfl]
      exact .inl ⟨rfl, rfl, [], by simp, by simp, by simp [fmt], by simpa using ho⟩
    · rw [if_neg hs]
      cases hq : oneM s out.length with
      | error e =>
        dsimp only
        right
        refine ⟨?_, rfl, Nat.le_refl _⟩
        unfold oneM at hq
        split at hq
        · cases hq; decide
        · split at hq
          · split at hq
            · cases hq; decide
            · split at hq
              · cases hq; decide
              · split at hq
                · cases hq
                · cases hq; decide
          · cases hq; decide
      | ok q =>
        obtain ⟨c, r, n⟩ := q
        obtain ⟨h0, h1, h2, h3, h4⟩ := oneM_inv hq
        dsimp only
        have hlen : r.length < s.length := by
          obtain ⟨r0, hr0⟩ := (validC_iff c).1 h2
          rw [h3, fmt1_eq hr0]; simp; omega
        rcases parse_inv f r (out ++ [c]) (line + n) (by omega) (by simp; omega) with ⟨g1, g2, l, g3, g4, g5, g6⟩ | ⟨g1, g2, g3⟩
        · refine .inl ⟨g1, g2, c :: l, by rw [g3]; simp, fun x hx => ?_, by rw [h3, g5]; simp [fmt], by simp at g6 ⊢; omega⟩
          rcases List.mem_cons.1 hx with rfl | hx
          · exact ⟨h2, h0⟩
          · exact g4 x hx
        · exact .inr ⟨g1, g2, by omega⟩

theorem parseM_fmt {l : List Cmd} (h : validL l = true) (hf : ∀ c ∈ l, c.fits) : parseM (fmt l) = (l, 0, 0) := by
  unfold validL at h
  simp only [Bool.and_eq_true, List.all_eq_true, decide_eq_true_eq] at h
  have hle : l.length ≤ (fmt l).length := by
    have key : ∀ l : List Cmd, (∀ c ∈ l, validC c = true) → l.length ≤ (fmt l).length := by
      intro l
      induction l with
      | nil => intro _; simp
      | cons c l ih =>
        intro hv
        have := ih (fun x hx => hv x (by simp [hx]))
        obtain ⟨r, hr⟩ := (validC_iff c).1 (hv c (by simp))
        have e : fmt (c :: l) = fmt1 c ++ fmt l := by simp [fmt]
        rw [e, fmt1_eq hr]; simp; omega
    exact key l h.1
  unfold parseM
  have e : (fmt l).length + 1 = ((fmt l).length + 1 - l.length) + l.length := by omega
  have h2 := parse_fmt l ((fmt l).length + 1 - l.length) [] [] 1 (fun c hc => ⟨h.1 c hc, hf c hc⟩) (by simpa using h.2)
  rw [List.append_nil, ← e] at h2
  rw [h2]
  have : (fmt l).length + 1 - l.length = ((fmt l).length - l.length) + 1 := by omega
  rw [this, parseGo, if_pos rfl]
  simp


/-! ## Sizes -/
theorem dec_len : ∀ (k u : Nat), u < 10 ^ k → 0 < k → (Lib.decDigits u).length ≤ k
  | 0, u, _, h => by omega
  | k + 1, u, h, _ => by
    rw [Lib.decDigits]
    by_cases hu : u < 10
    · rw [dif_pos hu]; simp
    · rw [dif_neg hu]
      have h1 : u / 10 < 10 ^ k := by rw [Nat.pow_succ] at h; omega
      have h2 : 0 < k := by
        rcases Nat.eq_zero_or_pos k with rfl | h2
        · simp at h1; omega
        · exact h2
      have := dec_len k (u / 10) h1 h2
      simp; omega
theorem itoa_len {n : Int} (h1 : -9223372036854775808 ≤ n) (h2 : n ≤ 9223372036854775807) : (Lib.itoa n).length ≤ 21 := by
  unfold Lib.itoa
  split
  · have := dec_len 20 n.natAbs (by omega) (by omega)
    simp; omega
  · have := dec_len 20 n.toNat (by omega) (by omega)
    omega
theorem join_len (c : UInt8) : ∀ (ws : List (List UInt8)), (Lib.join ws [c]).length ≤ (ws.map fun w => w.length + 1).sum
  | [] => by simp [Lib.join, List.intercalate]
  | [w] => by rw [join_one]; simp
  | w :: v :: ws => by
    have := join_len c (v :: ws)
    rw [join_cons]; simp at this ⊢; omega

theorem fmt1_len {c : Cmd} (hf : c.fits) (ht : c.text.length ≤ 4000000000) : (fmt1 c).length ≤ 100 + c.name.length + 22 * c.nums.length + c.text.length := by
  unfold fmt1
  cases hs : shapeOf c.kind with
  | none => simp
  | some r =>
    have hw : r.word.length ≤ 10 := by
      have := (shapeOf_mem hs).1
      simp only [shapeRows, List.mem_cons, List.not_mem_nil, or_false] at this
      rcases this with rfl | rfl | rfl | rfl | rfl | rfl | rfl | rfl | rfl | rfl | rfl | rfl | rfl | rfl <;> decide
    have hj := join_len 32 (wordsOf c r)
    have hn : ((c.nums.map Lib.itoa).map fun w => w.length + 1).sum ≤ 22 * c.nums.length := by
      have key : ∀ (ns : List Int), (∀ n ∈ ns, -9223372036854775808 ≤ n ∧ n ≤ 9223372036854775807) → ((ns.map Lib.itoa).map fun w => w.length + 1).sum ≤ 22 * ns.length := by
        intro ns
        induction ns with
        | nil => intro _; simp
        | cons n ns ih =>
          intro h
          have h1 := ih (fun x hx => h x (by simp [hx]))
          have h2 := itoa_len (h n (by simp)).1 (h n (by simp)).2
          simp at h1 ⊢; omega
      exact key c.nums hf.2.2
    have hc : (Lib.itoa (Lib.countByte c.text 10)).length ≤ 21 := by
      have : Lib.countByte c.text 10 ≤ c.text.length := List.count_le_length
      exact itoa_len (by omega) (by omega)
    have : ((wordsOf c r).map fun w => w.length + 1).sum ≤ 11 + (c.name.length + 1) + 22 * c.nums.length + 22 := by
      unfold wordsOf
      simp only [List.map_append, List.sum_append]
      have a1 : (List.map (fun w : List UInt8 => w.length + 1) (if r.name = true then [c.name] else [])).sum ≤ c.name.length + 1 := by cases r.name <;> simp
      have a2 : (List.map (fun w : List UInt8 => w.length + 1) (if r.text = true then [Lib.itoa (Lib.countByte c.text 10)] else [])).sum ≤ 22 := by
        cases r.text
        · simp
        · simp; omega
      have a3 : (List.map (fun w : List UInt8 => w.length + 1) [r.word]).sum ≤ 11 := by simp; omega
      omega
    simp only [List.length_append, List.length_singleton]
    omega

theorem valid_small {c : Cmd} (h : validC c = true) : c.name.length ≤ 16 ∧ c.nums.length ≤ 4096 ∧ c.text.length ≤ 65536 := by
  obtain ⟨r, hr⟩ := (validC_iff c).1 h
  refine ⟨?_, hr.many, hr.size⟩
  have hn := hr.name
  split at hn
  · cases hc : c.name with
    | nil => simp
    | cons b l =>
      rw [hc] at hn
      simp only [isName, Bool.and_eq_true, decide_eq_true_eq] at hn
      exact hn.1.1.1
  · rw [hn]; simp
end Go.Ev.S
end

/- Canonical numerals read digit by digit toward the least number: the same as canon. No program in sight. -/
section
set_option linter.unusedVariables false
set_option linter.unusedSimpArgs false
namespace Go.Ev.S
open Go.Proofs

def refGo : Int → List UInt8 → Option Int
  | n, [] => some n
  | n, b :: l => if (b.toNat : Int) < 48 ∨ 57 < (b.toNat : Int) then none else
    if n < (-9223372036854775808 + ((b.toNat : Int) - 48)).tdiv 10 then none else refGo (10 * n - ((b.toNat : Int) - 48)) l

def refHead (s : List UInt8) : Bool := decide (s.head? = some 45)
def refNumOf (neg : Bool) (s : List UInt8) : Option Int :=
  if s.length < 1 ∨ 19 < s.length ∨ (s.head? = some 48 ∧ (neg = true ∨ 1 < s.length)) then none else
  match refGo 0 s with
  | none => none
  | some n => if neg then some n else if n = -9223372036854775808 then none else some (-n)
def refNum (w : List UInt8) : Option Int := refNumOf (refHead w) (if refHead w then w.tail else w)

theorem refGo_app : ∀ (a b : List UInt8) (n : Int), refGo n (a ++ b) = (refGo n a).bind fun n' => refGo n' b
  | [], b, n => rfl
  | x :: a, b, n => by
    simp only [List.cons_append, refGo]
    split
    · rfl
    · split
      · rfl
      · exact refGo_app a b _

theorem tdiv_le {d : Int} (h0 : 0 ≤ d) (h1 : d ≤ 9) : (-9223372036854775808 + d).tdiv 10 = -((9223372036854775808 - d) / 10) := by
  have e : -9223372036854775808 + d = -(9223372036854775808 - d) := by omega
  rw [e, Int.neg_tdiv, Int.tdiv_eq_ediv_of_nonneg (by omega)]

theorem digNat {d : Nat} (h : d < 10) : (UInt8.ofNat (48 + d)).toNat = 48 + d := by rw [UInt8.toNat_ofNat']; omega

theorem refGo_dec : ∀ (n u : Nat), u ≤ n → u ≤ 9223372036854775808 → refGo 0 (Lib.decDigits u) = some (-(u : Int))
  | n, u, hn, hu => by
    rw [Lib.decDigits]
    by_cases h : u < 10
    · rw [dif_pos h]
      simp only [refGo, digNat h]
      rw [if_neg (by omega), tdiv_le (by omega) (by omega), if_neg (by omega)]
      simp; omega
    · rw [dif_neg h, refGo_app]
      cases n with
      | zero => omega
      | succ n =>
        rw [refGo_dec n (u / 10) (by omega) (by omega)]
        simp only [Option.bind_some, refGo, digNat (show u % 10 < 10 by omega)]
        rw [if_neg (by omega), tdiv_le (by omega) (by omega), if_neg (by omega)]
        simp; omega

def digFold (a : Nat) (s : List UInt8) : Nat := s.foldl (fun a b => 10 * a + (b.toNat - 48)) a

theorem refGo_inv : ∀ (s : List UInt8) (a : Nat) (r : Int), a ≤ 9223372036854775808 → refGo (-(a : Int)) s = some r → (∀ b ∈ s, 48 ≤ b.toNat ∧ b.toNat ≤ 57) ∧ r = -(digFold a s : Int) ∧ digFold a s ≤ 9223372036854775808
  | [], a, r, ha, h => by
    simp only [refGo, Option.some.injEq] at h
    exact ⟨by simp, by rw [← h]; rfl, ha⟩
  | b :: s, a, r, ha, h => by
    simp only [refGo] at h
    split at h
    · cases h
    · rename_i hb
      rw [tdiv_le (by omega) (by omega)] at h
      split at h
      · cases h
      · rename_i hc
        have e : 10 * -(a : Int) - ((b.toNat : Int) - 48) = -((10 * a + (b.toNat - 48) : Nat) : Int) := by omega
        rw [e] at h
        obtain ⟨h1, h2, h3⟩ := refGo_inv s (10 * a + (b.toNat - 48)) r (by omega) h
        refine ⟨fun x hx => ?_, h2, h3⟩
        rcases List.mem_cons.1 hx with rfl | hx
        · omega
        · exact h1 x hx

theorem digit_eq {b : UInt8} (h1 : 48 ≤ b.toNat) (h2 : b.toNat ≤ 57) : UInt8.ofNat (48 + (b.toNat - 48)) = b := by
  apply UInt8.toNat_inj.1
  rw [digNat (by omega)]; omega

theorem dec_fold : ∀ (n : Nat) (s : List UInt8), s.length ≤ n → s ≠ [] → (∀ b ∈ s, 48 ≤ b.toNat ∧ b.toNat ≤ 57) → s.head? ≠ some 48 → 0 < digFold 0 s ∧ Lib.decDigits (digFold 0 s) = s
  | 0, s, hn, hne, _, _ => absurd (List.length_eq_zero_iff.1 (by omega)) hne
  | n + 1, s, hn, hne, hd, hh => by
    obtain ⟨p, b, rfl⟩ : ∃ p b, s = p ++ [b] := ⟨s.dropLast, s.getLast hne, (List.dropLast_concat_getLast hne).symm⟩
    have hb := hd b (by simp)
    have e : digFold 0 (p ++ [b]) = 10 * digFold 0 p + (b.toNat - 48) := by unfold digFold; rw [List.foldl_append]; rfl
    rw [e]
    cases p with
    | nil =>
      have h48 : b.toNat ≠ 48 := fun h => hh (by
        have : b = 48 := UInt8.toNat_inj.1 (show b.toNat = 48 from h)
        simp [this])
      refine ⟨by simp [digFold]; omega, ?_⟩
      simp only [digFold, List.foldl_nil, Nat.mul_zero, Nat.zero_add, List.nil_append]
      rw [Lib.decDigits, dif_pos (by omega), digit_eq hb.1 hb.2]
    | cons c p =>
      obtain ⟨g1, g2⟩ := dec_fold n (c :: p) (by simp at hn ⊢; omega) (by simp) (fun x hx => hd x (List.mem_append_left _ hx)) (by simpa using hh)
      refine ⟨by omega, ?_⟩
      rw [Lib.decDigits, dif_neg (by omega)]
      have e1 : (10 * digFold 0 (c :: p) + (b.toNat - 48)) / 10 = digFold 0 (c :: p) := by omega
      have e2 : (10 * digFold 0 (c :: p) + (b.toNat - 48)) % 10 = b.toNat - 48 := by omega
      rw [e1, e2, g2, digit_eq hb.1 hb.2]

theorem dec_head : ∀ (n u : Nat), u ≤ n → 0 < u → (Lib.decDigits u).head? ≠ some 48
  | n, u, hn, hu => by
    rw [Lib.decDigits]
    by_cases h : u < 10
    · rw [dif_pos h]
      intro e
      simp only [List.head?_cons, Option.some.injEq] at e
      have := congrArg UInt8.toNat e
      rw [digNat h] at this
      have e2 : (48 : UInt8).toNat = 48 := rfl
      omega
    · rw [dif_neg h]
      cases n with
      | zero => omega
      | succ n =>
        have := dec_head n (u / 10) (by omega) (by omega)
        rw [List.head?_append]
        cases hq : (Lib.decDigits (u / 10)).head? with
        | none => exact absurd (List.head?_eq_none_iff.1 hq) (dec_ne _)
        | some x => rw [hq] at this; simpa using this

theorem refNum_itoa {v : Int} (h1 : -9223372036854775808 ≤ v) (h2 : v ≤ 9223372036854775807) : refNum (Lib.itoa v) = some v := by
  unfold Lib.itoa
  by_cases hv : v < 0
  · rw [if_pos hv]
    have hh : refHead (45 :: Lib.decDigits v.natAbs) = true := by simp [refHead]
    unfold refNum
    rw [hh]
    simp only [if_true, List.tail_cons]
    unfold refNumOf
    have hl := dec_len 19 v.natAbs (by omega) (by omega)
    have hl1 := List.length_pos_iff.2 (dec_ne v.natAbs)
    rw [if_neg (by
      rintro (h | h | ⟨h, _⟩)
      · omega
      · omega
      · exact dec_head _ _ (Nat.le_refl _) (by omega) h), refGo_dec _ _ (Nat.le_refl _) (by omega)]
    simp; omega
  · rw [if_neg hv]
    have hd := dec_digit _ v.toNat (Nat.le_refl _)
    have hh : refHead (Lib.decDigits v.toNat) = false := by
      unfold refHead
      cases hq : Lib.decDigits v.toNat with
      | nil => exact absurd hq (dec_ne _)
      | cons b l =>
        rw [hq] at hd
        have := hd b (by simp)
        have hb : b ≠ 45 := by
          rintro rfl
          have e2 : (45 : UInt8).toNat = 45 := rfl
          omega
        simp [hb]
    unfold refNum
    rw [hh]
    unfold refNumOf
    simp only [Bool.false_eq_true, if_false, false_or]
    have hl := dec_len 19 v.toNat (by omega) (by omega)
    have hl1 := List.length_pos_iff.2 (dec_ne v.toNat)
    rw [if_neg (by
      rintro (h | h | ⟨h, h3⟩)
      · omega
      · omega
      · by_cases h0 : v.toNat = 0
        · rw [h0] at h3
          simp [Lib.decDigits] at h3
        · exact dec_head _ _ (Nat.le_refl _) (by omega) h), refGo_dec _ _ (Nat.le_refl _) (by omega)]
    dsimp only
    rw [if_neg (by omega)]
    simp; omega

theorem refNum_inv {w : List UInt8} {v : Int} (h : refNum w = some v) : -9223372036854775808 ≤ v ∧ v ≤ 9223372036854775807 ∧ Lib.itoa v = w := by
  unfold refNum at h
  cases hh : refHead w with
  | true =>
    rw [hh] at h
    simp only [if_true] at h
    have hw : ∃ t, w = 45 :: t := by
      unfold refHead at hh
      cases w with
      | nil => simp at hh
      | cons b t => simp at hh; exact ⟨t, by rw [hh]⟩
    obtain ⟨t, rfl⟩ := hw
    rw [List.tail_cons] at h
    unfold refNumOf at h
    split at h
    · cases h
    · rename_i hc
      simp only [not_or, not_and] at hc
      obtain ⟨c1, c2, c3⟩ := hc
      cases hq : refGo 0 t with
      | none => rw [hq] at h; cases h
      | some n =>
        rw [hq] at h
        simp only [if_true, Option.some.injEq] at h
        obtain ⟨d1, d2, d3⟩ := refGo_inv _ 0 n (by omega) hq
        obtain ⟨g1, g2⟩ := dec_fold _ t (Nat.le_refl _) (by intro e; simp [e] at c1) d1 (fun e => (c3 e).1 trivial)
        subst h
        refine ⟨by omega, by omega, ?_⟩
        unfold Lib.itoa
        rw [if_pos (by omega)]
        have : n.natAbs = digFold 0 t := by omega
        rw [this, g2]
  | false =>
    rw [hh] at h
    simp only [Bool.false_eq_true, if_false] at h
    unfold refNumOf at h
    split at h
    · cases h
    · rename_i hc
      simp only [not_or, not_and] at hc
      obtain ⟨c1, c2, c3⟩ := hc
      cases hq : refGo 0 w with
      | none => rw [hq] at h; cases h
      | some n =>
        rw [hq] at h
        simp only [Bool.false_eq_true, if_false] at h
        obtain ⟨d1, d2, d3⟩ := refGo_inv _ 0 n (by omega) hq
        split at h
        · cases h
        · rename_i hm
          simp only [Option.some.injEq] at h
          subst h
          have hne : w ≠ [] := by intro e; simp [e] at c1
          refine ⟨by omega, by omega, ?_⟩
          unfold Lib.itoa
          rw [if_neg (by omega)]
          have ht : (-n).toNat = digFold 0 w := by omega
          rw [ht]
          by_cases h48 : w.head? = some 48
          · have hl := (c3 h48).2
            cases w with
            | nil => exact absurd rfl hne
            | cons b t =>
              simp at h48
              have : t = [] := by
                have : t.length = 0 := by simp at hl; simpa using hl
                exact List.length_eq_zero_iff.1 this
              subst this; subst h48
              decide +kernel
          · exact (dec_fold _ w (Nat.le_refl _) hne d1 h48).2

theorem refNum_canon (w : List UInt8) : refNum w = canon w := by
  cases h : refNum w with
  | some v =>
    obtain ⟨h1, h2, h3⟩ := refNum_inv h
    rw [← h3, canon_itoa h1 h2]
  | none =>
    cases hc : canon w with
    | none => rfl
    | some v =>
      have h1 := canon_bounds hc
      have h2 := canon_inv hc
      rw [← h2, refNum_itoa h1.1 h1.2] at h
      cases h
end Go.Ev.S
end

/- Plain laws behind ScriptLines: line feeds, and where a reading ends. No program in sight. -/
section
set_option linter.unusedVariables false
set_option linter.unusedSimpArgs false
namespace Go.Ev.S
open Go.Proofs

theorem count_fmt1 {c : Cmd} (h : validC c = true) : Lib.countByte (fmt1 c) 10 = Lib.countByte c.text 10 + 1 := by
  obtain ⟨r, hr⟩ := (validC_iff c).1 h
  rw [fmt1_eq hr]
  unfold Lib.countByte
  rw [List.count_append, List.count_cons_self, List.count_eq_zero.2 (line_clean hr)]
  omega
theorem count_fmt : ∀ {l : List Cmd}, (∀ c ∈ l, validC c = true) → Lib.countByte (fmt l) 10 = linesOf l
  | [], _ => rfl
  | c :: l, h => by
    have e : fmt (c :: l) = fmt1 c ++ fmt l := by simp [fmt]
    have h1 := count_fmt1 (h c (by simp))
    have h2 := count_fmt (l := l) (fun x hx => h x (by simp [hx]))
    unfold Lib.countByte at *
    rw [e, List.count_append, h1, h2]
    simp [linesOf, Lib.countByte]
theorem len_le_fmt : ∀ {l : List Cmd}, (∀ c ∈ l, validC c = true) → l.length ≤ (fmt l).length
  | [], _ => by simp
  | c :: l, hv => by
    have := len_le_fmt (l := l) (fun x hx => hv x (by simp [hx]))
    obtain ⟨r, hr⟩ := (validC_iff c).1 (hv c (by simp))
    have e : fmt (c :: l) = fmt1 c ++ fmt l := by simp [fmt]
    rw [e, fmt1_eq hr]; simp; omega

theorem parse_err {l : List Cmd} (h : validL l = true) (hf : ∀ c ∈ l, c.fits) {s : List UInt8} (hs : s ≠ []) {e : Int} (he : oneM s l.length = .error e) : parseM (fmt l ++ s) = ([], 1 + linesOf l, e) := by
  unfold validL at h
  simp only [Bool.and_eq_true, List.all_eq_true, decide_eq_true_eq] at h
  have hle := len_le_fmt h.1
  have hs1 := List.length_pos_iff.2 hs
  unfold parseM
  have e1 : (fmt l ++ s).length + 1 = ((fmt l ++ s).length - l.length) + 1 + l.length := by rw [List.length_append]; omega
  rw [e1, parse_fmt l _ s [] 1 (fun c hc => ⟨h.1 c hc, hf c hc⟩) (by simpa using h.2), parseGo, if_neg hs, List.nil_append, he]

theorem one_halt {b : Nat} (h : b < 1000) : oneM [104, 97, 108, 116, 10] b = .error 3 := by
  unfold oneM; rw [if_neg (by omega)]; kernel_rfl
theorem one_show {b : Nat} (h : b < 1000) : oneM [115, 104, 111, 119] b = .error 4 := by
  unfold oneM; rw [if_neg (by omega)]; kernel_rfl
def afterB (s : List UInt8) : Except Int (Cmd × List UInt8 × Nat) := oneM s 0
theorem after_load : ∀ d ∈ [1, 2, 3, 4, 5, 6, 7, 8, 9], (match oneM [108, 111, 97, 100, 32, UInt8.ofNat (48 + d), 10] 0 with | .error e => e == 4 | .ok _ => false) = true := by
  have h : ([1, 2, 3, 4, 5, 6, 7, 8, 9].all fun d => (match oneM [108, 111, 97, 100, 32, UInt8.ofNat (48 + d), 10] 0 with | .error e => e == 4 | .ok _ => false)) = true := by kernel_rfl
  exact List.all_eq_true.1 h
theorem one_load {b d : Nat} (h : b < 1000) (h0 : 1 ≤ d) (h1 : d ≤ 9) : oneM [108, 111, 97, 100, 32, UInt8.ofNat (48 + d), 10] b = .error 4 := by
  have e : oneM [108, 111, 97, 100, 32, UInt8.ofNat (48 + d), 10] b = oneM [108, 111, 97, 100, 32, UInt8.ofNat (48 + d), 10] 0 := by
    unfold oneM; rw [if_neg (show ¬ 1000 ≤ b by omega), if_neg (show ¬ 1000 ≤ 0 by omega)]
  rw [e]
  have hm : d ∈ [1, 2, 3, 4, 5, 6, 7, 8, 9] := by
    have : d = 1 ∨ d = 2 ∨ d = 3 ∨ d = 4 ∨ d = 5 ∨ d = 6 ∨ d = 7 ∨ d = 8 ∨ d = 9 := by omega
    simpa using this
  have := after_load d hm
  split at this
  · rename_i x hx
    rw [hx]
    have : x = 4 := by simpa using this
    rw [this]
  · cases this

/-! ## Runes -/
theorem cont_ne {b : UInt8} (h : b.toNat / 64 = 2) : b ≠ 10 := by
  rintro rfl; revert h; decide

theorem decode_step (s : List UInt8) (i : Nat) (h : i < s.length) : ∃ w, (Utf8.decode ⟨s.toArray⟩ i).2 = w + 1 ∧ i + w < s.length ∧ ∀ k, 1 ≤ k → k ≤ w → s[i + k]? ≠ some 10 := by
  have hsz : (ByteArray.mk s.toArray).size = s.length := by simp [ByteArray.size]
  have hget : ∀ k, i + k < s.length → s[i + k]? = some ((ByteArray.mk s.toArray).get! (i + k)) := fun k hk => by
    have : (ByteArray.mk s.toArray).get! (i + k) = s[i + k] := by
      show s.toArray[i + k]! = _
      rw [getElem!_pos s.toArray (i + k) (by simpa using hk)]
      simp
    rw [this]; simp [hk]
  have hcont : ∀ k, i + k < (ByteArray.mk s.toArray).size ∧ ((ByteArray.mk s.toArray).get! (i + k)).toNat / 64 = 2 → i + k < s.length ∧ s[i + k]? ≠ some 10 := fun k hk => by
    rw [hsz] at hk
    refine ⟨hk.1, ?_⟩
    rw [hget k hk.1]
    intro e
    exact cont_ne hk.2 (Option.some.inj e)
  have one : ∃ w, 1 = w + 1 ∧ i + w < s.length ∧ ∀ k, 1 ≤ k → k ≤ w → s[i + k]? ≠ some 10 := ⟨0, rfl, h, fun k h1 h2 => by omega⟩
  unfold Utf8.decode
  simp only [Bool.and_eq_true, decide_eq_true_eq, beq_iff_eq]
  split
  · exact one
  · split
    · rename_i hc
      split
      · refine ⟨1, rfl, (hcont 1 hc.2).1, fun k h1 h2 => ?_⟩
        obtain rfl : k = 1 := by omega
        exact (hcont 1 hc.2).2
      · exact one
    · split
      · rename_i hc
        split
        · refine ⟨2, rfl, (hcont 2 hc.2).1, fun k h1 h2 => ?_⟩
          rcases (show k = 1 ∨ k = 2 by omega) with rfl | rfl
          · exact (hcont 1 hc.1.2).2
          · exact (hcont 2 hc.2).2
        · exact one
      · split
        · rename_i hc
          split
          · refine ⟨3, rfl, (hcont 3 hc.2).1, fun k h1 h2 => ?_⟩
            rcases (show k = 1 ∨ k = 2 ∨ k = 3 by omega) with rfl | rfl | rfl
            · exact (hcont 1 hc.1.1.2).2
            · exact (hcont 2 hc.1.2).2
            · exact (hcont 3 hc.2).2
          · exact one
        · exact one

theorem count_skip (s : List UInt8) (i : Nat) : ∀ w, i + w < s.length → (∀ k, 1 ≤ k → k ≤ w → s[i + k]? ≠ some 10) → Lib.countByte (s.take (i + w + 1)) 10 = Lib.countByte (s.take (i + 1)) 10
  | 0, _, _ => rfl
  | w + 1, h, hk => by
    have h1 := count_skip s i w (by omega) (fun k a b => hk k a (by omega))
    have h2 := hk (w + 1) (by omega) (Nat.le_refl _)
    rw [← h1, show i + (w + 1) + 1 = (i + w + 1) + 1 by omega, List.take_add_one]
    unfold Lib.countByte
    rw [List.count_append, show i + w + 1 = i + (w + 1) by omega]
    cases hq : s[i + (w + 1)]? with
    | none => simp
    | some b =>
      rw [hq] at h2
      have : b ≠ 10 := fun e => h2 (by rw [e])
      simp [List.count_cons, this]
end Go.Ev.S
end
