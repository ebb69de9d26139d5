/- What the lexer's functions compute. -/
import Derived.Test.YtmldgbfnjfkneaaDoorEvC1
import Derived.Test.YtmldgbfnjfkneaaDoorKC
import Derived.IntWalk
set_option linter.all false
set_option linter.unusedVariables false
set_option linter.unusedSimpArgs false
namespace Go.Ev.S
open Go.Proofs
variable (m : Int)

theorem e_letter (c : Int) : ev1 (cfg m) 58 [.d (.int .u8 c)] = some (.d (.bool (isLetter c))) := by
  refine ev1_fn rfl rfl ?_ rfl
  by_cases h : 97 ≤ c <;> simp [s_lexer_letter, h, isLetter]
theorem e_digit (c : Int) : ev1 (cfg m) 61 [.d (.int .u8 c)] = some (.d (.bool (isDigit c))) := by
  refine ev1_fn rfl rfl ?_ rfl
  by_cases h : 48 ≤ c <;> simp [s_lexer_digit, h, isDigit]
theorem e_space (c : Int) : ev1 (cfg m) 62 [.d (.int .u8 c)] = some (.d (.bool (isSpace c))) := by
  refine ev1_fn rfl rfl ?_ rfl
  by_cases h1 : c = 32 <;> by_cases h2 : c = 9 <;> by_cases h3 : c = 13 <;> simp [s_lexer_space, h1, h2, h3, isSpace]
theorem e_word (c : Int) : ev1 (cfg m) 60 [.d (.int .u8 c)] = some (.d (.bool (isLetter c || isDigit c))) := by
  refine ev1_fn rfl rfl ?_ rfl
  cases h : isLetter c <;> simp [s_lexer_next_1, e_letter, e_digit, h]
theorem e_comment (c : Int) : ev1 (cfg m) 63 [.d (.int .u8 c)] = some (.d (.bool (decide (c ≠ 10)))) := by
  refine ev1_fn rfl rfl ?_ rfl
  simp [s_lexer_next_2]

theorem wrap_i64 (n : Int) (h1 : -9223372036854775808 ≤ n) (h2 : n ≤ 9223372036854775807) : IntKind.i64.wrap n = n := IntWalk.i64_in _ ⟨h1, h2⟩

theorem spanLen_stop {p : UInt8 → Bool} {s : List UInt8} {i : Nat} (h : i < s.length) (hb : p s[i] = false) : spanLen p (s.drop i) = 0 := by
  unfold spanLen; rw [List.drop_eq_getElem_cons h, List.takeWhile_cons, hb]; rfl
theorem spanLen_go {p : UInt8 → Bool} {s : List UInt8} {i : Nat} (h : i < s.length) (hb : p s[i] = true) : spanLen p (s.drop i) = spanLen p (s.drop (i + 1)) + 1 := by
  unfold spanLen; rw [List.drop_eq_getElem_cons h, List.takeWhile_cons, hb]; rfl

theorem span_loop (f : FuncId) (p : UInt8 → Bool) (hp : ∀ b : UInt8, ev1 (cfg m) f [.d (.int .u8 b.toNat)] = some (.d (.bool (p b)))) (s : List UInt8) (hs : s.length ≤ 4000000000) : ∀ k i, i + k = s.length →
    loopS (cfg m) s_lexer_span_l0 [0, 1, 4, 5] [] { env := [(0, .d (.str s)), (1, .d (.fn f)), (4, .d (.int .i64 0)), (5, .d (.int .i64 (i : Int)))], cells := [] } =
      some (.exit 0, { env := [(0, .d (.str s)), (1, .d (.fn f)), (4, .d (.int .i64 0)), (5, .d (.int .i64 ((i + spanLen p (s.drop i) : Nat) : Int))), (16, .d (.bool false))], cells := [] }) := by
  intro k
  induction k with
  | zero =>
    intro i hi
    have : i = s.length := by omega
    subst this
    refine loopS_exit ?_
    simp [s_lexer_span_l0, spanLen]
  | succ k ih =>
    intro i hi
    have hlt : i < s.length := by omega
    cases hb : p s[i] with
    | false =>
      refine loopS_exit ?_
      simp [s_lexer_span_l0, hlt, hp, hb, spanLen_stop hlt hb]
    | true =>
      refine loopS_step (σ' := ?_) ?_ ?_
      rotate_left
      · simp [s_lexer_span_l0, hlt, hp, hb, wrap_i64 ((i : Int) + 1) (by omega) (by omega)]; exact rfl
      · have := ih (i + 1) (by omega)
        rw [spanLen_go hlt hb]
        simp at this ⊢
        rw [this]
        simp; omega

theorem e_span (f : FuncId) (p : UInt8 → Bool) (hp : ∀ b : UInt8, ev1 (cfg m) f [.d (.int .u8 b.toNat)] = some (.d (.bool (p b)))) (s : List UInt8) (hs : s.length ≤ 4000000000) :
    ev1 (cfg m) 59 [.d (.str s), .d (.fn f)] = some (.d (.int .i64 (spanLen p s : Nat))) := by
  refine ev1_fn rfl rfl ?_ rfl
  have := span_loop m f p hp s hs s.length 0 (by omega)
  simp at this
  simp [s_lexer_span, this]

theorem e_signs : ev1 (cfg m) 64 [] = some (.d (.sl ((Lib.fields [60, 61, 62, 32, 58, 61, 32, 43, 61, 32, 45, 61, 32, 94, 61, 32, 61, 61, 32, 33, 61, 32, 60, 61, 32, 62, 61, 32, 38, 38, 32, 124, 124, 32, 43, 32, 45, 32, 42, 32, 47, 32, 37, 32, 38, 32, 124, 32, 94, 32, 33, 32, 61, 32, 60, 32, 62, 32, 40, 32, 41, 32, 123, 32, 125, 32, 91, 32, 93, 32, 59, 32, 44]).map .str))) := ev1_run 5 (by kernel_rfl) rfl
theorem e_keywords : ev1 (cfg m) 57 [] = some (.d (.map (kwWords.map .str) (kwWords.map fun _ => .bool true))) := ev1_run 40 (by kernel_rfl) rfl

theorem keyAt_str (s : List UInt8) : ∀ (l : List (List UInt8)), keyAt (.str s) (l.map .str) = some (l.findIdx? (· == s))
  | [] => rfl
  | x :: l => by
    simp only [List.map_cons, keyAt, keyEq, List.findIdx?_cons]
    by_cases h : s = x
    · subst h; simp
    · have h' : ¬ x = s := fun e => h e.symm
      simp only [h, decide_false, keyAt_str s l, beq_iff_eq, h', if_false]
      cases l.findIdx? (· == s) <;> simp

theorem e_keyword (s : List UInt8) : ev1 (cfg m) 41 [.d (.str s)] = some (.d (.bool (kwWords.contains s))) := by
  refine ev1_fn rfl rfl ?_ rfl
  cases h : kwWords.findIdx? (· == s) with
  | none =>
    have hc : kwWords.contains s = false := by
      rw [List.contains_eq_any_beq]
      rw [List.any_eq_false]
      intro x hx
      have := List.findIdx?_eq_none_iff.1 h x hx
      simp at this ⊢
      exact fun e => this e.symm
    simp [s_lexer_Keyword, e_keywords, keyAt_str, h, hc, -List.contains_eq_mem]
  | some i =>
    obtain ⟨h1, h2, _⟩ := List.findIdx?_eq_some_iff_getElem.1 h
    have hc : kwWords.contains s = true := by
      simp only [beq_iff_eq] at h2
      rw [List.contains_iff_mem, ← h2]
      exact List.getElem_mem h1
    simp [s_lexer_Keyword, e_keywords, keyAt_str, h, hc, h1, -List.contains_eq_mem]
end Go.Ev.S
