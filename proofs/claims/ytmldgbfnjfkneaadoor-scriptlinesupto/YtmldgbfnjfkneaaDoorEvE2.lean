/- What lexer.next and lexer.Name compute. -/
import Derived.Test.YtmldgbfnjfkneaaDoorEvE1
set_option linter.all false
set_option linter.unusedVariables false
set_option linter.unusedSimpArgs false
namespace Go.Ev.S
open Go.Proofs
variable (m : Int)

theorem e_next_letter (b : UInt8) (s : List UInt8) (hs : (b :: s).length ≤ 4000000000) (h : isLetter b.toNat = true) :
    ev1 (cfg m) 42 [.d (.str (b :: s))] = some (.tup [.d (.int .u8 1), .d (.int .i64 (spanLen wordByte (b :: s) : Nat))]) := by
  refine ev1_fn rfl rfl ?_ rfl
  have h2 := e_span m 60 wordByte (fun b => e_word m b.toNat) (b :: s) hs
  simp [s_lexer_next, e_letter, h, h2]

theorem e_hasPrefix (s p : List UInt8) : ev1 (cfg m) 65 [.d (.str s), .d (.str p)] = some (.d (.bool (Lib.hasPrefix s p))) := ev1_pure rfl rfl rfl

theorem signs_loop (s : List UInt8) (L : List (List UInt8)) (c : V) (hL : L.length ≤ 1000) : ∀ k i, i + k = L.length →
    (∃ x j, loopS (cfg m) s_lexer_next_l0 [0, 2, 3, 4, 9, 14, 19, 24, 29, 30, 31] [] { env := [(0, .d (.str s)), (2, .d (.int .u8 0)), (3, .d (.int .i64 0)), (4, c), (9, .d (.bool false)), (14, .d (.bool false)), (19, .d (.bool false)), (24, .d (.bool false)), (29, .d (.sl (L.map .str))), (30, .d (.int .i64 L.length)), (31, .d (.int .i64 (i : Int)))], cells := [] } =
      some (.ret, { env := [(0, .d (.str s)), (2, .d (.int .u8 3)), (3, .d (.int .i64 (x : List UInt8).length)), (4, c), (9, .d (.bool false)), (14, .d (.bool false)), (19, .d (.bool false)), (24, .d (.bool false)), (29, .d (.sl (L.map .str))), (30, .d (.int .i64 L.length)), (31, .d (.int .i64 (j : Int))), (32, .d (.bool true)), (6, .d (.str x)), (37, .d (.bool true))], cells := [] })) ∨
    loopS (cfg m) s_lexer_next_l0 [0, 2, 3, 4, 9, 14, 19, 24, 29, 30, 31] [] { env := [(0, .d (.str s)), (2, .d (.int .u8 0)), (3, .d (.int .i64 0)), (4, c), (9, .d (.bool false)), (14, .d (.bool false)), (19, .d (.bool false)), (24, .d (.bool false)), (29, .d (.sl (L.map .str))), (30, .d (.int .i64 L.length)), (31, .d (.int .i64 (i : Int)))], cells := [] } =
      some (.exit 1, { env := [(0, .d (.str s)), (2, .d (.int .u8 0)), (3, .d (.int .i64 0)), (4, c), (9, .d (.bool false)), (14, .d (.bool false)), (19, .d (.bool false)), (24, .d (.bool false)), (29, .d (.sl (L.map .str))), (30, .d (.int .i64 L.length)), (31, .d (.int .i64 L.length)), (32, .d (.bool false))], cells := [] }) := by
  intro k
  induction k with
  | zero =>
    intro i hi
    have : i = L.length := by omega
    subst this
    exact .inr (loopS_exit (by simp [s_lexer_next_l0]))
  | succ k ih =>
    intro i hi
    have hlt : i < L.length := by omega
    cases hp : Lib.hasPrefix s L[i] with
    | true =>
      refine .inl ⟨L[i], i, loopS_ret ?_⟩
      simp [s_lexer_next_l0, hlt, e_hasPrefix, hp]
    | false =>
      have hb : ∃ σ', evalS (cfg m) s_lexer_next_l0 { env := [(0, .d (.str s)), (2, .d (.int .u8 0)), (3, .d (.int .i64 0)), (4, c), (9, .d (.bool false)), (14, .d (.bool false)), (19, .d (.bool false)), (24, .d (.bool false)), (29, .d (.sl (L.map .str))), (30, .d (.int .i64 L.length)), (31, .d (.int .i64 (i : Int)))], cells := [] } = some (.normal, σ') ∧
          σ'.norm [0, 2, 3, 4, 9, 14, 19, 24, 29, 30, 31] [] = { env := [(0, .d (.str s)), (2, .d (.int .u8 0)), (3, .d (.int .i64 0)), (4, c), (9, .d (.bool false)), (14, .d (.bool false)), (19, .d (.bool false)), (24, .d (.bool false)), (29, .d (.sl (L.map .str))), (30, .d (.int .i64 L.length)), (31, .d (.int .i64 ((i + 1 : Nat) : Int)))], cells := [] } := by
        simp [s_lexer_next_l0, hlt, e_hasPrefix, hp, wrap_i64 ((i : Int) + 1) (by omega) (by omega)]
      obtain ⟨σ', h1, h2⟩ := hb
      rcases ih (i + 1) (by omega) with ⟨x, j, hl⟩ | hl
      · exact .inl ⟨x, j, loopS_step h1 (by rw [h2]; exact hl)⟩
      · exact .inr (loopS_step h1 (by rw [h2]; exact hl))

theorem e_next_other (b : UInt8) (s : List UInt8) (hs : (b :: s).length ≤ 4000000000) (h : isLetter b.toNat = false) :
    ∃ k n, k ≠ 1 ∧ ev1 (cfg m) 42 [.d (.str (b :: s))] = some (.tup [.d (.int .u8 k), .d (.int .i64 n)]) := by
  cases h2 : isDigit b.toNat with
  | true =>
    have h3 := e_span m 61 (fun b => isDigit b.toNat) (fun b => e_digit m b.toNat) (b :: s) hs
    refine ⟨2, (spanLen (fun b => isDigit b.toNat) (b :: s) : Nat), by omega, ev1_fn rfl rfl ?_ rfl⟩
    simp [s_lexer_next, e_letter, e_digit, h, h2, h3]
  | false =>
    cases h3 : isSpace b.toNat with
    | true =>
      have h4 := e_span m 62 (fun b => isSpace b.toNat) (fun b => e_space m b.toNat) (b :: s) hs
      refine ⟨4, (spanLen (fun b => isSpace b.toNat) (b :: s) : Nat), by omega, ev1_fn rfl rfl ?_ rfl⟩
      simp [s_lexer_next, e_letter, e_digit, e_space, h, h2, h3, h4]
    | false =>
      by_cases h4 : (b.toNat : Int) = 35
      · obtain ⟨n, h5⟩ : ∃ n : Nat, ev1 (cfg m) 59 [.d (.str (b :: s)), .d (.fn 63)] = some (.d (.int .i64 n)) := ⟨_, e_span m 63 _ (fun b => e_comment m b.toNat) (b :: s) hs⟩
        rw [h4] at h h2 h3
        refine ⟨5, n, by omega, ev1_fn rfl rfl ?_ rfl⟩
        simp [s_lexer_next, e_letter, e_digit, e_space, h, h2, h3, h4, h5]
      · suffices H : ∃ k n cs, k ≠ 1 ∧ bodyS (cfg m) s_lexer_next [.d (.str (b :: s))] [] = some (.tup [.d (.int .u8 k), .d (.int .i64 n)], cs) by
          obtain ⟨k, n, cs, hk, hb⟩ := H
          exact ⟨k, n, hk, ev1_fn rfl rfl (by rw [hb]; rfl) rfl⟩
        simp [s_lexer_next, e_letter, e_digit, e_space, h, h2, h3, h4, e_signs]
        rcases signs_loop m (b :: s) (Lib.fields [60, 61, 62, 32, 58, 61, 32, 43, 61, 32, 45, 61, 32, 94, 61, 32, 61, 61, 32, 33, 61, 32, 60, 61, 32, 62, 61, 32, 38, 38, 32, 124, 124, 32, 43, 32, 45, 32, 42, 32, 47, 32, 37, 32, 38, 32, 124, 32, 94, 32, 33, 32, 61, 32, 60, 32, 62, 32, 40, 32, 41, 32, 123, 32, 125, 32, 91, 32, 93, 32, 59, 32, 44]) (.d (.int .u8 b.toNat)) (by decide) _ 0 (Nat.zero_add _) with ⟨x, i, hl⟩ | hl
        · simp at hl
          exact ⟨3, by omega, x.length, [], by simp [hl]⟩
        · simp at hl
          exact ⟨0, by omega, 0, [], by simp [hl]⟩

theorem spanLen_all (p : UInt8 → Bool) (s : List UInt8) : (spanLen p s = s.length) ↔ s.all p = true := by
  unfold spanLen
  induction s with
  | nil => simp
  | cons b s ih =>
    simp only [List.takeWhile_cons, List.all_cons]
    cases h : p b
    · simp
    · simpa using ih
theorem e_Name (s : List UInt8) (hs : s.length ≤ 4000000000) : ev1 (cfg m) 32 [.d (.str s)] = some (.d (.bool (isName s))) := by
  refine ev1_fn rfl rfl ?_ rfl
  cases s with
  | nil => simp [s_lexer_Name, isName]
  | cons b s =>
    have hN : isName (b :: s) = (decide ((b :: s).length ≤ 16) && !kwWords.contains (b :: s) && isLetter b.toNat && (b :: s).all wordByte) := rfl
    have hnext : (isLetter b.toNat = true ∧ ev1 (cfg m) 42 [.d (.str (b :: s))] = some (.tup [.d (.int .u8 1), .d (.int .i64 (spanLen wordByte (b :: s) : Nat))])) ∨
        (isLetter b.toNat = false ∧ ∃ k n, k ≠ 1 ∧ ev1 (cfg m) 42 [.d (.str (b :: s))] = some (.tup [.d (.int .u8 k), .d (.int .i64 n)])) := by
      cases h3 : isLetter b.toNat with
      | true => exact .inl ⟨rfl, e_next_letter m b s hs h3⟩
      | false => exact .inr ⟨rfl, e_next_other m b s hs h3⟩
    have hne : ¬ ((b :: s).length : Int) = 0 := by simp only [List.length_cons]; omega
    rw [hN]
    clear hN
    generalize isLetter b.toNat = L at *
    generalize b :: s = l at *
    by_cases h1 : l.length ≤ 16
    · have h1' : ¬ (16 : Int) < (l.length : Nat) := by omega
      cases h2 : kwWords.contains l with
      | true => simp [s_lexer_Name, h1, h1', h2, hne, e_keyword, -List.contains_eq_mem, -Int.natCast_eq_zero, -List.length_eq_zero_iff]
      | false =>
        rcases hnext with ⟨rfl, h4⟩ | ⟨rfl, k, n, hk, h4⟩
        · by_cases h5 : spanLen wordByte l = l.length
          · have h6 := (spanLen_all wordByte l).1 h5
            simp only [h6]
            simp [s_lexer_Name, h1, h1', h2, h4, h5, hne, e_keyword, -List.contains_eq_mem, -Int.natCast_eq_zero, -List.length_eq_zero_iff]
          · have h6 : l.all wordByte = false := by
              rw [Bool.eq_false_iff]; exact fun e => h5 ((spanLen_all wordByte l).2 e)
            have h7 : ¬ ((spanLen wordByte l : Nat) : Int) = (l.length : Nat) := by omega
            simp only [h6]
            simp [s_lexer_Name, h1, h1', h2, h4, h7, hne, e_keyword, -List.contains_eq_mem, -Int.natCast_eq_zero, -List.length_eq_zero_iff]
        · simp [s_lexer_Name, h1, h1', h2, h4, hk, hne, e_keyword, -List.contains_eq_mem, -Int.natCast_eq_zero, -List.length_eq_zero_iff]
    · have h1' : (16 : Int) < (l.length : Nat) := by omega
      simp [s_lexer_Name, h1, h1', hne, -List.contains_eq_mem, -Int.natCast_eq_zero, -List.length_eq_zero_iff]
end Go.Ev.S
