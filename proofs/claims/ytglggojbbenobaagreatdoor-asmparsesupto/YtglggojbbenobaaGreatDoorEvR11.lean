/- Machine code: the reference's number as a whole. -/
import Derived.Test.YtglggojbbenobaaGreatDoorEvR10
set_option linter.all false
namespace Go.Ev.S
open Go.Proofs Go.Ev.A
variable (m : Int)

theorem wrap_in (x : Int) : i64 (IntKind.i64.wrap x) := by rw [IntKind.wrap_i64]; unfold i64; omega
theorem wrap_neg {u : Nat} (h : u ≤ 9223372036854775808) : IntKind.i64.wrap (IntKind.u64.wrap (-(u : Int))) = -(u : Int) := by
  have h2 : IntKind.u64.wrap (-(u : Int)) = (-(u : Int)) % 18446744073709551616 := rfl
  rw [h2, IntKind.wrap_i64]; omega

set_option maxHeartbeats 4000000 in
theorem r_num (w : List UInt8) (hw : w.length ≤ 1000) : ∃ x ok, ev1 (cfg m) 74 [.d (.str w)] = some (.tup [.d (.int .i64 x), .d (.bool ok)]) ∧ ((ok = true ∧ canon w = some x) ∨ (ok = false ∧ canon w = none)) := by
  have hc : ∀ x ok, (bodyS (cfg m) s_backstepref22_number [.d (.str w)] []).map Prod.fst = some (.tup [.d (.int .i64 x), .d (.bool ok)]) → ev1 (cfg m) 74 [.d (.str w)] = some (.tup [.d (.int .i64 x), .d (.bool ok)]) := fun x ok h => ev1_fn rfl rfl h rfl
  have w20 := wrap_i64 20 (by decide) (by decide)
  have w19 := wrap_i64 19 (by decide) (by decide)
  cases w with
  | nil => exact ⟨0, false, hc 0 false (by simp [s_backstepref22_number]), .inr ⟨rfl, canon_nil⟩⟩
  | cons b t =>
    have p0 : (0 : Int) < (t.length : Int) + 1 := by omega
    by_cases hb : b = 45
    · subst hb
      by_cases ht : t = []
      · subst ht
        refine ⟨0, false, hc 0 false (by simp [s_backstepref22_number]), .inr ⟨rfl, ?_⟩⟩
        cases h : canon [45] with
        | none => rfl
        | some v => have := (canon_neg h).1; simp at this
      · have hpos := List.length_pos_iff.2 ht
        have e0 : ¬ ((t.length : Int) + 1 = 1) := by omega
        by_cases h1 : 19 < t.length
        · have e1 : (20 : Int) < (t.length : Int) + 1 := by omega
          have e2 : (19 : Int) < (t.length : Int) := by omega
          refine ⟨0, false, hc 0 false (by simp [s_backstepref22_number, w20, w19, p0, ht, e0, h1, e1, e2]), .inr ⟨rfl, ?_⟩⟩
          cases h : canon (45 :: t) with
          | none => rfl
          | some v => have := (canon_neg h).2.1; omega
        · have e1 : ¬ (20 : Int) < (t.length : Int) + 1 := by omega
          have e2 : ¬ (19 : Int) < (t.length : Int) := by omega
          rcases qn_loop m (45 :: t) 1 true hw t.length 1 0 (by simp; omega) (by omega) (Nat.pow_pos (by decide)) with ⟨g1, g2, g3⟩ | ⟨g1, σ, cs, g2, g3⟩
          · simp only [List.drop_succ_cons, List.drop_zero] at g1 g2 g3
            generalize hu : digFold 0 t = u at *
            have hD := r_decimal m (wrap_in (IntKind.u64.wrap (-(u : Int))))
            refine ⟨IntKind.i64.wrap (IntKind.u64.wrap (-(u : Int))), decide (Lib.itoa (IntKind.i64.wrap (IntKind.u64.wrap (-(u : Int)))) = 45 :: t), hc _ _ ?_, ?_⟩
            · simp [qnSt, qnEx, qnKs] at g2
              simp [s_backstepref22_number, w20, w19, p0, ht, e0, h1, e1, e2, g2, hD]
            · by_cases hq : Lib.itoa (IntKind.i64.wrap (IntKind.u64.wrap (-(u : Int)))) = 45 :: t
              · refine .inl ⟨by simp [hq], ?_⟩
                have h64 := wrap_in (IntKind.u64.wrap (-(u : Int)))
                rw [← hq]; exact canon_itoa h64.1 h64.2
              · refine .inr ⟨by simp [hq], ?_⟩
                cases h : canon (45 :: t) with
                | none => rfl
                | some v =>
                  obtain ⟨_, _, _, k1, k2⟩ := canon_neg h
                  rw [hu] at k1 k2
                  rw [wrap_neg k2, ← k1, canon_inv h] at hq
                  exact absurd rfl hq
          · simp only [List.drop_succ_cons, List.drop_zero] at g1
            refine ⟨0, false, hc 0 false ?_, .inr ⟨rfl, ?_⟩⟩
            · simp [qnSt, qnKs] at g2
              simp [s_backstepref22_number, w20, w19, p0, ht, e0, h1, e1, e2, g2, g3, -result]
            · cases h : canon (45 :: t) with
              | none => rfl
              | some v => exact absurd (canon_neg h).2.2.1 g1
    · have hb' : ¬ ((b.toNat : Int) = 45) := by
        intro h
        have h2 : b.toNat = (45 : UInt8).toNat := by show b.toNat = 45; omega
        exact hb (UInt8.toNat_inj.1 h2)
      have hb'' : ¬ (b.toNat = 45) := by omega
      by_cases h1 : 18 < t.length
      · have e1 : (19 : Int) < (t.length : Int) + 1 := by omega
        have e2 : (18 : Int) < (t.length : Int) := by omega
        have e0 : ¬ ((t.length : Int) + 1 = 0) := by omega
        refine ⟨0, false, hc 0 false (by simp [s_backstepref22_number, w20, w19, p0, hb, hb', hb'', h1, e0, e1, e2]), .inr ⟨rfl, ?_⟩⟩
        cases h : canon (b :: t) with
        | none => rfl
        | some v => have := (canon_pos hb h).1; simp at this; omega
      · have e1 : ¬ (19 : Int) < (t.length : Int) + 1 := by omega
        have e2 : ¬ (18 : Int) < (t.length : Int) := by omega
        have e0 : ¬ ((t.length : Int) + 1 = 0) := by omega
        rcases qn_loop m (b :: t) 0 false hw (t.length + 1) 0 0 (by simp) (by omega) (Nat.pow_pos (by decide)) with ⟨g1, g2, g3⟩ | ⟨g1, σ, cs, g2, g3⟩
        · simp only [List.drop_zero] at g1 g2 g3
          generalize hu : digFold 0 (b :: t) = u at *
          have hD := r_decimal m (wrap_in (u : Int))
          refine ⟨IntKind.i64.wrap (u : Int), decide (Lib.itoa (IntKind.i64.wrap (u : Int)) = b :: t), hc _ _ ?_, ?_⟩
          · simp [qnSt, qnEx, qnKs] at g2
            simp [s_backstepref22_number, w20, w19, p0, hb, hb', hb'', h1, e0, e1, e2, g2, hD]
          · by_cases hq : Lib.itoa (IntKind.i64.wrap (u : Int)) = b :: t
            · refine .inl ⟨by simp [hq], ?_⟩
              have h64 := wrap_in (u : Int)
              rw [← hq]; exact canon_itoa h64.1 h64.2
            · refine .inr ⟨by simp [hq], ?_⟩
              cases h : canon (b :: t) with
              | none => rfl
              | some v =>
                obtain ⟨_, _, k1, k2⟩ := canon_pos hb h
                rw [hu] at k1 k2
                rw [wrap_i64 (u : Int) (by omega) (by omega), ← k1, canon_inv h] at hq
                exact absurd rfl hq
        · simp only [List.drop_zero] at g1
          refine ⟨0, false, hc 0 false ?_, .inr ⟨rfl, ?_⟩⟩
          · simp [qnSt, qnKs] at g2
            simp [s_backstepref22_number, w20, w19, p0, hb, hb', hb'', h1, e0, e1, e2, g2, g3, -result]
          · cases h : canon (b :: t) with
            | none => rfl
            | some v => exact absurd (canon_pos hb h).2.1 g1
end Go.Ev.S
