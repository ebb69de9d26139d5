/- Machine code: the reference's number. -/
import Derived.Test.YtglggojbbenobaaGreatDoorEvR9
import Derived.Test.YtglggojbbenobaaGreatDoorEvR6
import Derived.Test.YtglggojbbenobaaGreatDoorKE
set_option linter.all false
namespace Go.Ev.S
open Go.Proofs Go.Ev.A
variable (m : Int)

def isDig (b : UInt8) : Prop := 48 ≤ b.toNat ∧ b.toNat ≤ 57
theorem canon_shape {w : List UInt8} {v : Int} (h : canon w = some v) : (v < 0 ∧ w = 45 :: Lib.decDigits v.natAbs) ∨ (0 ≤ v ∧ w = Lib.decDigits v.natAbs) := by
  have hi := canon_inv h
  by_cases hv : v < 0
  · left
    refine ⟨hv, ?_⟩
    rw [← hi]; unfold Lib.itoa; rw [if_pos hv]
  · right
    refine ⟨by omega, ?_⟩
    rw [← hi]; unfold Lib.itoa; rw [if_neg hv]
    congr 1; omega
theorem dec19 {v : Int} (h : -9223372036854775808 ≤ v ∧ v ≤ 9223372036854775807) : (Lib.decDigits v.natAbs).length ≤ 19 := dec_len 19 v.natAbs (by omega) (by omega)
theorem canon_neg {t : List UInt8} {v : Int} (h : canon (45 :: t) = some v) : 1 ≤ t.length ∧ t.length ≤ 19 ∧ (∀ b ∈ t, isDig b) ∧ v = -(digFold 0 t : Int) ∧ digFold 0 t ≤ 9223372036854775808 := by
  have hb := canon_bounds h
  have h19 := dec19 hb
  rcases canon_shape h with ⟨h1, h2⟩ | ⟨h1, h2⟩
  · simp only [List.cons.injEq, true_and] at h2
    subst h2
    have hp : 1 ≤ (Lib.decDigits v.natAbs).length := List.length_pos_iff.2 (dec_ne _)
    refine ⟨hp, h19, fun b hb => dec_digit _ _ (Nat.le_refl _) b hb, ?_, ?_⟩
    · rw [fold_dec _ _ (Nat.le_refl _)]; omega
    · rw [fold_dec _ _ (Nat.le_refl _)]; omega
  · have := dec_digit _ _ (Nat.le_refl _) 45 (by rw [← h2]; simp)
    simp at this
theorem canon_pos {b : UInt8} {t : List UInt8} {v : Int} (hb45 : b ≠ 45) (h : canon (b :: t) = some v) : (b :: t).length ≤ 19 ∧ (∀ c ∈ b :: t, isDig c) ∧ v = (digFold 0 (b :: t) : Int) ∧ digFold 0 (b :: t) ≤ 9223372036854775807 := by
  have hb := canon_bounds h
  have h19 := dec19 hb
  rcases canon_shape h with ⟨h1, h2⟩ | ⟨h1, h2⟩
  · simp only [List.cons.injEq] at h2
    exact absurd h2.1 hb45
  · rw [h2]
    refine ⟨h19, fun b hb => dec_digit _ _ (Nat.le_refl _) b hb, ?_, ?_⟩
    · rw [fold_dec _ _ (Nat.le_refl _)]; omega
    · rw [fold_dec _ _ (Nat.le_refl _)]; omega
theorem canon_nil : canon [] = none := by
  cases h : canon [] with
  | none => rfl
  | some v =>
    rcases canon_shape h with ⟨_, h2⟩ | ⟨_, h2⟩
    · cases h2
    · exact absurd h2.symm (dec_ne _)

def qnSt (w : List UInt8) (fr : Nat) (ng : Bool) (i u : Nat) : St := { env := [(0, .d (.str w)), (2, .d (.int .i64 0)), (3, .d (.bool false)), (4, .d (.int .i64 (fr : Int))), (15, .d (.bool ng)), (26, .d (.bool false)), (5, .d (.int .u64 (u : Int))), (6, .d (.int .i64 (i : Int)))], cells := [] }
def qnEx (w : List UInt8) (fr : Nat) (ng : Bool) (u : Nat) : St := { qnSt w fr ng w.length u with env := (qnSt w fr ng w.length u).env ++ [(31, .d (.bool false))] }
def qnKs : List Nat := [0, 2, 3, 4, 15, 26, 5, 6]

theorem digFold_cons (u : Nat) (b : UInt8) (s : List UInt8) : digFold u (b :: s) = digFold (10 * u + (b.toNat - 48)) s := by unfold digFold; rw [List.foldl_cons]

set_option maxHeartbeats 2000000 in
theorem qn_loop (w : List UInt8) (fr : Nat) (ng : Bool) (hwl : w.length ≤ 1000) : ∀ (k i u : Nat), i + k = w.length → k ≤ 19 → u < 10 ^ (19 - k) →
    ((∀ b ∈ w.drop i, isDig b) ∧ loopS (cfg m) s_backstepref22_number_l0 qnKs [] (qnSt w fr ng i u) = some (.exit 0, qnEx w fr ng (digFold u (w.drop i))) ∧ digFold u (w.drop i) < 10 ^ 19) ∨
    ((¬ ∀ b ∈ w.drop i, isDig b) ∧ ∃ σ cs, loopS (cfg m) s_backstepref22_number_l0 qnKs [] (qnSt w fr ng i u) = some (.ret, σ) ∧ result [.tmp 2, .tmp 3] σ = some (.tup [.d (.int .i64 0), .d (.bool false)], cs)) := by
  intro k
  induction k with
  | zero =>
    intro i u hi hk hu
    obtain rfl : i = w.length := by omega
    left
    rw [List.drop_length]
    refine ⟨by simp, loopS_exit ?_, hu⟩
    simp [s_backstepref22_number_l0, qnSt, qnEx, digFold]
  | succ k ih =>
    intro i u hi hk hu
    have hlt : i < w.length := by omega
    rw [List.drop_eq_getElem_cons hlt]
    have hw := wrap_i64 ((i : Int) + 1) (by omega) (by omega)
    have hb := w[i].toNat_lt
    by_cases c1 : (w[i].toNat : Int) < 48
    · have c1' : w[i].toNat < 48 := by omega
      right
      refine ⟨fun h => by have := (h w[i] (List.mem_cons_self ..)).1; omega, ?_⟩
      exact ⟨_, _, loopS_ret (by simp [s_backstepref22_number_l0, qnSt, hlt, c1, c1']; rfl), rfl⟩
    · have c1' : ¬ w[i].toNat < 48 := by omega
      by_cases c2 : 57 < (w[i].toNat : Int)
      · have c2' : 57 < w[i].toNat := by omega
        right
        refine ⟨fun h => by have := (h w[i] (List.mem_cons_self ..)).2; omega, ?_⟩
        exact ⟨_, _, loopS_ret (by simp [s_backstepref22_number_l0, qnSt, hlt, c1, c1', c2, c2']; rfl), rfl⟩
      · have c2' : ¬ 57 < w[i].toNat := by omega
        have hu2 : u < 10 ^ 18 := Nat.lt_of_lt_of_le hu (Nat.pow_le_pow_right (by decide) (by omega))
        have w1 : IntKind.u8.wrap ((w[i].toNat : Int) - 48) = (w[i].toNat : Int) - 48 := IntWalk.u8_in _ (by omega)
        have w2 : IntKind.u64.wrap ((w[i].toNat : Int) - 48) = (w[i].toNat : Int) - 48 := IntWalk.u64_in _ (by omega)
        have w3 : IntKind.u64.wrap (10 * (u : Int)) = 10 * (u : Int) := IntWalk.u64_in _ (by omega)
        have w4 : IntKind.u64.wrap (10 * (u : Int) + ((w[i].toNat : Int) - 48)) = ((10 * u + (w[i].toNat - 48) : Nat) : Int) := by
          rw [show 10 * (u : Int) + ((w[i].toNat : Int) - 48) = ((10 * u + (w[i].toNat - 48) : Nat) : Int) by omega]
          exact IntWalk.u64_in _ (by omega)
        have hu3 : 10 * u + (w[i].toNat - 48) < 10 ^ (19 - k) := by
          have e : 10 ^ (19 - k) = 10 * 10 ^ (19 - (k + 1)) := by
            rw [show 19 - k = (19 - (k + 1)) + 1 by omega, Nat.pow_succ, Nat.mul_comm]
          rw [e]; omega
        have hstep : ∃ σ', evalS (cfg m) s_backstepref22_number_l0 (qnSt w fr ng i u) = some (.normal, σ') ∧ σ'.norm qnKs [] = qnSt w fr ng (i + 1) (10 * u + (w[i].toNat - 48)) := by
          unfold qnSt
          generalize hN : 10 * u + (w[i].toNat - 48) = N at *
          simp [s_backstepref22_number_l0, qnKs, hlt, c1, c1', c2, c2', w1, w2, w3, w4, hw]
        obtain ⟨σ', g1, g2⟩ := hstep
        rw [digFold_cons]
        rcases ih (i + 1) (10 * u + (w[i].toNat - 48)) (by omega) (by omega) hu3 with ⟨h1, h2, h3⟩ | ⟨h1, σ, cs, h2, h3⟩
        · left
          refine ⟨fun b hb => ?_, loopS_step g1 (by rw [g2]; exact h2), h3⟩
          rcases List.mem_cons.1 hb with rfl | hb
          · exact ⟨by omega, by omega⟩
          · exact h1 b hb
        · right
          exact ⟨fun h => h1 (fun b hb => h b (List.mem_cons_of_mem _ hb)), σ, cs, loopS_step g1 (by rw [g2]; exact h2), h3⟩
end Go.Ev.S
