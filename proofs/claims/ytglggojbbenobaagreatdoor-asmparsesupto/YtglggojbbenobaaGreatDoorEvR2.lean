/- Machine code: the reference's numerals. -/
import Derived.Test.YtglggojbbenobaaGreatDoorEvR1
set_option linter.all false
namespace Go.Ev.S
open Go.Proofs Go.Ev.A
variable (m : Int)

theorem digs_at : ∀ d : Fin 10, ([48, 49, 50, 51, 52, 53, 54, 55, 56, 57].take (d.val + 1)).drop d.val = [UInt8.ofNat (48 + d.val)] := by decide
theorem dec_small {u : Nat} (h : u < 10) : Lib.decDigits u = [UInt8.ofNat (48 + u)] := by rw [Lib.decDigits, dif_pos h]
theorem dec_big {u : Nat} (h : ¬ u < 10) : Lib.decDigits u = Lib.decDigits (u / 10) ++ [UInt8.ofNat (48 + u % 10)] := by rw [Lib.decDigits, dif_neg h]

def dpSt (u : Nat) (s : List UInt8) : St := { env := [(0, .d (.int .i64 (u : Int))), (2, .d (.str [])), (7, .d (.bool false)), (5, .d (.str s))], cells := [] }
theorem dp_step (u : Nat) (h10 : ¬ u < 10) (hu : u ≤ 9223372036854775807) (s : List UInt8) (hs : s.length ≤ 1000) :
    ∃ σ', evalS (cfg m) s_backstepref22_Decimal_l0 (dpSt u s) = some (.normal, σ') ∧ σ'.norm [0, 2, 7, 5] [] = dpSt (u / 10) (UInt8.ofNat (48 + u / 10 % 10) :: s) := by
  have h' : (10 : Int) ≤ u := by omega
  have h'' : 10 ≤ u := by omega
  have q : (u : Int).tdiv 10 = ((u / 10 : Nat) : Int) := by rw [Int.tdiv_eq_ediv_of_nonneg (by omega)]; rfl
  have r : ((u / 10 : Nat) : Int).tmod 10 = ((u / 10 % 10 : Nat) : Int) := by rw [Int.tmod_eq_emod_of_nonneg (by omega)]; rfl
  have hw1 := wrap_i64 ((u / 10 : Nat) : Int) (by omega) (by omega)
  have hw2 := wrap_i64 (((u / 10 % 10 : Nat) : Int) + 1) (by omega) (by omega)
  have hd := digs_at ⟨u / 10 % 10, by omega⟩
  simp only at hd
  have hd10 : u / 10 % 10 < 10 := by omega
  unfold dpSt
  generalize hq : u / 10 = v at *
  generalize hr : v % 10 = d at *
  have c1 : d ≤ 9 := by omega
  have c2 : (0 : Int) ≤ (d : Int) + 1 := by omega
  have c3 : ((d : Int) + 1).toNat = d + 1 := by omega
  have b2 : 1 + s.length ≤ 9223372036854775807 := by omega
  have b3 : s.length + 1 ≤ 9223372036854775807 := by omega
  simp at hd
  simp [s_backstepref22_Decimal_l0, h', h'', q, r, hw1, hw2, hd10, c1, c2, c3, b2, b3]
  rw [hd]; rfl

def dpEx (u : Nat) (s : List UInt8) : St := { dpSt u s with env := (dpSt u s).env ++ [(30, .d (.bool false))] }
theorem dp_loop : ∀ (f u : Nat) (s : List UInt8), u < f → u ≤ 9223372036854775807 → s.length + f ≤ 9999999999999999999 → s.length + (Lib.decDigits u).length ≤ 100 →
    ∃ u', loopS (cfg m) s_backstepref22_Decimal_l0 [0, 2, 7, 5] [] (dpSt u s) = some (.exit 2, dpEx u' (if u < 10 then s else Lib.decDigits (u / 10) ++ s))
  | 0, u, s, h, _, _, _ => by omega
  | f + 1, u, s, h, hu, hf, hs => by
    by_cases h10 : u < 10
    · have h' : ¬ (10 : Int) ≤ u := by omega
      have h'' : ¬ 10 ≤ u := by omega
      refine ⟨u, loopS_exit ?_⟩
      rw [if_pos h10]
      simp [s_backstepref22_Decimal_l0, dpSt, dpEx, h', h'', h10]
    · obtain ⟨σ', g1, g2⟩ := dp_step m u h10 hu s (by omega)
      have hdb := dec_big h10
      have hlen : (Lib.decDigits u).length = (Lib.decDigits (u / 10)).length + 1 := by rw [hdb]; simp
      obtain ⟨u', g3⟩ := dp_loop f (u / 10) (UInt8.ofNat (48 + u / 10 % 10) :: s) (by omega) (by omega) (by simp; omega) (by simp; omega)
      refine ⟨u', ?_⟩
      rw [loopS_step g1 (by rw [g2]; exact g3), if_neg h10]
      congr 2
      by_cases h2 : u / 10 < 10
      · rw [if_pos h2, dec_small h2, Nat.mod_eq_of_lt h2]; rfl
      · rw [if_neg h2, dec_big h2]; simp

def dnSt (u : Nat) (s : List UInt8) : St := { env := [(0, .d (.int .i64 (-(u : Int)))), (2, .d (.str [])), (7, .d (.bool true)), (3, .d (.str s))], cells := [] }
theorem dn_step (u : Nat) (h0 : 0 < u) (hu : u ≤ 9223372036854775808) (s : List UInt8) (hs : s.length ≤ 1000) :
    ∃ σ', evalS (cfg m) s_backstepref22_Decimal_l1 (dnSt u s) = some (.normal, σ') ∧ σ'.norm [0, 2, 7, 3] [] = dnSt (u / 10) (UInt8.ofNat (48 + u % 10) :: s) := by
  have h' : (-(u : Int)) < 0 := by omega
  have q : (-(u : Int)).tdiv 10 = -((u / 10 : Nat) : Int) := by rw [Int.neg_tdiv, Int.tdiv_eq_ediv_of_nonneg (by omega)]; rfl
  have r : (-(u : Int)).tmod 10 = -((u % 10 : Nat) : Int) := by rw [Int.neg_tmod, Int.tmod_eq_emod_of_nonneg (by omega)]; rfl
  have hw1 := wrap_i64 (-((u / 10 : Nat) : Int)) (by omega) (by omega)
  have hw2 := wrap_i64 (((u % 10 : Nat) : Int) + 1) (by omega) (by omega)
  have hw3 := wrap_i64 (0 - -((u % 10 : Nat) : Int)) (by omega) (by omega)
  have e3 : (0 - -((u % 10 : Nat) : Int)) = ((u % 10 : Nat) : Int) := by omega
  rw [e3] at hw3
  have hd := digs_at ⟨u % 10, by omega⟩
  simp only at hd
  have hd10 : u % 10 < 10 := by omega
  have hu0 : 0 < u := h0
  have hune : ¬ u = 0 := by omega
  unfold dnSt
  generalize hq : u / 10 = v at *
  generalize hr : u % 10 = d at *
  have c1 : d ≤ 9 := by omega
  have c2 : (0 : Int) ≤ (d : Int) + 1 := by omega
  have c3 : ((d : Int) + 1).toNat = d + 1 := by omega
  have b2 : 1 + s.length ≤ 9223372036854775807 := by omega
  have b3 : s.length + 1 ≤ 9223372036854775807 := by omega
  simp at hd
  simp [s_backstepref22_Decimal_l1, h', hu0, hune, q, r, hw1, hw2, hw3, hd10, c1, c2, c3, b2, b3]
  rw [hd]; rfl

def dnEx (s : List UInt8) : St := { dnSt 0 s with env := (dnSt 0 s).env ++ [(9, .d (.bool false))] }
theorem dn_loop : ∀ (f u : Nat) (s : List UInt8), u < f → u ≤ 9223372036854775808 → s.length + (Lib.decDigits u).length ≤ 100 →
    loopS (cfg m) s_backstepref22_Decimal_l1 [0, 2, 7, 3] [] (dnSt u s) = some (.exit 0, dnEx (if u = 0 then s else Lib.decDigits u ++ s))
  | 0, u, s, h, _, _ => by omega
  | f + 1, u, s, h, hu, hs => by
    by_cases h0 : u = 0
    · subst h0
      refine loopS_exit ?_
      simp [s_backstepref22_Decimal_l1, dnSt, dnEx]
    · obtain ⟨σ', g1, g2⟩ := dn_step m u (by omega) hu s (by omega)
      have hle : (Lib.decDigits (u / 10)).length ≤ (Lib.decDigits u).length ∧ (u / 10 ≠ 0 → (Lib.decDigits (u / 10)).length + 1 ≤ (Lib.decDigits u).length) := by
        by_cases h10 : u < 10
        · have : u / 10 = 0 := by omega
          rw [this, dec_small h10, dec_small (by decide)]; simp
        · rw [dec_big h10]; simp
      have hlen1 : 1 ≤ (Lib.decDigits u).length := List.length_pos_iff.2 (dec_ne u)
      rw [if_neg h0]
      by_cases hz : u / 10 = 0
      · have g3 : loopS (cfg m) s_backstepref22_Decimal_l1 [0, 2, 7, 3] [] (dnSt (u / 10) (UInt8.ofNat (48 + u % 10) :: s)) = some (.exit 0, dnEx (UInt8.ofNat (48 + u % 10) :: s)) := by
          rw [hz]
          refine loopS_exit ?_
          simp [s_backstepref22_Decimal_l1, dnSt, dnEx]
        rw [loopS_step g1 (by rw [g2]; exact g3), dec_small (by omega), Nat.mod_eq_of_lt (by omega)]; rfl
      · have g3 := dn_loop f (u / 10) (UInt8.ofNat (48 + u % 10) :: s) (by omega) (by omega) (by have := hle.2 hz; simp; omega)
        rw [loopS_step g1 (by rw [g2]; exact g3), if_neg hz, dec_big (show ¬ u < 10 by omega)]
        simp

set_option maxHeartbeats 2000000 in
theorem r_decimal {x : Int} (hx : i64 x) : ev1 (cfg m) 55 [.d (.int .i64 x)] = some (.d (.str (Lib.itoa x))) := by
  refine ev1_fn rfl rfl ?_ rfl
  have hil := itoa_len hx.1 hx.2
  unfold i64 at hx
  by_cases hneg : x < 0
  · have hit : Lib.itoa x = 45 :: Lib.decDigits x.natAbs := by unfold Lib.itoa; rw [if_pos hneg]
    rw [hit] at hil ⊢
    simp at hil
    have hlp := dn_loop m (x.natAbs + 1) x.natAbs [] (by omega) (by omega) (by simp; omega)
    rw [if_neg (by omega), List.append_nil] at hlp
    have e : -((x.natAbs : Nat) : Int) = x := by omega
    simp only [dnSt, dnEx, e] at hlp
    simp at hlp
    have b1 : 1 + (Lib.decDigits x.natAbs).length ≤ 9223372036854775807 := by omega
    have b2 : (Lib.decDigits x.natAbs).length + 1 ≤ 9223372036854775807 := by omega
    simp [s_backstepref22_Decimal, hneg, hlp, b1, b2]
  · obtain ⟨u, rfl⟩ : ∃ u : Nat, x = (u : Int) := ⟨x.toNat, by omega⟩
    have hit : Lib.itoa (u : Int) = Lib.decDigits u := by unfold Lib.itoa; rw [if_neg hneg]; rfl
    rw [hit] at hil ⊢
    have r : (u : Int).tmod 10 = ((u % 10 : Nat) : Int) := by rw [Int.tmod_eq_emod_of_nonneg (by omega)]; rfl
    have hw2 := wrap_i64 (((u % 10 : Nat) : Int) + 1) (by omega) (by omega)
    have hd := digs_at ⟨u % 10, by omega⟩
    simp only at hd
    have hd10 : u % 10 < 10 := by omega
    obtain ⟨u', hlp⟩ := dp_loop m (u + 1) u [UInt8.ofNat (48 + u % 10)] (by omega) (by omega) (by simp; omega) (by simp; omega)
    have hres : (if u < 10 then [UInt8.ofNat (48 + u % 10)] else Lib.decDigits (u / 10) ++ [UInt8.ofNat (48 + u % 10)]) = Lib.decDigits u := by
      by_cases h10 : u < 10
      · rw [if_pos h10, dec_small h10, Nat.mod_eq_of_lt h10]
      · rw [if_neg h10, dec_big h10]
    rw [hres] at hlp
    simp only [dpSt, dpEx] at hlp
    simp at hlp
    generalize hr : u % 10 = d at *
    have c1 : d ≤ 9 := by omega
    have c2 : (0 : Int) ≤ (d : Int) + 1 := by omega
    have c3 : ((d : Int) + 1).toNat = d + 1 := by omega
    simp at hd
    have hneg' : ¬ (u : Int) < 0 := hneg
    simp [s_backstepref22_Decimal, hneg', r, hw2, hd10, c1, c2, c3]
    rw [hd]
    simp [hlp]
end Go.Ev.S
