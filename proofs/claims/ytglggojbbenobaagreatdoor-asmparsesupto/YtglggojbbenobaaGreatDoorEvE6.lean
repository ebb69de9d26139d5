/- Machine code: numbers as bytes. -/
import Derived.Test.YtglggojbbenobaaGreatDoorEvE5
set_option linter.all false
namespace Go.Ev.S
open Go.Proofs Go.Ev.A
variable (m : Int)

theorem low_wrap (x : Int) : IntKind.u64.wrap x = (low x : Int) := by
  have h : IntKind.u64.wrap x = x % 18446744073709551616 := rfl
  rw [h]
  unfold low
  have := Int.emod_nonneg x (show (18446744073709551616 : Int) ≠ 0 by decide)
  omega
theorem shift_byte (u k : Nat) : IntKind.u8.wrap (Int.fdiv (u : Int) (2 ^ (8 * k))) = ((UInt8.ofNat (u / 256 ^ k % 256)).toNat : Int) := by
  have h1 : Int.fdiv (u : Int) (2 ^ (8 * k)) = ((u / 256 ^ k : Nat) : Int) := by
    rw [Int.fdiv_eq_ediv_of_nonneg _ (Int.le_of_lt (Int.pow_pos (by decide)))]
    have : (2 : Int) ^ (8 * k) = ((256 ^ k : Nat) : Int) := by
      rw [Int.pow_mul]; simp
    rw [this]; rfl
  have h2 : ∀ n : Int, IntKind.u8.wrap n = n % 256 := fun n => rfl
  rw [h1, h2, UInt8.toNat_ofNat']
  omega

def putC (fr : Bool) (l : List UInt8) : Cells := if fr then [(1000, .row 5 1 []), (2056, .row 5 1 (ofBytes l))] else [(0, .row 5 1 (ofBytes l)), (1000, .row 5 1 [])]
def putV (fr : Bool) : V := .own (if fr then 2056 else 0)
def putTs (fr : Bool) : List Nat := if fr then [1000] else [0, 1000]
def putSt (fr : Bool) (x n k : Int) (l : List UInt8) : St := { env := [(0, putV fr), (1, .d (.int .i64 x)), (2, .d (.int .i64 n)), (6, .own 1000), (7, .d (.int .i64 k))], cells := putC fr l }
def putEx (fr : Bool) (x n k : Int) (l : List UInt8) : St := { putSt fr x n k l with env := (putSt fr x n k l).env ++ [(11, .d (.bool false))] }

theorem ofBytes_snoc (l : List UInt8) (b : UInt8) : ofBytes (l ++ [b]) = ofBytes l ++ [.int .u8 b.toNat] := by simp [ofBytes]

set_option maxHeartbeats 2000000 in
theorem put_step (fr : Bool) (x n : Int) (j : Nat) (hj : j < 8) (l : List UInt8) (hl : l.length ≤ 100000000) :
    ∃ σ', evalS (cfg m) s_asm_put_l0 (putSt fr x n (j : Int) l) = some (.normal, σ') ∧ σ'.norm [0, 1, 2, 6, 7] (putTs fr) = putSt fr x n ((j : Int) - 1) (l ++ [UInt8.ofNat (low x / 256 ^ j % 256)]) := by
  have hw1 := wrap_i64 (8 * (j : Int)) (by omega) (by omega)
  have hw2 := wrap_i64 ((j : Int) - 1) (by omega) (by omega)
  have hn : ¬ (8 * (j : Int) < 0) := by omega
  have hmin : min (8 * (j : Int)).toNat 64 = 8 * j := by omega
  have hb := shift_byte (low x) j
  have b1 : l.length + 1 ≤ 140737488355328 := by omega
  have hsh : shiftBin .shr .u64 (low x : Int) (8 * (j : Int)) = some (.int .u64 (Int.fdiv (low x : Int) (2 ^ (8 * j)))) := by
    have hbits : IntKind.u64.bits = 64 := rfl
    simp only [shiftBin, if_neg hn, hbits, hmin]
  simp at hb
  cases fr <;> simp [s_asm_put_l0, putSt, putC, putV, putTs, hw1, hw2, hsh, low_wrap, hb, b1, ofBytes_snoc]

theorem put_loop (fr : Bool) (x n : Int) : ∀ (j : Nat) (l : List UInt8), j ≤ 8 → l.length + j ≤ 90000010 →
    loopS (cfg m) s_asm_put_l0 [0, 1, 2, 6, 7] (putTs fr) (putSt fr x n ((j : Int) - 1) l) = some (.exit 0, putEx fr x n (-1) (l ++ be j (low x)))
  | 0, l, _, _ => by
    refine loopS_exit ?_
    simp [s_asm_put_l0, putSt, putEx, be]
  | j + 1, l, hj, hl => by
    obtain ⟨σ', h1, h2⟩ := put_step m fr x n j (by omega) l (by omega)
    have e : (((j + 1 : Nat) : Int) - 1) = (j : Int) := by omega
    rw [e]
    refine loopS_step h1 ?_
    rw [h2, put_loop fr x n j _ (by omega) (by simp only [List.length_append, List.length_singleton]; omega)]
    simp [be]

theorem put_own (x : Int) (n : Nat) (hn : n ≤ 8) (l : List UInt8) (hl : l.length ≤ 90000000) :
    ev (cfg m) 33 [.own 0, .d (.int .i64 x), .d (.int .i64 (n : Int))] [(0, .row 5 1 (ofBytes l))] = some (.own 0, [(0, .row 5 1 (ofBytes (l ++ beI n x))), (1000, .row 5 1 [])]) := by
  refine ev_fnS rfl rfl ?_
  have h := put_loop m false x n n l hn (by omega)
  have hw := wrap_i64 ((n : Int) - 1) (by omega) (by omega)
  simp [putSt, putEx, putC, putV, putTs] at h
  simp [s_asm_put, hw, h, beI]

theorem put_nil (x : Int) (n : Nat) (hn : n < 8) :
    ev (cfg m) 33 [.nils, .d (.int .i64 x), .d (.int .i64 ((n + 1 : Nat) : Int))] [] = some (.own 2056, [(1000, .row 5 1 []), (2056, .row 5 1 (ofBytes (beI (n + 1) x)))]) := by
  refine ev_fnS rfl rfl ?_
  have h := put_loop m true x ((n + 1 : Nat) : Int) n [UInt8.ofNat (low x / 256 ^ n % 256)] (by omega) (by simp; omega)
  have hw := wrap_i64 ((n : Int)) (by omega) (by omega)
  have e : (((n + 1 : Nat) : Int) - 1) = (n : Int) := by omega
  have hstep : ∃ σ', evalS (cfg m) s_asm_put_l0 { env := [(0, .nils), (1, .d (.int .i64 x)), (2, .d (.int .i64 ((n + 1 : Nat) : Int))), (6, .own 1000), (7, .d (.int .i64 (n : Int)))], cells := [(1000, .row 5 1 [])] } = some (.normal, σ') ∧
      σ'.norm [0, 1, 2, 6, 7] [1000] = putSt true x ((n + 1 : Nat) : Int) ((n : Int) - 1) [UInt8.ofNat (low x / 256 ^ n % 256)] := by
    have hw1 := wrap_i64 (8 * (n : Int)) (by omega) (by omega)
    have hw2 := wrap_i64 ((n : Int) - 1) (by omega) (by omega)
    have hn' : ¬ (8 * (n : Int) < 0) := by omega
    have hmin : min (8 * (n : Int)).toNat 64 = 8 * n := by omega
    have hb := shift_byte (low x) n
    have hsh : shiftBin .shr .u64 (low x : Int) (8 * (n : Int)) = some (.int .u64 (Int.fdiv (low x : Int) (2 ^ (8 * n)))) := by
      have hbits : IntKind.u64.bits = 64 := rfl
      simp only [shiftBin, if_neg hn', hbits, hmin]
    simp at hb
    simp [s_asm_put_l0, putSt, putC, putV, hw1, hw2, hsh, low_wrap, hb, ofBytes]
  obtain ⟨σ', g1, g2⟩ := hstep
  have hl := loopS_step g1 (by rw [g2]; exact h)
  simp [putEx, putSt, putC, putV, putTs] at hl
  simp [s_asm_put, hw, e, beI, be]
  rw [hl]
  simp
end Go.Ev.S
