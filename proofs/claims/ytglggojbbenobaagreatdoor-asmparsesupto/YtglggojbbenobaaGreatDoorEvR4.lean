/- Machine code: the reference's bytes. -/
import Derived.Test.YtglggojbbenobaaGreatDoorEvR3
import Derived.Test.YtglggojbbenobaaGreatDoorEvE8
set_option linter.all false
namespace Go.Ev.S
open Go.Proofs Go.Ev.A
variable (m : Int)

theorem r_width (c : UInt8) (hc : c = 114 ∨ c = 111 ∨ c = 110 ∨ c = 101 ∨ c = 107 ∨ c = 116) : ev1 (cfg m) 40 [.d (.int .u8 (c.toNat : Int))] = some (.d (.int .i64 (width c : Int))) := by
  refine ev1_fn rfl rfl ?_ rfl
  rcases hc with rfl | rfl | rfl | rfl | rfl | rfl <;> simp [s_backstepref22_Width, width]

def rbSt (x n k : Int) (l : List UInt8) : St := { env := [(0, .d (.int .i64 x)), (1, .d (.int .i64 n)), (4, .own 1000), (5, .own 1256), (6, .d (.int .i64 k))], cells := [(1000, .row 5 1 []), (1256, .row 5 1 (ofBytes l))] }
def rbEx (x n k : Int) (l : List UInt8) : St := { rbSt x n k l with env := (rbSt x n k l).env ++ [(10, .d (.bool false))] }

set_option maxHeartbeats 2000000 in
theorem rb_step (x n : Int) (j : Nat) (hj : j < 8) (l : List UInt8) (hl : l.length ≤ 100000000) :
    ∃ σ', evalS (cfg m) s_backstepref22_Bytes_l0 (rbSt x n (j : Int) l) = some (.normal, σ') ∧ σ'.norm [0, 1, 4, 5, 6] [1000, 1256] = rbSt x n ((j : Int) - 1) (l ++ [UInt8.ofNat (low x / 256 ^ j % 256)]) := by
  have hw1 := wrap_i64 (8 * (j : Int)) (by omega) (by omega)
  have hw2 := wrap_i64 ((j : Int) - 1) (by omega) (by omega)
  have hn : ¬ (8 * (j : Int) < 0) := by omega
  have hmin : min (8 * (j : Int)).toNat 64 = 8 * j := by omega
  have hb := shift_byte (low x) j
  have b1 : l.length + 1 ≤ 140737488355328 := by omega
  have hsh : shiftBin .shr .u64 (low x : Int) (8 * (j : Int)) = some (.int .u64 (Int.fdiv (low x : Int) (2 ^ (8 * j)))) := by
    have hbits : IntKind.u64.bits = 64 := rfl
    simp only [shiftBin, if_neg hn, hbits, hmin]
  simp at hb
  simp [s_backstepref22_Bytes_l0, rbSt, hw1, hw2, hsh, low_wrap, hb, b1, ofBytes_snoc]

theorem rb_loop (x n : Int) : ∀ (j : Nat) (l : List UInt8), j ≤ 8 → l.length + j ≤ 90000010 →
    loopS (cfg m) s_backstepref22_Bytes_l0 [0, 1, 4, 5, 6] [1000, 1256] (rbSt x n ((j : Int) - 1) l) = some (.exit 0, rbEx x n (-1) (l ++ be j (low x)))
  | 0, l, _, _ => by
    refine loopS_exit ?_
    simp [s_backstepref22_Bytes_l0, rbSt, rbEx, be]
  | j + 1, l, hj, hl => by
    obtain ⟨σ', h1, h2⟩ := rb_step m x n j (by omega) l (by omega)
    have e : (((j + 1 : Nat) : Int) - 1) = (j : Int) := by omega
    rw [e]
    refine loopS_step h1 ?_
    rw [h2, rb_loop x n j _ (by omega) (by simp only [List.length_append, List.length_singleton]; omega)]
    simp [be]

theorem r_bytes (x : Int) (n : Nat) (hn : n ≤ 8) :
    ev (cfg m) 37 [.d (.int .i64 x), .d (.int .i64 (n : Int))] [] = some (.own 1256, [(1000, .row 5 1 []), (1256, .row 5 1 (ofBytes (beI n x)))]) := by
  refine ev_fnS rfl rfl ?_
  have h := rb_loop m x n n [] hn (by simp; omega)
  have hw := wrap_i64 ((n : Int) - 1) (by omega) (by omega)
  have e0 : ofBytes [] = [] := rfl
  simp [rbSt, rbEx, e0] at h
  simp [s_backstepref22_Bytes, hw, h, beI]

def reSt (l : List Ins) (idx : Nat) (cs : List UInt8) (k : Nat) (b : List UInt8) (op : Int) : St :=
  { env := [(0, .d (.sl (l.map Ins.D))), (2, .own 1000), (3, .d (.int .i64 0)), (4, .d (.int .i64 0)), (13, .d (.bool false)), (5, .own 2032), (6, .d (.int .i64 (idx : Int))), (21, .d (.bool true)), (7, .d (.str cs)), (9, .d (.int .i64 (k : Int)))],
    cells := [(1000, .row 5 1 []), (2032, .row 5 1 (ofBytes b)), (3072, .row 5 1 [.int .u8 op])] }
def reKs : List Nat := [0, 2, 3, 4, 13, 5, 6, 21, 7, 9]
def reTs : List Nat := [1000, 2032, 3072]

set_option maxHeartbeats 8000000 in
theorem re_step (l : List Ins) (idx : Nat) (hi : idx < l.length) (cs : List UInt8) (hl : cs.length ≤ 4) (k : Nat) (c : UInt8) (hcc : c = 114 ∨ c = 111 ∨ c = 110 ∨ c = 101 ∨ c = 107 ∨ c = 116) (x : Int) (b : List UInt8) (hb : b.length ≤ 80000000)
    (hk : cs[k]? = some c) (hx : l[idx].args[k]? = some x) :
    ∃ σ', evalS (cfg m) s_backstepref22_Encode_l0 (reSt l idx cs k b l[idx].op) = some (.normal, σ') ∧ σ'.norm reKs reTs = reSt l idx cs (k + 1) (b ++ beI (width c) x) l[idx].op := by
  have h1 := r_width m c hcc
  have h2 := r_bytes m x (width c) (by rcases width_cases c with h | h | h <;> omega)
  have hbl : (beI (width c) x).length ≤ 8 := by rw [beI_len]; rcases width_cases c with h | h | h <;> omega
  have hck : k < cs.length := (List.getElem?_eq_some_iff.1 hk).1
  have hop : ev1 (cfg m) 39 [.d l[idx].D, .d (.int .i64 (k : Int))] = some (.d (.int .i64 x)) := by
    have hk4 : k = 0 ∨ k = 1 ∨ k = 2 ∨ k = 3 := by omega
    generalize l[idx] = i at hx
    obtain ⟨op, a, bb, cc, d⟩ := i
    rcases hk4 with rfl | rfl | rfl | rfl <;> simp [Ins.args] at hx <;> subst hx
    · exact r_op0 m ..
    · exact r_op1 m ..
    · exact r_op2 m ..
    · exact r_op3 m ..
  have hw := wrap_i64 ((k : Int) + 1) (by omega) (by omega)
  have b1 : b.length + (beI (width c) x).length ≤ 140737488355328 := by omega
  have hob : ofBytes (b ++ beI (width c) x) = ofBytes b ++ ofBytes (beI (width c) x) := by simp [ofBytes]
  unfold reSt
  rw [hob]
  generalize beI (width c) x = B at *
  have hgc : cs[k] = c := by have := List.getElem?_eq_some_iff.1 hk; exact this.2
  simp [s_backstepref22_Encode_l0, reKs, reTs, hi, hck, hgc, hop, h1, h2, hw, b1, callEff, reach, pass, over, without, noVars, newTags, pickT, swapped, V.ren, V.renL, Cell.ren]
end Go.Ev.S
