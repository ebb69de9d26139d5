/- Machine code: the operands of an instruction taken from bytes. -/
import Derived.Test.YtglggojbbenobaaGreatDoorEvE15
set_option linter.all false
namespace Go.Ev.S
open Go.Proofs Go.Ev.A
variable (m : Int)

/-- The outer loop's state, and the inner's. -/
def doEnv (b0 : List UInt8) (n k : Nat) : Env := [(0, .d (.sl (ofBytes b0))), (1, .ptr 1000 0 []), (2, .own 1004), (3, .d (.int .i64 0)), (4, .d (.int .i64 (n : Int))), (5, .d (.bool true)), (20, .d (.bool false)), (22, .d (.bool false)), (6, .own 2536), (23, .d (.int .i64 (n : Int))), (24, .d (.int .i64 (k : Int)))]
def doCells (b : List UInt8) (out : List Ins) : Cells := [(1000, .var 29 (.d (.sl (ofBytes b)))), (1004, .row 43 5 []), (2536, .row 43 5 (out.map Ins.D))]
def doSt (b0 : List UInt8) (n k : Nat) (b : List UInt8) (out : List Ins) : St := { env := doEnv b0 n k, cells := doCells b out }
def doKs : List Nat := [0, 1, 2, 3, 4, 5, 20, 22, 6, 23, 24]
def doTs : List Nat := [1000, 1004, 2536]
def diSt (b0 : List UInt8) (n k : Nat) (b : List UInt8) (out : List Ins) (op : Nat) (cs : List UInt8) (j : Nat) (xs : List Int) : St :=
  { env := doEnv b0 n k ++ [(25, .d (.bool true)), (7, .d (.int .i64 (op : Int))), (8, .d (.bool true)), (31, .d (.bool false)), (33, .d (.bool false)), (9, .ptr 4596 0 []), (10, .ptr 4844 0 []), (41, .d (.sl (ofBytes cs))), (42, .d (.int .i64 (cs.length : Int))), (43, .d (.int .i64 (j : Int)))],
    cells := doCells b out ++ [(4596, .var 43 (.d (insOf op xs).D)), (4844, .var 71 (ptrs 4596))] }
def diKs : List Nat := [0, 1, 2, 3, 4, 5, 20, 22, 6, 23, 24, 25, 7, 8, 31, 33, 9, 10, 41, 42, 43]
def diTs : List Nat := [1000, 1004, 2536, 4596, 4844]
def dRs : List SRes := [.tmp 2, .tmp 3]

set_option maxHeartbeats 8000000 in
theorem di_step (b0 : List UInt8) (n k : Nat) (b : List UInt8) (hb : b.length ≤ 1000000) (out : List Ins) (op : Nat) (cs : List UInt8) (hl : cs.length ≤ 4) (j : Nat) (xs : List Int) (hxs : xs.length = j) (c : UInt8) (hc : cs[j]? = some c) :
    if b.length < width c then ∃ σ' cs', evalS (cfg m) s_asm_Decode_l0 (diSt b0 n k b out op cs j xs) = some (.ret, σ') ∧ result dRs σ' = some (.tup [.d (.sl []), .d (.int .i64 4)], cs')
    else ∃ σ', evalS (cfg m) s_asm_Decode_l0 (diSt b0 n k b out op cs j xs) = some (.normal, σ') ∧ σ'.norm diKs diTs = diSt b0 n k (b.drop (width c)) out op cs (j + 1) (xs ++ [numI (b.take (width c))]) := by
  have h1 := e_size m c
  have hw8 : width c ≤ 8 := by rcases width_cases c with h | h | h <;> omega
  have ht := ev_take m b (width c) hw8 hb
  have hk := (List.getElem?_eq_some_iff.1 hc).1
  have hd : ofBytes (b.drop (width c)) = (ofBytes b).drop (width c) := by simp [ofBytes, List.map_drop]
  split
  · rename_i hlt
    rw [if_pos hlt] at ht
    rcases shape4 hl with rfl | ⟨c1, rfl⟩ | ⟨c1, c2, rfl⟩ | ⟨c1, c2, c3, rfl⟩ | ⟨c1, c2, c3, c4, rfl⟩
    · simp at hk
    · have hk4 : j = 0 := by simp at hk; omega
      rcases hk4 with rfl
      · obtain rfl : xs = [] := List.length_eq_zero_iff.1 hxs
        simp at hc; subst hc
        simp [s_asm_Decode_l0, diSt, diKs, diTs, dRs, doEnv, doCells, ptrs, Ins.D, insOf, ofB1, ofB2, ofB3, ofB4, h1, callEff, reach, pass, over, without, noVars, newTags, pickT, swapped, V.ren, V.renL, Cell.ren, ht]
    · have hk4 : j = 0 ∨ j = 1 := by simp at hk; omega
      rcases hk4 with rfl | rfl
      · obtain rfl : xs = [] := List.length_eq_zero_iff.1 hxs
        simp at hc; subst hc
        simp [s_asm_Decode_l0, diSt, diKs, diTs, dRs, doEnv, doCells, ptrs, Ins.D, insOf, ofB1, ofB2, ofB3, ofB4, h1, callEff, reach, pass, over, without, noVars, newTags, pickT, swapped, V.ren, V.renL, Cell.ren, ht]
      · obtain ⟨x0, rfl⟩ : ∃ x0, xs = [x0] := by
          match xs, hxs with | [x0], _ => exact ⟨x0, rfl⟩
        simp at hc; subst hc
        simp [s_asm_Decode_l0, diSt, diKs, diTs, dRs, doEnv, doCells, ptrs, Ins.D, insOf, ofB1, ofB2, ofB3, ofB4, h1, callEff, reach, pass, over, without, noVars, newTags, pickT, swapped, V.ren, V.renL, Cell.ren, ht]
    · have hk4 : j = 0 ∨ j = 1 ∨ j = 2 := by simp at hk; omega
      rcases hk4 with rfl | rfl | rfl
      · obtain rfl : xs = [] := List.length_eq_zero_iff.1 hxs
        simp at hc; subst hc
        simp [s_asm_Decode_l0, diSt, diKs, diTs, dRs, doEnv, doCells, ptrs, Ins.D, insOf, ofB1, ofB2, ofB3, ofB4, h1, callEff, reach, pass, over, without, noVars, newTags, pickT, swapped, V.ren, V.renL, Cell.ren, ht]
      · obtain ⟨x0, rfl⟩ : ∃ x0, xs = [x0] := by
          match xs, hxs with | [x0], _ => exact ⟨x0, rfl⟩
        simp at hc; subst hc
        simp [s_asm_Decode_l0, diSt, diKs, diTs, dRs, doEnv, doCells, ptrs, Ins.D, insOf, ofB1, ofB2, ofB3, ofB4, h1, callEff, reach, pass, over, without, noVars, newTags, pickT, swapped, V.ren, V.renL, Cell.ren, ht]
      · obtain ⟨x0, x1, rfl⟩ : ∃ x0 x1, xs = [x0, x1] := by
          match xs, hxs with | [x0, x1], _ => exact ⟨x0, x1, rfl⟩
        simp at hc; subst hc
        simp [s_asm_Decode_l0, diSt, diKs, diTs, dRs, doEnv, doCells, ptrs, Ins.D, insOf, ofB1, ofB2, ofB3, ofB4, h1, callEff, reach, pass, over, without, noVars, newTags, pickT, swapped, V.ren, V.renL, Cell.ren, ht]
    · have hk4 : j = 0 ∨ j = 1 ∨ j = 2 ∨ j = 3 := by simp at hk; omega
      rcases hk4 with rfl | rfl | rfl | rfl
      · obtain rfl : xs = [] := List.length_eq_zero_iff.1 hxs
        simp at hc; subst hc
        simp [s_asm_Decode_l0, diSt, diKs, diTs, dRs, doEnv, doCells, ptrs, Ins.D, insOf, ofB1, ofB2, ofB3, ofB4, h1, callEff, reach, pass, over, without, noVars, newTags, pickT, swapped, V.ren, V.renL, Cell.ren, ht]
      · obtain ⟨x0, rfl⟩ : ∃ x0, xs = [x0] := by
          match xs, hxs with | [x0], _ => exact ⟨x0, rfl⟩
        simp at hc; subst hc
        simp [s_asm_Decode_l0, diSt, diKs, diTs, dRs, doEnv, doCells, ptrs, Ins.D, insOf, ofB1, ofB2, ofB3, ofB4, h1, callEff, reach, pass, over, without, noVars, newTags, pickT, swapped, V.ren, V.renL, Cell.ren, ht]
      · obtain ⟨x0, x1, rfl⟩ : ∃ x0 x1, xs = [x0, x1] := by
          match xs, hxs with | [x0, x1], _ => exact ⟨x0, x1, rfl⟩
        simp at hc; subst hc
        simp [s_asm_Decode_l0, diSt, diKs, diTs, dRs, doEnv, doCells, ptrs, Ins.D, insOf, ofB1, ofB2, ofB3, ofB4, h1, callEff, reach, pass, over, without, noVars, newTags, pickT, swapped, V.ren, V.renL, Cell.ren, ht]
      · obtain ⟨x0, x1, x2, rfl⟩ : ∃ x0 x1 x2, xs = [x0, x1, x2] := by
          match xs, hxs with | [x0, x1, x2], _ => exact ⟨x0, x1, x2, rfl⟩
        simp at hc; subst hc
        simp [s_asm_Decode_l0, diSt, diKs, diTs, dRs, doEnv, doCells, ptrs, Ins.D, insOf, ofB1, ofB2, ofB3, ofB4, h1, callEff, reach, pass, over, without, noVars, newTags, pickT, swapped, V.ren, V.renL, Cell.ren, ht]
  · rename_i hlt
    rw [if_neg hlt] at ht
    generalize numI (b.take (width c)) = x at *
    generalize b.drop (width c) = b' at *
    rcases shape4 hl with rfl | ⟨c1, rfl⟩ | ⟨c1, c2, rfl⟩ | ⟨c1, c2, c3, rfl⟩ | ⟨c1, c2, c3, c4, rfl⟩
    · simp at hk
    · have hk4 : j = 0 := by simp at hk; omega
      rcases hk4 with rfl
      · obtain rfl : xs = [] := List.length_eq_zero_iff.1 hxs
        simp at hc; subst hc
        simp [s_asm_Decode_l0, diSt, diKs, diTs, dRs, doEnv, doCells, ptrs, Ins.D, insOf, ofB1, ofB2, ofB3, ofB4, h1, callEff, reach, pass, over, without, noVars, newTags, pickT, swapped, V.ren, V.renL, Cell.ren, ht]
    · have hk4 : j = 0 ∨ j = 1 := by simp at hk; omega
      rcases hk4 with rfl | rfl
      · obtain rfl : xs = [] := List.length_eq_zero_iff.1 hxs
        simp at hc; subst hc
        simp [s_asm_Decode_l0, diSt, diKs, diTs, dRs, doEnv, doCells, ptrs, Ins.D, insOf, ofB1, ofB2, ofB3, ofB4, h1, callEff, reach, pass, over, without, noVars, newTags, pickT, swapped, V.ren, V.renL, Cell.ren, ht]
      · obtain ⟨x0, rfl⟩ : ∃ x0, xs = [x0] := by
          match xs, hxs with | [x0], _ => exact ⟨x0, rfl⟩
        simp at hc; subst hc
        simp [s_asm_Decode_l0, diSt, diKs, diTs, dRs, doEnv, doCells, ptrs, Ins.D, insOf, ofB1, ofB2, ofB3, ofB4, h1, callEff, reach, pass, over, without, noVars, newTags, pickT, swapped, V.ren, V.renL, Cell.ren, ht]
    · have hk4 : j = 0 ∨ j = 1 ∨ j = 2 := by simp at hk; omega
      rcases hk4 with rfl | rfl | rfl
      · obtain rfl : xs = [] := List.length_eq_zero_iff.1 hxs
        simp at hc; subst hc
        simp [s_asm_Decode_l0, diSt, diKs, diTs, dRs, doEnv, doCells, ptrs, Ins.D, insOf, ofB1, ofB2, ofB3, ofB4, h1, callEff, reach, pass, over, without, noVars, newTags, pickT, swapped, V.ren, V.renL, Cell.ren, ht]
      · obtain ⟨x0, rfl⟩ : ∃ x0, xs = [x0] := by
          match xs, hxs with | [x0], _ => exact ⟨x0, rfl⟩
        simp at hc; subst hc
        simp [s_asm_Decode_l0, diSt, diKs, diTs, dRs, doEnv, doCells, ptrs, Ins.D, insOf, ofB1, ofB2, ofB3, ofB4, h1, callEff, reach, pass, over, without, noVars, newTags, pickT, swapped, V.ren, V.renL, Cell.ren, ht]
      · obtain ⟨x0, x1, rfl⟩ : ∃ x0 x1, xs = [x0, x1] := by
          match xs, hxs with | [x0, x1], _ => exact ⟨x0, x1, rfl⟩
        simp at hc; subst hc
        simp [s_asm_Decode_l0, diSt, diKs, diTs, dRs, doEnv, doCells, ptrs, Ins.D, insOf, ofB1, ofB2, ofB3, ofB4, h1, callEff, reach, pass, over, without, noVars, newTags, pickT, swapped, V.ren, V.renL, Cell.ren, ht]
    · have hk4 : j = 0 ∨ j = 1 ∨ j = 2 ∨ j = 3 := by simp at hk; omega
      rcases hk4 with rfl | rfl | rfl | rfl
      · obtain rfl : xs = [] := List.length_eq_zero_iff.1 hxs
        simp at hc; subst hc
        simp [s_asm_Decode_l0, diSt, diKs, diTs, dRs, doEnv, doCells, ptrs, Ins.D, insOf, ofB1, ofB2, ofB3, ofB4, h1, callEff, reach, pass, over, without, noVars, newTags, pickT, swapped, V.ren, V.renL, Cell.ren, ht]
      · obtain ⟨x0, rfl⟩ : ∃ x0, xs = [x0] := by
          match xs, hxs with | [x0], _ => exact ⟨x0, rfl⟩
        simp at hc; subst hc
        simp [s_asm_Decode_l0, diSt, diKs, diTs, dRs, doEnv, doCells, ptrs, Ins.D, insOf, ofB1, ofB2, ofB3, ofB4, h1, callEff, reach, pass, over, without, noVars, newTags, pickT, swapped, V.ren, V.renL, Cell.ren, ht]
      · obtain ⟨x0, x1, rfl⟩ : ∃ x0 x1, xs = [x0, x1] := by
          match xs, hxs with | [x0, x1], _ => exact ⟨x0, x1, rfl⟩
        simp at hc; subst hc
        simp [s_asm_Decode_l0, diSt, diKs, diTs, dRs, doEnv, doCells, ptrs, Ins.D, insOf, ofB1, ofB2, ofB3, ofB4, h1, callEff, reach, pass, over, without, noVars, newTags, pickT, swapped, V.ren, V.renL, Cell.ren, ht]
      · obtain ⟨x0, x1, x2, rfl⟩ : ∃ x0 x1 x2, xs = [x0, x1, x2] := by
          match xs, hxs with | [x0, x1, x2], _ => exact ⟨x0, x1, x2, rfl⟩
        simp at hc; subst hc
        simp [s_asm_Decode_l0, diSt, diKs, diTs, dRs, doEnv, doCells, ptrs, Ins.D, insOf, ofB1, ofB2, ofB3, ofB4, h1, callEff, reach, pass, over, without, noVars, newTags, pickT, swapped, V.ren, V.renL, Cell.ren, ht]
end Go.Ev.S
