/- Machine code: what the program's instruction set calls valid. -/
import Derived.Test.YtglggojbbenobaaGreatDoorEvE1
set_option linter.all false
namespace Go.Ev.S
open Go.Proofs Go.Ev.A
variable (m : Int)

theorem e_fits (c : UInt8) (x : Int) : ev1 (cfg m) 47 [.d (.int .u8 c.toNat), .d (.int .i64 x)] = some (.d (.bool (fitsC c x))) := by
  refine ev1_fn rfl rfl ?_ rfl
  have hn : ∀ k : UInt8, (((c.toNat : Nat) : Int) = (k.toNat : Nat)) ↔ c = k := fun k => by rw [Int.ofNat_inj, UInt8.toNat_inj]
  have e114 := hn 114; have e107 := hn 107; have e116 := hn 116; have e101 := hn 101; have e111 := hn 111
  simp at e114 e107 e116 e101 e111
  unfold fitsC
  by_cases h1 : c = 114
  · by_cases h : 0 ≤ x <;> simp [s_isa_fits, h1, h]
  · by_cases h2 : c = 107
    · by_cases h : 0 ≤ x <;> simp [s_isa_fits, h2, h]
    · by_cases h3 : c = 116
      · by_cases h : 0 ≤ x <;> simp [s_isa_fits, h3, h]
      · by_cases h4 : c = 101
        · by_cases h : 1 ≤ x <;> simp [s_isa_fits, h4, h]
        · by_cases h5 : c = 111
          · by_cases h : 8 ≤ x <;> simp [s_isa_fits, h5, h]
          · simp [s_isa_fits, e114, e107, e116, e101, e111, h1, h2, h3, h4, h5]

def _root_.Go.Ev.A.Ins.D (i : Ins) : D := .agg [.int .u8 i.op, .int .i64 i.a, .int .i64 i.b, .int .i64 i.c, .int .i64 i.d]
@[simp] theorem Ins_size (i : Ins) : i.D.size = 5 := rfl
@[simp] theorem Ins_isAgg (i : Ins) : i.D.isAgg = true := rfl
/-- The four operands' places. -/
def ptrs (t : Nat) : V := .agg [.ptr t 1 [1], .ptr t 2 [2], .ptr t 3 [3], .ptr t 4 [4]]
theorem ev_operands (i : Ins) : ev (cfg m) 46 [.ptr 0 0 []] [(0, .var 43 (.d i.D))] = some (.sptr 1304 4, [(0, .var 43 (.d i.D)), (1000, .row 70 1 []), (1304, .var 70 (ptrs 0))]) := by
  refine ev_fnS rfl rfl ?_
  simp [s_isa_operands, ptrs]

/-! ## Valid -/
@[simp] theorem w_1 : IntKind.i64.wrap 1 = 1 := by decide
@[simp] theorem w_2 : IntKind.i64.wrap 2 = 2 := by decide
@[simp] theorem w_3 : IntKind.i64.wrap 3 = 3 := by decide
@[simp] theorem w_4 : IntKind.i64.wrap 4 = 4 := by decide
def vaSt (i : Ins) (cs : List UInt8) (k : Nat) : St := { env := [(0, .d i.D), (1, .ptr 1000 0 []), (2, .d (.bool false)), (3, .ptr 1284 0 []), (4, .d (.bool true)), (15, .d (.bool false)), (16, .sptr 2024 4), (17, .d (.int .i64 4)), (18, .d (.int .i64 (k : Int)))], cells := [(1000, .var 43 (.d i.D)), (1284, .var 86 (.d (.agg [.str (mnem i.op), .str cs, .int .u8 (invM i.op)]))), (2024, .var 70 (ptrs 1000))] }
def vaKs : List Nat := [0, 1, 2, 3, 4, 15, 16, 17, 18]
def vaTs : List Nat := [1000, 1284, 2024]
def okAt (cs : List UInt8) (k : Nat) (x : Int) : Bool := match cs[k]? with | some c => fitsC c x | none => decide (x = 0)

theorem shape4 {cs : List UInt8} (h : cs.length ≤ 4) : cs = [] ∨ (∃ a, cs = [a]) ∨ (∃ a b, cs = [a, b]) ∨ (∃ a b c, cs = [a, b, c]) ∨ ∃ a b c d, cs = [a, b, c, d] := by
  match cs, h with
  | [], _ => simp
  | [a], _ => simp
  | [a, b], _ => simp
  | [a, b, c], _ => simp
  | [a, b, c, d], _ => simp
  | _ :: _ :: _ :: _ :: _ :: _, h => simp at h

set_option maxHeartbeats 4000000 in
theorem va_step (i : Ins) (cs : List UInt8) (hl : cs.length ≤ 4) (k : Nat) (x : Int) (hk : k < 4) (hx : i.args[k]? = some x) :
    if okAt cs k x = true then ∃ σ', evalS (cfg m) s_isa_Valid_l0 (vaSt i cs k) = some (.normal, σ') ∧ σ'.norm vaKs vaTs = vaSt i cs (k + 1)
    else ∃ σ' cs', evalS (cfg m) s_isa_Valid_l0 (vaSt i cs k) = some (.ret, σ') ∧ result [.tmp 2] σ' = some (.d (.bool false), cs') := by
  obtain ⟨op, a, b, c, d⟩ := i
  have hk4 : k = 0 ∨ k = 1 ∨ k = 2 ∨ k = 3 := by omega
  rcases hk4 with rfl | rfl | rfl | rfl <;> simp [Ins.args] at hx <;> subst hx <;>
  rcases shape4 hl with rfl | ⟨c1, rfl⟩ | ⟨c1, c2, rfl⟩ | ⟨c1, c2, c3, rfl⟩ | ⟨c1, c2, c3, c4, rfl⟩ <;>
  split <;> rename_i h <;> simp [okAt] at h <;>
  simp [s_isa_Valid_l0, vaSt, vaKs, vaTs, ptrs, Ins.D, e_fits, h]

theorem argsOk_drop (cs : List UInt8) : ∀ (k : Nat) (x : Int) (xs : List Int), argsOk (cs.drop k) (x :: xs) = (okAt cs k x && argsOk (cs.drop (k + 1)) xs) := by
  intro k x xs
  unfold okAt
  cases h : cs[k]? with
  | none =>
    have hk : cs.length ≤ k := List.getElem?_eq_none_iff.1 h
    rw [List.drop_eq_nil_of_le hk, List.drop_eq_nil_of_le (by omega)]
    simp [argsOk]
  | some c =>
    obtain ⟨hk, hc⟩ := List.getElem?_eq_some_iff.1 h
    rw [List.drop_eq_getElem_cons hk, hc]
    simp [argsOk]

def vaEx (i : Ins) (cs : List UInt8) : St := { vaSt i cs 4 with env := (vaSt i cs 4).env ++ [(19, .d (.bool false))] }
theorem va_loop (i : Ins) (cs : List UInt8) (hl : cs.length ≤ 4) : ∀ (j k : Nat), k + j = 4 →
    if argsOk (cs.drop k) (i.args.drop k) = true then loopS (cfg m) s_isa_Valid_l0 vaKs vaTs (vaSt i cs k) = some (.exit 0, vaEx i cs)
    else ∃ σ' cs', loopS (cfg m) s_isa_Valid_l0 vaKs vaTs (vaSt i cs k) = some (.ret, σ') ∧ result [.tmp 2] σ' = some (.d (.bool false), cs') := by
  intro j
  induction j with
  | zero =>
    intro k hk
    obtain rfl : k = 4 := by omega
    rw [if_pos (by simp [Ins.args, argsOk])]
    refine loopS_exit ?_
    simp [s_isa_Valid_l0, vaSt, vaEx]
  | succ j ih =>
    intro k hk
    have hk4 : k < 4 := by omega
    have hlen : i.args.length = 4 := rfl
    have hd : i.args.drop k = i.args[k] :: i.args.drop (k + 1) := List.drop_eq_getElem_cons (by omega)
    rw [hd, argsOk_drop]
    have hs := va_step m i cs hl k i.args[k] hk4 (List.getElem?_eq_getElem (by omega))
    cases ho : okAt cs k i.args[k] with
    | true =>
      rw [if_pos ho] at hs
      obtain ⟨σ', h1, h2⟩ := hs
      have := ih (k + 1) (by omega)
      simp only [Bool.true_and]
      split at this
      · rename_i ha
        rw [if_pos ha]
        exact loopS_step h1 (by rw [h2]; exact this)
      · rename_i ha
        rw [if_neg ha]
        obtain ⟨σ'', cs', h3, h4⟩ := this
        exact ⟨σ'', cs', loopS_step h1 (by rw [h2]; exact h3), h4⟩
    | false =>
      rw [if_neg (by simp [ho])] at hs
      obtain ⟨σ', cs', h1, h2⟩ := hs
      simp only [Bool.false_and, Bool.false_eq_true, if_false]
      exact ⟨σ', cs', loopS_ret h1, h2⟩

end Go.Ev.S
