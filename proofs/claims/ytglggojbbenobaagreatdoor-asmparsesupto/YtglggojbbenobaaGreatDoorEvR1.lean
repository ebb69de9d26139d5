/- Machine code: what the reference's instruction set calls valid. -/
import Derived.Test.YtglggojbbenobaaGreatDoorEvE14
set_option linter.all false
namespace Go.Ev.S
open Go.Proofs Go.Ev.A
variable (m : Int)

theorem r_fits (c : UInt8) (x : Int) : ev1 (cfg m) 62 [.d (.int .u8 c.toNat), .d (.int .i64 x)] = some (.d (.bool (fitsC c x))) := by
  refine ev1_fn rfl rfl ?_ rfl
  have e114 := byteEq c 114; have e107 := byteEq c 107; have e116 := byteEq c 116; have e101 := byteEq c 101; have e111 := byteEq c 111
  simp at e114 e107 e116 e101 e111
  unfold fitsC
  by_cases h1 : c = 114
  · by_cases h : 0 ≤ x <;> simp [s_backstepref21_fits, h1, h]
  · by_cases h2 : c = 107
    · by_cases h : 0 ≤ x <;> simp [s_backstepref21_fits, h2, h]
    · by_cases h3 : c = 116
      · by_cases h : 0 ≤ x <;> simp [s_backstepref21_fits, h3, h]
      · by_cases h4 : c = 101
        · by_cases h : 1 ≤ x <;> simp [s_backstepref21_fits, h4, h]
        · by_cases h5 : c = 111
          · by_cases h : 8 ≤ x <;> simp [s_backstepref21_fits, h5, h]
          · simp [s_backstepref21_fits, e114, e107, e116, e101, e111, h1, h2, h3, h4, h5]

theorem r_get0 (op a b c d : Int) : ev1 (cfg m) 63 [.d (.agg [.int .u8 op, .int .i64 a, .int .i64 b, .int .i64 c, .int .i64 d]), .d (.int .i64 0)] = some (.d (.int .i64 a)) := by
  refine ev1_fn rfl rfl ?_ rfl; simp [s_backstepref21_Get]
theorem r_get1 (op a b c d : Int) : ev1 (cfg m) 63 [.d (.agg [.int .u8 op, .int .i64 a, .int .i64 b, .int .i64 c, .int .i64 d]), .d (.int .i64 1)] = some (.d (.int .i64 b)) := by
  refine ev1_fn rfl rfl ?_ rfl; simp [s_backstepref21_Get]
theorem r_get2 (op a b c d : Int) : ev1 (cfg m) 63 [.d (.agg [.int .u8 op, .int .i64 a, .int .i64 b, .int .i64 c, .int .i64 d]), .d (.int .i64 2)] = some (.d (.int .i64 c)) := by
  refine ev1_fn rfl rfl ?_ rfl; simp [s_backstepref21_Get]
theorem r_get3 (op a b c d : Int) : ev1 (cfg m) 63 [.d (.agg [.int .u8 op, .int .i64 a, .int .i64 b, .int .i64 c, .int .i64 d]), .d (.int .i64 3)] = some (.d (.int .i64 d)) := by
  refine ev1_fn rfl rfl ?_ rfl; simp [s_backstepref21_Get]

def rvSt (i : Ins) (cs : List UInt8) (k : Nat) : St := { env := [(0, .d i.D), (1, .ptr 1000 0 []), (2, .d (.bool false)), (3, .d (.str cs)), (4, .d (.bool true)), (13, .d (.bool false)), (5, .d (.int .i64 (k : Int)))], cells := [(1000, .var 43 (.d i.D))] }
def rvKs : List Nat := [0, 1, 2, 3, 4, 13, 5]

set_option maxHeartbeats 4000000 in
theorem rv_step (i : Ins) (cs : List UInt8) (hl : cs.length ≤ 4) (k : Nat) (x : Int) (hk : k < 4) (hx : i.args[k]? = some x) :
    if okAt cs k x = true then ∃ σ', evalS (cfg m) s_backstepref21_Valid_l0 (rvSt i cs k) = some (.normal, σ') ∧ σ'.norm rvKs [1000] = rvSt i cs (k + 1)
    else ∃ σ' cs', evalS (cfg m) s_backstepref21_Valid_l0 (rvSt i cs k) = some (.ret, σ') ∧ result [.tmp 2] σ' = some (.d (.bool false), cs') := by
  obtain ⟨op, a, b, c, d⟩ := i
  have hk4 : k = 0 ∨ k = 1 ∨ k = 2 ∨ k = 3 := by omega
  rcases hk4 with rfl | rfl | rfl | rfl <;> simp [Ins.args] at hx <;> subst hx <;>
  rcases shape4 hl with rfl | ⟨c1, rfl⟩ | ⟨c1, c2, rfl⟩ | ⟨c1, c2, c3, rfl⟩ | ⟨c1, c2, c3, c4, rfl⟩ <;>
  split <;> rename_i h <;> simp [okAt] at h <;>
  simp [s_backstepref21_Valid_l0, rvSt, rvKs, Ins.D, r_fits, r_get0, r_get1, r_get2, r_get3, h]

def rvEx (i : Ins) (cs : List UInt8) : St := { rvSt i cs 4 with env := (rvSt i cs 4).env ++ [(15, .d (.bool false))] }
theorem rv_loop (i : Ins) (cs : List UInt8) (hl : cs.length ≤ 4) : ∀ (j k : Nat), k + j = 4 →
    if argsOk (cs.drop k) (i.args.drop k) = true then loopS (cfg m) s_backstepref21_Valid_l0 rvKs [1000] (rvSt i cs k) = some (.exit 0, rvEx i cs)
    else ∃ σ' cs', loopS (cfg m) s_backstepref21_Valid_l0 rvKs [1000] (rvSt i cs k) = some (.ret, σ') ∧ result [.tmp 2] σ' = some (.d (.bool false), cs') := by
  intro j
  induction j with
  | zero =>
    intro k hk
    obtain rfl : k = 4 := by omega
    rw [if_pos (by simp [Ins.args, argsOk])]
    refine loopS_exit ?_
    simp [s_backstepref21_Valid_l0, rvSt, rvEx]
  | succ j ih =>
    intro k hk
    have hk4 : k < 4 := by omega
    have hlen : i.args.length = 4 := rfl
    have hd : i.args.drop k = i.args[k] :: i.args.drop (k + 1) := List.drop_eq_getElem_cons (by omega)
    rw [hd, argsOk_drop]
    have hs := rv_step m i cs hl k i.args[k] hk4 (List.getElem?_eq_getElem (by omega))
    cases ho : okAt cs k i.args[k] with
    | true =>
      rw [if_pos ho] at hs
      obtain ⟨σ', h1, h2⟩ := hs
      have := ih (k + 1) (by omega)
      simp only [Bool.true_and]
      split at this
      · rename_i ha
        rw [if_pos ha]
        exact loopS_step h1 (by rw [h2]; exact this)
      · rename_i ha
        rw [if_neg ha]
        obtain ⟨σ'', cs', h3, h4⟩ := this
        exact ⟨σ'', cs', loopS_step h1 (by rw [h2]; exact h3), h4⟩
    | false =>
      rw [if_neg (by simp [ho])] at hs
      obtain ⟨σ', cs', h1, h2⟩ := hs
      simp only [Bool.false_and, Bool.false_eq_true, if_false]
      exact ⟨σ', cs', loopS_ret h1, h2⟩

set_option maxHeartbeats 4000000 in
theorem r_Valid (i : Ins) (hf : i.fits) : ev1 (cfg m) 51 [.d i.D] = some (.d (.bool (validI i))) := by
  have hfin : (∃ cs, bodyS (cfg m) s_backstepref21_Valid [.d i.D] [] = some (.d (.bool (validI i)), cs)) → ev1 (cfg m) 51 [.d i.D] = some (.d (.bool (validI i))) := by
    rintro ⟨cs, h⟩
    exact ev1_fn rfl rfl (by rw [h]; rfl) rfl
  refine hfin ?_
  have hsh := e_shape m (op := i.op) hf.1.1 hf.1.2
  unfold cls2 at hsh
  unfold validI
  cases hc : cls i.op with
  | none =>
    rw [hc] at hsh
    simp only [Ins.D] at ⊢
    simp at hsh
    simp [s_backstepref21_Valid, hsh]
  | some cs =>
    have hd : clsD i.op = cs := by simp [clsD, hc]
    rw [hc, hd] at hsh
    have hlp := rv_loop m i cs (cls_len hc) 4 0 (by omega)
    simp only [List.drop_zero] at hlp
    simp only [Ins.D] at ⊢
    simp [rvKs, rvSt, rvEx, Ins.D, -result] at hlp
    simp at hsh
    cases ha : argsOk cs i.args with
    | false =>
      simp [ha, -result] at hlp
      obtain ⟨σ', g1, cs', g2⟩ := hlp
      simp [s_backstepref21_Valid, hsh, g1, -result]
      exact ⟨cs', g2⟩
    | true =>
      simp [ha] at hlp
      simp [s_backstepref21_Valid, hsh, hlp]
      unfold apartI
      by_cases o1 : i.op = 1
      · simp [o1]
      · by_cases o2 : i.op = 2
        · simp [o2]
        · by_cases o3 : i.op = 3
          · simp [o3]
          · by_cases o4 : i.op = 11
            · simp [o4]
            · by_cases o5 : i.op = 9
              · by_cases o6 : i.a = i.b <;> simp [o5, o6]
              · simp [o1, o2, o3, o4, o5]
end Go.Ev.S
