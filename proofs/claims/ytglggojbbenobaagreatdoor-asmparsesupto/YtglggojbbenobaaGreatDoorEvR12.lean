/- Machine code: the reference's operand. -/
import Derived.Test.YtglggojbbenobaaGreatDoorEvR11
set_option linter.all false
namespace Go.Ev.S
open Go.Proofs Go.Ev.A
variable (m : Int)

def ppSt (w : List UInt8) (op : Nat) : St := { env := [(0, .d (.str w)), (1, .d (.int .u8 111)), (4, .d (.int .i64 0)), (5, .d (.bool false)), (8, .d (.bool false)), (23, .d (.bool true)), (6, .d (.int .i64 ((op : Int) + 8)))], cells := [] }
def ppEx (w : List UInt8) : St := { ppSt w 16 with env := (ppSt w 16).env ++ [(25, .d (.bool false))] }
def ppKs : List Nat := [0, 1, 4, 5, 8, 23, 6]

theorem sym_at {op : Nat} (h : op < syTab.length) : sym ((op : Int) + 8) = syTab[op] := by
  unfold sym
  rw [if_neg (by omega), show ((op : Int) + 8 - 8).toNat = op by omega, List.getElem?_eq_getElem h]
  rfl

set_option maxHeartbeats 2000000 in
theorem pp_loop (w : List UInt8) (hw : w.length ≤ 1000) : ∀ (k op : Nat), op + k = 16 →
    match (syTab.drop op).findIdx? (fun x => decide (x = w)) with
    | some j => ∃ σ cs, loopS (cfg m) s_backstepref22_operand_l0 ppKs [] (ppSt w op) = some (.ret, σ) ∧ result [.tmp 4, .tmp 5] σ = some (.tup [.d (.int .i64 ((op : Int) + j + 8)), .d (.bool true)], cs)
    | none => loopS (cfg m) s_backstepref22_operand_l0 ppKs [] (ppSt w op) = some (.exit 0, ppEx w) := by
  intro k
  induction k with
  | zero =>
    intro op hk
    obtain rfl : op = 16 := by omega
    have e : (syTab.drop 16).findIdx? (fun x => decide (x = w)) = none := rfl
    rw [e]
    refine loopS_exit ?_
    simp [s_backstepref22_operand_l0, ppSt, ppEx]
  | succ k ih =>
    intro op hk
    have hlen : syTab.length = 16 := rfl
    have hlt : op < syTab.length := by omega
    rw [List.drop_eq_getElem_cons hlt, List.findIdx?_cons]
    have hs := r_symbol m (op := (op : Int) + 8) (by omega) (by omega)
    rw [sym_at hlt] at hs
    have hw8 : IntKind.u8.wrap ((op : Int) + 8) = (op : Int) + 8 := IntWalk.u8_in _ (by omega)
    have hwi := wrap_i64 ((op : Int) + 8 + 1) (by omega) (by omega)
    have hle : (op : Int) + 8 ≤ 23 := by omega
    have hle2 : (op : Int) ≤ 15 := by omega
    have hle3 : op ≤ 15 := by omega
    have e1 : (op : Int) + 8 + 1 = ((op + 1 : Nat) : Int) + 8 := by omega
    generalize syTab[op] = y at *
    by_cases hy : y = w
    · subst hy
      simp only [decide_true, if_true]
      have : ∃ σ cs, evalS (cfg m) s_backstepref22_operand_l0 (ppSt y op) = some (.ret, σ) ∧ result [.tmp 4, .tmp 5] σ = some (.tup [.d (.int .i64 ((op : Int) + ((0 : Nat) : Int) + 8)), .d (.bool true)], cs) := by
        simp [s_backstepref22_operand_l0, ppSt, hs, hw8, hle, hle2, hle3]
      obtain ⟨σ, cs, h1, h2⟩ := this
      exact ⟨σ, cs, loopS_ret h1, h2⟩
    · simp only [hy, decide_false, Bool.false_eq_true, if_false]
      have hst : ∃ σ', evalS (cfg m) s_backstepref22_operand_l0 (ppSt w op) = some (.normal, σ') ∧ σ'.norm ppKs [] = ppSt w (op + 1) := by
        unfold ppSt
        rw [← e1]
        simp [s_backstepref22_operand_l0, ppKs, hs, hw8, hle, hle2, hle3, hy, hwi]
      obtain ⟨σ', g1, g2⟩ := hst
      have := ih (op + 1) (by omega)
      cases hq : (syTab.drop (op + 1)).findIdx? (fun x => decide (x = w)) with
      | none =>
        rw [hq] at this
        exact loopS_step g1 (by rw [g2]; exact this)
      | some j =>
        rw [hq] at this
        obtain ⟨σ, cs, h1, h2⟩ := this
        simp only [Option.map_some]
        refine ⟨σ, cs, loopS_step g1 (by rw [g2]; exact h1), ?_⟩
        rw [h2]
        have : ((op + 1 : Nat) : Int) + (j : Int) + 8 = (op : Int) + ((j + 1 : Nat) : Int) + 8 := by omega
        rw [this]

theorem opR_rn : opR 114 [] = none := by unfold opR; simp
theorem opR_r1 (t : List UInt8) : opR 114 (114 :: t) = canon t := by unfold opR; simp
theorem opR_r0 {b : UInt8} {t : List UInt8} (h : b ≠ 114) : opR 114 (b :: t) = none := by
  unfold opR
  simp only [if_true]
  split
  · rename_i h2; simp only [List.cons.injEq] at h2; exact absurd h2.1 h
  · rfl

set_option maxHeartbeats 2000000 in
theorem r_operand (w : List UInt8) (c : UInt8) (hw : w.length ≤ 1000) : ∃ x ok, ev1 (cfg m) 60 [.d (.str w), .d (.int .u8 (c.toNat : Int))] = some (.tup [.d (.int .i64 x), .d (.bool ok)]) ∧ ((ok = true ∧ opR c w = some x) ∨ (ok = false ∧ opR c w = none)) := by
  have hc : ∀ x ok, (bodyS (cfg m) s_backstepref22_operand [.d (.str w), .d (.int .u8 (c.toNat : Int))] []).map Prod.fst = some (.tup [.d (.int .i64 x), .d (.bool ok)]) → ev1 (cfg m) 60 [.d (.str w), .d (.int .u8 (c.toNat : Int))] = some (.tup [.d (.int .i64 x), .d (.bool ok)]) := fun x ok h => ev1_fn rfl rfl h rfl
  by_cases h1 : c = 114
  · subst h1
    cases w with
    | nil => exact ⟨0, false, hc _ _ (by simp [s_backstepref22_operand]), .inr ⟨rfl, opR_rn⟩⟩
    | cons b t =>
      by_cases hb : b = 114
      · subst hb
        rw [opR_r1]
        by_cases ht : t = []
        · subst ht
          exact ⟨0, false, hc _ _ (by simp [s_backstepref22_operand]), .inr ⟨rfl, canon_nil⟩⟩
        · have hp := List.length_pos_iff.2 ht
          have hl2 : ¬ ((t.length : Int) + 1 < 2) := by omega
          have hl3 : ¬ ((t.length : Int) < 1) := by omega
          obtain ⟨x, ok, g1, g2⟩ := r_num m t (by simp at hw; omega)
          exact ⟨x, ok, hc _ _ (by simp [s_backstepref22_operand, hl2, hl3, ht, g1]), g2⟩
      · have hb2 := byteEq b 114
        simp at hb2
        refine ⟨0, false, hc _ _ ?_, .inr ⟨rfl, opR_r0 hb⟩⟩
        by_cases ht : (t.length : Int) + 1 < 2
        · simp [s_backstepref22_operand, ht]
        · simp [s_backstepref22_operand, ht, hb2, hb]
  · unfold opR
    rw [if_neg h1]
    have e114 := byteEq c 114; have e111 := byteEq c 111
    simp at e114 e111
    by_cases h2 : c = 111
    · subst h2
      rw [if_pos rfl]
      have hl := pp_loop m w hw 16 0 (by omega)
      rw [List.drop_zero] at hl
      unfold symBy
      cases hq : syTab.findIdx? (fun x => decide (x = w)) with
      | none =>
        rw [hq] at hl
        simp [ppSt, ppEx, ppKs] at hl
        exact ⟨0, false, hc _ _ (by simp [s_backstepref22_operand, hl]), .inr ⟨rfl, rfl⟩⟩
      | some j =>
        rw [hq] at hl
        obtain ⟨σ, cs, g1, g2⟩ := hl
        simp [ppSt, ppKs] at g1
        refine ⟨(Int.ofNat j) + 8, true, hc _ _ ?_, .inl ⟨rfl, rfl⟩⟩
        have e : ((0 : Nat) : Int) + (j : Int) + 8 = Int.ofNat j + 8 := by simp
        rw [e] at g2
        simp [s_backstepref22_operand, g1, -result]
        rw [g2]; simp
    · rw [if_neg h2]
      obtain ⟨x, ok, g1, g2⟩ := r_num m w hw
      exact ⟨x, ok, hc _ _ (by simp [s_backstepref22_operand, e114, e111, h1, h2, g1]), g2⟩
end Go.Ev.S
