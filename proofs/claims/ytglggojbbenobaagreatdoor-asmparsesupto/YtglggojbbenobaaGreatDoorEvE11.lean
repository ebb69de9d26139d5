/- Machine code: a line read, as a whole. -/
import Derived.Test.YtglggojbbenobaaGreatDoorEvE10
set_option linter.all false
namespace Go.Ev.S
open Go.Proofs Go.Ev.A
variable (m : Int)

def zIns : Ins := ⟨0, 0, 0, 0, 0⟩
def paSt (s : List UInt8) (W : List (List UInt8)) (op : Nat) (cs : List UInt8) (k : Nat) (xs : List Int) : St :=
  { env := [(0, .d (.str s)), (1, .d (.map mnK mnO)), (4, .ptr 1000 0 []), (5, .d (.bool false)), (6, .d (.sl (W.map .str))), (7, .d (.int .u8 (op : Int))), (8, .d (.bool true)), (9, .d (.str cs)), (36, .d (.bool false)), (10, .ptr 2544 0 []), (11, .ptr 2796 0 []), (42, .ptr 3052 0 [])],
    cells := [(1000, .var 43 (.d zIns.D)), (2544, .var 43 (.d (insOf op xs).D)), (2796, .var 71 (ptrs 2544)), (3052, .iter cs k)] }
def paKs : List Nat := [0, 1, 4, 5, 6, 7, 8, 9, 36, 10, 11, 42]
def paTs : List Nat := [1000, 2544, 2796, 3052]

theorem six_ascii {c : UInt8} (h : c = 114 ∨ c = 107 ∨ c = 116 ∨ c = 101 ∨ c = 111 ∨ c = 110) : c.toNat < 128 := by
  rcases h with rfl | rfl | rfl | rfl | rfl | rfl <;> decide

set_option maxHeartbeats 8000000 in
theorem pa_step (s w0 : List UInt8) (ws : List (List UInt8)) (op : Nat) (cs : List UInt8) (hl : cs.length ≤ 4) (hm : ∀ c ∈ cs, c = 114 ∨ c = 107 ∨ c = 116 ∨ c = 101 ∨ c = 111 ∨ c = 110) (hws : ws.length = cs.length)
    (k : Nat) (xs : List Int) (hxs : xs.length = k) (c : UInt8) (w : List UInt8) (hc : cs[k]? = some c) (hw : ws[k]? = some w) (hwl : w.length ≤ 1000000) :
    match opP c w with
    | some x => ∃ σ', evalS (cfg m) s_asm_parse_l0 (paSt s (w0 :: ws) op cs k xs) = some (.normal, σ') ∧ σ'.norm paKs paTs = paSt s (w0 :: ws) op cs (k + 1) (xs ++ [x])
    | none => ∃ σ' cs', evalS (cfg m) s_asm_parse_l0 (paSt s (w0 :: ws) op cs k xs) = some (.ret, σ') ∧ result [.cell 4 5 true, .tmp 5] σ' = some (.tup [.d zIns.D, .d (.bool false)], cs') := by
  obtain ⟨x, h1, h2⟩ := e_number m c w hwl
  have hd := decode_ascii cs k c hc (six_ascii (hm c (List.mem_of_getElem? hc)))
  have hk := (List.getElem?_eq_some_iff.1 hc).1
  have key : ∀ b, (opP c w).isSome = b → (match opP c w with
    | some x => ∃ σ', evalS (cfg m) s_asm_parse_l0 (paSt s (w0 :: ws) op cs k xs) = some (.normal, σ') ∧ σ'.norm paKs paTs = paSt s (w0 :: ws) op cs (k + 1) (xs ++ [x])
    | none => ∃ σ' cs', evalS (cfg m) s_asm_parse_l0 (paSt s (w0 :: ws) op cs k xs) = some (.ret, σ') ∧ result [.cell 4 5 true, .tmp 5] σ' = some (.tup [.d zIns.D, .d (.bool false)], cs')) := by
    intro b hb
    rw [hb] at h1
    cases hop : opP c w with
    | some v =>
      have hv := h2 v hop; subst hv
      rw [hop] at hb; simp at hb; subst hb
      simp only
      rcases shape4 hl with rfl | ⟨c1, rfl⟩ | ⟨c1, c2, rfl⟩ | ⟨c1, c2, c3, rfl⟩ | ⟨c1, c2, c3, c4, rfl⟩
      · simp at hk
      · have hk4 : k = 0 := by simp at hk; omega
        obtain ⟨w1, rfl⟩ : ∃ w1, ws = [w1] := by
          match ws, hws with | [w1], _ => exact ⟨w1, rfl⟩
        rcases hk4 with rfl
        · obtain rfl : xs = [] := List.length_eq_zero_iff.1 hxs
          simp at hc hw hd; subst hc; subst hw
          simp [s_asm_parse_l0, paSt, paKs, paTs, ptrs, Ins.D, zIns, insOf, hd, h1]
      · have hk4 : k = 0 ∨ k = 1 := by simp at hk; omega
        obtain ⟨w1, w2, rfl⟩ : ∃ w1 w2, ws = [w1, w2] := by
          match ws, hws with | [w1, w2], _ => exact ⟨w1, w2, rfl⟩
        rcases hk4 with rfl | rfl
        · obtain rfl : xs = [] := List.length_eq_zero_iff.1 hxs
          simp at hc hw hd; subst hc; subst hw
          simp [s_asm_parse_l0, paSt, paKs, paTs, ptrs, Ins.D, zIns, insOf, hd, h1]
        · obtain ⟨x0, rfl⟩ : ∃ x0, xs = [x0] := by
            match xs, hxs with | [x0], _ => exact ⟨x0, rfl⟩
          simp at hc hw hd; subst hc; subst hw
          simp [s_asm_parse_l0, paSt, paKs, paTs, ptrs, Ins.D, zIns, insOf, hd, h1]
      · have hk4 : k = 0 ∨ k = 1 ∨ k = 2 := by simp at hk; omega
        obtain ⟨w1, w2, w3, rfl⟩ : ∃ w1 w2 w3, ws = [w1, w2, w3] := by
          match ws, hws with | [w1, w2, w3], _ => exact ⟨w1, w2, w3, rfl⟩
        rcases hk4 with rfl | rfl | rfl
        · obtain rfl : xs = [] := List.length_eq_zero_iff.1 hxs
          simp at hc hw hd; subst hc; subst hw
          simp [s_asm_parse_l0, paSt, paKs, paTs, ptrs, Ins.D, zIns, insOf, hd, h1]
        · obtain ⟨x0, rfl⟩ : ∃ x0, xs = [x0] := by
            match xs, hxs with | [x0], _ => exact ⟨x0, rfl⟩
          simp at hc hw hd; subst hc; subst hw
          simp [s_asm_parse_l0, paSt, paKs, paTs, ptrs, Ins.D, zIns, insOf, hd, h1]
        · obtain ⟨x0, x1, rfl⟩ : ∃ x0 x1, xs = [x0, x1] := by
            match xs, hxs with | [x0, x1], _ => exact ⟨x0, x1, rfl⟩
          simp at hc hw hd; subst hc; subst hw
          simp [s_asm_parse_l0, paSt, paKs, paTs, ptrs, Ins.D, zIns, insOf, hd, h1]
      · have hk4 : k = 0 ∨ k = 1 ∨ k = 2 ∨ k = 3 := by simp at hk; omega
        obtain ⟨w1, w2, w3, w4, rfl⟩ : ∃ w1 w2 w3 w4, ws = [w1, w2, w3, w4] := by
          match ws, hws with | [w1, w2, w3, w4], _ => exact ⟨w1, w2, w3, w4, rfl⟩
        rcases hk4 with rfl | rfl | rfl | rfl
        · obtain rfl : xs = [] := List.length_eq_zero_iff.1 hxs
          simp at hc hw hd; subst hc; subst hw
          simp [s_asm_parse_l0, paSt, paKs, paTs, ptrs, Ins.D, zIns, insOf, hd, h1]
        · obtain ⟨x0, rfl⟩ : ∃ x0, xs = [x0] := by
            match xs, hxs with | [x0], _ => exact ⟨x0, rfl⟩
          simp at hc hw hd; subst hc; subst hw
          simp [s_asm_parse_l0, paSt, paKs, paTs, ptrs, Ins.D, zIns, insOf, hd, h1]
        · obtain ⟨x0, x1, rfl⟩ : ∃ x0 x1, xs = [x0, x1] := by
            match xs, hxs with | [x0, x1], _ => exact ⟨x0, x1, rfl⟩
          simp at hc hw hd; subst hc; subst hw
          simp [s_asm_parse_l0, paSt, paKs, paTs, ptrs, Ins.D, zIns, insOf, hd, h1]
        · obtain ⟨x0, x1, x2, rfl⟩ : ∃ x0 x1 x2, xs = [x0, x1, x2] := by
            match xs, hxs with | [x0, x1, x2], _ => exact ⟨x0, x1, x2, rfl⟩
          simp at hc hw hd; subst hc; subst hw
          simp [s_asm_parse_l0, paSt, paKs, paTs, ptrs, Ins.D, zIns, insOf, hd, h1]
    | none =>
      rw [hop] at hb; simp at hb; subst hb
      simp only
      rcases shape4 hl with rfl | ⟨c1, rfl⟩ | ⟨c1, c2, rfl⟩ | ⟨c1, c2, c3, rfl⟩ | ⟨c1, c2, c3, c4, rfl⟩
      · simp at hk
      · have hk4 : k = 0 := by simp at hk; omega
        obtain ⟨w1, rfl⟩ : ∃ w1, ws = [w1] := by
          match ws, hws with | [w1], _ => exact ⟨w1, rfl⟩
        rcases hk4 with rfl
        · obtain rfl : xs = [] := List.length_eq_zero_iff.1 hxs
          simp at hc hw hd; subst hc; subst hw
          simp [s_asm_parse_l0, paSt, paKs, paTs, ptrs, Ins.D, zIns, insOf, hd, h1]
      · have hk4 : k = 0 ∨ k = 1 := by simp at hk; omega
        obtain ⟨w1, w2, rfl⟩ : ∃ w1 w2, ws = [w1, w2] := by
          match ws, hws with | [w1, w2], _ => exact ⟨w1, w2, rfl⟩
        rcases hk4 with rfl | rfl
        · obtain rfl : xs = [] := List.length_eq_zero_iff.1 hxs
          simp at hc hw hd; subst hc; subst hw
          simp [s_asm_parse_l0, paSt, paKs, paTs, ptrs, Ins.D, zIns, insOf, hd, h1]
        · obtain ⟨x0, rfl⟩ : ∃ x0, xs = [x0] := by
            match xs, hxs with | [x0], _ => exact ⟨x0, rfl⟩
          simp at hc hw hd; subst hc; subst hw
          simp [s_asm_parse_l0, paSt, paKs, paTs, ptrs, Ins.D, zIns, insOf, hd, h1]
      · have hk4 : k = 0 ∨ k = 1 ∨ k = 2 := by simp at hk; omega
        obtain ⟨w1, w2, w3, rfl⟩ : ∃ w1 w2 w3, ws = [w1, w2, w3] := by
          match ws, hws with | [w1, w2, w3], _ => exact ⟨w1, w2, w3, rfl⟩
        rcases hk4 with rfl | rfl | rfl
        · obtain rfl : xs = [] := List.length_eq_zero_iff.1 hxs
          simp at hc hw hd; subst hc; subst hw
          simp [s_asm_parse_l0, paSt, paKs, paTs, ptrs, Ins.D, zIns, insOf, hd, h1]
        · obtain ⟨x0, rfl⟩ : ∃ x0, xs = [x0] := by
            match xs, hxs with | [x0], _ => exact ⟨x0, rfl⟩
          simp at hc hw hd; subst hc; subst hw
          simp [s_asm_parse_l0, paSt, paKs, paTs, ptrs, Ins.D, zIns, insOf, hd, h1]
        · obtain ⟨x0, x1, rfl⟩ : ∃ x0 x1, xs = [x0, x1] := by
            match xs, hxs with | [x0, x1], _ => exact ⟨x0, x1, rfl⟩
          simp at hc hw hd; subst hc; subst hw
          simp [s_asm_parse_l0, paSt, paKs, paTs, ptrs, Ins.D, zIns, insOf, hd, h1]
      · have hk4 : k = 0 ∨ k = 1 ∨ k = 2 ∨ k = 3 := by simp at hk; omega
        obtain ⟨w1, w2, w3, w4, rfl⟩ : ∃ w1 w2 w3 w4, ws = [w1, w2, w3, w4] := by
          match ws, hws with | [w1, w2, w3, w4], _ => exact ⟨w1, w2, w3, w4, rfl⟩
        rcases hk4 with rfl | rfl | rfl | rfl
        · obtain rfl : xs = [] := List.length_eq_zero_iff.1 hxs
          simp at hc hw hd; subst hc; subst hw
          simp [s_asm_parse_l0, paSt, paKs, paTs, ptrs, Ins.D, zIns, insOf, hd, h1]
        · obtain ⟨x0, rfl⟩ : ∃ x0, xs = [x0] := by
            match xs, hxs with | [x0], _ => exact ⟨x0, rfl⟩
          simp at hc hw hd; subst hc; subst hw
          simp [s_asm_parse_l0, paSt, paKs, paTs, ptrs, Ins.D, zIns, insOf, hd, h1]
        · obtain ⟨x0, x1, rfl⟩ : ∃ x0 x1, xs = [x0, x1] := by
            match xs, hxs with | [x0, x1], _ => exact ⟨x0, x1, rfl⟩
          simp at hc hw hd; subst hc; subst hw
          simp [s_asm_parse_l0, paSt, paKs, paTs, ptrs, Ins.D, zIns, insOf, hd, h1]
        · obtain ⟨x0, x1, x2, rfl⟩ : ∃ x0 x1 x2, xs = [x0, x1, x2] := by
            match xs, hxs with | [x0, x1, x2], _ => exact ⟨x0, x1, x2, rfl⟩
          simp at hc hw hd; subst hc; subst hw
          simp [s_asm_parse_l0, paSt, paKs, paTs, ptrs, Ins.D, zIns, insOf, hd, h1]
  exact key _ rfl
end Go.Ev.S
