/- Machine code: the reference's reading of a line. -/
import Derived.Test.YtglggojbbenobaaGreatDoorEvR12
set_option linter.all false
namespace Go.Ev.S
open Go.Proofs Go.Ev.A
variable (m : Int)

def rrEnv (s : List UInt8) (ws : List (List UInt8)) (op : Nat) : Env := [(0, .d (.str s)), (2, .ptr 1000 0 []), (3, .d (.bool false)), (4, .d (.sl (ws.map .str))), (5, .d (.int .i64 (op : Int)))]
def rrCells : Cells := [(1000, .var 43 (.d (.agg [.int .u8 0, .int .i64 0, .int .i64 0, .int .i64 0, .int .i64 0])))]
def rrSt (s : List UInt8) (ws : List (List UInt8)) (op : Nat) : St := { env := rrEnv s ws op, cells := rrCells }
def rrKs : List Nat := [0, 2, 3, 4, 5]
def rrEx (s : List UInt8) (ws : List (List UInt8)) : St := { rrSt s ws 35 with env := (rrSt s ws 35).env ++ [(15, .d (.bool false))] }
def riSt (s : List UInt8) (ws : List (List UInt8)) (op : Nat) (cs : List UInt8) (j : Nat) (xs : List Int) : St :=
  { env := rrEnv s ws op ++ [(15, .d (.bool true)), (24, .d (.bool false)), (6, .d (.str cs)), (8, .ptr 2804 0 []), (39, .d (.bool false)), (9, .d (.int .i64 (j : Int)))],
    cells := rrCells ++ [(2804, .var 43 (.d (insOf op xs).D))] }
def riKs : List Nat := [0, 2, 3, 4, 5, 15, 24, 6, 8, 39, 9]
def riTs : List Nat := [1000, 2804]
def riEx (s : List UInt8) (ws : List (List UInt8)) (op : Nat) (cs : List UInt8) (xs : List Int) : St :=
  { riSt s ws op cs cs.length xs with env := (riSt s ws op cs cs.length xs).env ++ [(44, .d (.bool false))] }
def rrRs : List SRes := [.cell 2 5 true, .tmp 3]

set_option maxHeartbeats 4000000 in
theorem ri_step (s : List UInt8) (w0 : List UInt8) (ws : List (List UInt8)) (op : Nat) (cs : List UInt8) (hl : cs.length ≤ 4) (j : Nat) (xs : List Int) (hxs : xs.length = j) (c : UInt8) (hc : cs[j]? = some c) (w : List UInt8) (hw : ws[j]? = some w) (hwl : w.length ≤ 1000) :
    match opR c w with
    | none => ∃ σ' cs' i, evalS (cfg m) s_backstepref22_Read_l0 (riSt s (w0 :: ws) op cs j xs) = some (.ret, σ') ∧ result rrRs σ' = some (.tup [.d (Ins.D i), .d (.bool false)], cs')
    | some x => ∃ σ', evalS (cfg m) s_backstepref22_Read_l0 (riSt s (w0 :: ws) op cs j xs) = some (.normal, σ') ∧ σ'.norm riKs riTs = riSt s (w0 :: ws) op cs (j + 1) (xs ++ [x]) := by
  obtain ⟨x, ok, h1, h2⟩ := r_operand m w c hwl
  have hck := (List.getElem?_eq_some_iff.1 hc).1
  have hgc : cs[j] = c := (List.getElem?_eq_some_iff.1 hc).2
  have hwk := (List.getElem?_eq_some_iff.1 hw).1
  have hgw : ws[j] = w := (List.getElem?_eq_some_iff.1 hw).2
  have hwm : (ws.map D.str)[j]? = some (D.str w) := by rw [List.getElem?_map, hw]; rfl
  have hwr := wrap_i64 ((j : Int) + 1) (by omega) (by omega)
  have hnn : (0 : Int) ≤ (j : Int) + 1 := by omega
  have htn : ((j : Int) + 1).toNat = j + 1 := by omega
  subst hxs
  have hse := r_set m (op : Int) xs x (by omega)
  rcases h2 with ⟨rfl, h2⟩ | ⟨rfl, h2⟩
  · rw [h2]
    simp only
    unfold riSt rrEnv rrCells
    generalize (insOf (op : Int) (xs ++ [x])) = I1 at *
    generalize (insOf (op : Int) xs) = I0 at *
    obtain ⟨o0, a0, b0, c0, d0⟩ := I0
    obtain ⟨o1, a1, b1, c1, d1⟩ := I1
    simp only [Ins.D] at hse ⊢
    simp [s_backstepref22_Read_l0, riKs, riTs, hck, hgc, hwk, hgw, hwm, hwr, hnn, htn, h1, hse]
  · rw [h2]
    simp only
    have : ∃ σ' cs', evalS (cfg m) s_backstepref22_Read_l0 (riSt s (w0 :: ws) op cs xs.length xs) = some (.ret, σ') ∧ result rrRs σ' = some (.tup [.d (insOf op xs).D, .d (.bool false)], cs') := by
      unfold riSt rrEnv rrCells
      generalize (insOf (op : Int) xs) = I0 at *
      obtain ⟨o0, a0, b0, c0, d0⟩ := I0
      simp only [Ins.D]
      simp [s_backstepref22_Read_l0, rrRs, hck, hgc, hwk, hgw, hwm, hwr, hnn, htn, h1]
    obtain ⟨σ', cs', k1, k2⟩ := this
    exact ⟨σ', cs', _, k1, k2⟩

theorem opsBy_drop' {f : UInt8 → List UInt8 → Option Int} {cs : List UInt8} {ws : List (List UInt8)} {j : Nat} {c : UInt8} {w : List UInt8} (hc : cs[j]? = some c) (hw : ws[j]? = some w) :
    opsBy f (cs.drop j) (ws.drop j) = match f c w with
      | none => none
      | some x => match opsBy f (cs.drop (j + 1)) (ws.drop (j + 1)) with
        | none => none
        | some xs => some (x :: xs) := by
  obtain ⟨h1, h2⟩ := List.getElem?_eq_some_iff.1 hc
  obtain ⟨h3, h4⟩ := List.getElem?_eq_some_iff.1 hw
  rw [List.drop_eq_getElem_cons h1, List.drop_eq_getElem_cons h3, h2, h4]
  rfl

theorem ri_loop (s : List UInt8) (w0 : List UInt8) (ws : List (List UInt8)) (op : Nat) (cs : List UInt8) (hl : cs.length ≤ 4) (hlen : ws.length = cs.length) (hwl : ∀ w ∈ ws, w.length ≤ 1000) : ∀ (f j : Nat) (xs : List Int), j + f = cs.length → xs.length = j →
    match opsBy opR (cs.drop j) (ws.drop j) with
    | some ys => loopS (cfg m) s_backstepref22_Read_l0 riKs riTs (riSt s (w0 :: ws) op cs j xs) = some (.exit 2, riEx s (w0 :: ws) op cs (xs ++ ys))
    | none => ∃ σ' cs' i, loopS (cfg m) s_backstepref22_Read_l0 riKs riTs (riSt s (w0 :: ws) op cs j xs) = some (.ret, σ') ∧ result rrRs σ' = some (.tup [.d (Ins.D i), .d (.bool false)], cs') := by
  intro f
  induction f with
  | zero =>
    intro j xs hj hx
    obtain rfl : j = cs.length := by omega
    rw [List.drop_length]
    simp only [opsBy, List.append_nil]
    refine loopS_exit ?_
    simp [s_backstepref22_Read_l0, riSt, riEx, rrEnv, rrCells]
  | succ f ih =>
    intro j xs hj hx
    have h1 : j < cs.length := by omega
    have hc : cs[j]? = some cs[j] := List.getElem?_eq_getElem h1
    have hw : ws[j]? = some (ws[j]'(by omega)) := List.getElem?_eq_getElem (by omega)
    have hst := ri_step m s w0 ws op cs hl j xs hx cs[j] hc _ hw (hwl _ (List.getElem_mem _))
    rw [opsBy_drop' hc hw]
    cases hq : opR cs[j] (ws[j]'(by omega)) with
    | none =>
      rw [hq] at hst
      obtain ⟨σ', cs', i, g1, g2⟩ := hst
      exact ⟨σ', cs', i, loopS_ret g1, g2⟩
    | some x =>
      rw [hq] at hst
      obtain ⟨σ', g1, g2⟩ := hst
      have := ih (j + 1) (xs ++ [x]) (by omega) (by simp [hx])
      simp only
      cases hr : opsBy opR (cs.drop (j + 1)) (ws.drop (j + 1)) with
      | none =>
        rw [hr] at this
        obtain ⟨σ'', cs', i, g3, g4⟩ := this
        exact ⟨σ'', cs', i, loopS_step g1 (by rw [g2]; exact g3), g4⟩
      | some ys =>
        rw [hr] at this
        simp only at this ⊢
        rw [loopS_step g1 (by rw [g2]; exact this), List.append_assoc]; rfl
end Go.Ev.S
