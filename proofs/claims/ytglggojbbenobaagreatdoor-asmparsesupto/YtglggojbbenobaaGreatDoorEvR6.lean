/- Machine code: the reference's take and set, and the operands of an instruction. -/
import Derived.Test.YtglggojbbenobaaGreatDoorEvR5
import Derived.Test.YtglggojbbenobaaGreatDoorEvE18
set_option linter.all false
namespace Go.Ev.S
open Go.Proofs Go.Ev.A
variable (m : Int)

def rtSt (b : List UInt8) (n : Nat) (k : Nat) : St :=
  { env := [(0, .d (.sl (ofBytes b))), (1, .d (.int .i64 (n : Int))), (4, .d (.int .i64 0)), (5, .d (.int .u64 (numU 0 ((b.take n).take k) : Int))), (6, .d (.int .i64 (k : Int)))], cells := [] }
def rtEx (b : List UInt8) (n : Nat) : St := { rtSt b n n with env := (rtSt b n n).env ++ [(9, .d (.bool false))] }
def rtKs : List Nat := [0, 1, 4, 5, 6]

set_option maxHeartbeats 2000000 in
theorem rt_step (b : List UInt8) (n : Nat) (hn : n ≤ 8) (hb : n ≤ b.length) (hbl : b.length ≤ 1000000) (k : Nat) (hk : k < n) :
    ∃ σ', evalS (cfg m) s_backstepref22_take_l0 (rtSt b n k) = some (.normal, σ') ∧ σ'.norm rtKs [] = rtSt b n (k + 1) := by
  have hlen : (b.take n).length = n := by simp; omega
  obtain ⟨c, hc⟩ : ∃ c, (b.take n)[k]? = some c := ⟨_, List.getElem?_eq_getElem (by omega)⟩
  have hcb : b[k]? = some c := by rw [List.getElem?_take] at hc; rw [if_pos hk] at hc; exact hc
  have hg := ofBytes_get hcb
  have hcl : c.toNat < 256 := c.toNat_lt
  have ht : (b.take n).take (k + 1) = (b.take n).take k ++ [c] := by rw [List.take_add_one, hc]; rfl
  have hu : numU 0 ((b.take n).take k) < 72057594037927936 := by
    refine Nat.lt_of_lt_of_le (numU_lt _) ?_
    have h1 : ((b.take n).take k).length ≤ 7 := by simp; omega
    exact Nat.le_trans (Nat.pow_le_pow_right (by decide) h1) (by decide)
  have hor := or_byte (numU 0 ((b.take n).take k)) c.toNat hu hcl
  have hnu : numU 0 ((b.take n).take (k + 1)) = numU 0 ((b.take n).take k) * 256 + c.toNat := by
    rw [ht, numU_app]; rfl
  have hw := wrap_i64 ((k : Int) + 1) (by omega) (by omega)
  have hw2 : IntKind.u64.wrap (c.toNat : Int) = (c.toNat : Int) := IntWalk.u64_in _ (by omega)
  have hsh : shiftBin .shl .u64 (numU 0 ((b.take n).take k) : Int) 8 = some (.int .u64 (IntKind.u64.wrap ((numU 0 ((b.take n).take k) : Int) * 2 ^ 8))) := by
    have hbits : IntKind.u64.bits = 64 := rfl
    simp [shiftBin, hbits]
  have hk' : (k : Int) < n := by omega
  unfold rtSt
  rw [hnu]
  generalize numU 0 ((b.take n).take k) = u at *
  generalize hB : ofBytes b = B at *
  simp only [intBin] at hor
  simp at hor
  simp [s_backstepref22_take_l0, rtKs, hk', hk, hg, hsh, hw, hw2, hor]

theorem rt_loop (b : List UInt8) (n : Nat) (hn : n ≤ 8) (hb : n ≤ b.length) (hbl : b.length ≤ 1000000) : loopS (cfg m) s_backstepref22_take_l0 rtKs [] (rtSt b n 0) = some (.exit 0, rtEx b n) := by
  refine loopS_upto (C := cfg m) (fun k => rtSt b n k) n (by simp) (fun k hk => rt_step m b n hn hb hbl k hk) ?_
  simp [s_backstepref22_take_l0, rtSt, rtEx]

theorem r_take (b : List UInt8) (n : Nat) (hn : n ≤ 8) (hb : n ≤ b.length) (hbl : b.length ≤ 1000000) :
    ev1 (cfg m) 49 [.d (.sl (ofBytes b)), .d (.int .i64 (n : Int))] = some (.d (.int .i64 (numI (b.take n)))) := by
  refine ev1_fn rfl rfl ?_ rfl
  have hlp := rt_loop m b n hn hb hbl
  have e3 : (b.take n).take n = b.take n := by rw [List.take_take, Nat.min_self]
  simp only [rtSt, rtEx, e3] at hlp
  simp [rtKs, numU] at hlp
  simp [s_backstepref22_take, numI]
  rw [hlp]
  simp
  rfl

theorem r_set0 (op a b c d x : Int) : ev1 (cfg m) 50 [.d (.agg [.int .u8 op, .int .i64 a, .int .i64 b, .int .i64 c, .int .i64 d]), .d (.int .i64 0), .d (.int .i64 x)] = some (.d (.agg [.int .u8 op, .int .i64 x, .int .i64 b, .int .i64 c, .int .i64 d])) := by
  refine ev1_fn rfl rfl ?_ rfl; simp [s_backstepref22_set]
theorem r_set1 (op a b c d x : Int) : ev1 (cfg m) 50 [.d (.agg [.int .u8 op, .int .i64 a, .int .i64 b, .int .i64 c, .int .i64 d]), .d (.int .i64 1), .d (.int .i64 x)] = some (.d (.agg [.int .u8 op, .int .i64 a, .int .i64 x, .int .i64 c, .int .i64 d])) := by
  refine ev1_fn rfl rfl ?_ rfl; simp [s_backstepref22_set]
theorem r_set2 (op a b c d x : Int) : ev1 (cfg m) 50 [.d (.agg [.int .u8 op, .int .i64 a, .int .i64 b, .int .i64 c, .int .i64 d]), .d (.int .i64 2), .d (.int .i64 x)] = some (.d (.agg [.int .u8 op, .int .i64 a, .int .i64 b, .int .i64 x, .int .i64 d])) := by
  refine ev1_fn rfl rfl ?_ rfl; simp [s_backstepref22_set]
theorem r_set3 (op a b c d x : Int) : ev1 (cfg m) 50 [.d (.agg [.int .u8 op, .int .i64 a, .int .i64 b, .int .i64 c, .int .i64 d]), .d (.int .i64 3), .d (.int .i64 x)] = some (.d (.agg [.int .u8 op, .int .i64 a, .int .i64 b, .int .i64 c, .int .i64 x])) := by
  refine ev1_fn rfl rfl ?_ rfl; simp [s_backstepref22_set]

theorem r_set (op : Int) (xs : List Int) (x : Int) (h : xs.length < 4) : ev1 (cfg m) 50 [.d (insOf op xs).D, .d (.int .i64 (xs.length : Int)), .d (.int .i64 x)] = some (.d (insOf op (xs ++ [x])).D) := by
  match xs, h with
  | [], _ => exact r_set0 m ..
  | [a], _ => exact r_set1 m ..
  | [a, b], _ => exact r_set2 m ..
  | [a, b, c], _ => exact r_set3 m ..

/-! ## The operands -/
def rdEnv (b : List UInt8) (n : Nat) : Env := [(0, .d (.sl (ofBytes b))), (2, .own 1000), (3, .d (.int .i64 0)), (13, .d (.bool false)), (4, .d (.int .i64 (n : Int))), (19, .d (.bool false)), (5, .own 2792)]
def rdCells (out : List Ins) : Cells := [(1000, .row 43 5 []), (2792, .row 43 5 (out.map Ins.D))]
def rdSt (n : Nat) (b : List UInt8) (out : List Ins) : St := { env := rdEnv b n, cells := rdCells out }
def rdKs : List Nat := [0, 2, 3, 13, 4, 19, 5]
def rdTs : List Nat := [1000, 2792]
def rjSt (n : Nat) (b : List UInt8) (out : List Ins) (op : Nat) (cs : List UInt8) (j : Nat) (xs : List Int) : St :=
  { env := rdEnv b n ++ [(23, .d (.bool true)), (26, .d (.bool false)), (6, .ptr 3832 0 []), (7, .d (.str cs)), (8, .d (.bool true)), (39, .d (.bool false)), (9, .d (.int .i64 (j : Int)))],
    cells := rdCells out ++ [(3832, .var 43 (.d (insOf op xs).D))] }
def rjKs : List Nat := [0, 2, 3, 13, 4, 19, 5, 23, 26, 6, 7, 8, 39, 9]
def rjTs : List Nat := [1000, 2792, 3832]

set_option maxHeartbeats 4000000 in
theorem rj_step (n : Nat) (b : List UInt8) (hb : b.length ≤ 1000000) (out : List Ins) (op : Nat) (cs : List UInt8) (hl : cs.length ≤ 4) (j : Nat) (xs : List Int) (hxs : xs.length = j) (c : UInt8) (hcc : c = 114 ∨ c = 111 ∨ c = 110 ∨ c = 101 ∨ c = 107 ∨ c = 116) (hc : cs[j]? = some c) :
    if b.length < width c then ∃ σ' cs', evalS (cfg m) s_backstepref22_Decode_l0 (rjSt n b out op cs j xs) = some (.ret, σ') ∧ result dRs σ' = some (.tup [.d (.sl []), .d (.int .i64 4)], cs')
    else ∃ σ', evalS (cfg m) s_backstepref22_Decode_l0 (rjSt n b out op cs j xs) = some (.normal, σ') ∧ σ'.norm rjKs rjTs = rjSt n (b.drop (width c)) out op cs (j + 1) (xs ++ [numI (b.take (width c))]) := by
  have h1 := r_width m c hcc
  have hw8 : width c ≤ 8 := by rcases width_cases c with h | h | h <;> omega
  have hck := (List.getElem?_eq_some_iff.1 hc).1
  have hgc : cs[j] = c := (List.getElem?_eq_some_iff.1 hc).2
  have hd : ofBytes (b.drop (width c)) = (ofBytes b).drop (width c) := by simp [ofBytes, List.map_drop]
  subst hxs
  split
  · rename_i hlt
    have hlt' : (b.length : Int) < width c := by omega
    simp [s_backstepref22_Decode_l0, rjSt, rjKs, rjTs, dRs, rdEnv, rdCells, hck, hgc, h1, hlt, hlt']
  · rename_i hlt
    have hlt' : ¬ (b.length : Int) < width c := by omega
    have ht := r_take m b (width c) hw8 (by omega) hb
    have hse := r_set m (op : Int) xs (numI (b.take (width c))) (by omega)
    have hw := wrap_i64 ((xs.length : Int) + 1) (by omega) (by omega)
    have hs1 : ∀ k, slotAt 1 (ofBytes b) k = true := fun k => slotAt_map (fun a => by simp) b
    unfold rjSt rdEnv rdCells
    rw [hd]
    generalize hI1 : (insOf (op : Int) (xs ++ [numI (b.take (width c))])) = I1 at *
    generalize hI0 : (insOf (op : Int) xs) = I0 at *
    obtain ⟨o0, a0, b0, c0, d0⟩ := I0
    obtain ⟨o1, a1, b1, c1, d1⟩ := I1
    simp only [Ins.D] at hse ⊢
    simp [s_backstepref22_Decode_l0, rjKs, rjTs, hck, hgc, h1, hlt, hlt', ht, hse, hw, hs1, show width c ≤ b.length by omega]
    rw [List.take_of_length_le (by simp)]
end Go.Ev.S
