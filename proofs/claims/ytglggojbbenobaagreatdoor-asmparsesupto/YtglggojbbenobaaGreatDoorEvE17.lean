/- Machine code: Decode. -/
import Derived.Test.YtglggojbbenobaaGreatDoorEvE16
set_option linter.all false
namespace Go.Ev.S
open Go.Proofs Go.Ev.A
variable (m : Int)

def diEx (b0 : List UInt8) (n k : Nat) (b : List UInt8) (out : List Ins) (op : Nat) (cs : List UInt8) (xs : List Int) : St :=
  { diSt b0 n k b out op cs cs.length xs with env := (diSt b0 n k b out op cs cs.length xs).env ++ [(44, .d (.bool false))] }

theorem takeArgs_drop {cs b : List UInt8} {j : Nat} {c : UInt8} (hc : cs[j]? = some c) : takeArgs (cs.drop j) b = if b.length < width c then none else
    match takeArgs (cs.drop (j + 1)) (b.drop (width c)) with
    | none => none
    | some (xs, r) => some (numI (b.take (width c)) :: xs, r) := by
  obtain ⟨h1, h2⟩ := List.getElem?_eq_some_iff.1 hc
  rw [List.drop_eq_getElem_cons h1, h2]
  simp only [takeArgs]
  split
  · rfl
  · cases takeArgs (cs.drop (j + 1)) (b.drop (width c)) <;> rfl

theorem di_loop (b0 : List UInt8) (n k : Nat) (out : List Ins) (op : Nat) (cs : List UInt8) (hl : cs.length ≤ 4) : ∀ (f j : Nat) (b : List UInt8) (xs : List Int), j + f = cs.length → xs.length = j → b.length ≤ 1000000 →
    match takeArgs (cs.drop j) b with
    | some (ys, r) => loopS (cfg m) s_asm_Decode_l0 diKs diTs (diSt b0 n k b out op cs j xs) = some (.exit 2, diEx b0 n k r out op cs (xs ++ ys)) ∧ r.length ≤ b.length
    | none => ∃ σ' cs', loopS (cfg m) s_asm_Decode_l0 diKs diTs (diSt b0 n k b out op cs j xs) = some (.ret, σ') ∧ result dRs σ' = some (.tup [.d (.sl []), .d (.int .i64 4)], cs') := by
  intro f
  induction f with
  | zero =>
    intro j b xs hj hx hb
    obtain rfl : j = cs.length := by omega
    rw [List.drop_length]
    simp only [takeArgs, List.append_nil]
    refine ⟨loopS_exit ?_, Nat.le_refl _⟩
    simp [s_asm_Decode_l0, diSt, diEx, doEnv, doCells]
  | succ f ih =>
    intro j b xs hj hx hb
    have h1 : j < cs.length := by omega
    have hc : cs[j]? = some cs[j] := List.getElem?_eq_getElem h1
    have hst := di_step m b0 n k b hb out op cs hl j xs hx cs[j] hc
    rw [takeArgs_drop hc]
    by_cases hlt : b.length < width cs[j]
    · rw [if_pos hlt] at hst ⊢
      obtain ⟨σ', cs', g1, g2⟩ := hst
      exact ⟨σ', cs', loopS_ret g1, g2⟩
    · rw [if_neg hlt] at hst ⊢
      obtain ⟨σ', g1, g2⟩ := hst
      have := ih (j + 1) (b.drop (width cs[j])) (xs ++ [numI (b.take (width cs[j]))]) (by omega) (by simp [hx]) (by simp; omega)
      cases hq : takeArgs (cs.drop (j + 1)) (b.drop (width cs[j])) with
      | none =>
        rw [hq] at this
        obtain ⟨σ'', cs', g3, g4⟩ := this
        exact ⟨σ'', cs', loopS_step g1 (by rw [g2]; exact g3), g4⟩
      | some p =>
        obtain ⟨ys, r⟩ := p
        rw [hq] at this
        obtain ⟨g3, g4⟩ := this
        simp only
        refine ⟨by rw [loopS_step g1 (by rw [g2]; exact g3), List.append_assoc]; rfl, ?_⟩
        simp at g4; omega

theorem numI_one (o : UInt8) : numI [o] = (o.toNat : Int) := by
  have := o.toNat_lt
  unfold numI numU
  simp only [List.foldl_cons, List.foldl_nil, Nat.zero_mul, Nat.zero_add]
  exact wrap_i64 _ (by omega) (by omega)

set_option maxHeartbeats 8000000 in
theorem do_step (b0 : List UInt8) (n k : Nat) (hk : k < n) (hn : n ≤ 65536) (b : List UInt8) (hb : b.length ≤ 1000000) (out : List Ins) (ho : out.length ≤ k) :
    match dec1 b with
    | .ok (i, r) => (∃ σ', evalS (cfg m) s_asm_Decode_l1 (doSt b0 n k b out) = some (.normal, σ') ∧ σ'.norm doKs doTs = doSt b0 n (k + 1) r (out ++ [i])) ∧ r.length ≤ b.length
    | .error e => ∃ σ' cs', evalS (cfg m) s_asm_Decode_l1 (doSt b0 n k b out) = some (.ret, σ') ∧ result dRs σ' = some (.tup [.d (.sl []), .d (.int .i64 e)], cs') := by
  have ht := ev_take m b 1 (by decide) hb
  have hk' : (k : Int) < n := by omega
  cases b with
  | nil =>
    have e : ofBytes [] = [] := rfl
    simp [e] at ht
    simp only [dec1]
    simp [s_asm_Decode_l1, doSt, doEnv, doCells, dRs, hk, hk', callEff, reach, pass, over, without, noVars, newTags, pickT, swapped, V.ren, V.renL, Cell.ren, e, ht]
  | cons o b =>
    have hol : o.toNat < 256 := o.toNat_lt
    simp only [List.length_cons, show ¬ (b.length + 1 < 1) by omega, if_false, List.take_succ_cons, List.take_zero, numI_one, List.drop_succ_cons, List.drop_zero] at ht
    have hw8 : IntKind.u8.wrap (o.toNat : Int) = (o.toNat : Int) := IntWalk.u8_in _ (by omega)
    simp only [dec1]
    generalize hoB : o :: b = B at *
    cases hcl : cls (o.toNat : Int) with
    | none =>
      have h35 : (35 : Int) ≤ o.toNat := by
        refine Int.not_lt.1 fun h => ?_
        obtain ⟨cs, hcs⟩ := cls_of (op := (o.toNat : Int)) (by omega) (by omega)
        rw [hcs] at hcl; cases hcl
      have h35' : 35 ≤ o.toNat := by omega
      simp at ht
      simp [s_asm_Decode_l1, doSt, doEnv, doCells, dRs, hk, hk', callEff, reach, pass, over, without, noVars, newTags, pickT, swapped, V.ren, V.renL, Cell.ren, ht, h35, h35']
    | some cs =>
      have h35 : ¬ (35 : Int) ≤ o.toNat := by have := cls_some hcl; omega
      have h35' : ¬ 35 ≤ o.toNat := by omega
      have hlp := di_loop m b0 n k out o.toNat cs (cls_len hcl) cs.length 0 b [] (by omega) rfl (by rw [← hoB] at hb; simp at hb; omega)
      simp only [List.drop_zero, List.nil_append] at hlp
      have hpl := ev_places m (insOf (o.toNat : Int) [])
      simp only [Ins.D, ptrs, insOf, List.getD_nil] at hpl
      have e0 := e_classes m (op := (o.toNat : Int)) (by omega) (by omega)
      have hd : clsD (o.toNat : Int) = cs := by simp [clsD, hcl]
      rw [hd] at e0
      simp only
      simp at ht
      cases hq : takeArgs cs b with
      | none =>
        rw [hq] at hlp
        obtain ⟨σ', cs', g1, g2⟩ := hlp
        simp [diSt, doEnv, doCells, diKs, diTs, Ins.D, insOf, ptrs] at g1
        refine ⟨σ', cs', ?_, g2⟩
        simp [s_asm_Decode_l1, doSt, doEnv, doCells, hk, hk', callEff, reach, pass, over, without, noVars, newTags, pickT, swapped, V.ren, V.renL, Cell.ren, ht, h35, h35', hw8, hpl, e0, g1]
      | some p =>
        obtain ⟨xs, r⟩ := p
        rw [hq] at hlp
        obtain ⟨g1, g2⟩ := hlp
        have hV := e_Valid m (insOf (o.toNat : Int) xs)
        have hI : (insOf (o.toNat : Int) []).D = .agg [.int .u8 (o.toNat : Int), .int .i64 0, .int .i64 0, .int .i64 0, .int .i64 0] := by simp [insOf, Ins.D]
        have hw := wrap_i64 ((k : Int) + 1) (by omega) (by omega)
        have b1 : out.length + 1 ≤ 140737488355328 ∧ (out.length + 1) * 40 ≤ 140737488355328 := by omega
        simp only [diSt, diEx, hI] at g1
        simp only
        generalize insOf (o.toNat : Int) xs = i at *
        simp [doEnv, doCells, diKs, diTs, ptrs] at g1
        cases hv : validI i with
        | false =>
          rw [hv] at hV
          simp only [Bool.false_eq_true, if_false]
          simp [s_asm_Decode_l1, doSt, doEnv, doCells, dRs, hk, hk', callEff, reach, pass, over, without, noVars, newTags, pickT, swapped, V.ren, V.renL, Cell.ren, ht, h35, h35', hw8, hpl, e0, g1, hV]
        | true =>
          rw [hv] at hV
          simp only [if_true]
          refine ⟨?_, by rw [← hoB]; simp; omega⟩
          simp [s_asm_Decode_l1, doSt, doEnv, doCells, doKs, doTs, hk, hk', callEff, reach, pass, over, without, noVars, newTags, pickT, swapped, V.ren, V.renL, Cell.ren, ht, h35, h35', hw8, hpl, e0, g1, hV, hw, b1]
end Go.Ev.S
