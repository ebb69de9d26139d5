/- Machine code: the reference's Decode. -/
import Derived.Test.YtglggojbbenobaaGreatDoorEvR6
set_option linter.all false
namespace Go.Ev.S
open Go.Proofs Go.Ev.A
variable (m : Int)

def rjEx (n : Nat) (b : List UInt8) (out : List Ins) (op : Nat) (cs : List UInt8) (xs : List Int) : St :=
  { rjSt n b out op cs cs.length xs with env := (rjSt n b out op cs cs.length xs).env ++ [(45, .d (.bool false))] }

theorem rj_loop (n : Nat) (out : List Ins) (op : Nat) (cs : List UInt8) (hl : cs.length ≤ 4) (hlet : ∀ c ∈ cs, c = 114 ∨ c = 111 ∨ c = 110 ∨ c = 101 ∨ c = 107 ∨ c = 116) : ∀ (f j : Nat) (b : List UInt8) (xs : List Int), j + f = cs.length → xs.length = j → b.length ≤ 1000000 →
    match takeArgs (cs.drop j) b with
    | some (ys, r) => loopS (cfg m) s_backstepref22_Decode_l0 rjKs rjTs (rjSt n b out op cs j xs) = some (.exit 2, rjEx n r out op cs (xs ++ ys)) ∧ r.length ≤ b.length
    | none => ∃ σ' cs', loopS (cfg m) s_backstepref22_Decode_l0 rjKs rjTs (rjSt n b out op cs j xs) = some (.ret, σ') ∧ result dRs σ' = some (.tup [.d (.sl []), .d (.int .i64 4)], cs') := by
  intro f
  induction f with
  | zero =>
    intro j b xs hj hx hb
    obtain rfl : j = cs.length := by omega
    rw [List.drop_length]
    simp only [takeArgs, List.append_nil]
    refine ⟨loopS_exit ?_, Nat.le_refl _⟩
    simp [s_backstepref22_Decode_l0, rjSt, rjEx, rdEnv, rdCells]
  | succ f ih =>
    intro j b xs hj hx hb
    have h1 : j < cs.length := by omega
    have hc : cs[j]? = some cs[j] := List.getElem?_eq_getElem h1
    have hst := rj_step m n b hb out op cs hl j xs hx cs[j] (hlet _ (List.getElem_mem h1)) hc
    rw [takeArgs_drop hc]
    by_cases hlt : b.length < width cs[j]
    · rw [if_pos hlt] at hst ⊢
      obtain ⟨σ', cs', g1, g2⟩ := hst
      exact ⟨σ', cs', loopS_ret g1, g2⟩
    · rw [if_neg hlt] at hst ⊢
      obtain ⟨σ', g1, g2⟩ := hst
      have := ih (j + 1) (b.drop (width cs[j])) (xs ++ [numI (b.take (width cs[j]))]) (by omega) (by simp [hx]) (by simp; omega)
      cases hq : takeArgs (cs.drop (j + 1)) (b.drop (width cs[j])) with
      | none =>
        rw [hq] at this
        obtain ⟨σ'', cs', g3, g4⟩ := this
        exact ⟨σ'', cs', loopS_step g1 (by rw [g2]; exact g3), g4⟩
      | some p =>
        obtain ⟨ys, r⟩ := p
        rw [hq] at this
        obtain ⟨g3, g4⟩ := this
        simp only
        refine ⟨by rw [loopS_step g1 (by rw [g2]; exact g3), List.append_assoc]; rfl, ?_⟩
        simp at g4; omega

set_option maxHeartbeats 8000000 in
theorem rd_step (n : Nat) (hn : n ≤ 65536) (b : List UInt8) (hb : b.length ≤ 1000000) (out : List Ins) (ho : out.length < n) :
    match dec1 b with
    | .ok (i, r) => (∃ σ', evalS (cfg m) s_backstepref22_Decode_l1 (rdSt n b out) = some (.normal, σ') ∧ σ'.norm rdKs rdTs = rdSt n r (out ++ [i])) ∧ r.length ≤ b.length
    | .error e => ∃ σ' cs', evalS (cfg m) s_backstepref22_Decode_l1 (rdSt n b out) = some (.ret, σ') ∧ result dRs σ' = some (.tup [.d (.sl []), .d (.int .i64 e)], cs') := by
  have hk' : (out.length : Int) < n := by omega
  cases b with
  | nil =>
    have e : ofBytes [] = [] := rfl
    simp only [dec1]
    simp [s_backstepref22_Decode_l1, rdSt, rdEnv, rdCells, dRs, ho, hk', e]
  | cons o b =>
    have hol : o.toNat < 256 := o.toNat_lt
    have hB : ofBytes (o :: b) = .int .u8 (o.toNat : Int) :: ofBytes b := rfl
    have hlen : ¬ ((b.length : Int) + 1 < 1) := by omega
    have e0 := r_classes m (op := (o.toNat : Int)) (by omega) (by omega)
    have hbl : b.length ≤ 1000000 := by simp at hb; omega
    simp only [dec1]
    cases hcl : cls (o.toNat : Int) with
    | none =>
      have hd : cls2 (o.toNat : Int) = .tup [.d (.str []), .d (.bool false)] := by simp [cls2, clsD, hcl]
      rw [hd] at e0
      simp [s_backstepref22_Decode_l1, rdSt, rdEnv, rdCells, dRs, ho, hk', hB, hlen, e0]
    | some cs =>
      have hd : cls2 (o.toNat : Int) = .tup [.d (.str cs), .d (.bool true)] := by simp [cls2, clsD, hcl]
      rw [hd] at e0
      have hlp := rj_loop m n out o.toNat cs (cls_len hcl) (cls_let hcl) cs.length 0 b [] (by omega) rfl hbl
      simp only [List.drop_zero, List.nil_append] at hlp
      have hs1 : ∀ k, slotAt 1 (ofBytes b) k = true := fun k => slotAt_map (fun a => by simp) b
      have htb : (ofBytes b).take b.length = ofBytes b := List.take_of_length_le (by simp)
      simp only
      cases hq : takeArgs cs b with
      | none =>
        rw [hq] at hlp
        obtain ⟨σ', cs', g1, g2⟩ := hlp
        simp [rjSt, rdEnv, rdCells, rjKs, rjTs, Ins.D, insOf] at g1
        refine ⟨σ', cs', ?_, g2⟩
        simp [s_backstepref22_Decode_l1, rdSt, rdEnv, rdCells, ho, hk', hB, hlen, e0, hs1, htb, g1]
      | some p =>
        obtain ⟨xs, r⟩ := p
        rw [hq] at hlp
        obtain ⟨g1, g2⟩ := hlp
        have hI : (insOf (o.toNat : Int) []).D = .agg [.int .u8 (o.toNat : Int), .int .i64 0, .int .i64 0, .int .i64 0, .int .i64 0] := by simp [insOf, Ins.D]
        have hff : (insOf (o.toNat : Int) xs).fits := by
          obtain ⟨_, h2, h3⟩ := take_inv hq
          have hl := cls_len hcl
          obtain ⟨ys, e, hy⟩ := insOf_args (op := o.toNat) (xs := xs) (by omega)
          have hi : ∀ x ∈ (insOf o.toNat xs).args, i64 x := by
            rw [e]; intro x hx
            rcases List.mem_append.1 hx with hx | hx
            · exact h3 x hx
            · rw [hy x hx]; exact ⟨by decide, by decide⟩
          exact ⟨by simp only [insOf]; omega, hi _ (by simp [Ins.args]), hi _ (by simp [Ins.args]), hi _ (by simp [Ins.args]), hi _ (by simp [Ins.args])⟩
        have hV := r_Valid m (insOf (o.toNat : Int) xs) hff
        have b1 : out.length + 1 ≤ 140737488355328 ∧ (out.length + 1) * 40 ≤ 140737488355328 := by omega
        simp only [rjSt, rjEx, hI] at g1
        simp only
        generalize insOf (o.toNat : Int) xs = i at *
        simp [rdEnv, rdCells, rjKs, rjTs] at g1
        cases hv : validI i with
        | false =>
          rw [hv] at hV
          simp only [Bool.false_eq_true, if_false]
          simp [s_backstepref22_Decode_l1, rdSt, rdEnv, rdCells, dRs, ho, hk', hB, hlen, e0, hs1, htb, g1, hV]
        | true =>
          rw [hv] at hV
          simp only [if_true]
          refine ⟨?_, by simp; omega⟩
          simp [s_backstepref22_Decode_l1, rdSt, rdEnv, rdCells, rdKs, rdTs, ho, hk', hB, hlen, e0, hs1, htb, g1, hV, b1]
end Go.Ev.S
