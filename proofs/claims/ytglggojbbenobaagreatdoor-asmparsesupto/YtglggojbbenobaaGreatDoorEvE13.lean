/- Machine code: a text read. -/
import Derived.Test.YtglggojbbenobaaGreatDoorEvE12
set_option linter.all false
namespace Go.Ev.S
open Go.Proofs Go.Ev.A
variable (m : Int)

theorem prim_cutL (s : List UInt8) (hs : s.length ≤ 1000000) : ev1 (cfg m) 42 [.d (.str s), .d (.str [10])] = some (.tup [.d (.str (Lib.cut s [10]).1), .d (.str (Lib.cut s [10]).2.1), .d (.bool (Lib.cut s [10]).2.2)]) := by
  refine ev1_pure rfl ?_ rfl
  have : short s = true := by unfold short; rw [Nat.ble_eq]; omega
  simp [p2, this]

theorem cut_lens (s : List UInt8) : (Lib.cut s [10]).1.length ≤ s.length := by
  by_cases hm : (10 : UInt8) ∈ s
  · rcases index_cases s 10 with ⟨h1, _⟩ | ⟨w, t, rfl, h2, _⟩
    · exact absurd hm h1
    · rw [cut_at h2]; simp
  · rw [cut_none hm]; simp

def pzSt (s : List UInt8) (out : List Ins) (n : Nat) : St :=
  { env := [(0, .d (.str s)), (2, .own 1000), (3, .d (.int .i64 0)), (4, .d (.int .i64 0)), (5, .d (.map mnK mnO)), (6, .own 1512), (7, .d (.int .i64 (n : Int)))],
    cells := [(1000, .row 43 5 []), (1512, .row 43 5 (out.map Ins.D))] }
def pzEx (out : List Ins) (n : Nat) : St := { pzSt [] out n with env := (pzSt [] out n).env ++ [(15, .d (.bool false))] }
def pzKs : List Nat := [0, 2, 3, 4, 5, 6, 7]
def pzRs : List SRes := [.tmp 2, .tmp 3, .tmp 4]

set_option maxHeartbeats 4000000 in
theorem pz_loop : ∀ (f : Nat) (s : List UInt8) (out : List Ins) (n : Nat), s.length < f → s.length ≤ 100000 → n + s.length ≤ 65536 → out.length + s.length ≤ 100000 →
    (∃ n' l, loopS (cfg m) s_asm_Parse_l0 pzKs [1000, 1512] (pzSt s out n) = some (.exit 0, pzEx l n') ∧ parseI f s out n = (l, 0, 0)) ∨
    (∃ (σ : St) (cs : Cells) (k : Nat) (e : Int), loopS (cfg m) s_asm_Parse_l0 pzKs [1000, 1512] (pzSt s out n) = some (.ret, σ) ∧ result pzRs σ = some (.tup [.d (.sl []), .d (.int .i64 (k : Int)), .d (.int .i64 e)], cs) ∧ parseI f s out n = ([], k, e) ∧ e ≠ 0)
  | 0, s, out, n, h, _, _, _ => by omega
  | f + 1, s, out, n, h, hs, hn, ho => by
    rw [parseI]
    by_cases hse : s = []
    · left
      refine ⟨n, out, loopS_exit ?_, by rw [if_pos hse]⟩
      subst hse
      simp [s_asm_Parse_l0, pzSt, pzEx]
    · have hl : 0 < s.length := List.length_pos_iff.2 hse
      rw [if_neg hse, if_neg (by omega)]
      have hc := prim_cutL m s (by omega)
      have hcl := cut_lens s
      obtain ⟨i, ok, hp, hr⟩ := e_parse m (Lib.cut s [10]).1 (by omega)
      have hgt : ¬ (65536 < (n : Int)) := by omega
      have hgt' : ¬ (65536 < n) := by omega
      have hw := wrap_i64 ((n : Int) + 1) (by omega) (by omega)
      have b1 : out.length + 1 ≤ 140737488355328 ∧ (out.length + 1) * 40 ≤ 140737488355328 := by omega
      have hZ : zIns.D = .agg [.int .u8 0, .int .i64 0, .int .i64 0, .int .i64 0, .int .i64 0] := rfl
      rcases hr with ⟨rfl, hr⟩ | ⟨rfl, hr⟩
      · rw [hr]
        simp only
        by_cases he : (Lib.cut s [10]).2.2 = true
        · rw [if_pos he]
          have hlt := cut_len s he
          have hst : ∃ σ, evalS (cfg m) s_asm_Parse_l0 (pzSt s out n) = some (.normal, σ) ∧ σ.norm pzKs [1000, 1512] = pzSt (Lib.cut s [10]).2.1 (out ++ [i]) (n + 1) := by
            rw [he] at hc
            simp [s_asm_Parse_l0, pzSt, pzKs, hse, hc, hp, hgt, hgt', hw, b1]
          obtain ⟨σ, g1, g2⟩ := hst
          rcases pz_loop f (Lib.cut s [10]).2.1 (out ++ [i]) (n + 1) (by omega) (by omega) (by omega) (by simp; omega) with ⟨n', l, h1, h2⟩ | ⟨σ', cs, k, e, h1, h2, h3, h4⟩
          · exact .inl ⟨n', l, loopS_step g1 (by rw [g2]; exact h1), h2⟩
          · exact .inr ⟨σ', cs, k, e, loopS_step g1 (by rw [g2]; exact h1), h2, h3, h4⟩
        · rw [if_neg he]
          right
          have hst : ∃ σ cs, evalS (cfg m) s_asm_Parse_l0 (pzSt s out n) = some (.ret, σ) ∧ result pzRs σ = some (.tup [.d (.sl []), .d (.int .i64 (n : Int)), .d (.int .i64 4)], cs) := by
            simp only [Bool.not_eq_true] at he
            rw [he] at hc
            simp [s_asm_Parse_l0, pzSt, pzRs, hse, hc, hp, hgt, hgt']
          obtain ⟨σ, cs, g1, g2⟩ := hst
          exact ⟨σ, cs, n, 4, loopS_ret g1, g2, rfl, by decide⟩
      · rw [hr]
        right
        have hst : ∃ σ cs, evalS (cfg m) s_asm_Parse_l0 (pzSt s out n) = some (.ret, σ) ∧ result pzRs σ = some (.tup [.d (.sl []), .d (.int .i64 (n : Int)), .d (.int .i64 3)], cs) := by
          simp [s_asm_Parse_l0, pzSt, pzRs, hse, hc, hp, hgt, hgt']
        obtain ⟨σ, cs, g1, g2⟩ := hst
        exact ⟨σ, cs, n, 3, loopS_ret g1, g2, rfl, by decide⟩

def prV (r : List Ins × Nat × Int) : V := .tup [.d (.sl (r.1.map Ins.D)), .d (.int .i64 (r.2.1 : Int)), .d (.int .i64 r.2.2)]
noncomputable def parseT (s : List UInt8) : List Ins × Nat × Int := parseI (s.length + 1) s [] 1

set_option maxHeartbeats 4000000 in
theorem e_Parse (s : List UInt8) (hs : s.length ≤ 60000) : ev1 (cfg m) 17 [.d (.str s)] = some (prV (parseT s)) := by
  refine ev1_fn rfl rfl ?_ rfl
  have hm := e_mnemonics m
  unfold parseT
  rcases pz_loop m (s.length + 1) s [] 1 (by omega) (by omega) (by omega) (by simp; omega) with ⟨n', l, h1, h2⟩ | ⟨σ', cs, k, e, h1, h2, h3, h4⟩
  · rw [h2]
    simp [pzSt, pzEx, pzKs] at h1
    simp [s_asm_Parse, hm, h1, prV]
  · rw [h3]
    simp [pzSt, pzKs] at h1
    simp only [pzRs] at h2
    simp [s_asm_Parse, hm, h1, prV, -result]
    rw [h2]; simp
end Go.Ev.S
