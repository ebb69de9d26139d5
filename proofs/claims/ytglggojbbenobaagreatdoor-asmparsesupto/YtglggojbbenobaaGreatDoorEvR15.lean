/- Machine code: the reference's text read. -/
import Derived.Test.YtglggojbbenobaaGreatDoorEvR14
set_option linter.all false
namespace Go.Ev.S
open Go.Proofs Go.Ev.A
variable (m : Int)

def pqEnv (s : List UInt8) (n : Nat) : Env := [(0, .d (.str s)), (2, .own 1000), (3, .d (.int .i64 0)), (4, .d (.int .i64 0)), (5, .own 1256), (6, .d (.int .i64 (n : Int)))]
def pqCells (out : List Ins) : Cells := [(1000, .row 43 5 []), (1256, .row 43 5 (out.map Ins.D))]
def pqSt (s : List UInt8) (out : List Ins) (n : Nat) : St := { env := pqEnv s n, cells := pqCells out }
def pqEx (out : List Ins) (n : Nat) : St := { pqSt [] out n with env := (pqSt [] out n).env ++ [(11, .d (.bool false))] }
def pqKs : List Nat := [0, 2, 3, 4, 5, 6]
def piSt (s : List UInt8) (out : List Ins) (n k : Nat) : St := { env := pqEnv s n ++ [(11, .d (.bool true)), (7, .d (.int .i64 (k : Int)))], cells := pqCells out }
def piEx (s : List UInt8) (out : List Ins) (n k : Nat) : St := { piSt s out n k with env := (piSt s out n k).env ++ [(23, .d (.bool false))] }
def piKs : List Nat := [0, 2, 3, 4, 5, 6, 11, 7]
def pqRs : List SRes := [.tmp 2, .tmp 3, .tmp 4]

set_option maxHeartbeats 2000000 in
theorem pi_loop (w r : List UInt8) (hr : r = [] ∨ ∃ t, r = 10 :: t) (hn : (10 : UInt8) ∉ w) (hs : (w ++ r).length ≤ 1000000) (out : List Ins) (n : Nat) :
    loopS (cfg m) s_backstepref22_Parse_l0 piKs [1000, 1256] (piSt (w ++ r) out n 0) = some (.exit 2, piEx (w ++ r) out n w.length) := by
  refine loopS_upto (C := cfg m) (fun k => piSt (w ++ r) out n k) w.length (by simp) (fun k hk => ?_) ?_
  · have hlt : k < (w ++ r).length := by simp; omega
    have hg : (w ++ r)[k] = w[k] := List.getElem_append_left hk
    have hne : (w ++ r)[k] ≠ 10 := by
      rw [hg]; intro h; exact hn (h ▸ List.getElem_mem hk)
    have hne2 : ¬ (((w ++ r)[k].toNat : Int) = 10) := by
      intro h
      have h2 : (w ++ r)[k].toNat = (10 : UInt8).toNat := by show (w ++ r)[k].toNat = 10; omega
      exact hne (UInt8.toNat_inj.1 h2)
    have hne3 : ¬ ((w ++ r)[k].toNat = 10) := by omega
    have hw := wrap_i64 ((k : Int) + 1) (by omega) (by omega)
    have hlt' : (k : Int) < (w ++ r).length := by omega
    generalize w ++ r = s at *
    simp [s_backstepref22_Parse_l0, piSt, pqEnv, pqCells, piKs, hlt, hlt', hne, hne2, hne3, hw]
  · rcases hr with rfl | ⟨t, rfl⟩
    · simp [s_backstepref22_Parse_l0, piSt, piEx, pqEnv, pqCells]
    · have hlt : w.length < (w ++ 10 :: t).length := by simp
      have hlt' : (w.length : Int) < (w ++ 10 :: t).length := by omega
      have hg : (w ++ 10 :: t)[w.length] = 10 := by simp
      generalize w ++ 10 :: t = s at *
      simp [s_backstepref22_Parse_l0, piSt, piEx, pqEnv, pqCells, hlt, hlt', hg]

set_option maxHeartbeats 8000000 in
theorem pq_loop : ∀ (f : Nat) (s : List UInt8) (out : List Ins) (n : Nat), s.length < f → s.length ≤ 1000 → n + s.length ≤ 65536 → out.length + s.length ≤ 100000 →
    (∃ n' l, loopS (cfg m) s_backstepref22_Parse_l1 pqKs [1000, 1256] (pqSt s out n) = some (.exit 0, pqEx l n') ∧ parseI f s out n = (l, 0, 0)) ∨
    (∃ (σ : St) (cs : Cells) (k : Nat) (e : Int), loopS (cfg m) s_backstepref22_Parse_l1 pqKs [1000, 1256] (pqSt s out n) = some (.ret, σ) ∧ result pqRs σ = some (.tup [.d (.sl []), .d (.int .i64 (k : Int)), .d (.int .i64 e)], cs) ∧ parseI f s out n = ([], k, e) ∧ e ≠ 0)
  | 0, s, out, n, h, _, _, _ => by omega
  | f + 1, s, out, n, h, hs, hn, ho => by
    rw [parseI]
    by_cases hse : s = []
    · left
      refine ⟨n, out, loopS_exit ?_, by rw [if_pos hse]⟩
      subst hse
      simp [s_backstepref22_Parse_l1, pqSt, pqEx, pqEnv, pqCells]
    · have hl : 0 < s.length := List.length_pos_iff.2 hse
      rw [if_neg hse, if_neg (by omega)]
      have hgt : ¬ (65536 < (n : Int)) := by omega
      have hgt' : ¬ (65536 < n) := by omega
      have hw := wrap_i64 ((n : Int) + 1) (by omega) (by omega)
      have b1 : out.length + 1 ≤ 140737488355328 ∧ (out.length + 1) * 40 ≤ 140737488355328 := by omega
      rcases index_cases s 10 with ⟨h1, _⟩ | ⟨w, t, hsw, h2, _⟩
      · -- no line feed
        rw [cut_none h1]
        have hlp := pi_loop m s [] (.inl rfl) h1 (by simp; omega) out n
        rw [List.append_nil] at hlp
        simp [piSt, piEx, pqEnv, pqCells, piKs] at hlp
        obtain ⟨i, ok, hp, hr⟩ := r_Read m s hs
        right
        rcases hr with ⟨rfl, hr⟩ | ⟨rfl, hr⟩
        · rw [hr]
          have hst : ∃ σ cs, evalS (cfg m) s_backstepref22_Parse_l1 (pqSt s out n) = some (.ret, σ) ∧ result pqRs σ = some (.tup [.d (.sl []), .d (.int .i64 (n : Int)), .d (.int .i64 4)], cs) := by
            simp [s_backstepref22_Parse_l1, pqSt, pqEnv, pqCells, pqRs, hse, hlp, hp, hgt, hgt']
          obtain ⟨σ, cs, g1, g2⟩ := hst
          exact ⟨σ, cs, n, 4, loopS_ret g1, g2, rfl, by decide⟩
        · rw [hr]
          have hst : ∃ σ cs, evalS (cfg m) s_backstepref22_Parse_l1 (pqSt s out n) = some (.ret, σ) ∧ result pqRs σ = some (.tup [.d (.sl []), .d (.int .i64 (n : Int)), .d (.int .i64 3)], cs) := by
            simp [s_backstepref22_Parse_l1, pqSt, pqEnv, pqCells, pqRs, hse, hlp, hp, hgt, hgt']
          obtain ⟨σ, cs, g1, g2⟩ := hst
          exact ⟨σ, cs, n, 3, loopS_ret g1, g2, rfl, by decide⟩
      · have hlen : s.length = w.length + t.length + 1 := by rw [hsw]; simp; omega
        have hcut : Lib.cut s [10] = (w, t, true) := by rw [hsw]; exact cut_at h2
        rw [hcut]
        have hlp := pi_loop m w (10 :: t) (.inr ⟨t, rfl⟩) h2 (by rw [← hsw]; omega) out n
        rw [← hsw] at hlp
        simp [piSt, piEx, pqEnv, pqCells, piKs] at hlp
        obtain ⟨i, ok, hp, hr⟩ := r_Read m w (by omega)
        have htk : s.take w.length = w := by rw [hsw]; simp
        have hdr : s.drop (w.length + 1) = t := by rw [hsw, ← List.drop_drop]; simp
        have hle : w.length ≤ s.length := by omega
        have hle' : (w.length : Int) ≤ s.length := by omega
        have hle2 : w.length + 1 ≤ s.length := by omega
        have hle2' : (w.length : Int) + 1 ≤ s.length := by omega
        have hnn : (0 : Int) ≤ (w.length : Int) + 1 := by omega
        have htn : ((w.length : Int) + 1).toNat = w.length + 1 := by omega
        have hneq : ¬ ((w.length : Int) = s.length) := by omega
        have hneq2 : ¬ (w.length = s.length) := by omega
        have hw2 := wrap_i64 ((w.length : Int) + 1) (by omega) (by omega)
        have hdt : (s.take s.length).drop (w.length + 1) = t := by rw [List.take_length, hdr]
        rcases hr with ⟨rfl, hr⟩ | ⟨rfl, hr⟩
        · simp only [hr]
          have hst : ∃ σ, evalS (cfg m) s_backstepref22_Parse_l1 (pqSt s out n) = some (.normal, σ) ∧ σ.norm pqKs [1000, 1256] = pqSt t (out ++ [i]) (n + 1) := by
            simp [s_backstepref22_Parse_l1, pqSt, pqEnv, pqCells, pqKs, hse, hlp, htk, hle, hle', hp, hgt, hgt', hw, b1, hneq, hneq2, hw2, hnn, htn, hle2, hle2', hdr, hdt]
          obtain ⟨σ, g1, g2⟩ := hst
          rcases pq_loop f t (out ++ [i]) (n + 1) (by omega) (by omega) (by omega) (by simp; omega) with ⟨n', l, h1, h2⟩ | ⟨σ', cs, k, e, h1, h2, h3, h4⟩
          · exact .inl ⟨n', l, loopS_step g1 (by rw [g2]; exact h1), by simpa using h2⟩
          · exact .inr ⟨σ', cs, k, e, loopS_step g1 (by rw [g2]; exact h1), h2, by simpa using h3, h4⟩
        · simp only [hr]
          right
          have hst : ∃ σ cs, evalS (cfg m) s_backstepref22_Parse_l1 (pqSt s out n) = some (.ret, σ) ∧ result pqRs σ = some (.tup [.d (.sl []), .d (.int .i64 (n : Int)), .d (.int .i64 3)], cs) := by
            simp [s_backstepref22_Parse_l1, pqSt, pqEnv, pqCells, pqRs, hse, hlp, htk, hle, hle', hp, hgt, hgt']
          obtain ⟨σ, cs, g1, g2⟩ := hst
          exact ⟨σ, cs, n, 3, loopS_ret g1, g2, rfl, by decide⟩

set_option maxHeartbeats 4000000 in
theorem r_Parse (s : List UInt8) (hs : s.length ≤ 1000) : ev1 (cfg m) 18 [.d (.str s)] = some (prV (parseT s)) := by
  refine ev1_fn rfl rfl ?_ rfl
  unfold parseT
  rcases pq_loop m (s.length + 1) s [] 1 (by omega) (by omega) (by omega) (by simp; omega) with ⟨n', l, h1, h2⟩ | ⟨σ', cs, k, e, h1, h2, h3, h4⟩
  · rw [h2]
    simp [pqSt, pqEx, pqKs, pqEnv, pqCells] at h1
    simp [s_backstepref22_Parse, h1, prV]
  · rw [h3]
    simp [pqSt, pqKs, pqEnv, pqCells] at h1
    simp only [pqRs] at h2
    simp [s_backstepref22_Parse, h1, prV, -result]
    rw [h2]; simp
end Go.Ev.S
