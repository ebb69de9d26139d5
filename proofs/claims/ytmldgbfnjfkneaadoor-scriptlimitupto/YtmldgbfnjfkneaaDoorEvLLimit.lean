/- ScriptLimit's answer. -/
import Derived.Test.YtmldgbfnjfkneaaDoorEvL1
set_option linter.all false
set_option linter.unusedVariables false
set_option linter.unusedSimpArgs false
set_option maxRecDepth 10000
namespace Go.Ev.S
open Go.Proofs
variable (m : Int)

def chk : Cmd := ⟨5, [], [], []⟩
def chks (k : Nat) : List Cmd := List.replicate k chk
theorem chk_valid : validC chk = true := by decide +kernel
theorem chk_fits : chk.fits := by simp [chk, Cmd.fits]
theorem fmt_chk : fmt1 chk = [99, 104, 101, 99, 107, 10] := by decide +kernel
theorem chks_mem {k : Nat} {c : Cmd} (h : c ∈ chks k) : c = chk := List.eq_of_mem_replicate h
theorem chks_valid (k : Nat) : validL (chks k) = decide (k ≤ 1000) := by
  have : (chks k).all validC = true := List.all_eq_true.2 fun c hc => by rw [chks_mem hc]; exact chk_valid
  unfold validL; rw [this]; simp [chks]
theorem fmt_chks_succ (k : Nat) : fmt (chks (k + 1)) = fmt (chks k) ++ [99, 104, 101, 99, 107, 10] := by
  simp [chks, List.replicate_succ', fmt, fmt_chk]
theorem chks_succ (k : Nat) : chks (k + 1) = chks k ++ [chk] := by simp [chks, List.replicate_succ']
theorem chks_sum : ∀ k, sum1 (chks k) = 0 ∧ sum2 (chks k) = 0
  | 0 => ⟨rfl, rfl⟩
  | k + 1 => by
    have := chks_sum k
    simp [chks, sum1, sum2, chk] at this ⊢
theorem chks_tame (k : Nat) (h : k ≤ 300000) : Tame (chks k) := by
  refine tame_of (fun c hc => by rw [chks_mem hc]; exact chk_fits) (by simpa [chks] using h) (by rw [(chks_sum k).1]; omega) (by rw [(chks_sum k).2]; omega)
theorem lines_chks (k : Nat) : linesOf (chks k) = k := by
  induction k with
  | zero => rfl
  | succ k ih =>
    rw [chks, List.replicate_succ]
    unfold chks at ih
    simp [linesOf] at ih ⊢
    rw [show Lib.countByte chk.text 10 = 0 from rfl]; omega
theorem fmt_chks_len (k : Nat) : (fmt (chks k)).length = 6 * k := by
  induction k with
  | zero => rfl
  | succ k ih => rw [fmt_chks_succ, List.length_append, ih]; simp; omega

theorem parse_many (k : Nat) (h : 1000 < k) : parseM (fmt (chks k)) = ([], 1001, 5) := by
  obtain ⟨j, rfl⟩ : ∃ j, k = 1000 + (j + 1) := ⟨k - 1001, by omega⟩
  have e : chks (1000 + (j + 1)) = chks 1000 ++ chks (j + 1) := by unfold chks; rw [List.replicate_append_replicate]
  have e2 : fmt (chks (1000 + (j + 1))) = fmt (chks 1000) ++ fmt (chks (j + 1)) := by rw [e]; unfold fmt; rw [List.map_append, List.flatten_append]
  have hl := fmt_chks_len (1000 + (j + 1))
  have hk : (chks 1000).length = 1000 := List.length_replicate
  unfold parseM
  have e3 : (fmt (chks (1000 + (j + 1)))).length + 1 = ((fmt (chks (1000 + (j + 1)))).length - 1000) + 1 + (chks 1000).length := by rw [hk]; omega
  rw [e3, e2, parse_fmt (chks 1000) _ _ [] 1 (fun c hc => by rw [chks_mem hc]; exact ⟨chk_valid, chk_fits⟩) (by rw [hk]; simp)]
  rw [parseGo, if_neg (by rw [fmt_chks_succ]; simp), lines_chks]
  have : oneM (fmt (chks (j + 1))) ([] ++ chks 1000).length = .error 5 := by
    unfold oneM; rw [if_pos (by rw [List.nil_append, hk]; exact Nat.le_refl _)]
  rw [this]

set_option maxHeartbeats 1000000 in
theorem e_ScriptLimit (n : Int) (h1 : 0 ≤ n) (h2 : n ≤ 255) : ev1 (cfg m) 8 [.d (.int .u8 n)] = some (.d (.bool true)) := by
  refine ev1_fn rfl rfl ?_ rfl
  have h0 := e_awake m
  obtain ⟨k, hk, hk1, hk2⟩ : ∃ k : Nat, 990 + n.tmod 21 = (k : Int) ∧ 990 ≤ k ∧ k ≤ 1010 := by
    have g1 := Int.tmod_nonneg 21 h1
    have g2 := Int.tmod_lt_of_pos n (show (0 : Int) < 21 by decide)
    exact ⟨(990 + n.tmod 21).toNat, by omega, by omega, by omega⟩
  have hw1 := wrap_i64 n (by omega) (by omega)
  have hw2 := wrap_i64 (n.tmod 21) (by omega) (by omega)
  have hw3 := wrap_i64 (k : Int) (by omega) (by omega)
  have h := loopS_upto (C := cfg m) (c := s_backsteplaw51_ScriptLimit_l0) (ks := [0, 2, 12, 3, 4, 5, 17, 18]) (ts := [2024]) (fun i => { env := [(0, .d (.int .u8 n)), (2, .d (.bool false)), (12, .d (.bool false)), (3, .d (.int .i64 k)), (4, .own 2024), (5, .d (.str (fmt (chks i)))), (17, .d (.int .i64 k)), (18, .d (.int .i64 (i : Int)))], cells := [(2024, .row 39 4 ((chks i).map Cmd.d))] }) k (x := .exit 0)
    (σ := { env := [(0, .d (.int .u8 n)), (2, .d (.bool false)), (12, .d (.bool false)), (3, .d (.int .i64 k)), (4, .own 2024), (5, .d (.str (fmt (chks k)))), (17, .d (.int .i64 k)), (18, .d (.int .i64 (k : Int))), (19, .d (.bool false))], cells := [(2024, .row 39 4 ((chks k).map Cmd.d))] }) (by simp)
    (fun i hi => by
      have hw := wrap_i64 ((i : Int) + 1) (by omega) (by omega)
      have hc : i + 1 ≤ 140737488355328 ∧ (i + 1) * 64 ≤ 140737488355328 := by omega
      have hfi := (fmt_chks_succ i).symm
      rw [chks_succ] at hfi
      simp only [chk] at hfi
      have hil : (chks i).length = i := by simp [chks]
      have hil2 := fmt_chks_len i
      have hl : 6 * i ≤ 9223372036854775801 := by omega
      have hl2 : 6 * i + 6 ≤ 9223372036854775807 := by omega
      simp [s_backsteplaw51_ScriptLimit_l0, hi, hw, hc, hil, hil2, hl, hl2, hfi, chks_succ, chk, Cmd.d])
    (by simp [s_backsteplaw51_ScriptLimit_l0])
  have hcs : chks 0 = [] := rfl
  have hfs : fmt [] = [] := rfl
  rw [hcs, hfs] at h
  simp at h
  have ht := chks_tame k (by omega)
  have h2 := t_Format m ht
  have h4 := t_Valid m ht
  rw [chks_valid] at h2 h4
  by_cases hk3 : k ≤ 1000
  · have h3 := t_Parse m ht (by rw [chks_valid]; simpa using hk3)
    have hk4 : ¬ (1000 : Int) < k := by omega
    simp [hk3] at h2 h4
    simp [s_backsteplaw51_ScriptLimit, h0, hw1, hw2, hw3, hk, h, h2, h3, h4, hk4, show (chks k).length = k from List.length_replicate]
  · have h3 := e_Parse m (fmt (chks k)) (by have := ht.fmt; omega)
    rw [parse_many k (by omega)] at h3
    have hk4 : (1000 : Int) < k := by omega
    simp [hk3] at h2 h4
    simp [s_backsteplaw51_ScriptLimit, h0, hw1, hw2, hw3, hk, h, h2, h3, h4, hk4]

theorem scriptLimit_ev (xs : List D) (hw : WTs Tryd.prog Tryd.f8.params.toList xs) (hb : D.bulks xs ≤ 1048576) : ∃ cs, ev (cfg m) 8 (xs.map V.d) [] = some (.d (.bool true), cs) := by
  have hp : Tryd.f8.params.toList = [5] := by kernel_rfl
  rw [hp] at hw
  cases hw with
  | cons a hw => cases hw with
    | nil =>
      obtain ⟨n, rfl, h1, h2⟩ := WT_int (k := .u8) a (by kernel_rfl)
      obtain ⟨cs, h, _⟩ := ev1_inv (e_ScriptLimit m n h1 h2)
      exact ⟨cs, h⟩
end Go.Ev.S
