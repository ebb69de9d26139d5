/- AsmOrder's answer. -/
import Derived.Test.YtglggojbbenobaaGreatDoorEvR9
set_option linter.all false
namespace Go.Ev.S
open Go.Proofs Go.Ev.A
variable (m : Int)

set_option maxHeartbeats 4000000 in
theorem e_AsmOrder {i : Ins} (hf : i.fits) : ev1 (cfg m) 7 [.d i.D] = some (.d (.bool true)) := by
  refine ev1_fn rfl rfl ?_ rfl
  have h0 := e_awake m
  have h1 := e_Format m [i] (by simp) (by simpa using hf)
  have h2 := e_Valid m i
  cases hv : validI i with
  | false =>
    rw [hv] at h2
    simp [hv] at h1
    simp only [Ins.D] at h1 h2 ⊢
    simp [s_backsteplaw22_AsmOrder, h0, h1, h2]
  | true =>
    rw [hv] at h2
    obtain ⟨cs, hc, ha, _, hd⟩ := valid_inv hv
    have hargs : i.args.length = 4 := rfl
    have hl := cls_len hc
    have hwl : (wordsA cs i.args).length = cs.length := wordsA_len (by omega)
    have hll := line_len hf hv
    have ht : textI [i] = lineI i ++ [10] := by simp [textI]
    have h3 := e_mnem m hc
    have h4 := e_count m hc
    have h5 := r_words m (lineI i) (by omega)
    rw [split_line hv] at h5
    have hw : wordsI i = mnem i.op :: wordsA cs i.args := by simp [wordsI, hd]
    rw [hw] at h5
    simp [hv, ht] at h1
    generalize lineI i = L at *
    generalize mnem i.op = M at *
    have hwr := wrap_i64 ((cs.length : Int) + 1) (by omega) (by omega)
    have hwr2 := wrap_i64 (L.length : Int) (by omega) (by omega)
    simp only [Ins.D] at h1 h2 ⊢
    generalize hW : wordsA cs i.args = W at *
    simp at h5
    have hne : ¬ ((L.length : Int) + 1 = 0) := by omega
    simp [s_backsteplaw22_AsmOrder, h0, h1, h2, h3, h4, h5, hwr, hwr2, hwl, hne]

theorem asmOrder_ev (xs : List D) (hw : WTs Tryz.prog Tryz.f7.params.toList xs) (hb : D.bulks xs ≤ 1048576) : ∃ cs, ev (cfg m) 7 (xs.map V.d) [] = some (.d (.bool true), cs) := by
  have hp : Tryz.f7.params.toList = [43] := by kernel_rfl
  rw [hp] at hw
  cases hw with
  | cons a hw => cases hw with
    | nil =>
      obtain ⟨i, rfl, hi⟩ := ins_of a
      obtain ⟨cs, h, _⟩ := ev1_inv (e_AsmOrder m hi)
      exact ⟨cs, h⟩
end Go.Ev.S
