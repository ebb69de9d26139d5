/- ScriptJoins's answer. -/
import Derived.Test.YtmldgbfnjfkneaaDoorEvL1
set_option linter.all false
set_option linter.unusedVariables false
set_option linter.unusedSimpArgs false
namespace Go.Ev.S
open Go.Proofs
variable (m : Int)

theorem fmt_app (a b : List Cmd) : fmt (a ++ b) = fmt a ++ fmt b := by simp [fmt]
theorem validL_app {a b : List Cmd} (ha : validL a = true) (hb : validL b = true) (h : a.length + b.length ≤ 1000) : validL (a ++ b) = true := by
  unfold validL at *
  simp only [Bool.and_eq_true, decide_eq_true_eq] at ha hb ⊢
  rw [List.all_append, ha.1, hb.1, List.length_append]
  exact ⟨rfl, h⟩

set_option maxHeartbeats 1000000 in
theorem e_ScriptJoins {a b : List Cmd} (ha : Tame a) (hb : Tame b) (hab : 400 < a.length ∨ 400 < b.length ∨ Tame (a ++ b)) : ev1 (cfg m) 5 [.d (.sl (a.map Cmd.d)), .d (.sl (b.map Cmd.d))] = some (.d (.bool true)) := by
  refine ev1_fn rfl rfl ?_ rfl
  have h0 := e_awake m
  have a1 := t_great m ha
  have b1 := t_great m hb
  cases hga : greatM a with
  | true => simp [s_backsteplaw51_ScriptJoins, h0, a1, hga]
  | false =>
  rw [hga] at a1
  cases hgb : greatM b with
  | true => simp [s_backsteplaw51_ScriptJoins, h0, a1, b1, hgb]
  | false =>
  rw [hgb] at b1
  by_cases hal : (400 : Int) < a.length
  · simp [s_backsteplaw51_ScriptJoins, h0, a1, b1, hal]
  by_cases hbl : (400 : Int) < b.length
  · simp [s_backsteplaw51_ScriptJoins, h0, a1, b1, hal, hbl]
  have hj : Tame (a ++ b) := by
    rcases hab with h | h | h
    · omega
    · omega
    · exact h
  have a2 := t_given m ha
  have b2 := t_given m hb
  have a3 := t_Format m ha
  have b3 := t_Format m hb
  cases hva : validL a with
  | false => simp [hva] at a3; cases hvb : validL b <;> simp [hvb] at b3 <;> simp [s_backsteplaw51_ScriptJoins, h0, a1, b1, hal, hbl, a2, b2, a3, b3]
  | true =>
  simp [hva] at a3
  cases hvb : validL b with
  | false => simp [hvb] at b3; simp [s_backsteplaw51_ScriptJoins, h0, a1, b1, hal, hbl, a2, b2, a3, b3]
  | true =>
  simp [hvb] at b3
  have hvj : validL (a ++ b) = true := validL_app hva hvb (by omega)
  have j2 := t_given m hj
  have j3 := t_Format m hj
  have j4 := t_Parse m hj hvj
  have j5 := t_plain m hj
  have j6 := t_same m hj
  simp only [fmt_app, hvj, if_true] at j3 j4
  simp only [List.map_append] at j2 j3 j4 j5 j6
  have hff : (fmt a).length + (fmt b).length ≤ 9223372036854775807 := by have := ha.fmt; have := hb.fmt; omega
  have hr : a.length ≤ 140737488355328 ∧ a.length * 64 ≤ 140737488355328 ∧ a.length + b.length ≤ 140737488355328 ∧ (a.length + b.length) * 64 ≤ 140737488355328 := by omega
  simp [s_backsteplaw51_ScriptJoins, h0, a1, b1, hal, hbl, a2, b2, a3, b3, j2, j3, j4, j5, j6, hr, hff]

theorem sum_app (f : Cmd → Nat) (a b : List Cmd) : ((a ++ b).map f).sum = (a.map f).sum + (b.map f).sum := by rw [List.map_append, List.sum_append]

theorem scriptJoins_ev (xs : List D) (hw : WTs Tryd.prog Tryd.f5.params.toList xs) (hb : D.bulks xs ≤ 1048576) : ∃ cs, ev (cfg m) 5 (xs.map V.d) [] = some (.d (.bool true), cs) := by
  have hp : Tryd.f5.params.toList = [22, 22] := by kernel_rfl
  rw [hp] at hw
  cases hw with
  | cons a hw => cases hw with
    | cons b hw => cases hw with
      | nil =>
        obtain ⟨l, rfl, hl⟩ := cmds_of a
        obtain ⟨r, rfl, hr⟩ := cmds_of b
        simp only [D.bulks, D.bulk, bulks_cmds] at hb
        have h1 : Tame l := tame_of hl (by omega) (by omega) (by omega)
        have h2 : Tame r := tame_of hr (by omega) (by omega) (by omega)
        have h3 : Tame (l ++ r) := tame_of (fun c hc => by rcases List.mem_append.1 hc with hc | hc; exact hl c hc; exact hr c hc) (by rw [List.length_append]; omega)
          (by unfold sum1 at *; rw [sum_app]; omega) (by unfold sum2 at *; rw [sum_app]; omega)
        obtain ⟨cs, h, _⟩ := ev1_inv (e_ScriptJoins m h1 h2 (.inr (.inr h3)))
        exact ⟨cs, h⟩
end Go.Ev.S
