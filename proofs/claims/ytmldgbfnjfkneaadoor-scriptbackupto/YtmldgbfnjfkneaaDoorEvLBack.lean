/- ScriptBack's answer. -/
import Derived.Test.YtmldgbfnjfkneaaDoorEvL1
set_option linter.all false
set_option linter.unusedVariables false
set_option linter.unusedSimpArgs false
namespace Go.Ev.S
open Go.Proofs
variable (m : Int)

theorem e_ScriptBack {l : List Cmd} (h : Tame l) : ev1 (cfg m) 3 [.d (.sl (l.map Cmd.d))] = some (.d (.bool true)) := by
  refine ev1_fn rfl rfl ?_ rfl
  have h0 := e_awake m
  have h1 := t_great m h
  have h2 := t_given m h
  have h3 := t_Format m h
  have h4 := t_Valid m h
  cases hg : greatM l with
  | true => simp [s_backsteplaw51_ScriptBack, h0, h1, hg]
  | false =>
    cases hv : validL l with
    | false =>
      simp [hv] at h3
      simp [s_backsteplaw51_ScriptBack, h0, h1, h2, h3, h4, hg, hv]
    | true =>
      simp [hv] at h3
      have h5 := t_Parse m h hv
      have h6 := t_plain m h
      have h7 := t_same m h
      simp [s_backsteplaw51_ScriptBack, h0, h1, h2, h3, h4, hg, h5, h6, h7]

theorem scriptBack_ev (xs : List D) (hw : WTs Tryd.prog Tryd.f3.params.toList xs) (hb : D.bulks xs ≤ 1048576) : ∃ cs, ev (cfg m) 3 (xs.map V.d) [] = some (.d (.bool true), cs) := by
  have hp : Tryd.f3.params.toList = [22] := by kernel_rfl
  rw [hp] at hw
  cases hw with
  | cons a hw => cases hw with
    | nil =>
      obtain ⟨l, rfl, hl⟩ := cmds_of a
      obtain ⟨cs, h, _⟩ := ev1_inv (e_ScriptBack m (tame_bulk hl (by simpa [D.bulks] using hb)))
      exact ⟨cs, h⟩
end Go.Ev.S
