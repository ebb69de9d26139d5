/- ScriptFormats's answer. -/
import Derived.Test.YtmldgbfnjfkneaaGreatDoorEvL1
import Derived.Test.YtmldgbfnjfkneaaGreatDoorEvR3
set_option linter.all false
set_option linter.unusedVariables false
set_option linter.unusedSimpArgs false
namespace Go.Ev.S
open Go.Proofs
variable (m : Int)

theorem e_ScriptFormats {l : List Cmd} (h : Tame l) : ev1 (cfg m) 3 [.d (.sl (l.map Cmd.d))] = some (.d (.bool true)) := by
  refine ev1_fn rfl rfl ?_ rfl
  have h0 := e_awake m
  have h1 := t_great m h
  have h2 := t_given m h
  have h3 := t_Format m h
  have h4 := t_Valid m h
  have h5 := r_Valid m l (by have := h.len; omega) h.fits h.small
  cases hg : greatM l with
  | true => simp [s_backsteplaw51_ScriptFormats, h0, h1, hg]
  | false =>
    cases hv : validL l with
    | false =>
      rw [hv] at h4 h5
      simp [hv] at h3
      simp [s_backsteplaw51_ScriptFormats, h0, h1, h2, h3, h4, h5, hg]
    | true =>
      rw [hv] at h4 h5
      simp [hv] at h3
      have h6 := r_Format m l (by have := h.len; omega) h.fits h.small (by unfold validL at hv; simp only [Bool.and_eq_true, List.all_eq_true] at hv; exact hv.1) (by have := h.fmt; omega)
      simp [s_backsteplaw51_ScriptFormats, h0, h1, h2, h3, h4, h5, h6, hg]

theorem scriptFormats_ev (xs : List D) (hw : WTs Tryz.prog Tryz.f3.params.toList xs) (hb : D.bulks xs ≤ 1048576) : ∃ cs, ev (cfg m) 3 (xs.map V.d) [] = some (.d (.bool true), cs) := by
  have hp : Tryz.f3.params.toList = [22] := by kernel_rfl
  rw [hp] at hw
  cases hw with
  | cons a hw => cases hw with
    | nil =>
      obtain ⟨l, rfl, hl⟩ := cmds_of a
      obtain ⟨cs, h, _⟩ := ev1_inv (e_ScriptFormats m (tame_bulk hl (by simpa [D.bulks] using hb)))
      exact ⟨cs, h⟩
end Go.Ev.S
