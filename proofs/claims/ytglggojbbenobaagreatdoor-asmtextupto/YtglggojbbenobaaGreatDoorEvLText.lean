/- AsmText's answer. -/
import Derived.Test.YtglggojbbenobaaGreatDoorEvE14
set_option linter.all false
namespace Go.Ev.S
open Go.Proofs Go.Ev.A
variable (m : Int)

theorem e_AsmText {l : List Ins} (hf : ∀ i ∈ l, i.fits) : ev1 (cfg m) 5 [.d (.sl (l.map Ins.D))] = some (.d (.bool true)) := by
  refine ev1_fn rfl rfl ?_ rfl
  have h0 := e_awake m
  by_cases hl : 40 < l.length
  · have hl' : (40 : Int) < l.length := by omega
    simp [s_backsteplaw22_AsmText, h0, hl, hl']
  · have hl' : ¬ (40 : Int) < l.length := by omega
    have h1 := e_Format m l (by omega) hf
    cases hall : l.all validI with
    | false =>
      rw [hall] at h1
      simp at h1
      simp [s_backsteplaw22_AsmText, h0, hl, hl', h1]
    | true =>
      rw [hall] at h1
      have hv : ∀ i ∈ l, i.fits ∧ validI i = true := fun i hi => ⟨hf i hi, List.all_eq_true.1 hall i hi⟩
      have hlen := textI_len l hv
      have h2 := e_Parse m (textI l) (by omega)
      rw [parse_textI hv (by omega)] at h2
      have h3 := e_same m l (by omega)
      simp [prV] at h1 h2
      simp [s_backsteplaw22_AsmText, h0, hl, hl', h1, h2, h3]

theorem asmText_ev (xs : List D) (hw : WTs Tryz.prog Tryz.f5.params.toList xs) (hb : D.bulks xs ≤ 1048576) : ∃ cs, ev (cfg m) 5 (xs.map V.d) [] = some (.d (.bool true), cs) := by
  have hp : Tryz.f5.params.toList = [22] := by kernel_rfl
  rw [hp] at hw
  cases hw with
  | cons a hw => cases hw with
    | nil =>
      obtain ⟨l, rfl, hl⟩ := code_of a
      obtain ⟨cs, h, _⟩ := ev1_inv (e_AsmText m hl)
      exact ⟨cs, h⟩
end Go.Ev.S
