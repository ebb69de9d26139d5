/- AsmFormats' answer. -/
import Derived.Test.YtglggojbbenobaaGreatDoorEvR5
set_option linter.all false
namespace Go.Ev.S
open Go.Proofs Go.Ev.A
variable (m : Int)

set_option maxHeartbeats 4000000 in
theorem e_AsmFormats {l : List Ins} (hf : ∀ i ∈ l, i.fits) : ev1 (cfg m) 3 [.d (.sl (l.map Ins.D))] = some (.d (.bool true)) := by
  refine ev1_fn rfl rfl ?_ rfl
  have h0 := e_awake m
  by_cases hl : 40 < l.length
  · have hl' : (40 : Int) < l.length := by omega
    simp [s_backsteplaw22_AsmFormats, h0, hl, hl']
  · have hl' : ¬ (40 : Int) < l.length := by omega
    have h1 := e_Encode m l (by omega) hf
    have h2 := e_Format m l (by omega) hf
    have h3 := r_Encode m l (by omega) hf
    have h4 := r_Format m l (by omega) hf
    have hh2 : slotHead 1 (ofBytes (encodeI l)) = true := slotHead_map (fun a => by simp) _
    cases hall : l.all validI with
    | false =>
      rw [hall] at h1 h2 h3 h4
      simp at h1 h2 h3 h4
      simp [s_backsteplaw22_AsmFormats, h0, hl, hl', h1, h2, h3, h4, show bytesOf [] = some [] from rfl]
    | true =>
      rw [hall] at h1 h2 h3 h4
      simp at h1 h2 h3 h4
      simp [s_backsteplaw22_AsmFormats, h0, hl, hl', h1, h2, h3, h4, hh2, bytesOf_ofBytes]

theorem asmFormats_ev (xs : List D) (hw : WTs Tryz.prog Tryz.f3.params.toList xs) (hb : D.bulks xs ≤ 1048576) : ∃ cs, ev (cfg m) 3 (xs.map V.d) [] = some (.d (.bool true), cs) := by
  have hp : Tryz.f3.params.toList = [22] := by kernel_rfl
  rw [hp] at hw
  cases hw with
  | cons a hw => cases hw with
    | nil =>
      obtain ⟨l, rfl, hl⟩ := code_of a
      obtain ⟨cs, h, _⟩ := ev1_inv (e_AsmFormats m hl)
      exact ⟨cs, h⟩
end Go.Ev.S
