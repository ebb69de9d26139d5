/- ScriptOne's answer. -/
import Derived.Test.YtmldgbfnjfkneaaDoorEvL1
set_option linter.all false
set_option linter.unusedVariables false
set_option linter.unusedSimpArgs false
namespace Go.Ev.S
open Go.Proofs
variable (m : Int)

theorem len_le_sum : ∀ {l : List Cmd}, (∀ c ∈ l, validC c = true) → sum1 l ≤ 65552 * l.length ∧ sum2 l ≤ 4096 * l.length
  | [], _ => by simp [sum1, sum2]
  | c :: l, h => by
    have h1 := valid_small (h c (by simp))
    have h2 := len_le_sum (l := l) (fun x hx => h x (by simp [hx]))
    simp only [sum1, sum2, List.map_cons, List.sum_cons, List.length_cons] at *; omega

theorem e_ScriptOne (s : List UInt8) : ev1 (cfg m) 4 [.d (.str s)] = some (.d (.bool true)) := by
  refine ev1_fn rfl rfl ?_ rfl
  have h0 := e_awake m
  by_cases hs : 20000 < s.length
  · have hs' : (20000 : Int) < s.length := by omega
    simp [s_backsteplaw51_ScriptOne, h0, hs']
  · have hs' : ¬ (20000 : Int) < s.length := by omega
    have h1 := e_Parse m s (by omega)
    rcases parse_inv (s.length + 1) s [] 1 (by omega) (by simp) with ⟨g1, g2, l, g3, g4, g5, g6⟩ | ⟨g1, g2, g3⟩
    · have e : parseM s = (l, 0, 0) := by unfold parseM; ext <;> simp [g1, g2, g3]
      rw [e] at h1
      have hv : validL l = true := by unfold validL; simp only [List.length_nil, Nat.zero_add] at g6; simp [g6]; exact fun c hc => (g4 c hc).1
      have hlen : l.length ≤ 1000 := by simpa using g6
      have hsum := len_le_sum (l := l) (fun c hc => (g4 c hc).1)
      have hsm : ∀ c ∈ l, c.small := fun c hc => by have := valid_small (g4 c hc).1; unfold Cmd.small; omega
      have h2 := e_Format m l (by omega) hsm (fun c hc => (g4 c hc).2) (by rw [← g5]; omega)
      have h3 := e_Valid m l (by omega) hsm
      rw [hv] at h2 h3
      rw [if_pos rfl, if_pos rfl, ← g5] at h2
      simp [s_backsteplaw51_ScriptOne, h0, hs', h1, h2, h3]
    · have e1 : (parseM s).1 = [] := g2
      have e3 : ¬ (parseM s).2.2 = 0 := g1
      have e2 : 0 < (parseM s).2.1 := g3
      rw [e1] at h1
      simp [s_backsteplaw51_ScriptOne, h0, hs', h1, e3, e2]

theorem scriptOne_ev (xs : List D) (hw : WTs Tryd.prog Tryd.f4.params.toList xs) (hb : D.bulks xs ≤ 1048576) : ∃ cs, ev (cfg m) 4 (xs.map V.d) [] = some (.d (.bool true), cs) := by
  have hp : Tryd.f4.params.toList = [9] := by kernel_rfl
  rw [hp] at hw
  cases hw with
  | cons a hw => cases hw with
    | nil =>
      obtain ⟨s, rfl⟩ := WT_str a (by kernel_rfl)
      obtain ⟨cs, h, _⟩ := ev1_inv (e_ScriptOne m s)
      exact ⟨cs, h⟩
end Go.Ev.S
