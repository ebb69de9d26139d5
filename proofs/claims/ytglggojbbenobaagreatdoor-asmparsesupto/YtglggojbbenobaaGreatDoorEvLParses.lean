/- AsmParses' answer. -/
import Derived.Test.YtglggojbbenobaaGreatDoorEvR15
set_option linter.all false
namespace Go.Ev.S
open Go.Proofs Go.Ev.A
variable (m : Int)

theorem parseI_len : ∀ (f : Nat) (s : List UInt8) (out : List Ins) (n : Nat), (parseI f s out n).1.length ≤ out.length + f
  | 0, s, out, n => by unfold parseI; simp
  | f + 1, s, out, n => by
    rw [parseI]
    split
    · simp
    · split
      · simp
      · split
        · simp
        · split
          · rename_i i _ _
            have := parseI_len f (Lib.cut s [10]).2.1 (out ++ [i]) (n + 1)
            simp at this ⊢
            omega
          · simp

set_option maxHeartbeats 4000000 in
theorem e_AsmParses (s : List UInt8) : ev1 (cfg m) 4 [.d (.str s)] = some (.d (.bool true)) := by
  refine ev1_fn rfl rfl ?_ rfl
  have h0 := e_awake m
  by_cases hl : 600 < s.length
  · have hl' : (600 : Int) < s.length := by omega
    simp [s_backsteplaw22_AsmParses, h0, hl, hl']
  · have hl' : ¬ (600 : Int) < s.length := by omega
    have h1 := e_Parse m s (by omega)
    have h2 := r_Parse m s (by omega)
    have hpl := parseI_len (s.length + 1) s [] 1
    have h3 := e_same m (parseT s).1 (by unfold parseT; simp at hpl; omega)
    cases hd : parseT s with
    | mk l q =>
      obtain ⟨k, e⟩ := q
      rw [hd] at h1 h2 h3
      simp [prV] at h1 h2 h3
      simp [s_backsteplaw22_AsmParses, h0, hl, hl', h1, h2, h3]

theorem asmParses_ev (xs : List D) (hw : WTs Tryz.prog Tryz.f4.params.toList xs) (hb : D.bulks xs ≤ 1048576) : ∃ cs, ev (cfg m) 4 (xs.map V.d) [] = some (.d (.bool true), cs) := by
  have hp : Tryz.f4.params.toList = [9] := by kernel_rfl
  rw [hp] at hw
  cases hw with
  | cons a hw => cases hw with
    | nil =>
      obtain ⟨s, rfl⟩ := WT_str a (by kernel_rfl)
      obtain ⟨cs, h, _⟩ := ev1_inv (e_AsmParses m s)
      exact ⟨cs, h⟩
end Go.Ev.S
