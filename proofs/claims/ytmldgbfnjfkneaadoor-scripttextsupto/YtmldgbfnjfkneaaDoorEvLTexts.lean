/- ScriptTexts's answer. -/
import Derived.Test.YtmldgbfnjfkneaaDoorEvL1
set_option linter.all false
set_option linter.unusedVariables false
set_option linter.unusedSimpArgs false
namespace Go.Ev.S
open Go.Proofs
variable (m : Int)

def textsL (t : List UInt8) : List Cmd := [⟨1, [], t ++ [10], []⟩, ⟨9, [], [], []⟩, ⟨12, [97, 110, 110], t ++ [10], [1, 0, 0, -7]⟩]

theorem texts_valid (t : List UInt8) (ht : t.length ≤ 10000) : validL (textsL t) = true := by
  have hn : isName [97, 110, 110] = true := by decide +kernel
  have hs : Lib.hasSuffix (t ++ [10]) [10] = true := (suffix_iff _).2 ⟨t, rfl⟩
  have ht' : t.length + 1 ≤ 65536 := by omega
  simp [validL, textsL, validC, shapeOf, shapeRows, hn, hs, ht']

theorem texts_tame (t : List UInt8) (ht : t.length ≤ 10000) : Tame (textsL t) := by
  refine tame_of (fun c hc => ?_) (by simp [textsL]) (by simp [textsL, sum1]; omega) (by simp [textsL, sum2])
  simp only [textsL, List.mem_cons, List.not_mem_nil, or_false] at hc
  rcases hc with rfl | rfl | rfl <;> simp [Cmd.fits]

set_option maxHeartbeats 1000000 in
theorem e_ScriptTexts (t n : List UInt8) : ev1 (cfg m) 7 [.d (.str t), .d (.str n)] = some (.d (.bool true)) := by
  refine ev1_fn rfl rfl ?_ rfl
  have h0 := e_awake m
  by_cases hs : (10000 : Int) < t.length
  · simp [s_backsteplaw51_ScriptTexts, h0, hs]
  · have ht := texts_tame t (by omega)
    have hv := texts_valid t (by omega)
    have h2 := t_Format m ht
    have h3 := t_Parse m ht hv
    have h4 := t_plain m ht
    have h5 := t_same m ht
    rw [hv, if_pos rfl, if_pos rfl] at h2
    have e : (textsL t).map Cmd.d = [.agg [.int .u8 1, .str [], .str (t ++ [10]), .sl []], .agg [.int .u8 9, .str [], .str [], .sl []], .agg [.int .u8 12, .str [97, 110, 110], .str (t ++ [10]), .sl [.int .i64 1, .int .i64 0, .int .i64 0, .int .i64 (-7)]]] := rfl
    rw [e] at h2 h3 h4 h5
    have hl : t.length ≤ 9223372036854775806 := by omega
    simp [s_backsteplaw51_ScriptTexts, h0, hs, h2, h3, h4, h5, hl]

theorem scriptTexts_ev (xs : List D) (hw : WTs Tryd.prog Tryd.f7.params.toList xs) (hb : D.bulks xs ≤ 1048576) : ∃ cs, ev (cfg m) 7 (xs.map V.d) [] = some (.d (.bool true), cs) := by
  have hp : Tryd.f7.params.toList = [9, 9] := by kernel_rfl
  rw [hp] at hw
  cases hw with
  | cons a hw => cases hw with
    | cons b hw => cases hw with
      | nil =>
        obtain ⟨s, rfl⟩ := WT_str a (by kernel_rfl)
        obtain ⟨t, rfl⟩ := WT_str b (by kernel_rfl)
        obtain ⟨cs, h, _⟩ := ev1_inv (e_ScriptTexts m s t)
        exact ⟨cs, h⟩
end Go.Ev.S
