/- Machine code: what the program's instruction set calls valid, as a whole. -/
import Derived.Test.YtglggojbbenobaaGreatDoorEvE2
set_option linter.all false
namespace Go.Ev.S
open Go.Proofs Go.Ev.A
variable (m : Int)

set_option maxHeartbeats 4000000 in
theorem e_Valid (i : Ins) : ev1 (cfg m) 20 [.d i.D] = some (.d (.bool (validI i))) := by
  have hfin : (∃ cs, bodyS (cfg m) s_isa_Valid [.d i.D] [] = some (.d (.bool (validI i)), cs)) → ev1 (cfg m) 20 [.d i.D] = some (.d (.bool (validI i))) := by
    rintro ⟨cs, h⟩
    exact ev1_fn rfl rfl (by rw [h]; rfl) rfl
  refine hfin ?_
  have hop := ev_operands m i
  unfold validI
  cases hc : cls i.op with
  | none =>
    have h1 := keyAt_none hc
    simp only [Ins.D] at hop ⊢
    simp [s_isa_Valid, e_rows, h1]
  | some cs =>
    have h1 := keyAt_some hc
    have h2 := rowV_get hc
    have hlp := va_loop m i cs (cls_len hc) 4 0 (by omega)
    simp only [List.drop_zero] at hlp
    simp only [Ins.D, ptrs] at hop ⊢
    simp [vaKs, vaTs, vaSt, vaEx, Ins.D, ptrs, -result] at hlp
    cases ha : argsOk cs i.args with
    | false =>
      simp [ha, -result] at hlp
      obtain ⟨σ', g1, cs', g2⟩ := hlp
      simp [s_isa_Valid, e_rows, h1, h2, callEff, reach, pass, over, without, noVars, newTags, pickT, swapped, V.ren, V.renL, Cell.ren, hop, g1, -result]
      exact ⟨cs', g2⟩
    | true =>
      simp [ha] at hlp
      simp [s_isa_Valid, e_rows, h1, h2, callEff, reach, pass, over, without, noVars, newTags, pickT, swapped, V.ren, V.renL, Cell.ren, hop, hlp]
      unfold apartI
      by_cases o1 : i.op = 1
      · simp [o1]
      · by_cases o2 : i.op = 2
        · simp [o2]
        · by_cases o3 : i.op = 3
          · simp [o3]
          · by_cases o4 : i.op = 11
            · simp [o4]
            · by_cases o5 : i.op = 9
              · by_cases o6 : i.a = i.b <;> simp [o5, o6]
              · simp [o1, o2, o3, o4, o5]
end Go.Ev.S
