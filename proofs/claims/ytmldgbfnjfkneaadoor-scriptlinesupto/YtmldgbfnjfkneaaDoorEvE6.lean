/- script.first as a whole. -/
import Derived.Test.YtmldgbfnjfkneaaDoorEvE5
set_option linter.all false
set_option linter.unusedVariables false
set_option linter.unusedSimpArgs false
namespace Go.Ev.S
open Go.Proofs
variable (m : Int)

set_option maxHeartbeats 4000000 in
theorem e_first (line : List UInt8) (hl : line.length ≤ 4000000000) :
    match firstM line with
    | some (c, n) => ev1 (cfg m) 35 [.d (.str line)] = some (.tup [.d c.d, .d (.int .i64 n), .d (.bool true)])
    | none => ∃ x n, ev1 (cfg m) 35 [.d (.str line)] = some (.tup [.d x, .d (.int .i64 n), .d (.bool false)]) ∧ x.size = 4 := by
  obtain ⟨w, ws, hw, hlen, hwl⟩ := split_words line hl
  have hnone : (∃ x n cs, bodyS (cfg m) s_script_first [.d (.str line)] [] = some (.tup [.d x, .d (.int .i64 n), .d (.bool false)], cs) ∧ x.size = 4) → ∃ x n, ev1 (cfg m) 35 [.d (.str line)] = some (.tup [.d x, .d (.int .i64 n), .d (.bool false)]) ∧ x.size = 4 := by
    rintro ⟨x, n, cs, h, hz⟩
    exact ⟨x, n, ev1_fn rfl rfl (by rw [h]; rfl) rfl, hz⟩
  unfold firstM
  rw [hw]
  simp only [List.headD_cons, List.drop_succ_cons, List.drop_zero]
  rcases look_rows w shapeRows with ⟨h1, h2⟩ | ⟨i, r, h1, h2, h3⟩
  · rw [show shapeBy w = none from h1]
    refine hnone ?_
    simp [s_script_first, e_split m line [32] hl, e_shapes, hw, shapesD, h2]
    have hlp := nums_loop m false line (.sl (ws.map .str)) false false (.agg [.int .u8 0, .bool false, .int .i64 0, .bool false]) 0 [] ws (fun x hx => hlen x (by simp [hx])) hwl ws.length 0 [] (by omega) rfl
    rw [List.drop_zero] at hlp
    cases hq : canons ws with
    | none =>
      rw [hq] at hlp
      obtain ⟨σ, x, cs, k1, k2, k3⟩ := hlp
      simp [numsSt, numsKs] at k1
      rw [k1]
      simp only [blockE_ret, seqE_ret, finE_ret]
      exact ⟨x, ⟨0, cs, k2⟩, k3⟩
    | some ns =>
      rw [hq] at hlp
      simp [numsSt, numsKs, numsEx] at hlp
      rw [hlp]
      simp
  · obtain ⟨rw_, rk, rn, rm, rt⟩ := r
    rw [show shapeBy w = _ from h1]
    simp only
    cases rn with
    | false =>
      have hlp := nums_loop m false line (.sl (ws.map .str)) true false (.agg [.int .u8 rk, .bool false, .int .i64 rm, .bool rt]) rk [] ws (fun x hx => hlen x (by simp [hx])) hwl ws.length 0 [] (by omega) rfl
      rw [List.drop_zero] at hlp
      simp only [Bool.false_and, Bool.false_eq_true, if_false]
      cases hq : canons ws with
      | none =>
        rw [hq] at hlp
        obtain ⟨σ, x, cs, k1, k2, k3⟩ := hlp
        refine hnone ?_
        simp [s_script_first, e_split m line [32] hl, e_shapes, hw, shapesD, h2, h3, rowD]
        simp [numsSt, numsKs] at k1
        rw [k1]
        simp only [blockE_ret, seqE_ret, finE_ret]
        exact ⟨x, ⟨0, cs, k2⟩, k3⟩
      | some ns =>
        rw [hq] at hlp
        have hnl := canons_len hq
        simp [numsSt, numsKs, numsEx] at hlp
        cases rt with
        | false =>
          simp only [Bool.false_and, Bool.false_eq_true, if_false]
          by_cases hm : rm = -1
          · subst hm
            simp only [true_or, if_true]
            refine ev1_fn rfl rfl ?_ rfl
            simp [s_script_first, e_split m line [32] hl, e_shapes, hw, shapesD, h2, h3, rowD]
            rw [hlp]
            simp [Cmd.d]
          · simp only [hm, false_or]
            by_cases hm2 : (ns.length : Int) = rm
            · rw [if_pos hm2]
              subst hm2
              refine ev1_fn rfl rfl ?_ rfl
              simp [s_script_first, e_split m line [32] hl, e_shapes, hw, shapesD, h2, h3, rowD]
              rw [hlp]
              simp [hm, Cmd.d]
            · rw [if_neg hm2]
              refine hnone ?_
              simp [s_script_first, e_split m line [32] hl, e_shapes, hw, shapesD, h2, h3, rowD]
              rw [hlp]
              simp [hm, hm2]
        | true =>
          rcases List.eq_nil_or_concat ns with rfl | ⟨ns', n, rfl⟩
          · refine hnone ?_
            simp [s_script_first, e_split m line [32] hl, e_shapes, hw, shapesD, h2, h3, rowD]
            rw [hlp]
            simp
          · rw [List.concat_eq_append] at hlp hnl
            have hlo : lastOk (ns' ++ [n]) = decide (0 ≤ n) := by simp [lastOk]
            simp only [List.concat_eq_append, hlo, List.getLast?_append, List.getLast?_singleton, Option.some_or, List.dropLast_concat, Option.getD_some]
            have hw1 := wrap_i64 (ns'.length : Int) (by omega) (by simp at hnl; omega)
            by_cases hn : 0 ≤ n
            · have hn' : ¬ n < 0 := by omega
              have hmx : max n 0 = n := by omega
              simp only [hn, decide_true, Bool.not_true, Bool.and_false, Bool.false_eq_true, if_false, if_true]
              by_cases hm : rm = -1
              · subst hm
                simp only [true_or, if_true]
                refine ev1_fn rfl rfl ?_ rfl
                simp [s_script_first, e_split m line [32] hl, e_shapes, hw, shapesD, h2, h3, rowD]
                rw [hlp]
                simp [Cmd.d, hw1, hn, hn', hmx]
              · simp only [hm, false_or]
                by_cases hm2 : (ns'.length : Int) = rm
                · rw [if_pos hm2]
                  subst hm2
                  refine ev1_fn rfl rfl ?_ rfl
                  simp [s_script_first, e_split m line [32] hl, e_shapes, hw, shapesD, h2, h3, rowD]
                  rw [hlp]
                  simp [hm, Cmd.d, hw1, hn, hn', hmx]
                · rw [if_neg hm2]
                  refine hnone ?_
                  simp [s_script_first, e_split m line [32] hl, e_shapes, hw, shapesD, h2, h3, rowD]
                  rw [hlp]
                  simp [hm, hm2, hw1, hn, hn']
            · have hn' : n < 0 := by omega
              simp only [hn, decide_false, Bool.not_false, Bool.and_self, if_true]
              refine hnone ?_
              simp [s_script_first, e_split m line [32] hl, e_shapes, hw, shapesD, h2, h3, rowD]
              rw [hlp]
              simp [hw1, hn']
    | true =>
      cases ws with
      | nil =>
        simp only [headName, Bool.not_false, Bool.and_self, if_true]
        refine hnone ?_
        simp [s_script_first, e_split m line [32] hl, e_shapes, hw, shapesD, h2, h3, rowD]
      | cons x ws =>
        have hx := e_Name m x (hlen x (by simp))
        cases hN : isName x with
        | false =>
          rw [hN] at hx
          simp only [headName, hN, Bool.not_false, Bool.and_self, if_true]
          refine hnone ?_
          simp [s_script_first, e_split m line [32] hl, e_shapes, hw, shapesD, h2, h3, rowD, hx]
        | true =>
          rw [hN] at hx
          simp only [headName, hN, Bool.not_true, Bool.and_false, Bool.false_eq_true, if_false, if_true, List.headD_cons, List.drop_succ_cons, List.drop_zero]
          have hwl2 : ws.length ≤ 4000000000 := by simp at hwl; omega
          have hlp := nums_loop m true line (.sl (ws.map .str)) true true (.agg [.int .u8 rk, .bool true, .int .i64 rm, .bool rt]) rk x ws (fun y hy => hlen y (by simp [hy])) hwl2 ws.length 0 [] (by omega) rfl
          rw [List.drop_zero] at hlp
          cases hq : canons ws with
          | none =>
            rw [hq] at hlp
            obtain ⟨σ, y, cs, k1, k2, k3⟩ := hlp
            refine hnone ?_
            simp [s_script_first, e_split m line [32] hl, e_shapes, hw, shapesD, h2, h3, rowD, hx]
            simp [numsSt, numsKs] at k1
            rw [k1]
            simp only [blockE_ret, seqE_ret, finE_ret]
            exact ⟨y, ⟨0, cs, k2⟩, k3⟩
          | some ns =>
            rw [hq] at hlp
            have hnl := canons_len hq
            simp [numsSt, numsKs, numsEx] at hlp
            cases rt with
            | false =>
              simp only [Bool.false_and, Bool.false_eq_true, if_false]
              by_cases hm : rm = -1
              · subst hm
                simp only [true_or, if_true]
                refine ev1_fn rfl rfl ?_ rfl
                simp [s_script_first, e_split m line [32] hl, e_shapes, hw, shapesD, h2, h3, rowD, hx]
                rw [hlp]
                simp [Cmd.d]
              · simp only [hm, false_or]
                by_cases hm2 : (ns.length : Int) = rm
                · rw [if_pos hm2]
                  subst hm2
                  refine ev1_fn rfl rfl ?_ rfl
                  simp [s_script_first, e_split m line [32] hl, e_shapes, hw, shapesD, h2, h3, rowD, hx]
                  rw [hlp]
                  simp [hm, Cmd.d]
                · rw [if_neg hm2]
                  refine hnone ?_
                  simp [s_script_first, e_split m line [32] hl, e_shapes, hw, shapesD, h2, h3, rowD, hx]
                  rw [hlp]
                  simp [hm, hm2]
            | true =>
              rcases List.eq_nil_or_concat ns with rfl | ⟨ns', n, rfl⟩
              · refine hnone ?_
                simp [s_script_first, e_split m line [32] hl, e_shapes, hw, shapesD, h2, h3, rowD, hx]
                rw [hlp]
                simp
              · rw [List.concat_eq_append] at hlp hnl
                have hlo : lastOk (ns' ++ [n]) = decide (0 ≤ n) := by simp [lastOk]
                simp only [List.concat_eq_append, hlo, List.getLast?_append, List.getLast?_singleton, Option.some_or, List.dropLast_concat, Option.getD_some]
                have hw1 := wrap_i64 (ns'.length : Int) (by omega) (by simp at hnl; omega)
                by_cases hn : 0 ≤ n
                · have hn' : ¬ n < 0 := by omega
                  have hmx : max n 0 = n := by omega
                  simp only [hn, decide_true, Bool.not_true, Bool.and_false, Bool.false_eq_true, if_false, if_true]
                  by_cases hm : rm = -1
                  · subst hm
                    simp only [true_or, if_true]
                    refine ev1_fn rfl rfl ?_ rfl
                    simp [s_script_first, e_split m line [32] hl, e_shapes, hw, shapesD, h2, h3, rowD, hx]
                    rw [hlp]
                    simp [Cmd.d, hw1, hn, hn', hmx]
                  · simp only [hm, false_or]
                    by_cases hm2 : (ns'.length : Int) = rm
                    · rw [if_pos hm2]
                      subst hm2
                      refine ev1_fn rfl rfl ?_ rfl
                      simp [s_script_first, e_split m line [32] hl, e_shapes, hw, shapesD, h2, h3, rowD, hx]
                      rw [hlp]
                      simp [hm, Cmd.d, hw1, hn, hn', hmx]
                    · rw [if_neg hm2]
                      refine hnone ?_
                      simp [s_script_first, e_split m line [32] hl, e_shapes, hw, shapesD, h2, h3, rowD, hx]
                      rw [hlp]
                      simp [hm, hm2, hw1, hn, hn']
                · have hn' : n < 0 := by omega
                  simp only [hn, decide_false, Bool.not_false, Bool.and_self, if_true]
                  refine hnone ?_
                  simp [s_script_first, e_split m line [32] hl, e_shapes, hw, shapesD, h2, h3, rowD, hx]
                  rw [hlp]
                  simp [hw1, hn']
end Go.Ev.S
