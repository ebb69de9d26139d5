/- AsmJoins' answer. -/
import Derived.Test.YtglggojbbenobaaGreatDoorEvE14
set_option linter.all false
namespace Go.Ev.S
open Go.Proofs Go.Ev.A
variable (m : Int)

theorem slotHead_ins (l : List Ins) : slotHead 5 (l.map Ins.D) = true := slotHead_map (fun i => Ins_size i) l

theorem parse_two {l : List Ins} (hf : ∀ i ∈ l, i.fits ∧ validI i = true) (hl : l.length ≤ 40) (s : List UInt8) (hs : s.length ≤ 300) :
    (∃ l', parseT s = (l', 0, 0) ∧ parseT (textI l ++ s) = (l ++ l', 0, 0) ∧ l'.length ≤ 300) ∨
    (∃ k e, parseT s = ([], k, e) ∧ parseT (textI l ++ s) = ([], k + l.length, e) ∧ (e = 3 ∨ e = 4) ∧ k ≤ 400) := by
  have hlen := textI_len l hf
  have h2 := parse_text l ((textI l ++ s).length + 1) s [] 1 hf (by omega) (by omega)
  rw [List.nil_append] at h2
  unfold parseT
  rw [h2]
  have hfu : ∀ out n, parseI ((textI l ++ s).length + 1) s out n = parseI (s.length + 1) s out n := fun out n => parseI_fuel _ _ _ _ _ (by simp; omega) (by omega)
  rw [hfu]
  rcases Go.Ev.A.parse_inv (s.length + 1) s [] 1 (by omega) (by omega) with ⟨l', h3, h4, h5⟩ | ⟨k, e, h3, h4, h5⟩
  · left
    have hl' : l'.length ≤ s.length := by
      rw [h4]
      clear h3 h4
      induction l' with
      | nil => simp
      | cons i l' ih =>
        have := ih (fun j hj => h5 j (by simp [hj]))
        simp only [textI, List.map_cons, List.flatten_cons, List.length_append, List.length_cons, List.length_nil] at this ⊢
        omega
    refine ⟨l', by simpa using h3, ?_, by omega⟩
    have := parse_text l' (s.length + 1) [] l (1 + l.length) h5 (by rw [List.append_nil, ← h4]; omega) (by omega)
    rw [List.append_nil, ← h4] at this
    rw [this]; simp [parseI]
  · right
    refine ⟨1 + k, e, h3, ?_, h4, ?_⟩
    · rw [h5 l (1 + l.length) (by omega)]
      simp; omega
    · have : ∀ (f : Nat) (s : List UInt8) (out : List Ins) (n : Nat), s.length < f → (parseI f s out n).2.1 ≤ n + s.length := by
        intro f
        induction f with
        | zero => intro s out n h; omega
        | succ f ih =>
          intro s out n h
          rw [parseI]
          split
          · simp
          · split
            · simp
            · split
              · simp
              · split
                · rename_i hc
                  have h6 := cut_len s hc
                  have := ih (Lib.cut s [10]).2.1 (out ++ [by assumption]) (n + 1) (by omega)
                  refine Nat.le_trans (ih _ _ _ (by omega)) (by omega)
                · simp
      have := this (s.length + 1) s [] 1 (by omega)
      rw [h3] at this
      simp only at this
      omega

set_option maxHeartbeats 2000000 in
theorem e_AsmJoins {l : List Ins} (hf : ∀ i ∈ l, i.fits) (s : List UInt8) : ev1 (cfg m) 6 [.d (.sl (l.map Ins.D)), .d (.str s)] = some (.d (.bool true)) := by
  refine ev1_fn rfl rfl ?_ rfl
  have h0 := e_awake m
  by_cases hl : 40 < l.length
  · have hl' : (40 : Int) < l.length := by omega
    simp [s_backsteplaw22_AsmJoins, h0, hl, hl']
  · have hl' : ¬ (40 : Int) < l.length := by omega
    by_cases hs : 300 < s.length
    · have hs' : (300 : Int) < s.length := by omega
      simp [s_backsteplaw22_AsmJoins, h0, hl, hl', hs, hs']
    · have hs' : ¬ (300 : Int) < s.length := by omega
      have h1 := e_Format m l (by omega) hf
      cases hall : l.all validI with
      | false =>
        rw [hall] at h1
        simp at h1
        simp [s_backsteplaw22_AsmJoins, h0, hl, hl', hs, hs', h1]
      | true =>
        rw [hall] at h1
        have hv : ∀ i ∈ l, i.fits ∧ validI i = true := fun i hi => ⟨hf i hi, List.all_eq_true.1 hall i hi⟩
        have hlen := textI_len l hv
        have h2 := e_Parse m s (by omega)
        have h3 := e_Parse m (textI l ++ s) (by simp; omega)
        have b0 : (textI l).length + s.length ≤ 9223372036854775807 := by omega
        simp only [if_true] at h1
        rcases parse_two hv (by omega) s (by omega) with ⟨l', g1, g2, g3⟩ | ⟨k, e, g1, g2, g3, g4⟩
        · rw [g1] at h2; rw [g2] at h3
          have h4 := e_same m (l ++ l') (by simp; omega)
          have b1 : l.length ≤ 140737488355328 ∧ l.length * 40 ≤ 140737488355328 := by omega
          have b2 : l.length + l'.length ≤ 140737488355328 ∧ (l.length + l'.length) * 40 ≤ 140737488355328 := by omega
          simp [prV] at h2 h3 h4
          simp [s_backsteplaw22_AsmJoins, h0, hl, hl', hs, hs', h1, h2, h3, h4, b0, b1, b2, slotHead_ins]
        · rw [g1] at h2; rw [g2] at h3
          have he : ¬ e = 0 := by omega
          have hw := wrap_i64 ((k : Int) + l.length) (by omega) (by omega)
          simp [prV] at h2 h3
          simp [s_backsteplaw22_AsmJoins, h0, hl, hl', hs, hs', h1, h2, h3, b0, he, hw]

theorem asmJoins_ev (xs : List D) (hw : WTs Tryz.prog Tryz.f6.params.toList xs) (hb : D.bulks xs ≤ 1048576) : ∃ cs, ev (cfg m) 6 (xs.map V.d) [] = some (.d (.bool true), cs) := by
  have hp : Tryz.f6.params.toList = [22, 9] := by kernel_rfl
  rw [hp] at hw
  cases hw with
  | cons a hw => cases hw with
    | cons b hw => cases hw with
      | nil =>
        obtain ⟨l, rfl, hl⟩ := code_of a
        obtain ⟨s, rfl⟩ := WT_str b (by kernel_rfl)
        obtain ⟨cs, h, _⟩ := ev1_inv (e_AsmJoins m hl s)
        exact ⟨cs, h⟩
end Go.Ev.S
