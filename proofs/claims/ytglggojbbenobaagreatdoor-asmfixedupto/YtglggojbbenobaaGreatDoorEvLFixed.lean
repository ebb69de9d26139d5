/- AsmFixed's answer. -/
import Derived.Test.YtglggojbbenobaaGreatDoorEvE18
set_option linter.all false
namespace Go.Ev.S
open Go.Proofs Go.Ev.A
variable (m : Int)

theorem textI_count : ∀ (l : List Ins), l.length ≤ (textI l).length
  | [] => by simp
  | i :: l => by
    have := textI_count l
    simp only [textI, List.map_cons, List.flatten_cons, List.length_append, List.length_cons, List.length_nil] at this ⊢
    omega
theorem codeI_count : ∀ (l : List Ins), l.length ≤ (codeI l).length
  | [] => by simp
  | i :: l => by
    have := codeI_count l
    simp only [codeI, List.map_cons, List.flatten_cons, List.length_append, List.length_cons, bytesI] at this ⊢
    omega

set_option maxHeartbeats 8000000 in
theorem e_AsmFixed (s b : List UInt8) : ev1 (cfg m) 11 [.d (.str s), .d (.sl (ofBytes b))] = some (.d (.bool true)) := by
  refine ev1_fn rfl rfl ?_ rfl
  have h0 := e_awake m
  by_cases hs : 600 < s.length
  · have hs' : (600 : Int) < s.length := by omega
    simp [s_backsteplaw22_AsmFixed, h0, hs, hs']
  · have hs' : ¬ (600 : Int) < s.length := by omega
    by_cases hb : 600 < b.length
    · have hb' : (600 : Int) < b.length := by omega
      simp [s_backsteplaw22_AsmFixed, h0, hs, hs', hb, hb']
    · have hb' : ¬ (600 : Int) < b.length := by omega
      have h1 := e_Parse m s (by omega)
      have h2 := e_Decode m b (by omega)
      have hh2 : slotHead 1 (ofBytes b) = true := slotHead_map (fun a => by simp) _
      have hdec : (∃ l, decodeI b = (l, 0) ∧ ev1 (cfg m) 15 [.d (.sl (l.map Ins.D))] = some (.tup [.d (.sl (ofBytes b)), .d (.int .i64 0)])) ∨ (∃ e, e ≠ 0 ∧ decodeI b = ([], e)) := by
        cases hd : decodeI b with
        | mk l e =>
          by_cases he : e = 0
          · subst he
            obtain ⟨g1, g2, g3⟩ := decode_inv hd
            have h3 := e_Encode m l g2 (fun i hi => (g3 i hi).1)
            have hall : l.all validI = true := List.all_eq_true.2 (fun i hi => (g3 i hi).2)
            rw [hall, if_pos rfl, if_pos rfl, ← g1] at h3
            exact .inl ⟨l, rfl, h3⟩
          · have := decode_err hd he
            subst this
            exact .inr ⟨e, he, rfl⟩
      rcases Go.Ev.A.parse_inv (s.length + 1) s [] 1 (by omega) (by omega) with ⟨l, h3, h4, h5⟩ | ⟨k, e, h3, h4, h5⟩
      · have hl := textI_count l
        rw [← h4] at hl
        have h6 := e_Format m l (by omega) (fun i hi => (h5 i hi).1)
        have hall : l.all validI = true := List.all_eq_true.2 (fun i hi => (h5 i hi).2)
        rw [hall, if_pos rfl, if_pos rfl, ← h4] at h6
        have e1 : parseT s = (l, 0, 0) := by unfold parseT; simpa using h3
        rw [e1] at h1
        rcases hdec with ⟨l2, g1, g2⟩ | ⟨e2, g1, g2⟩
        · rw [g1] at h2
          simp [prV, deV] at h1 h2
          simp [s_backsteplaw22_AsmFixed, h0, hs, hs', hb, hb', h1, h2, h6, g2, hh2]
        · rw [g2] at h2
          simp [prV, deV] at h1 h2
          simp [s_backsteplaw22_AsmFixed, h0, hs, hs', hb, hb', h1, h2, h6, g1]
      · have e1 : parseT s = ([], 1 + k, e) := h3
        have he : ¬ e = 0 := by omega
        rw [e1] at h1
        rcases hdec with ⟨l2, g1, g2⟩ | ⟨e2, g1, g2⟩
        · rw [g1] at h2
          simp [prV, deV] at h1 h2
          simp [s_backsteplaw22_AsmFixed, h0, hs, hs', hb, hb', h1, h2, g2, he, hh2]
        · rw [g2] at h2
          simp [prV, deV] at h1 h2
          simp [s_backsteplaw22_AsmFixed, h0, hs, hs', hb, hb', h1, h2, g1, he]

theorem bytes_of : ∀ {l : List D}, WTl Tryz.prog 5 l → ∃ b : List UInt8, l = ofBytes b
  | [], _ => ⟨[], rfl⟩
  | x :: l, .cons h h' => by
    obtain ⟨n, rfl, h1, h2⟩ := WT_int (k := .u8) h (by kernel_rfl)
    obtain ⟨b, rfl⟩ := bytes_of h'
    refine ⟨UInt8.ofNat n.toNat :: b, ?_⟩
    have h1' : 0 ≤ n := h1
    have h2' : n ≤ 255 := h2
    have : ((UInt8.ofNat n.toNat).toNat : Int) = n := by rw [UInt8.toNat_ofNat']; omega
    simp [ofBytes, -UInt8.toNat_ofNat', this]

theorem asmFixed_ev (xs : List D) (hw : WTs Tryz.prog Tryz.f11.params.toList xs) (hb : D.bulks xs ≤ 1048576) : ∃ cs, ev (cfg m) 11 (xs.map V.d) [] = some (.d (.bool true), cs) := by
  have hp : Tryz.f11.params.toList = [9, 29] := by kernel_rfl
  rw [hp] at hw
  cases hw with
  | cons a hw => cases hw with
    | cons b hw => cases hw with
      | nil =>
        obtain ⟨s, rfl⟩ := WT_str a (by kernel_rfl)
        obtain ⟨q, rfl, hq⟩ := WT_slice (e := 5) b (by kernel_rfl)
        obtain ⟨bs, rfl⟩ := bytes_of hq
        obtain ⟨cs, h, _⟩ := ev1_inv (e_AsmFixed m s bs)
        exact ⟨cs, h⟩
end Go.Ev.S
