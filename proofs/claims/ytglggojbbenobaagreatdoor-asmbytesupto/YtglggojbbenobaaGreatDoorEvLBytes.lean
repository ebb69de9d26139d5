/- AsmBytes' answer. -/
import Derived.Test.YtglggojbbenobaaGreatDoorEvE18
set_option linter.all false
namespace Go.Ev.S
open Go.Proofs Go.Ev.A
variable (m : Int)

theorem encodeI_len {l : List Ins} (hv : ∀ i ∈ l, i.fits ∧ validI i = true) : 4 ≤ (encodeI l).length ∧ (encodeI l).length ≤ 4 + 33 * l.length := by
  have := codeI_len l (fun i hi => (hv i hi).2)
  simp only [encodeI, List.length_append, beI_len]
  omega

set_option maxHeartbeats 4000000 in
theorem e_AsmBytes {l : List Ins} (hf : ∀ i ∈ l, i.fits) (cut more : Int) (hc : 0 ≤ cut ∧ cut ≤ 65535) (hm : 0 ≤ more ∧ more ≤ 255) : ev1 (cfg m) 10 [.d (.sl (l.map Ins.D)), .d (.int .u16 cut), .d (.int .u8 more)] = some (.d (.bool true)) := by
  refine ev1_fn rfl rfl ?_ rfl
  have h0 := e_awake m
  by_cases hl : 40 < l.length
  · have hl' : (40 : Int) < l.length := by omega
    simp [s_backsteplaw22_AsmBytes, h0, hl, hl']
  · have hl' : ¬ (40 : Int) < l.length := by omega
    have h1 := e_Encode m l (by omega) hf
    cases hall : l.all validI with
    | false =>
      rw [hall] at h1
      simp at h1
      simp [s_backsteplaw22_AsmBytes, h0, hl, hl', h1]
    | true =>
      rw [hall] at h1
      have hv : ∀ i ∈ l, i.fits ∧ validI i = true := fun i hi => ⟨hf i hi, List.all_eq_true.1 hall i hi⟩
      obtain ⟨b1, b2⟩ := encodeI_len hv
      have hds := decode_encode hv (by omega) []
      rw [List.append_nil, if_pos rfl] at hds
      have hdm := decode_encode hv (by omega) [UInt8.ofNat more.toNat]
      rw [if_neg (by simp)] at hdm
      have h2 := e_Decode m (encodeI l) (by omega)
      rw [hds] at h2
      have hmo : ofBytes (encodeI l ++ [UInt8.ofNat more.toNat]) = ofBytes (encodeI l) ++ [.int .u8 more] := by
        rw [ofBytes_snoc]
        congr 3
        rw [UInt8.toNat_ofNat']; omega
      have h3 := e_Decode m (encodeI l ++ [UInt8.ofNat more.toNat]) (by simp; omega)
      rw [hdm, hmo] at h3
      -- the cut
      have hcw := wrap_i64 cut (by omega) (by omega)
      obtain ⟨q, hq, hq2⟩ : ∃ q : Nat, cut.tmod ((encodeI l).length : Int) = (q : Int) ∧ q < (encodeI l).length := by
        refine ⟨(cut.toNat) % (encodeI l).length, ?_, Nat.mod_lt _ (by omega)⟩
        rw [Int.tmod_eq_emod_of_nonneg hc.1]
        have : cut = ((cut.toNat : Nat) : Int) := by omega
        rw [this]; rfl
      have hdc := decode_short hv (by omega) (b := (encodeI l).take q) (r := (encodeI l).drop q) (List.take_append_drop _ _).symm (by
        intro e
        have := congrArg List.length e
        simp at this; omega)
      have h4 := e_Decode m ((encodeI l).take q) (by simp; omega)
      rw [hdc] at h4
      have htk : ofBytes ((encodeI l).take q) = (ofBytes (encodeI l)).take q := by simp [ofBytes, List.map_take]
      rw [htk] at h4
      have h5 := e_same m l (by omega)
      have hne : encodeI l ≠ [] := fun e => by rw [e] at b1; simp at b1
      have hne' : ¬ ((encodeI l).length : Int) = 0 := by omega
      have hs1 : slotHead 1 (ofBytes (encodeI l)) = true := slotHead_map (fun a => by simp) _
      have hs2 : ∀ k, slotAt 1 (ofBytes (encodeI l)) k = true := fun k => slotAt_map (fun a => by simp) _
      have c1 : (encodeI l).length ≤ 140737488355328 := by omega
      have c2 : (encodeI l).length + 1 ≤ 140737488355328 := by omega
      generalize encodeI l = E at *
      simp [deV] at h1 h2 h3 h4
      simp [s_backsteplaw22_AsmBytes, h0, hl, hl', h1, h2, h3, h4, h5, hne, hne', hcw, hq, hs1, hs2, c1, c2, show q ≤ E.length by omega]

theorem asmBytes_ev (xs : List D) (hw : WTs Tryz.prog Tryz.f10.params.toList xs) (hb : D.bulks xs ≤ 1048576) : ∃ cs, ev (cfg m) 10 (xs.map V.d) [] = some (.d (.bool true), cs) := by
  have hp : Tryz.f10.params.toList = [22, 55, 5] := by kernel_rfl
  rw [hp] at hw
  cases hw with
  | cons a hw => cases hw with
    | cons b hw => cases hw with
      | cons c hw => cases hw with
        | nil =>
          obtain ⟨l, rfl, hl⟩ := code_of a
          obtain ⟨p, rfl, p1, p2⟩ := WT_int (k := .u16) b (by kernel_rfl)
          obtain ⟨q, rfl, q1, q2⟩ := WT_int (k := .u8) c (by kernel_rfl)
          obtain ⟨cs, h, _⟩ := ev1_inv (e_AsmBytes m hl p q ⟨p1, p2⟩ ⟨q1, q2⟩)
          exact ⟨cs, h⟩
end Go.Ev.S
