/- AsmDecodes' answer. -/
import Derived.Test.YtglggojbbenobaaGreatDoorEvR8
set_option linter.all false
namespace Go.Ev.S
open Go.Proofs Go.Ev.A
variable (m : Int)

theorem decGo_len : ∀ (n : Nat) (b : List UInt8) (out : List Ins), (decGo n b out).1.length ≤ out.length + n
  | 0, b, out => by simp only [decGo]; split <;> simp
  | n + 1, b, out => by
    simp only [decGo]
    split
    · simp
    · have := decGo_len n (by assumption) (out ++ [by assumption])
      simp at this
      omega
theorem decodeI_len (b : List UInt8) : (decodeI b).1.length ≤ 65536 := by
  unfold decodeI
  split
  · simp
  · split
    · simp
    · have := decGo_len (numU 0 (b.take 4)) (b.drop 4) []
      simp at this
      omega

set_option maxHeartbeats 4000000 in
theorem e_AsmDecodes (b : List UInt8) : ev1 (cfg m) 9 [.d (.sl (ofBytes b))] = some (.d (.bool true)) := by
  refine ev1_fn rfl rfl ?_ rfl
  have h0 := e_awake m
  by_cases hl : 600 < b.length
  · have hl' : (600 : Int) < b.length := by omega
    simp [s_backsteplaw22_AsmDecodes, h0, hl, hl']
  · have hl' : ¬ (600 : Int) < b.length := by omega
    have h1 := e_Decode m b (by omega)
    have h2 := r_Decode m b (by omega)
    have h3 := e_same m (decodeI b).1 (by have := decodeI_len b; omega)
    cases hd : decodeI b with
    | mk l e =>
      rw [hd] at h1 h2 h3
      simp [deV] at h1 h2 h3
      simp [s_backsteplaw22_AsmDecodes, h0, hl, hl', h1, h2, h3]

theorem bytes_of : ∀ {l : List D}, WTl Tryz.prog 5 l → ∃ b : List UInt8, l = ofBytes b
  | [], _ => ⟨[], rfl⟩
  | x :: l, .cons h h' => by
    obtain ⟨n, rfl, h1, h2⟩ := WT_int (k := .u8) h (by kernel_rfl)
    obtain ⟨b, rfl⟩ := bytes_of h'
    refine ⟨UInt8.ofNat n.toNat :: b, ?_⟩
    have h1' : 0 ≤ n := h1
    have h2' : n ≤ 255 := h2
    have : ((UInt8.ofNat n.toNat).toNat : Int) = n := by rw [UInt8.toNat_ofNat']; omega
    simp [ofBytes, -UInt8.toNat_ofNat', this]

theorem asmDecodes_ev (xs : List D) (hw : WTs Tryz.prog Tryz.f9.params.toList xs) (hb : D.bulks xs ≤ 1048576) : ∃ cs, ev (cfg m) 9 (xs.map V.d) [] = some (.d (.bool true), cs) := by
  have hp : Tryz.f9.params.toList = [29] := by kernel_rfl
  rw [hp] at hw
  cases hw with
  | cons a hw => cases hw with
    | nil =>
      obtain ⟨q, rfl, hq⟩ := WT_slice (e := 5) a (by kernel_rfl)
      obtain ⟨bs, rfl⟩ := bytes_of hq
      obtain ⟨cs, h, _⟩ := ev1_inv (e_AsmDecodes m bs)
      exact ⟨cs, h⟩
end Go.Ev.S
