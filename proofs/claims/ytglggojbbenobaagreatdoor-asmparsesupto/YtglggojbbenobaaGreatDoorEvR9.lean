/- Machine code: the reference's words. -/
import Derived.Test.YtglggojbbenobaaGreatDoorEvE18
set_option linter.all false
namespace Go.Ev.S
open Go.Proofs Go.Ev.A
variable (m : Int)

def rwSt (s : List UInt8) (out : List (List UInt8)) (fr i : Nat) : St :=
  { env := [(0, .d (.str s)), (2, .own 1000), (3, .own 1256), (4, .d (.int .i64 (fr : Int))), (5, .d (.int .i64 (i : Int)))], cells := [(1000, .row 9 1 []), (1256, .row 9 1 (out.map .str))] }
def rwEx (s : List UInt8) (out : List (List UInt8)) (fr i : Nat) : St := { rwSt s out fr i with env := (rwSt s out fr i).env ++ [(9, .d (.bool false))] }
def rwKs : List Nat := [0, 2, 3, 4, 5]

set_option maxHeartbeats 2000000 in
theorem rw_cut (s : List UInt8) (hs : s.length ≤ 4000000000) (out : List (List UInt8)) (fr i : Nat) (hf : fr ≤ i) (hi : i ≤ s.length) (ho : out.length ≤ i) (hb : ∀ h : i < s.length, s[i] = 32) :
    ∃ σ', evalS (cfg m) s_backstepref22_Words_l0 (rwSt s out fr i) = some (.normal, σ') ∧ σ'.norm rwKs [1000, 1256] = rwSt s (out ++ [(s.drop fr).take (i - fr)]) (i + 1) (i + 1) := by
  have hw := wrap_i64 ((i : Int) + 1) (by omega) (by omega)
  have hc : out.length + 1 ≤ 140737488355328 ∧ (out.length + 1) * 16 ≤ 140737488355328 := by omega
  have hi' : (i : Int) ≤ s.length := by omega
  have hf' : (fr : Int) ≤ i := by omega
  have ht : (s.drop fr).take (i - fr) = (s.take i).drop fr := by rw [List.drop_take]
  rw [ht]
  by_cases he : i = s.length
  · subst he
    simp [s_backstepref22_Words_l0, rwSt, rwKs, hw, hc, hf', hf]
  · have hlt : i < s.length := by omega
    have h1 := hb hlt
    have he' : ¬ (i : Int) = s.length := by omega
    simp [s_backstepref22_Words_l0, rwSt, rwKs, hw, hc, hf', hf, hlt, h1, he, he', hi', hi]

set_option maxHeartbeats 2000000 in
theorem rw_on (s : List UInt8) (hs : s.length ≤ 4000000000) (out : List (List UInt8)) (fr i : Nat) (hi : i < s.length) (hb : s[i] ≠ 32) :
    ∃ σ', evalS (cfg m) s_backstepref22_Words_l0 (rwSt s out fr i) = some (.normal, σ') ∧ σ'.norm rwKs [1000, 1256] = rwSt s out fr (i + 1) := by
  have hw := wrap_i64 ((i : Int) + 1) (by omega) (by omega)
  have hi' : (i : Int) ≤ s.length := by omega
  have he : ¬ i = s.length := by omega
  have he' : ¬ (i : Int) = s.length := by omega
  have hle : i ≤ s.length := by omega
  have h32 : ¬ ((s[i].toNat : Int) = 32) := by
    intro h
    have h2 : s[i].toNat = (32 : UInt8).toNat := by show s[i].toNat = 32; omega
    exact hb (UInt8.toNat_inj.1 h2)
  have h32' : ¬ (s[i].toNat = 32) := by omega
  simp [s_backstepref22_Words_l0, rwSt, rwKs, hw, hi, hb, h32, h32', he, he', hi', hle]

theorem rw_loop (s : List UInt8) (hs : s.length ≤ 4000000000) : ∀ (f i fr : Nat) (out : List (List UInt8)), i + f = s.length → fr ≤ i → out.length ≤ i → (32 : UInt8) ∉ (s.drop fr).take (i - fr) →
    ∃ fr', loopS (cfg m) s_backstepref22_Words_l0 rwKs [1000, 1256] (rwSt s out fr i) = some (.exit 0, rwEx s (out ++ Lib.split (s.drop fr) [32]) fr' (s.length + 1)) := by
  intro f
  induction f with
  | zero =>
    intro i fr out hi hf ho hn
    obtain ⟨σ', g1, g2⟩ := rw_cut m s hs out fr i hf (by omega) ho (fun h => by omega)
    obtain rfl : i = s.length := by omega
    refine ⟨s.length + 1, loopS_step g1 ?_⟩
    rw [g2]
    have e : (s.drop fr).take (s.length - fr) = s.drop fr := List.take_of_length_le (by simp)
    rw [e] at hn ⊢
    rw [split_none hn]
    refine loopS_exit ?_
    have h1 : ¬ ((s.length : Int) + 1 ≤ s.length) := by omega
    simp [s_backstepref22_Words_l0, rwSt, rwEx, h1]
  | succ f ih =>
    intro i fr out hi hf ho hn
    have hlt : i < s.length := by omega
    have hsp : s.drop fr = (s.drop fr).take (i - fr) ++ s[i] :: s.drop (i + 1) := by
      have h1 := (List.take_append_drop (i - fr) (s.drop fr)).symm
      rw [List.drop_drop, show fr + (i - fr) = i by omega, List.drop_eq_getElem_cons hlt] at h1
      exact h1
    by_cases hb : s[i] = 32
    · obtain ⟨σ', g1, g2⟩ := rw_cut m s hs out fr i hf (by omega) ho (fun h => hb)
      obtain ⟨fr', g3⟩ := ih (i + 1) (i + 1) (out ++ [(s.drop fr).take (i - fr)]) (by omega) (Nat.le_refl _) (by simp; omega) (by simp)
      refine ⟨fr', ?_⟩
      rw [loopS_step g1 (by rw [g2]; exact g3)]
      have hsp2 : Lib.split (s.drop fr) [32] = (s.drop fr).take (i - fr) :: Lib.split (s.drop (i + 1)) [32] := by
        rw [hb] at hsp
        generalize (s.drop fr).take (i - fr) = w at *
        rw [hsp]
        exact split_at hn
      rw [hsp2, List.append_assoc]; rfl
    · obtain ⟨σ', g1, g2⟩ := rw_on m s hs out fr i hlt hb
      obtain ⟨fr', g3⟩ := ih (i + 1) fr out (by omega) (by omega) (by omega) (by
        have : (s.drop fr).take (i + 1 - fr) = (s.drop fr).take (i - fr) ++ [s[i]] := by
          rw [show i + 1 - fr = (i - fr) + 1 by omega, List.take_add_one, List.getElem?_drop, show fr + (i - fr) = i by omega, List.getElem?_eq_getElem hlt]
          rfl
        rw [this]
        intro hm
        rcases List.mem_append.1 hm with hm | hm
        · exact hn hm
        · simp at hm; exact hb hm.symm)
      exact ⟨fr', loopS_step g1 (by rw [g2]; exact g3)⟩

theorem r_words (s : List UInt8) (hs : s.length ≤ 4000000000) : ev1 (cfg m) 21 [.d (.str s)] = some (.d (.sl ((Lib.split s [32]).map .str))) := by
  refine ev1_fn rfl rfl ?_ rfl
  obtain ⟨fr', h⟩ := rw_loop m s hs s.length 0 0 [] (by omega) (Nat.le_refl _) (Nat.le_refl _) (by simp)
  simp only [List.drop_zero, List.nil_append] at h
  simp [rwSt, rwEx, rwKs] at h
  simp [s_backstepref22_Words, h]
end Go.Ev.S
