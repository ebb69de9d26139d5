/- Machine code: the reference's Decode as a whole. -/
import Derived.Test.YtglggojbbenobaaGreatDoorEvR7
set_option linter.all false
namespace Go.Ev.S
open Go.Proofs Go.Ev.A
variable (m : Int)

def rdEx (n : Nat) (b : List UInt8) (out : List Ins) : St := { rdSt n b out with env := (rdSt n b out).env ++ [(23, .d (.bool false))] }
theorem rd_loop (n : Nat) (hn : n ≤ 65536) : ∀ (f : Nat) (b : List UInt8) (out : List Ins), out.length + f = n → b.length ≤ 1000000 →
    (∃ b' out', loopS (cfg m) s_backstepref22_Decode_l1 rdKs rdTs (rdSt n b out) = some (.exit 0, rdEx n b' out') ∧ decGo f b out = decGo 0 b' out') ∨
    (∃ σ cs e, loopS (cfg m) s_backstepref22_Decode_l1 rdKs rdTs (rdSt n b out) = some (.ret, σ) ∧ result dRs σ = some (.tup [.d (.sl []), .d (.int .i64 e)], cs) ∧ decGo f b out = ([], e)) := by
  intro f
  induction f with
  | zero =>
    intro b out hk hb
    left
    refine ⟨b, out, loopS_exit ?_, rfl⟩
    have h1 : ¬ out.length < n := by omega
    have h2 : ¬ (out.length : Int) < n := by omega
    simp [s_backstepref22_Decode_l1, rdSt, rdEx, rdEnv, rdCells, h1, h2]
  | succ f ih =>
    intro b out hk hb
    have hst := rd_step m n hn b hb out (by omega)
    simp only [decGo]
    cases hd : dec1 b with
    | error e =>
      rw [hd] at hst
      obtain ⟨σ', cs', g1, g2⟩ := hst
      exact .inr ⟨σ', cs', e, loopS_ret g1, g2, rfl⟩
    | ok p =>
      obtain ⟨i, r⟩ := p
      rw [hd] at hst
      obtain ⟨⟨σ', g1, g2⟩, g3⟩ := hst
      simp only
      rcases ih r (out ++ [i]) (by simp; omega) (by omega) with ⟨b', out', h1, h2⟩ | ⟨σ'', cs'', e, h1, h2, h3⟩
      · exact .inl ⟨b', out', loopS_step g1 (by rw [g2]; exact h1), h2⟩
      · exact .inr ⟨σ'', cs'', e, loopS_step g1 (by rw [g2]; exact h1), h2, h3⟩

set_option maxHeartbeats 4000000 in
theorem r_Decode (b : List UInt8) (hb : b.length ≤ 1000000) : ev1 (cfg m) 26 [.d (.sl (ofBytes b))] = some (deV (decodeI b)) := by
  have hfin : ∀ v, v.refs = [] → (∃ cs, bodyS (cfg m) s_backstepref22_Decode [.d (.sl (ofBytes b))] [] = some (v, cs)) → ev1 (cfg m) 26 [.d (.sl (ofBytes b))] = some v := by
    rintro v hv ⟨cs, h⟩
    exact ev1_fn rfl rfl (by rw [h]; rfl) hv
  refine hfin _ rfl ?_
  unfold decodeI
  by_cases h4 : b.length < 4
  · have h4' : (b.length : Int) < 4 := by omega
    rw [if_pos h4]
    simp [s_backstepref22_Decode, deV, h4, h4']
  · have h4' : ¬ (b.length : Int) < 4 := by omega
    have ht := r_take m b 4 (by decide) (by omega) hb
    rw [if_neg h4]
    obtain ⟨hn, hlt⟩ := numI_four (b := b.take 4) (by simp; omega)
    rw [hn] at ht
    have hd : (b.drop 4).length ≤ 1000000 := by simp; omega
    have hs1 : ∀ k, slotAt 1 (ofBytes b) k = true := fun k => slotAt_map (fun a => by simp) b
    have htb : (ofBytes b).take b.length = ofBytes b := List.take_of_length_le (by simp)
    have hdb : (ofBytes b).drop 4 = ofBytes (b.drop 4) := by simp [ofBytes, List.map_drop]
    have h44 : 4 ≤ b.length := by omega
    generalize hN : numU 0 (b.take 4) = n at *
    simp at ht
    generalize hB : b.drop 4 = b1 at *
    by_cases hbig : 65536 < n
    · have hbig' : (65536 : Int) < n := by omega
      rw [if_pos hbig]
      simp [s_backstepref22_Decode, deV, ht, h4, h4', h44, hs1, htb, hdb, hbig, hbig']
    · have hbig' : ¬ (65536 : Int) < n := by omega
      rw [if_neg hbig]
      rcases rd_loop m n (by omega) n b1 [] (by simp) hd with ⟨b', out', h1, h2⟩ | ⟨σ, cs, e, h1, h2, h3⟩
      · rw [h2]
        simp [rdSt, rdEx, rdEnv, rdCells, rdKs, rdTs] at h1
        simp only [decGo]
        by_cases hbe : b' = []
        · subst hbe
          have e0 : ofBytes [] = [] := rfl
          rw [e0] at h1
          simp [s_backstepref22_Decode, deV, ht, h4, h4', h44, hs1, htb, hdb, hbig, hbig', h1]
        · have hpos : 0 < b'.length := List.length_pos_iff.2 hbe
          have hpos' : (0 : Int) < b'.length := by omega
          rw [if_neg hbe]
          simp [s_backstepref22_Decode, deV, ht, h4, h4', h44, hs1, htb, hdb, hbig, hbig', h1, hpos, hpos', hbe]
      · rw [h3]
        simp [rdSt, rdEnv, rdCells, rdKs, rdTs] at h1
        simp only [dRs] at h2
        refine ⟨cs, ?_⟩
        simp [s_backstepref22_Decode, deV, ht, h4, h4', h44, hs1, htb, hdb, hbig, hbig', h1, -result]
        rw [h2]
end Go.Ev.S
