/- Machine code: Decode as a whole. -/
import Derived.Test.YtglggojbbenobaaGreatDoorEvE17
set_option linter.all false
namespace Go.Ev.S
open Go.Proofs Go.Ev.A
variable (m : Int)

def doEx (b0 : List UInt8) (n : Nat) (b : List UInt8) (out : List Ins) : St := { doSt b0 n n b out with env := (doSt b0 n n b out).env ++ [(25, .d (.bool false))] }
theorem do_loop (b0 : List UInt8) (n : Nat) (hn : n ≤ 65536) : ∀ (f k : Nat) (b : List UInt8) (out : List Ins), k + f = n → b.length ≤ 1000000 → out.length ≤ k →
    (∃ b' out', loopS (cfg m) s_asm_Decode_l1 doKs doTs (doSt b0 n k b out) = some (.exit 0, doEx b0 n b' out') ∧ decGo f b out = decGo 0 b' out') ∨
    (∃ σ cs e, loopS (cfg m) s_asm_Decode_l1 doKs doTs (doSt b0 n k b out) = some (.ret, σ) ∧ result dRs σ = some (.tup [.d (.sl []), .d (.int .i64 e)], cs) ∧ decGo f b out = ([], e)) := by
  intro f
  induction f with
  | zero =>
    intro k b out hk hb ho
    obtain rfl : k = n := by omega
    left
    refine ⟨b, out, loopS_exit ?_, rfl⟩
    simp [s_asm_Decode_l1, doSt, doEx, doEnv, doCells]
  | succ f ih =>
    intro k b out hk hb ho
    have hst := do_step m b0 n k (by omega) hn b hb out ho
    simp only [decGo]
    cases hd : dec1 b with
    | error e =>
      rw [hd] at hst
      obtain ⟨σ', cs', g1, g2⟩ := hst
      exact .inr ⟨σ', cs', e, loopS_ret g1, g2, rfl⟩
    | ok p =>
      obtain ⟨i, r⟩ := p
      rw [hd] at hst
      obtain ⟨⟨σ', g1, g2⟩, g3⟩ := hst
      simp only
      rcases ih (k + 1) r (out ++ [i]) (by omega) (by omega) (by simp; omega) with ⟨b', out', h1, h2⟩ | ⟨σ'', cs'', e, h1, h2, h3⟩
      · exact .inl ⟨b', out', loopS_step g1 (by rw [g2]; exact h1), h2⟩
      · exact .inr ⟨σ'', cs'', e, loopS_step g1 (by rw [g2]; exact h1), h2, h3⟩

def deV (r : List Ins × Int) : V := .tup [.d (.sl (r.1.map Ins.D)), .d (.int .i64 r.2)]

theorem numI_four {b : List UInt8} (h : b.length = 4) : numI b = (numU 0 b : Int) ∧ numU 0 b < 4294967296 := by
  have := numU_lt b
  rw [h] at this
  refine ⟨?_, by omega⟩
  unfold numI
  exact wrap_i64 _ (by omega) (by omega)

set_option maxHeartbeats 4000000 in
theorem e_Decode (b : List UInt8) (hb : b.length ≤ 1000000) : ev1 (cfg m) 25 [.d (.sl (ofBytes b))] = some (deV (decodeI b)) := by
  have hfin : ∀ v, v.refs = [] → (∃ cs, bodyS (cfg m) s_asm_Decode [.d (.sl (ofBytes b))] [] = some (v, cs)) → ev1 (cfg m) 25 [.d (.sl (ofBytes b))] = some v := by
    rintro v hv ⟨cs, h⟩
    exact ev1_fn rfl rfl (by rw [h]; rfl) hv
  refine hfin _ rfl ?_
  have ht := ev_take m b 4 (by decide) hb
  unfold decodeI
  by_cases h4 : b.length < 4
  · rw [if_pos h4] at ht ⊢
    simp at ht
    simp [s_asm_Decode, deV, callEff, reach, pass, over, without, noVars, newTags, pickT, swapped, V.ren, V.renL, Cell.ren, ht]
  · rw [if_neg h4] at ht ⊢
    obtain ⟨hn, hlt⟩ := numI_four (b := b.take 4) (by simp; omega)
    rw [hn] at ht
    generalize hN : numU 0 (b.take 4) = n at *
    have hd : (b.drop 4).length ≤ 1000000 := by simp; omega
    simp at ht
    generalize hB : b.drop 4 = b1 at *
    by_cases hbig : 65536 < n
    · have hbig' : (65536 : Int) < n := by omega
      rw [if_pos hbig]
      simp [s_asm_Decode, deV, callEff, reach, pass, over, without, noVars, newTags, pickT, swapped, V.ren, V.renL, Cell.ren, ht, hbig, hbig']
    · have hbig' : ¬ (65536 : Int) < n := by omega
      rw [if_neg hbig]
      rcases do_loop m b n (by omega) n 0 b1 [] (by omega) hd (by simp) with ⟨b', out', h1, h2⟩ | ⟨σ, cs, e, h1, h2, h3⟩
      · rw [h2]
        simp [doSt, doEx, doEnv, doCells, doKs, doTs] at h1
        simp only [decGo]
        by_cases hbe : b' = []
        · subst hbe
          have e0 : ofBytes [] = [] := rfl
          rw [e0] at h1
          simp [s_asm_Decode, deV, callEff, reach, pass, over, without, noVars, newTags, pickT, swapped, V.ren, V.renL, Cell.ren, ht, hbig, hbig', h1]
        · have hpos : 0 < b'.length := List.length_pos_iff.2 hbe
          have hpos' : (0 : Int) < b'.length := by omega
          rw [if_neg hbe]
          simp [s_asm_Decode, deV, callEff, reach, pass, over, without, noVars, newTags, pickT, swapped, V.ren, V.renL, Cell.ren, ht, hbig, hbig', h1, hpos, hpos', hbe]
      · rw [h3]
        simp [doSt, doEnv, doCells, doKs, doTs] at h1
        simp only [dRs] at h2
        refine ⟨cs, ?_⟩
        simp [s_asm_Decode, deV, callEff, reach, pass, over, without, noVars, newTags, pickT, swapped, V.ren, V.renL, Cell.ren, ht, hbig, hbig', h1, -result]
        rw [h2]
end Go.Ev.S
