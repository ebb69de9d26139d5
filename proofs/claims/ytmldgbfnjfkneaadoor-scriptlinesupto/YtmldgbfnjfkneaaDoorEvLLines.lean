/- ScriptLines's answer. -/
import Derived.Test.YtmldgbfnjfkneaaDoorEvL1
import Derived.Test.YtmldgbfnjfkneaaDoorKD
set_option linter.all false
set_option linter.unusedVariables false
set_option linter.unusedSimpArgs false
set_option maxRecDepth 10000
namespace Go.Ev.S
open Go.Proofs
variable (m : Int)

def linSt (a : D) (more : Int) (s : List UInt8) (n pos : Nat) : St := { env := [(0, .d a), (1, .d (.int .u8 more)), (4, .d (.bool false)), (19, .d (.bool false)), (26, .d (.bool false)), (5, .d (.str s)), (6, .d (.int .i64 0)), (34, .d (.bool false)), (7, .d (.int .i64 n)), (36, .ptr 3308 0 [])], cells := [(3308, .iter s pos)] }
def linEx (a : D) (more : Int) (s : List UInt8) (n pos : Nat) : St := { env := [(0, .d a), (1, .d (.int .u8 more)), (4, .d (.bool false)), (19, .d (.bool false)), (26, .d (.bool false)), (5, .d (.str s)), (6, .d (.int .i64 0)), (34, .d (.bool false)), (7, .d (.int .i64 n)), (36, .ptr 3308 0 []), (37, .tup [.d (.bool false)]), (38, .d (.bool false))], cells := [(3308, .iter s pos)] }

theorem toNat_ten (b : UInt8) : ((b.toNat : Int) = 10) = (b = 10) := by
  rw [eq_iff_iff]
  constructor
  · intro h
    have h2 : b.toNat = (10 : UInt8).toNat := by show b.toNat = 10; omega
    exact UInt8.toNat_inj.1 h2
  · rintro rfl; rfl
theorem count_one (s : List UInt8) (j : Nat) (hj : j < s.length) : Lib.countByte (s.take (j + 1)) 10 = Lib.countByte (s.take j) 10 + if s[j] = 10 then 1 else 0 := by
  unfold Lib.countByte
  rw [List.take_add_one, List.count_append]; simp [hj, List.count_cons]

theorem lines_loop (a : D) (more : Int) (s : List UInt8) (hs : s.length ≤ 4000000000) : ∀ (k pos : Nat), s.length - pos ≤ k → pos ≤ s.length →
    loopS (cfg m) s_backsteplaw51_ScriptLines_l0 [0, 1, 4, 19, 26, 5, 6, 34, 7, 36] [3308] (linSt a more s (1 + Lib.countByte (s.take pos) 10) pos) = some (.exit 0, linEx a more s (1 + Lib.countByte s 10) s.length) := by
  intro k
  induction k with
  | zero =>
    intro pos h1 h2
    obtain rfl : pos = s.length := by omega
    rw [List.take_length]
    refine loopS_exit ?_
    simp [s_backsteplaw51_ScriptLines_l0, linSt, linEx]
  | succ k ih =>
    intro pos h1 h2
    by_cases hp : pos = s.length
    · subst hp
      rw [List.take_length]
      refine loopS_exit ?_
      simp [s_backsteplaw51_ScriptLines_l0, linSt, linEx]
    · have hlt : pos < s.length := by omega
      obtain ⟨w, hw, hpw, hk⟩ := decode_step s pos hlt
      have hcs := count_skip s pos w hpw hk
      rw [count_one s pos hlt] at hcs
      have hcl : Lib.countByte (s.take pos) 10 ≤ pos := Nat.le_trans List.count_le_length (by simp; omega)
      have hwr := wrap_i64 ((1 : Int) + Lib.countByte (s.take pos) 10 + 1) (by omega) (by omega)
      have hstep : ∃ σ', evalS (cfg m) s_backsteplaw51_ScriptLines_l0 (linSt a more s (1 + Lib.countByte (s.take pos) 10) pos) = some (.normal, σ') ∧ σ'.norm [0, 1, 4, 19, 26, 5, 6, 34, 7, 36] [3308] = linSt a more s (1 + Lib.countByte (s.take (pos + w + 1)) 10) (pos + w + 1) := by
        rw [hcs]
        have e : pos + w + 1 = pos + (w + 1) := by omega
        by_cases hb : s[pos] = 10
        · simp [s_backsteplaw51_ScriptLines_l0, linSt, hlt, hw, hb, hwr, e]
          omega
        · simp [s_backsteplaw51_ScriptLines_l0, linSt, hlt, hw, hb, toNat_ten, e]
      obtain ⟨σ', g1, g2⟩ := hstep
      exact loopS_step g1 (by rw [g2]; exact ih (pos + w + 1) (by omega) (by omega))

theorem encode_digit {d : Int} (h0 : 49 ≤ d) (h1 : d ≤ 57) : (Utf8.encode d).data.toList = [UInt8.ofNat d.toNat] := by
  have : d = 49 ∨ d = 50 ∨ d = 51 ∨ d = 52 ∨ d = 53 ∨ d = 54 ∨ d = 55 ∨ d = 56 ∨ d = 57 := by omega
  rcases this with rfl | rfl | rfl | rfl | rfl | rfl | rfl | rfl | rfl <;> rfl

set_option maxHeartbeats 1000000 in
theorem e_ScriptLines {l : List Cmd} (h : Tame l) (more : Int) (m0 : 0 ≤ more) (m1 : more ≤ 255) : ev1 (cfg m) 6 [.d (.sl (l.map Cmd.d)), .d (.int .u8 more)] = some (.d (.bool true)) := by
  refine ev1_fn rfl rfl ?_ rfl
  have h0 := e_awake m
  have h1 := t_great m h
  cases hg : greatM l with
  | true => simp [s_backsteplaw51_ScriptLines, h0, h1, hg]
  | false =>
  rw [hg] at h1
  by_cases hal : (400 : Int) < l.length
  · simp [s_backsteplaw51_ScriptLines, h0, h1, hal]
  have h2 := t_given m h
  have h3 := t_Format m h
  cases hv : validL l with
  | false => simp [hv] at h3; simp [s_backsteplaw51_ScriptLines, h0, h1, hal, h2, h3]
  | true =>
  simp [hv] at h3
  have hall : ∀ c ∈ l, validC c = true := by unfold validL at hv; simp only [Bool.and_eq_true, List.all_eq_true] at hv; exact hv.1
  have hfl := h.fmt
  have hcnt := count_fmt hall
  have hloop := lines_loop m (.sl (l.map Cmd.d)) more (fmt l) (by omega) (fmt l).length 0 (by omega) (by omega)
  have e0 : Lib.countByte ((fmt l).take 0) 10 = 0 := by simp [Lib.countByte]
  rw [e0, hcnt] at hloop
  simp only [linSt, linEx] at hloop
  have p1 := e_Parse m (fmt l ++ [104, 97, 108, 116, 10]) (by simp; omega)
  have p3 := e_Parse m (fmt l ++ [115, 104, 111, 119]) (by simp; omega)
  rw [parse_err hv h.fits (by simp) (one_halt (by omega))] at p1
  rw [parse_err hv h.fits (by simp) (one_show (by omega))] at p3
  have t0 := Int.tmod_nonneg 9 m0
  have t1 := Int.tmod_lt_of_pos more (show (0 : Int) < 9 by decide)
  obtain ⟨d, hd⟩ : ∃ d : Nat, more.tmod 9 = (d : Int) := ⟨(more.tmod 9).toNat, by omega⟩
  have p2 := e_Parse m (fmt l ++ [108, 111, 97, 100, 32, UInt8.ofNat (48 + (d + 1)), 10]) (by simp; omega)
  rw [parse_err hv h.fits (by simp) (one_load (by omega) (by omega) (by omega))] at p2
  have w1 : IntKind.u8.wrap (d : Int) = d := IntWalk.u8_in _ (by omega)
  have w2 : IntKind.u8.wrap (49 + (d : Int)) = 49 + d := IntWalk.u8_in _ (by omega)
  have w3 : IntKind.i32.wrap (49 + (d : Int)) = 49 + d := IntWalk.i32_in _ (by omega)
  have en := encode_digit (d := 49 + (d : Int)) (by omega) (by omega)
  have en3 : (49 + (d : Int)).toNat = 48 + (d + 1) := by omega
  have en2 : UInt8.ofNat (49 + (d : Int)).toNat = UInt8.ofNat (48 + (d + 1)) := by rw [en3]
  rw [en2] at en
  have hle : (fmt l).length ≤ 9000000000 := by omega
  simp at hloop p1 p2 p3
  have l1 : (fmt l).length ≤ 9223372036854775802 := by omega
  have l2 : (fmt l).length ≤ 9223372036854775800 := by omega
  have l4 : (fmt l).length ≤ 9223372036854775801 := by omega
  have l3 : (fmt l).length ≤ 9223372036854775803 := by omega
  simp [s_backsteplaw51_ScriptLines, h0, h1, hal, h2, h3, hloop, p1, p3, hd, w1, w2, w3, en, l1, l2, l3, l4, p2]

theorem scriptLines_ev (xs : List D) (hw : WTs Tryd.prog Tryd.f6.params.toList xs) (hb : D.bulks xs ≤ 1048576) : ∃ cs, ev (cfg m) 6 (xs.map V.d) [] = some (.d (.bool true), cs) := by
  have hp : Tryd.f6.params.toList = [22, 5] := by kernel_rfl
  rw [hp] at hw
  cases hw with
  | cons a hw => cases hw with
    | cons b hw => cases hw with
      | nil =>
        obtain ⟨l, rfl, hl⟩ := cmds_of a
        obtain ⟨n, rfl, h1, h2⟩ := WT_int (k := .u8) b (by kernel_rfl)
        simp only [D.bulks, D.bulk, bulks_cmds] at hb
        obtain ⟨cs, h, _⟩ := ev1_inv (e_ScriptLines m (tame_of hl (by omega) (by omega) (by omega)) n h1 h2)
        exact ⟨cs, h⟩
end Go.Ev.S
