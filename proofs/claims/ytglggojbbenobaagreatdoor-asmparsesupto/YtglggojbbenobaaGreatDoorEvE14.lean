/- Machine code: equal code is the same; what a law is handed. -/
import Derived.Test.YtglggojbbenobaaGreatDoorEvE13
import Derived.Test.YtglggojbbenobaaGreatDoorKC
set_option linter.all false
namespace Go.Ev.S
open Go.Proofs Go.Ev.A
variable (m : Int)

def smSt (l : List Ins) (i : Nat) : St := { env := [(0, .d (.sl (l.map Ins.D))), (1, .d (.sl (l.map Ins.D))), (4, .d (.bool false)), (10, .d (.bool false)), (5, .d (.int .i64 (i : Int)))], cells := [] }
theorem e_same (l : List Ins) (hl : l.length ≤ 1000000) : ev1 (cfg m) 19 [.d (.sl (l.map Ins.D)), .d (.sl (l.map Ins.D))] = some (.d (.bool true)) := by
  refine ev1_fn rfl rfl ?_ rfl
  have h := loopS_upto (C := cfg m) (c := s_backstepref22_Same_l0) (ks := [0, 1, 4, 10, 5]) (ts := []) (smSt l) l.length (x := .exit 0) (by simp)
    (fun i hi => by
      have hw := wrap_i64 ((i : Int) + 1) (by omega) (by omega)
      have hg : l[i]? = some l[i] := List.getElem?_eq_getElem hi
      simp [s_backstepref22_Same_l0, smSt, hi, hw, Ins.D])
    (by simp [s_backstepref22_Same_l0, smSt]; rfl)
  simp [smSt] at h
  simp [s_backstepref22_Same, h]

/-! ## What a law is handed -/
theorem ins_of {x : D} (h : WT Tryz.prog 43 x) : ∃ i : Ins, x = i.D ∧ i.fits := by
  obtain ⟨l, rfl, g⟩ := WT_struct (ts := [5, 3, 3, 3, 3]) h (by kernel_rfl)
  clear h
  cases g with
  | cons a h => cases h with
    | cons b h => cases h with
      | cons c h => cases h with
        | cons d h => cases h with
          | cons e h => cases h with
            | nil =>
              obtain ⟨k, rfl, k1, k2⟩ := WT_int (k := .u8) a (by kernel_rfl)
              obtain ⟨p, rfl, p1, p2⟩ := WT_int (k := .i64) b (by kernel_rfl)
              obtain ⟨q, rfl, q1, q2⟩ := WT_int (k := .i64) c (by kernel_rfl)
              obtain ⟨r, rfl, r1, r2⟩ := WT_int (k := .i64) d (by kernel_rfl)
              obtain ⟨s, rfl, s1, s2⟩ := WT_int (k := .i64) e (by kernel_rfl)
              exact ⟨⟨k, p, q, r, s⟩, rfl, ⟨k1, k2⟩, ⟨p1, p2⟩, ⟨q1, q2⟩, ⟨r1, r2⟩, ⟨s1, s2⟩⟩

theorem insl_of : ∀ {l : List D}, WTl Tryz.prog 43 l → ∃ cs : List Ins, l = cs.map Ins.D ∧ ∀ c ∈ cs, c.fits
  | [], _ => ⟨[], rfl, by simp⟩
  | x :: l, .cons h h' => by
    obtain ⟨c, rfl, h1⟩ := ins_of h
    obtain ⟨cs, rfl, h3⟩ := insl_of h'
    refine ⟨c :: cs, rfl, fun k hk => ?_⟩
    rcases List.mem_cons.1 hk with rfl | hk
    · exact h1
    · exact h3 k hk

theorem code_of {x : D} (h : WT Tryz.prog 22 x) : ∃ cs : List Ins, x = .sl (cs.map Ins.D) ∧ ∀ c ∈ cs, c.fits := by
  obtain ⟨q, rfl, hq⟩ := WT_slice (e := 43) h (by kernel_rfl)
  obtain ⟨cs, rfl, h'⟩ := insl_of hq
  exact ⟨cs, rfl, h'⟩

theorem parse_textI {l : List Ins} (hf : ∀ i ∈ l, i.fits ∧ validI i = true) (hl : l.length ≤ 40) : parseT (textI l) = (l, 0, 0) := by
  unfold parseT
  have := parse_text l ((textI l).length + 1) [] [] 1 hf (by simp) (by omega)
  rw [List.append_nil] at this
  rw [this]
  simp [parseI]
end Go.Ev.S
