/- Machine code: the line of a valid instruction. -/
import Derived.Test.YtglggojbbenobaaGreatDoorEvE3
set_option linter.all false
namespace Go.Ev.S
open Go.Proofs Go.Ev.A
variable (m : Int)

theorem prim_itoaL (n : Int) (h1 : -9223372036854775808 ≤ n) (h2 : n ≤ 9223372036854775807) : ev1 (cfg m) 66 [.d (.int .i64 n)] = some (.d (.str (Lib.itoa n))) :=
  ev1_pure rfl (by simp [pI, h1, h2, itoaF_eq h1 h2]) rfl

theorem word_len {c : UInt8} {x : Int} (hx : i64 x) : (word c x).length ≤ 22 := by
  unfold word
  have h := itoa_len hx.1 hx.2
  split
  · simp; omega
  · split
    · unfold sym
      split
      · simp
      · cases hs : syTab[(x - 8).toNat]? with
        | none => simp
        | some w =>
          have hm := List.mem_of_getElem? hs
          have : ∀ w ∈ syTab, w.length ≤ 2 := by decide
          simp only [Option.getD_some]
          have := this w hm; omega
    · omega

def wK : List D := [.int .u8 114, .int .u8 111, .int .u8 107, .int .u8 110, .int .u8 116, .int .u8 101]
def wV : List D := [.fn 65, .fn 67, .fn 66, .fn 66, .fn 66, .fn 66]
theorem e_writers : ev1 (cfg m) 53 [] = some (.d (.map wK wV)) := ev1_run 20 (by kernel_rfl) rfl

theorem e_w1 {x : Int} (hx : i64 x) : ev1 (cfg m) 65 [.d (.int .i64 x)] = some (.d (.str (114 :: Lib.itoa x))) := by
  refine ev1_fn rfl rfl ?_ rfl
  have h := itoa_len hx.1 hx.2
  have : 1 + (Lib.itoa x).length ≤ 9223372036854775807 := by omega
  simp [s_asm_writers_1, prim_itoaL m x hx.1 hx.2, this]
theorem e_w2 {x : Int} (hx : 8 ≤ x ∧ x ≤ 23) : ev1 (cfg m) 67 [.d (.int .i64 x)] = some (.d (.str (sym x))) := by
  refine ev1_fn rfl rfl ?_ rfl
  have hw : IntKind.u8.wrap x = x := IntWalk.u8_in _ (by omega)
  simp [s_asm_writers_2, hw, e_symbol m hx.1 hx.2]

theorem e_writer {c : UInt8} {x : Int} (hc : c = 114 ∨ c = 107 ∨ c = 116 ∨ c = 101 ∨ c = 111 ∨ c = 110) (hf : fitsC c x = true) (hx : i64 x) :
    ∃ j g, keyAt (.int .u8 (c.toNat : Int)) wK = some (some j) ∧ wV[j]? = some (.fn g) ∧ ev1 (cfg m) g [.d (.int .i64 x)] = some (.d (.str (word c x))) := by
  have hi := prim_itoaL m x hx.1 hx.2
  rcases hc with rfl | rfl | rfl | rfl | rfl | rfl
  · exact ⟨0, _, by rfl, rfl, e_w1 m hx⟩
  · exact ⟨2, _, by rfl, rfl, hi⟩
  · exact ⟨4, _, by rfl, rfl, hi⟩
  · exact ⟨5, _, by rfl, rfl, hi⟩
  · exact ⟨1, _, by rfl, rfl, e_w2 m (by simpa [fitsC] using hf)⟩
  · exact ⟨3, _, by rfl, rfl, hi⟩

theorem ev_places (i : Ins) : ev (cfg m) 34 [.ptr 0 0 []] [(0, .var 43 (.d i.D))] = some (ptrs 0, [(0, .var 43 (.d i.D)), (1000, .var 71 (ptrs 0))]) := by
  refine ev_fnS rfl rfl ?_
  simp [s_asm_operands, ptrs]

def lnSt (i : Ins) (cs : List UInt8) (k : Nat) (s : List UInt8) : St := { env := [(0, .d i.D), (1, .ptr 1000 0 []), (2, .d (.str [])), (3, .d (.str s)), (4, .ptr 1520 0 []), (5, .d (.map wK wV)), (16, .d (.sl (ofBytes cs))), (17, .d (.int .i64 (cs.length : Int))), (18, .d (.int .i64 (k : Int)))], cells := [(1000, .var 43 (.d i.D)), (1520, .var 71 (ptrs 1000))] }
def lnKs : List Nat := [0, 1, 2, 3, 4, 5, 16, 17, 18]
def lnTs : List Nat := [1000, 1520]

set_option maxHeartbeats 4000000 in
theorem ln_step (i : Ins) (cs : List UInt8) (hl : cs.length ≤ 4) (hm : ∀ c ∈ cs, c = 114 ∨ c = 107 ∨ c = 116 ∨ c = 101 ∨ c = 111 ∨ c = 110) (k : Nat) (c : UInt8) (x : Int) (s : List UInt8) (hs : s.length ≤ 1000)
    (hk : cs[k]? = some c) (hx : i.args[k]? = some x) (hf : fitsC c x = true) (h64 : i64 x) :
    ∃ σ', evalS (cfg m) s_asm_line_l0 (lnSt i cs k s) = some (.normal, σ') ∧ σ'.norm lnKs lnTs = lnSt i cs (k + 1) (s ++ 32 :: word c x) := by
  obtain ⟨op, a, b, cc, d⟩ := i
  obtain ⟨j, g, h1, h2, h3⟩ := e_writer m (hm c (List.mem_of_getElem? hk)) hf h64
  have hw := word_len (c := c) h64
  have b1 : 1 + (word c x).length ≤ 9223372036854775807 := by omega
  have b2 : s.length + ((word c x).length + 1) ≤ 9223372036854775807 := by omega
  rcases shape4 hl with rfl | ⟨c1, rfl⟩ | ⟨c1, c2, rfl⟩ | ⟨c1, c2, c3, rfl⟩ | ⟨c1, c2, c3, c4, rfl⟩
  · simp at hk
  · have hk4 : k = 0 := by have := (List.getElem?_eq_some_iff.1 hk).1; simp at this; omega
    subst hk4
    simp [Ins.args] at hk hx; subst hk; subst hx
    simp [s_asm_line_l0, lnSt, lnKs, lnTs, ptrs, Ins.D, ofBytes, h1, h2, h3, b1, b2]
  · have hk4 : k = 0 ∨ k = 1 := by have := (List.getElem?_eq_some_iff.1 hk).1; simp at this; omega
    rcases hk4 with rfl | rfl <;> simp [Ins.args] at hk hx <;> subst hk <;> subst hx <;>
    simp [s_asm_line_l0, lnSt, lnKs, lnTs, ptrs, Ins.D, ofBytes, h1, h2, h3, b1, b2]
  · have hk4 : k = 0 ∨ k = 1 ∨ k = 2 := by have := (List.getElem?_eq_some_iff.1 hk).1; simp at this; omega
    rcases hk4 with rfl | rfl | rfl <;> simp [Ins.args] at hk hx <;> subst hk <;> subst hx <;>
    simp [s_asm_line_l0, lnSt, lnKs, lnTs, ptrs, Ins.D, ofBytes, h1, h2, h3, b1, b2]
  · have hk4 : k = 0 ∨ k = 1 ∨ k = 2 ∨ k = 3 := by have := (List.getElem?_eq_some_iff.1 hk).1; simp at this; omega
    rcases hk4 with rfl | rfl | rfl | rfl <;> simp [Ins.args] at hk hx <;> subst hk <;> subst hx <;>
    simp [s_asm_line_l0, lnSt, lnKs, lnTs, ptrs, Ins.D, ofBytes, h1, h2, h3, b1, b2]
end Go.Ev.S
