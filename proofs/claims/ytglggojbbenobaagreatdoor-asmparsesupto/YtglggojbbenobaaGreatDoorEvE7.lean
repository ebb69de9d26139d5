/- Machine code: the bytes of code. -/
import Derived.Test.YtglggojbbenobaaGreatDoorEvE6
set_option linter.all false
namespace Go.Ev.S
open Go.Proofs Go.Ev.A
variable (m : Int)

theorem byteEq (c k : UInt8) : (((c.toNat : Nat) : Int) = (k.toNat : Nat)) ↔ c = k := by rw [Int.ofNat_inj, UInt8.toNat_inj]

theorem e_size (c : UInt8) : ev1 (cfg m) 36 [.d (.int .u8 (c.toNat : Int))] = some (.d (.int .i64 (width c : Int))) := by
  refine ev1_fn rfl rfl ?_ rfl
  have e107 := byteEq c 107; have e116 := byteEq c 116; have e110 := byteEq c 110
  simp at e107 e116 e110
  unfold width
  by_cases h1 : c = 107
  · simp [s_asm_size, h1]
  · by_cases h2 : c = 116
    · simp [s_asm_size, h2]
    · by_cases h3 : c = 110
      · simp [s_asm_size, h3]
      · simp [s_asm_size, e107, e116, e110, h1, h2, h3]

def enSt (l : List Ins) (i : Ins) (idx : Nat) (cs : List UInt8) (k : Nat) (b : List UInt8) : St :=
  { env := [(0, .d (.sl (l.map Ins.D))), (2, .own 1000), (3, .d (.int .i64 0)), (4, .d (.int .i64 0)), (14, .d (.bool false)), (5, .own 2032), (19, .d (.sl (l.map Ins.D))), (20, .d (.int .i64 (l.length : Int))), (21, .d (.int .i64 (idx : Int))),
      (22, .d (.bool true)), (7, .ptr 2800 0 []), (8, .ptr 3308 0 []), (34, .d (.sl (ofBytes cs))), (35, .d (.int .i64 (cs.length : Int))), (36, .d (.int .i64 (k : Int)))],
    cells := [(1000, .row 5 1 []), (2032, .row 5 1 (ofBytes b)), (2800, .var 43 (.d i.D)), (3060, .row 5 1 [.int .u8 i.op]), (3308, .var 71 (ptrs 2800))] }
def enKs : List Nat := [0, 2, 3, 4, 14, 5, 19, 20, 21, 22, 7, 8, 34, 35, 36]
def enTs : List Nat := [1000, 2032, 2800, 3060, 3308]

theorem ofB1 (a : UInt8) : ofBytes [a] = [.int .u8 (a.toNat : Int)] := rfl
theorem ofB2 (a b : UInt8) : ofBytes [a, b] = [.int .u8 (a.toNat : Int), .int .u8 (b.toNat : Int)] := rfl
theorem ofB3 (a b c : UInt8) : ofBytes [a, b, c] = [.int .u8 (a.toNat : Int), .int .u8 (b.toNat : Int), .int .u8 (c.toNat : Int)] := rfl
theorem ofB4 (a b c d : UInt8) : ofBytes [a, b, c, d] = [.int .u8 (a.toNat : Int), .int .u8 (b.toNat : Int), .int .u8 (c.toNat : Int), .int .u8 (d.toNat : Int)] := rfl
set_option maxHeartbeats 8000000 in
theorem en_step (l : List Ins) (i : Ins) (idx : Nat) (cs : List UInt8) (hl : cs.length ≤ 4) (k : Nat) (c : UInt8) (x : Int) (b : List UInt8) (hb : b.length ≤ 80000000)
    (hk : cs[k]? = some c) (hx : i.args[k]? = some x) :
    ∃ σ', evalS (cfg m) s_asm_Encode_l0 (enSt l i idx cs k b) = some (.normal, σ') ∧ σ'.norm enKs enTs = enSt l i idx cs (k + 1) (b ++ beI (width c) x) := by
  obtain ⟨op, a, bb, cc, d⟩ := i
  have h1 := e_size m c
  have h2 := put_own m x (width c) (by rcases width_cases c with h | h | h <;> omega) b (by omega)
  rcases shape4 hl with rfl | ⟨c1, rfl⟩ | ⟨c1, c2, rfl⟩ | ⟨c1, c2, c3, rfl⟩ | ⟨c1, c2, c3, c4, rfl⟩
  · simp at hk
  · have hk4 : k = 0 := by have := (List.getElem?_eq_some_iff.1 hk).1; simp at this; omega
    subst hk4
    simp [Ins.args] at hk hx; subst hk; subst hx
    simp [s_asm_Encode_l0, enSt, enKs, enTs, ptrs, Ins.D, ofB1, ofB2, ofB3, ofB4, h1, callEff, reach, pass, over, without, noVars, newTags, pickT, swapped, V.ren, V.renL, Cell.ren, h2]
  · have hk4 : k = 0 ∨ k = 1 := by have := (List.getElem?_eq_some_iff.1 hk).1; simp at this; omega
    rcases hk4 with rfl | rfl <;> simp [Ins.args] at hk hx <;> subst hk <;> subst hx <;>
    simp [s_asm_Encode_l0, enSt, enKs, enTs, ptrs, Ins.D, ofB1, ofB2, ofB3, ofB4, h1, callEff, reach, pass, over, without, noVars, newTags, pickT, swapped, V.ren, V.renL, Cell.ren, h2]
  · have hk4 : k = 0 ∨ k = 1 ∨ k = 2 := by have := (List.getElem?_eq_some_iff.1 hk).1; simp at this; omega
    rcases hk4 with rfl | rfl | rfl <;> simp [Ins.args] at hk hx <;> subst hk <;> subst hx <;>
    simp [s_asm_Encode_l0, enSt, enKs, enTs, ptrs, Ins.D, ofB1, ofB2, ofB3, ofB4, h1, callEff, reach, pass, over, without, noVars, newTags, pickT, swapped, V.ren, V.renL, Cell.ren, h2]
  · have hk4 : k = 0 ∨ k = 1 ∨ k = 2 ∨ k = 3 := by have := (List.getElem?_eq_some_iff.1 hk).1; simp at this; omega
    rcases hk4 with rfl | rfl | rfl | rfl <;> simp [Ins.args] at hk hx <;> subst hk <;> subst hx <;>
    simp [s_asm_Encode_l0, enSt, enKs, enTs, ptrs, Ins.D, ofB1, ofB2, ofB3, ofB4, h1, callEff, reach, pass, over, without, noVars, newTags, pickT, swapped, V.ren, V.renL, Cell.ren, h2]

def enEx (l : List Ins) (i : Ins) (idx : Nat) (cs : List UInt8) (b : List UInt8) : St := { enSt l i idx cs cs.length b with env := (enSt l i idx cs cs.length b).env ++ [(37, .d (.bool false))] }
theorem beI_len (k : Nat) (x : Int) : (beI k x).length = k := be_length _ _
theorem argBytes_len : ∀ {cs : List UInt8} {xs : List Int}, (argBytes cs xs).length ≤ 8 * cs.length
  | [], xs => by simp [argBytes]
  | c :: cs, [] => by simp [argBytes]
  | c :: cs, x :: xs => by
    have := argBytes_len (cs := cs) (xs := xs)
    have h2 : width c ≤ 8 := by rcases width_cases c with h | h | h <;> omega
    simp [argBytes, beI_len]; omega
theorem argBytes_snoc : ∀ {cs : List UInt8} {xs : List Int} {k : Nat} {c : UInt8} {x : Int}, cs[k]? = some c → xs[k]? = some x → argBytes (cs.take (k + 1)) xs = argBytes (cs.take k) xs ++ beI (width c) x
  | c :: cs, x :: xs, 0, _, _, h1, h2 => by simp at h1 h2; subst h1; subst h2; simp [argBytes]
  | c :: cs, x :: xs, k + 1, _, _, h1, h2 => by
    simp only [List.getElem?_cons_succ] at h1 h2
    simp only [List.take_succ_cons, argBytes, argBytes_snoc h1 h2, List.append_assoc]
  | [], xs, k, _, _, h1, _ => by simp at h1
  | c :: cs, [], k, _, _, _, h2 => by simp at h2

theorem en_inner (l : List Ins) (i : Ins) (idx : Nat) (cs : List UInt8) (hl : cs.length ≤ 4) (b : List UInt8) (hb : b.length ≤ 70000000) :
    loopS (cfg m) s_asm_Encode_l0 enKs enTs (enSt l i idx cs 0 b) = some (.exit 2, enEx l i idx cs (b ++ argBytes cs i.args)) := by
  have h := loopS_upto (C := cfg m) (c := s_asm_Encode_l0) (ks := enKs) (ts := enTs) (fun k => enSt l i idx cs k (b ++ argBytes (cs.take k) i.args)) cs.length (x := .exit 2) (σ := enEx l i idx cs (b ++ argBytes cs i.args)) (by simp)
    (fun k hk => by
      have hargs : i.args.length = 4 := rfl
      have hk2 : cs[k]? = some cs[k] := List.getElem?_eq_getElem hk
      have hk3 : i.args[k]? = some i.args[k] := List.getElem?_eq_getElem (by omega)
      have hle := argBytes_len (cs := cs.take k) (xs := i.args)
      simp only [List.length_take] at hle
      obtain ⟨σ', g1, g2⟩ := en_step m l i idx cs hl k cs[k] i.args[k] (b ++ argBytes (cs.take k) i.args) (by simp; omega) hk2 hk3
      refine ⟨σ', g1, ?_⟩
      rw [g2, argBytes_snoc hk2 hk3, List.append_assoc])
    (by rw [List.take_length]; simp [s_asm_Encode_l0, enSt, enEx])
  simpa [argBytes] using h
end Go.Ev.S
