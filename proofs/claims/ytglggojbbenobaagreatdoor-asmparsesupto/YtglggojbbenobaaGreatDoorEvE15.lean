/- Machine code: bytes taken from the front. -/
import Derived.Test.YtglggojbbenobaaGreatDoorEvE14
set_option linter.all false
namespace Go.Ev.S
open Go.Proofs Go.Ev.A
variable (m : Int)

theorem or_byte (u c : Nat) (hu : u < 72057594037927936) (hc : c < 256) : intBin .or .u64 (IntKind.u64.wrap ((u : Int) * 2 ^ 8)) (c : Int) = some (.int .u64 ((u * 256 + c : Nat) : Int)) := by
  have h1 : IntKind.u64.wrap ((u : Int) * 2 ^ 8) = ((u * 256 : Nat) : Int) := by
    rw [show ((u : Int) * 2 ^ 8) = ((u * 256 : Nat) : Int) by simp]
    exact IntWalk.u64_in _ (by omega)
  rw [h1]
  simp only [intBin]
  congr 2
  have hb : IntKind.u64.bits = 64 := rfl
  rw [hb, BitVec.toNat_or, BitVec.toNat_ofInt, BitVec.toNat_ofInt]
  have e1 : (((u * 256 : Nat) : Int) % ((2 ^ 64 : Nat) : Int)).toNat = u * 256 := by omega
  have e2 : (((c : Nat) : Int) % ((2 ^ 64 : Nat) : Int)).toNat = c := by omega
  rw [e1, e2]
  have e3 : u * 256 = u <<< 8 := by rw [Nat.shiftLeft_eq]
  rw [e3, ← Nat.shiftLeft_add_eq_or_of_lt (by omega : c < 2 ^ 8)]
  refine IntWalk.u64_in _ ?_
  rw [Nat.shiftLeft_eq]; omega

def tkSt (b : List UInt8) (n : Nat) (k : Nat) : St :=
  { env := [(0, .ptr 0 0 []), (1, .d (.int .i64 (n : Int))), (4, .d (.int .i64 0)), (5, .d (.bool false)), (14, .d (.bool false)), (6, .d (.int .u64 (numU 0 ((b.take n).take k) : Int))), (19, .d (.sl (ofBytes (b.take n)))), (20, .d (.int .i64 (n : Int))), (21, .d (.int .i64 (k : Int)))],
    cells := [(0, .var 29 (.d (.sl (ofBytes b))))] }
def tkEx (b : List UInt8) (n : Nat) : St := { tkSt b n n with env := (tkSt b n n).env ++ [(22, .d (.bool false))] }
def tkKs : List Nat := [0, 1, 4, 5, 14, 6, 19, 20, 21]

theorem ofBytes_get {s : List UInt8} {k : Nat} {c : UInt8} (h : s[k]? = some c) : (ofBytes s)[k]? = some (.int .u8 (c.toNat : Int)) := by
  unfold ofBytes; rw [List.getElem?_map, h]; rfl

set_option maxHeartbeats 2000000 in
theorem tk_step (b : List UInt8) (n : Nat) (hn : n ≤ 8) (hb : n ≤ b.length) (hbl : b.length ≤ 1000000) (k : Nat) (hk : k < n) :
    ∃ σ', evalS (cfg m) s_asm_take_l0 (tkSt b n k) = some (.normal, σ') ∧ σ'.norm tkKs [0] = tkSt b n (k + 1) := by
  have hlen : (b.take n).length = n := by simp; omega
  obtain ⟨c, hc⟩ : ∃ c, (b.take n)[k]? = some c := ⟨_, List.getElem?_eq_getElem (by omega)⟩
  have hg := ofBytes_get hc
  have hcl : c.toNat < 256 := c.toNat_lt
  have ht : (b.take n).take (k + 1) = (b.take n).take k ++ [c] := by rw [List.take_add_one, hc]; rfl
  have hu : numU 0 ((b.take n).take k) < 72057594037927936 := by
    refine Nat.lt_of_lt_of_le (numU_lt _) ?_
    have h1 : ((b.take n).take k).length ≤ 7 := by simp; omega
    exact Nat.le_trans (Nat.pow_le_pow_right (by decide) h1) (by decide)
  have hor := or_byte (numU 0 ((b.take n).take k)) c.toNat hu hcl
  have hnu : numU 0 ((b.take n).take (k + 1)) = numU 0 ((b.take n).take k) * 256 + c.toNat := by
    rw [ht, numU_app]; rfl
  have hw := wrap_i64 ((k : Int) + 1) (by omega) (by omega)
  have hw2 : IntKind.u64.wrap (c.toNat : Int) = (c.toNat : Int) := IntWalk.u64_in _ (by omega)
  have hsh : shiftBin .shl .u64 (numU 0 ((b.take n).take k) : Int) 8 = some (.int .u64 (IntKind.u64.wrap ((numU 0 ((b.take n).take k) : Int) * 2 ^ 8))) := by
    have hbits : IntKind.u64.bits = 64 := rfl
    simp [shiftBin, hbits]
  have hk' : (k : Int) < n := by omega
  unfold tkSt
  rw [hnu]
  generalize numU 0 ((b.take n).take k) = u at *
  generalize hB : ofBytes (b.take n) = B at *
  simp only [intBin] at hor
  simp at hor
  simp [s_asm_take_l0, tkKs, hk', hk, hg, hsh, hw, hw2, hor]

theorem tk_loop (b : List UInt8) (n : Nat) (hn : n ≤ 8) (hb : n ≤ b.length) (hbl : b.length ≤ 1000000) : loopS (cfg m) s_asm_take_l0 tkKs [0] (tkSt b n 0) = some (.exit 0, tkEx b n) := by
  refine loopS_upto (C := cfg m) (fun k => tkSt b n k) n (by simp) (fun k hk => tk_step m b n hn hb hbl k hk) ?_
  simp [s_asm_take_l0, tkSt, tkEx]

set_option maxHeartbeats 2000000 in
theorem ev_take (b : List UInt8) (n : Nat) (hn : n ≤ 8) (hbl : b.length ≤ 1000000) :
    ev (cfg m) 48 [.ptr 0 0 [], .d (.int .i64 (n : Int))] [(0, .var 29 (.d (.sl (ofBytes b))))] =
      if b.length < n then some (.tup [.d (.int .i64 0), .d (.bool false)], [(0, .var 29 (.d (.sl (ofBytes b))))])
      else some (.tup [.d (.int .i64 (numI (b.take n))), .d (.bool true)], [(0, .var 29 (.d (.sl (ofBytes (b.drop n)))))]) := by
  split
  · rename_i h
    have h' : (b.length : Int) < n := by omega
    refine ev_fnS rfl rfl ?_
    simp [s_asm_take, h, h']
  · rename_i h
    have h' : ¬ (b.length : Int) < n := by omega
    refine ev_fnS rfl rfl ?_
    have hlp := tk_loop m b n hn (by omega) hbl
    have e1 : (ofBytes b).take n = ofBytes (b.take n) := by simp [ofBytes, List.map_take]
    have e2 : (ofBytes b).drop n = ofBytes (b.drop n) := by simp [ofBytes, List.map_drop]
    have e3 : (b.take n).take n = b.take n := by rw [List.take_take, Nat.min_self]
    have hs1 : ∀ k, slotAt 1 (ofBytes b) k = true := fun k => slotAt_map (fun a => by simp) b
    have hmin : min n b.length = n := by omega
    simp only [tkSt, tkEx, e3] at hlp
    simp [tkKs, numU] at hlp
    simp [s_asm_take, h, h', show n ≤ b.length by omega, hs1, e1, hmin]
    rw [hlp]
    simp [h, h', show n ≤ b.length by omega, hs1, numI]
    refine ⟨rfl, ?_⟩
    rw [List.take_of_length_le (by simp), e2]
end Go.Ev.S
