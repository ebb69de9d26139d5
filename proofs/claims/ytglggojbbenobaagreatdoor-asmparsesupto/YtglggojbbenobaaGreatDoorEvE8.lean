/- Machine code: Encode. -/
import Derived.Test.YtglggojbbenobaaGreatDoorEvE7
set_option linter.all false
namespace Go.Ev.S
open Go.Proofs Go.Ev.A
variable (m : Int)

def eoSt (l : List Ins) (idx : Nat) (b : List UInt8) : St :=
  { env := [(0, .d (.sl (l.map Ins.D))), (2, .own 1000), (3, .d (.int .i64 0)), (4, .d (.int .i64 0)), (14, .d (.bool false)), (5, .own 2032), (19, .d (.sl (l.map Ins.D))), (20, .d (.int .i64 (l.length : Int))), (21, .d (.int .i64 (idx : Int)))],
    cells := [(1000, .row 5 1 []), (2032, .row 5 1 (ofBytes b))] }
def eoKs : List Nat := [0, 2, 3, 4, 14, 5, 19, 20, 21]
def eoTs : List Nat := [1000, 2032]

set_option maxHeartbeats 4000000 in
theorem eo_step (l : List Ins) (idx : Nat) (hi : idx < l.length) (hl : l.length ≤ 65536) (hf : l[idx].fits) (hv : validI l[idx] = true) (b : List UInt8) (hb : b.length ≤ 60000000) :
    ∃ σ', evalS (cfg m) s_asm_Encode_l1 (eoSt l idx b) = some (.normal, σ') ∧ σ'.norm eoKs eoTs = eoSt l (idx + 1) (b ++ bytesI l[idx]) := by
  obtain ⟨cs, hc, ha, _, hd⟩ := valid_inv hv
  have hcs := cls_some hc
  have he : ofBytes (b ++ [UInt8.ofNat l[idx].op.toNat]) = ofBytes b ++ [.int .u8 l[idx].op] := by rw [ofBytes_snoc, op_byte hf]
  have hin := en_inner m l l[idx] idx cs (cls_len hc) (b ++ [UInt8.ofNat l[idx].op.toNat]) (by simp; omega)
  have hop := ev_places m l[idx]
  have e0 := e_classes m (op := l[idx].op) (by omega) (by omega)
  rw [hd] at e0
  have b1 : b.length + 1 ≤ 140737488355328 := by omega
  have hw := wrap_i64 ((idx : Int) + 1) (by omega) (by omega)
  have hbt : b ++ bytesI l[idx] = b ++ [UInt8.ofNat l[idx].op.toNat] ++ argBytes cs l[idx].args := by simp [bytesI, hd]
  rw [hbt]
  generalize hB : b ++ [UInt8.ofNat l[idx].op.toNat] ++ argBytes cs l[idx].args = B at hin ⊢
  simp only [enSt, enEx, he] at hin
  simp [enKs, enTs, ptrs, Ins.D] at hin
  simp only [Ins.D, ptrs] at hop
  simp [s_asm_Encode_l1, eoSt, eoKs, eoTs, hi, b1, hw, e0, Ins.D, callEff, reach, pass, over, without, noVars, newTags, pickT, swapped, V.ren, V.renL, Cell.ren, hop]
  rw [hin]
  simp [hw]

theorem codeI_snoc (l : List Ins) (i : Ins) : codeI (l ++ [i]) = codeI l ++ bytesI i := by simp [codeI]
theorem codeI_len : ∀ (l : List Ins), (∀ i ∈ l, validI i = true) → (codeI l).length ≤ 33 * l.length
  | [], _ => by simp [codeI]
  | i :: l, h => by
    obtain ⟨cs, hc, ha, _, hd⟩ := valid_inv (h i (by simp))
    have h1 := argBytes_len (cs := cs) (xs := i.args)
    have h2 := codeI_len l (fun j hj => h j (by simp [hj]))
    have h3 := cls_len hc
    simp only [codeI, List.map_cons, List.flatten_cons, List.length_append, bytesI, hd, List.length_cons] at h2 ⊢
    omega

set_option maxHeartbeats 2000000 in
theorem e_Encode (l : List Ins) (hl : l.length ≤ 65536) (hf : ∀ i ∈ l, i.fits) : ev1 (cfg m) 15 [.d (.sl (l.map Ins.D))] = some (.tup [.d (.sl (if l.all validI then ofBytes (encodeI l) else [])), .d (.int .i64 (if l.all validI then 0 else 3))]) := by
  refine ev1_fn rfl rfl ?_ rfl
  have hc := e_check m l hl
  cases hall : l.all validI with
  | false =>
    rw [hall] at hc
    simp at hc
    simp [s_asm_Encode, hc]
  | true =>
    rw [hall] at hc
    simp at hc
    have hv : ∀ i ∈ l, validI i = true := List.all_eq_true.1 hall
    have hp := put_nil m l.length 3 (by decide)
    have h := loopS_upto (C := cfg m) (c := s_asm_Encode_l1) (ks := eoKs) (ts := eoTs) (fun k => eoSt l k (beI 4 l.length ++ codeI (l.take k))) l.length (x := .exit 0)
      (σ := { eoSt l l.length (encodeI l) with env := (eoSt l l.length (encodeI l)).env ++ [(22, .d (.bool false))] }) (by simp)
      (fun k hk => by
        have hlen := codeI_len (l.take k) (fun i hi => hv i (List.mem_of_mem_take hi))
        simp only [List.length_take] at hlen
        obtain ⟨σ', g1, g2⟩ := eo_step m l k hk hl (hf _ (List.getElem_mem hk)) (hv _ (List.getElem_mem hk)) (beI 4 l.length ++ codeI (l.take k)) (by simp [beI_len]; omega)
        refine ⟨σ', g1, ?_⟩
        have ht : l.take (k + 1) = l.take k ++ [l[k]] := by rw [List.take_add_one]; simp [hk]
        rw [g2, ht, codeI_snoc, List.append_assoc])
      (by rw [List.take_length]; simp [s_asm_Encode_l1, eoSt, encodeI])
    have h0 : beI 4 l.length ++ codeI (l.take 0) = beI 4 l.length := by simp [codeI]
    rw [h0] at h
    simp [eoSt, eoKs, eoTs] at h
    simp at hp
    simp [s_asm_Encode, hc, callEff, reach, pass, over, without, noVars, newTags, pickT, swapped, V.ren, V.renL, Cell.ren, hp]
    simp [h]
end Go.Ev.S
