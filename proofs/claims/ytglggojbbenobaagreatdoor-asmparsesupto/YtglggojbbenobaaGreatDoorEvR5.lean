/- Machine code: the reference's Encode. -/
import Derived.Test.YtglggojbbenobaaGreatDoorEvR4
set_option linter.all false
namespace Go.Ev.S
open Go.Proofs Go.Ev.A
variable (m : Int)

theorem cls_letters : ∀ op : Fin 35, ∀ cs, cls (op.val : Int) = some cs → ∀ c ∈ cs, c = 114 ∨ c = 111 ∨ c = 110 ∨ c = 101 ∨ c = 107 ∨ c = 116 := by decide
theorem cls_let {op : Int} {cs : List UInt8} (h : cls op = some cs) : ∀ c ∈ cs, c = 114 ∨ c = 111 ∨ c = 110 ∨ c = 101 ∨ c = 107 ∨ c = 116 := by
  have hs := cls_some h
  have := cls_letters ⟨op.toNat, by omega⟩ cs
  simp only at this
  rw [show ((op.toNat : Nat) : Int) = op by omega] at this
  exact this h

def reEx (l : List Ins) (idx : Nat) (cs : List UInt8) (b : List UInt8) (op : Int) : St := { reSt l idx cs cs.length b op with env := (reSt l idx cs cs.length b op).env ++ [(44, .d (.bool false))] }
theorem re_inner (l : List Ins) (idx : Nat) (hi : idx < l.length) (cs : List UInt8) (hl : cs.length ≤ 4) (hlet : ∀ c ∈ cs, c = 114 ∨ c = 111 ∨ c = 110 ∨ c = 101 ∨ c = 107 ∨ c = 116) (b : List UInt8) (hb : b.length ≤ 70000000) :
    loopS (cfg m) s_backstepref22_Encode_l0 reKs reTs (reSt l idx cs 0 b l[idx].op) = some (.exit 2, reEx l idx cs (b ++ argBytes cs l[idx].args) l[idx].op) := by
  have h := loopS_upto (C := cfg m) (c := s_backstepref22_Encode_l0) (ks := reKs) (ts := reTs) (fun k => reSt l idx cs k (b ++ argBytes (cs.take k) l[idx].args) l[idx].op) cs.length (x := .exit 2) (σ := reEx l idx cs (b ++ argBytes cs l[idx].args) l[idx].op) (by simp)
    (fun k hk => by
      have hargs : l[idx].args.length = 4 := rfl
      have hk2 : cs[k]? = some cs[k] := List.getElem?_eq_getElem hk
      have hk3 : l[idx].args[k]? = some l[idx].args[k] := List.getElem?_eq_getElem (by omega)
      have hle := argBytes_len (cs := cs.take k) (xs := l[idx].args)
      simp only [List.length_take] at hle
      obtain ⟨σ', g1, g2⟩ := re_step m l idx hi cs hl k cs[k] (hlet _ (List.getElem_mem hk)) l[idx].args[k] (b ++ argBytes (cs.take k) l[idx].args) (by simp; omega) hk2 hk3
      refine ⟨σ', g1, ?_⟩
      rw [g2, argBytes_snoc hk2 hk3, List.append_assoc])
    (by rw [List.take_length]; simp [s_backstepref22_Encode_l0, reSt, reEx])
  simpa [argBytes] using h

def rcSt (l : List Ins) (idx : Nat) (b : List UInt8) : St :=
  { env := [(0, .d (.sl (l.map Ins.D))), (2, .own 1000), (3, .d (.int .i64 0)), (4, .d (.int .i64 0)), (13, .d (.bool false)), (5, .own 2032), (6, .d (.int .i64 (idx : Int)))],
    cells := [(1000, .row 5 1 []), (2032, .row 5 1 (ofBytes b))] }
def rcKs : List Nat := [0, 2, 3, 4, 13, 5, 6]
def rcTs : List Nat := [1000, 2032]

set_option maxHeartbeats 4000000 in
theorem rc_step (l : List Ins) (idx : Nat) (hi : idx < l.length) (hl : l.length ≤ 65536) (hf : l[idx].fits) (hv : validI l[idx] = true) (b : List UInt8) (hb : b.length ≤ 60000000) :
    ∃ σ', evalS (cfg m) s_backstepref22_Encode_l1 (rcSt l idx b) = some (.normal, σ') ∧ σ'.norm rcKs rcTs = rcSt l (idx + 1) (b ++ bytesI l[idx]) := by
  obtain ⟨cs, hc, ha, _, hd⟩ := valid_inv hv
  have hcs := cls_some hc
  have he : ofBytes (b ++ [UInt8.ofNat l[idx].op.toNat]) = ofBytes b ++ [.int .u8 l[idx].op] := by rw [ofBytes_snoc, op_byte hf]
  have hin := re_inner m l idx hi cs (cls_len hc) (cls_let hc) (b ++ [UInt8.ofNat l[idx].op.toNat]) (by simp; omega)
  have e0 := r_classes m (op := l[idx].op) (by omega) (by omega)
  unfold cls2 at e0
  rw [hc, hd] at e0
  simp at e0
  have b1 : b.length + 1 ≤ 140737488355328 := by omega
  have hw := wrap_i64 ((idx : Int) + 1) (by omega) (by omega)
  have hbt : b ++ bytesI l[idx] = b ++ [UInt8.ofNat l[idx].op.toNat] ++ argBytes cs l[idx].args := by simp [bytesI, hd]
  rw [hbt]
  generalize hB : b ++ [UInt8.ofNat l[idx].op.toNat] ++ argBytes cs l[idx].args = B at hin ⊢
  simp only [reSt, reEx, he] at hin
  simp [reKs, reTs] at hin
  simp [s_backstepref22_Encode_l1, rcSt, rcKs, rcTs, hi, b1, hw, e0, Ins.D, callEff, reach, pass, over, without, noVars, newTags, pickT, swapped, V.ren, V.renL, Cell.ren]
  rw [hin]
  simp [hw]

set_option maxHeartbeats 2000000 in
theorem r_Encode (l : List Ins) (hl : l.length ≤ 65536) (hf : ∀ i ∈ l, i.fits) : ev1 (cfg m) 16 [.d (.sl (l.map Ins.D))] = some (.tup [.d (.sl (if l.all validI then ofBytes (encodeI l) else [])), .d (.int .i64 (if l.all validI then 0 else 3))]) := by
  refine ev1_fn rfl rfl ?_ rfl
  have hc := r_check m l hl hf
  cases hall : l.all validI with
  | false =>
    rw [hall] at hc
    simp at hc
    simp [s_backstepref22_Encode, hc]
  | true =>
    rw [hall] at hc
    simp at hc
    have hv : ∀ i ∈ l, validI i = true := List.all_eq_true.1 hall
    have hp := r_bytes m l.length 4 (by decide)
    have h := loopS_upto (C := cfg m) (c := s_backstepref22_Encode_l1) (ks := rcKs) (ts := rcTs) (fun k => rcSt l k (beI 4 l.length ++ codeI (l.take k))) l.length (x := .exit 0)
      (σ := { rcSt l l.length (encodeI l) with env := (rcSt l l.length (encodeI l)).env ++ [(21, .d (.bool false))] }) (by simp)
      (fun k hk => by
        have hlen := codeI_len (l.take k) (fun i hi => hv i (List.mem_of_mem_take hi))
        simp only [List.length_take] at hlen
        obtain ⟨σ', g1, g2⟩ := rc_step m l k hk hl (hf _ (List.getElem_mem hk)) (hv _ (List.getElem_mem hk)) (beI 4 l.length ++ codeI (l.take k)) (by simp [beI_len]; omega)
        refine ⟨σ', g1, ?_⟩
        have ht : l.take (k + 1) = l.take k ++ [l[k]] := by rw [List.take_add_one]; simp [hk]
        rw [g2, ht, codeI_snoc, List.append_assoc])
      (by rw [List.take_length]; simp [s_backstepref22_Encode_l1, rcSt, encodeI])
    have h0 : beI 4 l.length ++ codeI (l.take 0) = beI 4 l.length := by simp [codeI]
    rw [h0] at h
    simp [rcSt, rcKs, rcTs] at h
    simp at hp
    simp [s_backstepref22_Encode, hc, callEff, reach, pass, over, without, noVars, newTags, pickT, swapped, V.ren, V.renL, Cell.ren, hp]
    simp [h]
end Go.Ev.S
