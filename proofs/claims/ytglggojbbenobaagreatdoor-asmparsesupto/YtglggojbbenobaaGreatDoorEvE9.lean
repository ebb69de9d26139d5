/- Machine code: operands read. -/
import Derived.Test.YtglggojbbenobaaGreatDoorEvE8
set_option linter.all false
namespace Go.Ev.S
open Go.Proofs Go.Ev.A
variable (m : Int)

theorem decode_ascii (s : List UInt8) (i : Nat) (c : UInt8) (h : s[i]? = some c) (hc : c.toNat < 128) : Utf8.decode ⟨s.toArray⟩ i = (c.toNat, 1) := by
  have hi := (List.getElem?_eq_some_iff.1 h).1
  have hget : (ByteArray.mk s.toArray).get! (i + 0) = c := by
    show s.toArray[i + 0]! = c
    rw [getElem!_pos s.toArray (i + 0) (by simpa using hi)]
    simpa using (List.getElem?_eq_some_iff.1 h).2
  unfold Utf8.decode
  simp only [hget]
  rw [if_pos hc]

theorem e_hasPrefix (s p : List UInt8) (hs : s.length ≤ 1000000) (hp : p.length ≤ 1000000) : ev1 (cfg m) 95 [.d (.str s), .d (.str p)] = some (.d (.bool (decide (p.length ≤ s.length) && decide (s.take p.length = p)))) := by
  refine ev1_fn rfl rfl ?_ rfl
  by_cases h : p.length ≤ s.length
  · simp [s_internal_stringslite_HasPrefix, h]
  · have h2 : ¬ ((p.length : Int) ≤ (s.length : Int)) := by omega
    simp [s_internal_stringslite_HasPrefix, h]

theorem e_trim (s : List UInt8) (hs : s.length ≤ 1000000) : ev1 (cfg m) 71 [.d (.str s), .d (.str [114])] = some (.d (.str (trimR s))) := by
  have hin : ev1 (cfg m) 84 [.d (.str s), .d (.str [114])] = some (.d (.str (trimR s))) := by
    refine ev1_fn rfl rfl ?_ rfl
    have hp := e_hasPrefix m s [114] hs (by decide)
    unfold trimR
    split
    · rename_i t
      simp at hp
      simp [s_internal_stringslite_TrimPrefix, hp]
    · rename_i hne
      have hp' : ev1 (cfg m) 95 [.d (.str s), .d (.str [114])] = some (.d (.bool false)) := by
        rw [hp]
        cases s with
        | nil => simp
        | cons a t =>
          have : a ≠ 114 := fun e => hne t (by rw [e])
          simp [this]
      simp [s_internal_stringslite_TrimPrefix, hp']
  refine ev1_fn rfl rfl ?_ rfl
  simp [s_strings_TrimPrefix, hin]

theorem e_operators : ev1 (cfg m) 72 [] = some (.d (.sl ((List.range' 8 16).map fun (k : Nat) => .int .u8 (k : Int)))) := ev1_run 60 (by kernel_rfl) rfl

theorem prim_atoiL (s : List UInt8) (hs : s.length ≤ 1000000) : ev1 (cfg m) 73 [.d (.str s)] = some (atoiV s) := by
  refine ev1_pure rfl (r := atoiV s) ?_ ?_
  · have : short s = true := by simp [short]; omega
    simp [p1, this]
  · unfold atoiV; split <;> rfl

theorem atoi_parts (s : List UInt8) : ∃ x b, atoiV s = .tup [.d (.int .i64 x), .d b] ∧ ((b = .nilif ∧ atoiO s = some x) ∨ (b = .err ∧ atoiO s = none)) := by
  unfold atoiV atoiO
  split
  · rename_i v h; exact ⟨v, .nilif, rfl, .inl ⟨rfl, by rw [h]⟩⟩
  · rename_i h; exact ⟨_, .err, rfl, .inr ⟨rfl, by rw [h]⟩⟩
  · rename_i h1 h2
    refine ⟨0, .err, rfl, .inr ⟨rfl, ?_⟩⟩
    split
    · rename_i v h; exact absurd h (h1 v)
    · rfl

def opRow : List D := (List.range' 8 16).map fun (k : Nat) => .int .u8 (k : Int)
theorem opRow_get (k : Nat) (h : k < 16) : opRow[k]? = some (.int .u8 ((k : Int) + 8)) := by
  unfold opRow
  rw [List.getElem?_map, List.getElem?_range' h]
  simp; omega
theorem opRow_len : opRow.length = 16 := rfl
def nuSt (s : List UInt8) (k : Nat) : St := { env := [(0, .d (.str s)), (1, .d (.int .u8 111)), (4, .d (.int .i64 0)), (5, .d (.bool false)), (10, .d (.int .u8 111)), (11, .d (.bool false)), (15, .d (.bool true)), (17, .d (.sl opRow)), (18, .d (.int .i64 16)), (19, .d (.int .i64 (k : Int)))], cells := [] }
def nuKs : List Nat := [0, 1, 4, 5, 10, 11, 15, 17, 18, 19]
theorem sym_of (k : Nat) : sym ((k : Int) + 8) = (syTab[k]?).getD [] := by
  unfold sym
  rw [if_neg (by omega), show ((k : Int) + 8 - 8).toNat = k by omega]

theorem nu_loop (s : List UInt8) : ∀ (j k : Nat), k + j = 16 →
    match (syTab.drop k).findIdx? (fun x => decide (x = s)) with
    | some q => ∃ σ cs, loopS (cfg m) s_asm_number_l0 nuKs [] (nuSt s k) = some (.ret, σ) ∧ result [.tmp 4, .tmp 5] σ = some (.tup [.d (.int .i64 (((k + q : Nat) : Int) + 8)), .d (.bool true)], cs)
    | none => ∃ σ cs, loopS (cfg m) s_asm_number_l0 nuKs [] (nuSt s k) = some (.exit 1, σ) ∧ σ = { nuSt s 16 with env := (nuSt s 16).env ++ [(20, .d (.bool false))] } ∧ cs = σ.cells := by
  intro j
  induction j with
  | zero =>
    intro k hk
    obtain rfl : k = 16 := by omega
    have : syTab.drop 16 = [] := rfl
    rw [this]
    simp only [List.findIdx?_nil]
    refine ⟨_, _, loopS_exit (j := 1) (σ' := { nuSt s 16 with env := (nuSt s 16).env ++ [(20, .d (.bool false))] }) ?_, rfl, rfl⟩
    simp [s_asm_number_l0, nuSt]
  | succ j ih =>
    intro k hk
    have hk16 : k < 16 := by omega
    have hk16' : (k : Int) < 16 := by omega
    have hlen : syTab.length = 16 := rfl
    obtain ⟨y, hy⟩ : ∃ y, syTab[k]? = some y := ⟨_, List.getElem?_eq_getElem (by omega)⟩
    have hd : syTab.drop k = y :: syTab.drop (k + 1) := by
      obtain ⟨h1, h2⟩ := List.getElem?_eq_some_iff.1 hy
      rw [← h2]; exact List.drop_eq_getElem_cons h1
    have hsy := e_symbol m (op := (k : Int) + 8) (by omega) (by omega)
    rw [sym_of, hy, Option.getD_some] at hsy
    have hg := opRow_get k hk16
    have hw := wrap_i64 ((k : Int) + 1) (by omega) (by omega)
    have hw2 := wrap_i64 ((k : Int) + 8) (by omega) (by omega)
    rw [hd, List.findIdx?_cons]
    by_cases he : y = s
    · simp only [he, decide_true, if_true]
      rw [he] at hsy
      have : ∃ σ cs, evalS (cfg m) s_asm_number_l0 (nuSt s k) = some (.ret, σ) ∧ result [.tmp 4, .tmp 5] σ = some (.tup [.d (.int .i64 (((k : Nat) : Int) + 8)), .d (.bool true)], cs) := by
        simp [s_asm_number_l0, nuSt, hk16, hk16', hg, hsy, hw2]
      obtain ⟨σ, cs, h1, h2⟩ := this
      exact ⟨σ, cs, loopS_ret h1, by simpa using h2⟩
    · simp only [he, decide_false, Bool.false_eq_true, if_false]
      have : ∃ σ, evalS (cfg m) s_asm_number_l0 (nuSt s k) = some (.normal, σ) ∧ σ.norm nuKs [] = nuSt s (k + 1) := by
        simp [s_asm_number_l0, nuSt, nuKs, hk16, hk16', hg, hsy, he, hw]
      obtain ⟨σ, h1, h2⟩ := this
      have := ih (k + 1) (by omega)
      cases hq : (syTab.drop (k + 1)).findIdx? (fun x => decide (x = s)) with
      | some q =>
        rw [hq] at this
        obtain ⟨σ', cs, h3, h4⟩ := this
        simp only [Option.map_some]
        exact ⟨σ', cs, loopS_step h1 (by rw [h2]; exact h3), by rw [h4, show k + 1 + q = k + (q + 1) by omega]⟩
      | none =>
        rw [hq] at this
        obtain ⟨σ', cs, h3, h4⟩ := this
        simp only [Option.map_none]
        exact ⟨σ', cs, loopS_step h1 (by rw [h2]; exact h3), h4⟩

set_option maxHeartbeats 2000000 in
theorem e_number (c : UInt8) (s : List UInt8) (hs : s.length ≤ 1000000) : ∃ x, ev1 (cfg m) 59 [.d (.str s), .d (.int .u8 (c.toNat : Int))] = some (.tup [.d (.int .i64 x), .d (.bool (opP c s).isSome)]) ∧ ∀ v, opP c s = some v → x = v := by
  have hfin : ∀ x b, (∃ cs, bodyS (cfg m) s_asm_number [.d (.str s), .d (.int .u8 (c.toNat : Int))] [] = some (.tup [.d (.int .i64 x), .d (.bool b)], cs)) → ev1 (cfg m) 59 [.d (.str s), .d (.int .u8 (c.toNat : Int))] = some (.tup [.d (.int .i64 x), .d (.bool b)]) := by
    rintro x b ⟨cs, h⟩
    exact ev1_fn rfl rfl (by rw [h]; rfl) rfl
  have e114 := byteEq c 114; have e111 := byteEq c 111
  simp at e114 e111
  unfold opP
  by_cases h1 : c = 114
  · subst h1
    have ht := e_trim m s hs
    have htl : (trimR s).length ≤ 1000000 := by
      have : (trimR s).length ≤ s.length := by unfold trimR; split <;> simp
      omega
    obtain ⟨x, b, h2, h3⟩ := atoi_parts (trimR s)
    have ha := prim_atoiL m (trimR s) htl
    rw [h2] at ha
    simp only [if_true]
    rcases h3 with ⟨rfl, h4⟩ | ⟨rfl, h4⟩
    · refine ⟨x, hfin _ _ ?_, fun v hv => by rw [h4] at hv; simpa using hv⟩
      rw [h4]
      simp [s_asm_number, ht, ha]
    · refine ⟨x, hfin _ _ ?_, fun v hv => by rw [h4] at hv; cases hv⟩
      rw [h4]
      simp [s_asm_number, ht, ha]
  · by_cases h2 : c = 111
    · subst h2
      have hlp := nu_loop m s 16 0 (by omega)
      simp only [List.drop_zero] at hlp
      have ho := e_operators m
      rw [show ((List.range' 8 16).map fun (k : Nat) => D.int .u8 (k : Int)) = opRow from rfl] at ho
      simp only [h1, if_false, if_true]
      cases hq : symBy s with
      | some q =>
        unfold symBy at hq
        rw [hq] at hlp
        obtain ⟨σ, cs, h3, h4⟩ := hlp
        simp [nuSt, nuKs] at h3
        refine ⟨((0 + q : Nat) : Int) + 8, hfin _ _ ⟨cs, ?_⟩, fun v hv => by simp at hv; omega⟩
        simp [s_asm_number, ho, opRow_len, h3, -result]
        simpa [-result] using h4
      | none =>
        unfold symBy at hq
        rw [hq] at hlp
        obtain ⟨σ, cs, h3, rfl, h4⟩ := hlp
        simp [nuSt, nuKs] at h3
        refine ⟨0, hfin _ _ ?_, fun v hv => by simp at hv⟩
        simp [s_asm_number, ho, opRow_len, h3]
    · obtain ⟨x, b, h3, h4⟩ := atoi_parts s
      have ha := prim_atoiL m s hs
      rw [h3] at ha
      simp only [h1, h2, if_false]
      rcases h4 with ⟨rfl, h4⟩ | ⟨rfl, h4⟩
      · refine ⟨x, hfin _ _ ?_, fun v hv => by rw [h4] at hv; simpa using hv⟩
        rw [h4]
        simp [s_asm_number, e114, e111, h1, h2, ha]
      · refine ⟨x, hfin _ _ ?_, fun v hv => by rw [h4] at hv; cases hv⟩
        rw [h4]
        simp [s_asm_number, e114, e111, h1, h2, ha]
end Go.Ev.S
