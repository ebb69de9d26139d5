/- The reference's names: letter, digit, In, Kind at words, Name. -/
import Derived.Test.YtmldgbfnjfkneaaGreatDoorEvE9
set_option linter.all false
set_option linter.unusedVariables false
set_option linter.unusedSimpArgs false
namespace Go.Ev.S
open Go.Proofs
variable (m : Int)

def cl : SCode → SCode
  | .seq a _ => a
  | .block _ c => c
  | c => c
def cr : SCode → SCode
  | .seq _ b => b
  | c => c

theorem r_letter (c : Int) : ev1 (cfg m) 68 [.d (.int .u8 c)] = some (.d (.bool (isLetter c))) := by
  refine ev1_fn rfl rfl ?_ rfl
  by_cases h : 97 ≤ c <;> simp [s_backstepref02_letter, h, isLetter]
theorem r_digit (c : Int) : ev1 (cfg m) 69 [.d (.int .u8 c)] = some (.d (.bool (isDigit c))) := by
  refine ev1_fn rfl rfl ?_ rfl
  by_cases h : 48 ≤ c <;> simp [s_backstepref02_digit, h, isDigit]

theorem in_loop (L : List (List UInt8)) (s : List UInt8) (hL : L.length ≤ 4000000000) : ∀ k i, i + k = L.length →
    (L.drop i).contains s = true ∧ (∃ j, loopS (cfg m) s_backstepref02_In_l0 [0, 1, 4, 5] [] { env := [(0, .d (.sl (L.map .str))), (1, .d (.str s)), (4, .d (.bool false)), (5, .d (.int .i64 (i : Int)))], cells := [] } =
      some (.ret, { env := [(0, .d (.sl (L.map .str))), (1, .d (.str s)), (4, .d (.bool true)), (5, .d (.int .i64 (j : Int))), (9, .d (.bool true)), (17, .d (.bool true))], cells := [] })) ∨
    (L.drop i).contains s = false ∧ loopS (cfg m) s_backstepref02_In_l0 [0, 1, 4, 5] [] { env := [(0, .d (.sl (L.map .str))), (1, .d (.str s)), (4, .d (.bool false)), (5, .d (.int .i64 (i : Int)))], cells := [] } =
      some (.exit 0, { env := [(0, .d (.sl (L.map .str))), (1, .d (.str s)), (4, .d (.bool false)), (5, .d (.int .i64 (L.length : Int))), (9, .d (.bool false))], cells := [] }) := by
  intro k
  induction k with
  | zero =>
    intro i hi
    have : i = L.length := by omega
    subst this
    right
    refine ⟨by simp, loopS_exit ?_⟩
    simp [s_backstepref02_In_l0]
  | succ k ih =>
    intro i hi
    have hlt : i < L.length := by omega
    have hd : L.drop i = L[i] :: L.drop (i + 1) := List.drop_eq_getElem_cons hlt
    have hc : L[i]? = some L[i] := List.getElem?_eq_getElem hlt
    have hw := wrap_i64 ((i : Int) + 1) (by omega) (by omega)
    by_cases hx : L[i] = s
    · left
      refine ⟨by rw [hd]; simp [hx], i, loopS_ret ?_⟩
      simp [s_backstepref02_In_l0, hlt, hc, hx]
    · have hstep : evalS (cfg m) s_backstepref02_In_l0 { env := [(0, .d (.sl (L.map .str))), (1, .d (.str s)), (4, .d (.bool false)), (5, .d (.int .i64 (i : Int)))], cells := [] } =
          some (.normal, { env := [(0, .d (.sl (L.map .str))), (1, .d (.str s)), (4, .d (.bool false)), (5, .d (.int .i64 ((i + 1 : Nat) : Int))), (9, .d (.bool true)), (17, .d (.bool false))], cells := [] }) := by
        simp [s_backstepref02_In_l0, hlt, hc, hx, hw]
      have hcon : (L.drop i).contains s = (L.drop (i + 1)).contains s := by
        rw [hd, List.contains_cons, show (s == L[i]) = false by simp [Ne.symm hx]]; rfl
      rcases ih (i + 1) (by omega) with ⟨h1, j, h2⟩ | ⟨h1, h2⟩
      · exact .inl ⟨by rw [hcon]; exact h1, j, loopS_step hstep (by simpa using h2)⟩
      · exact .inr ⟨by rw [hcon]; exact h1, loopS_step hstep (by simpa using h2)⟩

theorem r_In (L : List (List UInt8)) (s : List UInt8) (hL : L.length ≤ 4000000000) : ev1 (cfg m) 50 [.d (.sl (L.map .str)), .d (.str s)] = some (.d (.bool (L.contains s))) := by
  refine ev1_fn rfl rfl ?_ rfl
  rcases in_loop m L s hL L.length 0 (by omega) with ⟨h1, j, h2⟩ | ⟨h1, h2⟩
  · rw [List.drop_zero] at h1
    simp at h2
    simp [s_backstepref02_In, h2, -List.contains_eq_mem, h1]
  · rw [List.drop_zero] at h1
    simp at h2
    simp [s_backstepref02_In, h2, -List.contains_eq_mem, h1]

theorem kw_val : (ev1 (cfg m) 51 []) = some (.d (.sl (kwWords.map .str))) := ev1_run 3 (by kernel_rfl) rfl
theorem signs_val : ∃ L : List (List UInt8), L.length ≤ 100 ∧ (ev1 (cfg m) 70 []) = some (.d (.sl (L.map .str))) :=
  ⟨[[60, 61, 62], [58, 61], [43, 61], [45, 61], [94, 61], [61, 61], [33, 61], [60, 61], [62, 61], [38, 38], [124, 124], [43], [45], [42], [47], [37], [38], [124], [94], [33], [61], [60], [62], [40], [41], [123], [125], [91], [93], [59], [44]], by decide, ev1_run 3 (by kernel_rfl) rfl⟩

/-! ## Kind -/
abbrev kBlk : SCode := cl (cl (cr s_backstepref02_Kind_l0))
def k7 : SCode := cl kBlk
def k8 : SCode := cl (cr kBlk)
def k9 : SCode := cl (cr (cr kBlk))
def k10 : SCode := cl (cr (cr (cr kBlk)))
def k11 : SCode := cr (cr (cr (cr kBlk)))
theorem kind_parts : s_backstepref02_Kind_l0 = .seq (cl s_backstepref02_Kind_l0) (.seq (.block 1 (.seq k7 (.seq k8 (.seq k9 (.seq k10 k11))))) (cr (cr s_backstepref02_Kind_l0))) := rfl

variable (s : List UInt8) (w n sp cm : Bool) (i c : Int)
abbrev kSt (w n sp cm : Bool) (i : Int) (t : List (Nat × V)) : St := { env := [(0, .d (.str s)), (2, .d (.int .u8 0)), (10, .d (.bool false)), (3, .d (.bool w)), (4, .d (.bool n)), (5, .d (.bool sp)), (6, .d (.bool cm)), (7, .d (.int .i64 i))] ++ t, cells := [] }
theorem k8_ok : evalS (cfg m) k8 (kSt s w n sp cm i [(20, .d (.bool true)), (8, .d (.int .u8 c))]) = some (.normal, kSt s (w && (isLetter c || isDigit c)) n sp cm i [(20, .d (.bool true)), (8, .d (.int .u8 c))]) := by
  cases w with
  | false => simp [k8, kBlk, cl, cr, s_backstepref02_Kind_l0]
  | true => cases h : isLetter c <;> simp [k8, kBlk, cl, cr, s_backstepref02_Kind_l0, r_letter, r_digit, h]
theorem k9_ok : evalS (cfg m) k9 (kSt s w n sp cm i [(20, .d (.bool true)), (8, .d (.int .u8 c))]) = some (.normal, kSt s w (n && isDigit c) sp cm i [(20, .d (.bool true)), (8, .d (.int .u8 c))]) := by
  cases n <;> simp [k9, kBlk, cl, cr, s_backstepref02_Kind_l0, r_digit]
theorem k10_ok : evalS (cfg m) k10 (kSt s w n sp cm i [(20, .d (.bool true)), (8, .d (.int .u8 c))]) = some (.normal, kSt s w n (sp && isSpace c) cm i [(20, .d (.bool true)), (8, .d (.int .u8 c))]) := by
  cases sp with
  | false => simp [k10, kBlk, cl, cr, s_backstepref02_Kind_l0]
  | true => by_cases h1 : c = 32 <;> by_cases h2 : c = 9 <;> by_cases h3 : c = 13 <;> simp [k10, kBlk, cl, cr, s_backstepref02_Kind_l0, h1, h2, h3, isSpace]
theorem k11_ok : evalS (cfg m) k11 (kSt s w n sp cm i [(20, .d (.bool true)), (8, .d (.int .u8 c))]) = some (.normal, kSt s w n sp (cm && decide (c ≠ 10)) i [(20, .d (.bool true)), (8, .d (.int .u8 c))]) := by
  cases cm <;> simp [k11, kBlk, cl, cr, s_backstepref02_Kind_l0]

theorem k7_ok (hi : i.toNat < s.length) (h0 : 0 ≤ i) : evalS (cfg m) k7 (kSt s w n sp cm i [(20, .d (.bool true))]) = some (.normal, kSt s w n sp cm i [(20, .d (.bool true)), (8, .d (.int .u8 (s[i.toNat].toNat)))]) := by
  obtain ⟨j, rfl⟩ : ∃ j : Nat, i = (j : Int) := ⟨i.toNat, by omega⟩
  simp only [Int.toNat_natCast] at hi ⊢
  simp [k7, kBlk, cl, cr, s_backstepref02_Kind_l0, hi]
theorem k5_ok (hi : i.toNat < s.length) (h0 : 0 ≤ i) : evalS (cfg m) (cl s_backstepref02_Kind_l0) (kSt s w n sp cm i []) = some (.normal, kSt s w n sp cm i [(20, .d (.bool true))]) := by
  obtain ⟨j, rfl⟩ : ∃ j : Nat, i = (j : Int) := ⟨i.toNat, by omega⟩
  simp only [Int.toNat_natCast] at hi ⊢
  simp [cl, cr, s_backstepref02_Kind_l0, hi]
theorem k6_ok (hi : i.toNat < s.length) (h0 : 0 ≤ i) (hs : s.length ≤ 4000000000) : evalS (cfg m) (cr (cr s_backstepref02_Kind_l0)) (kSt s w n sp cm i [(20, .d (.bool true)), (8, .d (.int .u8 c))]) = some (.normal, kSt s w n sp cm (i + 1) [(20, .d (.bool true)), (8, .d (.int .u8 c))]) := by
  have hw := wrap_i64 (i + 1) (by omega) (by omega)
  simp [cl, cr, s_backstepref02_Kind_l0, hw]

theorem kind_step (j : Nat) (hi : j < s.length) (hs : s.length ≤ 4000000000) : evalS (cfg m) s_backstepref02_Kind_l0 (kSt s w n sp cm j []) =
    some (.normal, kSt s (w && (isLetter s[j].toNat || isDigit s[j].toNat)) (n && isDigit s[j].toNat) (sp && isSpace s[j].toNat) (cm && decide ((s[j].toNat : Int) ≠ 10)) ((j + 1 : Nat) : Int) [(20, .d (.bool true)), (8, .d (.int .u8 s[j].toNat))]) := by
  have h5 := k5_ok m s w n sp cm j (by simpa using hi) (by omega)
  have h7 := k7_ok m s w n sp cm j (by simpa using hi) (by omega)
  simp only [Int.toNat_natCast] at h7
  rw [kind_parts, evalS_seq, h5, seqE_normal, evalS_seq, evalS_block, evalS_seq, h7, seqE_normal, evalS_seq, k8_ok, seqE_normal, evalS_seq, k9_ok, seqE_normal, evalS_seq, k10_ok, seqE_normal, k11_ok, blockE_normal, seqE_normal, k6_ok _ _ _ _ _ _ _ _ (by simpa using hi) (by omega) hs]
  rfl

def wordAll (s : List UInt8) : Bool := match s with
  | [] => false
  | b :: l => isLetter b.toNat && (b :: l).all wordByte

theorem take_all (p : UInt8 → Bool) (s : List UInt8) (j : Nat) (hj : j < s.length) : (s.take (j + 1)).all p = ((s.take j).all p && p s[j]) := by
  rw [List.take_add_one, List.all_append]; simp [hj]

theorem r_Kind (s : List UInt8) (hs : s.length ≤ 4000000000) : ∃ k : Int, ev1 (cfg m) 49 [.d (.str s)] = some (.d (.int .u8 k)) ∧ (k = 1 ↔ wordAll s = true) := by
  cases s with
  | nil => exact ⟨0, ev1_fn rfl rfl (by simp [s_backstepref02_Kind]) rfl, by simp [wordAll]⟩
  | cons b l =>
    obtain ⟨L, hL, hsg⟩ := signs_val m
    have hin := r_In m L (b :: l) (by omega)
    have h := loopS_upto (C := cfg m) (c := s_backstepref02_Kind_l0) (ks := [0, 2, 10, 3, 4, 5, 6, 7]) (ts := []) (fun j => kSt (b :: l) (isLetter b.toNat && ((b :: l).take j).all wordByte) (((b :: l).take j).all fun x => isDigit x.toNat) (((b :: l).take j).all fun x => isSpace x.toNat) (decide ((b.toNat : Int) = 35) && ((b :: l).take j).all fun x => decide ((x.toNat : Int) ≠ 10)) (j : Int) []) (b :: l).length (x := .exit 0)
      (σ := kSt (b :: l) (isLetter b.toNat && (b :: l).all wordByte) ((b :: l).all fun x => isDigit x.toNat) ((b :: l).all fun x => isSpace x.toNat) (decide ((b.toNat : Int) = 35) && (b :: l).all fun x => decide ((x.toNat : Int) ≠ 10)) ((b :: l).length : Nat) [(20, .d (.bool false))]) (by simp)
      (fun j hj => by
        refine ⟨_, kind_step m (b :: l) _ _ _ _ j hj hs, ?_⟩
        simp only [take_all _ _ _ hj, Bool.and_assoc, wordByte]
        rfl)
      (by rw [List.take_length]; simp [s_backstepref02_Kind_l0])
    have ew : wordAll (b :: l) = (isLetter b.toNat && (b :: l).all wordByte) := rfl
    simp only [List.take_zero, List.all_nil, Bool.and_true, Int.natCast_zero] at h
    generalize (isLetter b.toNat && (b :: l).all wordByte) = W at h ew
    generalize ((b :: l).all fun x => isDigit x.toNat) = A at h
    generalize ((b :: l).all fun x => isSpace x.toNat) = B at h
    generalize (decide ((b.toNat : Int) = 35) && (b :: l).all fun x => decide ((x.toNat : Int) ≠ 10)) = Q at h
    simp only [kSt, List.cons_append, List.nil_append] at h
    rw [ew]
    have hc : ∀ k : Int, (bodyS (cfg m) s_backstepref02_Kind [.d (.str (b :: l))] []).map Prod.fst = some (.d (.int .u8 k)) → ev1 (cfg m) 49 [.d (.str (b :: l))] = some (.d (.int .u8 k)) := fun k hk => ev1_fn rfl rfl hk rfl
    cases W with
    | true => exact ⟨1, hc 1 (by simp [s_backstepref02_Kind, r_letter, h]), by simp⟩
    | false =>
      cases A with
      | true => exact ⟨2, hc 2 (by simp [s_backstepref02_Kind, r_letter, h]), by simp⟩
      | false =>
        cases hcon : L.contains (b :: l) with
        | true => exact ⟨3, hc 3 (by rw [hcon] at hin; simp [s_backstepref02_Kind, r_letter, h, hsg, hin]), by simp⟩
        | false =>
          rw [hcon] at hin
          cases B with
          | true => exact ⟨4, hc 4 (by simp [s_backstepref02_Kind, r_letter, h, hsg, hin]), by simp⟩
          | false =>
            cases Q with
            | true => exact ⟨5, hc 5 (by simp [s_backstepref02_Kind, r_letter, h, hsg, hin]), by simp⟩
            | false => exact ⟨0, hc 0 (by simp [s_backstepref02_Kind, r_letter, h, hsg, hin]), by simp⟩

theorem isName_eq (s : List UInt8) : isName s = (wordAll s && decide (s.length ≤ 16) && !kwWords.contains s) := by
  cases s with
  | nil => rfl
  | cons b l =>
    show (decide ((b :: l).length ≤ 16) && !kwWords.contains (b :: l) && isLetter b.toNat && (b :: l).all wordByte) = ((isLetter b.toNat && (b :: l).all wordByte) && decide ((b :: l).length ≤ 16) && !kwWords.contains (b :: l))
    generalize decide ((b :: l).length ≤ 16) = x1
    generalize (!kwWords.contains (b :: l)) = x2
    generalize isLetter b.toNat = x3
    generalize (b :: l).all wordByte = x4
    cases x1 <;> cases x2 <;> cases x3 <;> cases x4 <;> rfl

theorem r_Name (s : List UInt8) (hs : s.length ≤ 4000000000) : ev1 (cfg m) 36 [.d (.str s)] = some (.d (.bool (isName s))) := by
  refine ev1_fn rfl rfl ?_ rfl
  obtain ⟨k, hk, hk1⟩ := r_Kind m s hs
  have hkw := kw_val m
  have hin := r_In m kwWords s (by decide +kernel)
  rw [isName_eq]
  by_cases hw : k = 1
  · have hw2 := hk1.1 hw
    subst hw
    by_cases hl : s.length ≤ 16
    · have hl' : (s.length : Int) ≤ 16 := by omega
      generalize kwWords.contains s = q at hin
      simp [s_backstepref02_Name, hk, hkw, hin, hl, hl', hw2]
    · have hl' : ¬ (s.length : Int) ≤ 16 := by omega
      simp [s_backstepref02_Name, hk, hl, hl', hw2]
  · have hw2 : wordAll s = false := by
      cases h : wordAll s with
      | false => rfl
      | true => exact absurd (hk1.2 h) hw
    simp [s_backstepref02_Name, hk, hw, hw2]
end Go.Ev.S
