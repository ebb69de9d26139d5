/- Machine code: the reference's line read as a whole. -/
import Derived.Test.YtglggojbbenobaaGreatDoorEvR13
set_option linter.all false
namespace Go.Ev.S
open Go.Proofs Go.Ev.A
variable (m : Int)

theorem mnem_at {op : Nat} (h : op < mnTab.length) : mnem (op : Int) = mnTab[op] := by
  unfold mnem
  rw [if_neg (by omega), show ((op : Int)).toNat = op from rfl, List.getElem?_eq_getElem h]
  rfl

theorem rr_skip (s w0 : List UInt8) (ws : List (List UInt8)) (op : Nat) (hop : op < 35) (hne : mnem (op : Int) ≠ w0) :
    ∃ σ', evalS (cfg m) s_backstepref22_Read_l1 (rrSt s (w0 :: ws) op) = some (.normal, σ') ∧ σ'.norm rrKs [1000] = rrSt s (w0 :: ws) (op + 1) := by
  have hm := r_mnem m (op := (op : Int)) (by omega) (by omega)
  have hw8 : IntKind.u8.wrap (op : Int) = op := IntWalk.u8_in _ (by omega)
  have hw := wrap_i64 ((op : Int) + 1) (by omega) (by omega)
  have hlt : (op : Int) < 35 := by omega
  generalize mnem (op : Int) = M at *
  simp [s_backstepref22_Read_l1, rrSt, rrEnv, rrCells, rrKs, hm, hw8, hw, hop, hlt, hne]

set_option maxHeartbeats 4000000 in
theorem rr_hit (s w0 : List UInt8) (ws : List (List UInt8)) (op : Nat) (hop : op < 35) (he : mnem (op : Int) = w0) (hwl : ∀ w ∈ ws, w.length ≤ 1000) (hwn : ws.length ≤ 1000000) :
    ∃ σ' cs' i ok, evalS (cfg m) s_backstepref22_Read_l1 (rrSt s (w0 :: ws) op) = some (.ret, σ') ∧ result rrRs σ' = some (.tup [.d (Ins.D i), .d (.bool ok)], cs') ∧
      ((ok = true ∧ (if ws.length = (clsD (op : Int)).length then (match opsBy opR (clsD (op : Int)) ws with | none => none | some xs => if validI (insOf op xs) then some (insOf op xs) else none) else none) = some i) ∨
       (ok = false ∧ (if ws.length = (clsD (op : Int)).length then (match opsBy opR (clsD (op : Int)) ws with | none => none | some xs => if validI (insOf op xs) then some (insOf op xs) else none) else none) = (none : Option Ins))) := by
  have hm := r_mnem m (op := (op : Int)) (by omega) (by omega)
  rw [he] at hm
  have hw8 : IntKind.u8.wrap (op : Int) = op := IntWalk.u8_in _ (by omega)
  have hlt : (op : Int) < 35 := by omega
  obtain ⟨cs, hcl⟩ := cls_of (op := (op : Int)) (by omega) (by omega)
  have hd : clsD (op : Int) = cs := by simp [clsD, hcl]
  have e0 := r_classes m (op := (op : Int)) (by omega) (by omega)
  unfold cls2 at e0
  rw [hcl, hd] at e0
  simp at e0
  rw [hd]
  have hl := cls_len hcl
  have hwr := wrap_i64 ((cs.length : Int) + 1) (by omega) (by omega)
  by_cases hlen : ws.length = cs.length
  · rw [if_pos hlen]
    have hlen' : (ws.length : Int) = cs.length := by omega
    have hlp := ri_loop m s w0 ws op cs hl hlen hwl cs.length 0 [] (by omega) rfl
    simp only [List.drop_zero, List.nil_append] at hlp
    cases hq : opsBy opR cs ws with
    | none =>
      rw [hq] at hlp
      obtain ⟨σ', cs', i, g1, g2⟩ := hlp
      refine ⟨σ', cs', i, false, ?_, g2, .inr ⟨rfl, rfl⟩⟩
      simp [riSt, rrEnv, rrCells, riKs, riTs, Ins.D, insOf] at g1
      simp [s_backstepref22_Read_l1, rrSt, rrEnv, rrCells, hm, hw8, hop, hlt, e0, hwr, hlen, hlen', g1]
    | some xs =>
      rw [hq] at hlp
      simp only at hlp ⊢
      have hb : ∀ x ∈ xs, i64 x := opsBy_all (fun c w x h => (opR_inv h).2) hq
      have hfit : (insOf (op : Int) xs).fits := insOf_fits hop (by rw [opsBy_len hq]; exact hl) hb
      have hV := r_Valid m (insOf (op : Int) xs) hfit
      have hI : (insOf (op : Int) []).D = .agg [.int .u8 (op : Int), .int .i64 0, .int .i64 0, .int .i64 0, .int .i64 0] := by simp [insOf, Ins.D]
      simp only [riSt, riEx, hI] at hlp
      have key : ∃ σ' cs', evalS (cfg m) s_backstepref22_Read_l1 (rrSt s (w0 :: ws) op) = some (.ret, σ') ∧ result rrRs σ' = some (.tup [.d (insOf (op : Int) xs).D, .d (.bool (validI (insOf (op : Int) xs)))], cs') := by
        generalize insOf (op : Int) xs = i at *
        obtain ⟨io, ia, ib, ic, id⟩ := i
        simp only [Ins.D] at hlp hV ⊢
        simp [rrEnv, rrCells, riKs, riTs] at hlp
        simp [s_backstepref22_Read_l1, rrSt, rrEnv, rrCells, rrRs, hm, hw8, hop, hlt, e0, hwr, hlen, hlen', hlp, hV]
      obtain ⟨σ', cs', k1, k2⟩ := key
      refine ⟨σ', cs', insOf (op : Int) xs, validI (insOf (op : Int) xs), k1, k2, ?_⟩
      cases hv : validI (insOf (op : Int) xs) with
      | true => exact .inl ⟨rfl, rfl⟩
      | false => exact .inr ⟨rfl, rfl⟩
  · rw [if_neg hlen]
    have hlen' : ¬ (ws.length : Int) = cs.length := by omega
    have key : ∃ σ' cs', evalS (cfg m) s_backstepref22_Read_l1 (rrSt s (w0 :: ws) op) = some (.ret, σ') ∧ result rrRs σ' = some (.tup [.d (Ins.D ⟨op, 0, 0, 0, 0⟩), .d (.bool false)], cs') := by
      simp [s_backstepref22_Read_l1, rrSt, rrEnv, rrCells, rrRs, Ins.D, hm, hw8, hop, hlt, e0, hwr, hlen, hlen']
    obtain ⟨σ', cs', k1, k2⟩ := key
    exact ⟨σ', cs', _, false, k1, k2, .inr ⟨rfl, rfl⟩⟩

theorem rr_loop (s w0 : List UInt8) (ws : List (List UInt8)) (hwl : ∀ w ∈ ws, w.length ≤ 1000) (hwn : ws.length ≤ 1000000) : ∀ (f op : Nat), op + f = 35 →
    match (mnTab.drop op).findIdx? (fun x => decide (x = w0)) with
    | none => loopS (cfg m) s_backstepref22_Read_l1 rrKs [1000] (rrSt s (w0 :: ws) op) = some (.exit 0, rrEx s (w0 :: ws))
    | some k => ∃ σ' cs' i ok, loopS (cfg m) s_backstepref22_Read_l1 rrKs [1000] (rrSt s (w0 :: ws) op) = some (.ret, σ') ∧ result rrRs σ' = some (.tup [.d (Ins.D i), .d (.bool ok)], cs') ∧
      ((ok = true ∧ (if ws.length = (clsD ((op + k : Nat) : Int)).length then (match opsBy opR (clsD ((op + k : Nat) : Int)) ws with | none => none | some xs => if validI (insOf ((op + k : Nat) : Int) xs) then some (insOf ((op + k : Nat) : Int) xs) else none) else none) = some i) ∨
       (ok = false ∧ (if ws.length = (clsD ((op + k : Nat) : Int)).length then (match opsBy opR (clsD ((op + k : Nat) : Int)) ws with | none => none | some xs => if validI (insOf ((op + k : Nat) : Int) xs) then some (insOf ((op + k : Nat) : Int) xs) else none) else none) = (none : Option Ins))) := by
  intro f
  induction f with
  | zero =>
    intro op hk
    obtain rfl : op = 35 := by omega
    have e : (mnTab.drop 35).findIdx? (fun x => decide (x = w0)) = none := rfl
    rw [e]
    refine loopS_exit ?_
    simp [s_backstepref22_Read_l1, rrSt, rrEx, rrEnv, rrCells]
  | succ f ih =>
    intro op hk
    have hlen : mnTab.length = 35 := rfl
    have hlt : op < mnTab.length := by omega
    rw [List.drop_eq_getElem_cons hlt, List.findIdx?_cons, ← mnem_at hlt]
    by_cases he : mnem (op : Int) = w0
    · simp only [he, decide_true, if_true]
      obtain ⟨σ', cs', i, ok, g1, g2, g3⟩ := rr_hit m s w0 ws op (by omega) he hwl hwn
      exact ⟨σ', cs', i, ok, loopS_ret g1, g2, g3⟩
    · simp only [he, decide_false, Bool.false_eq_true, if_false]
      obtain ⟨σ', g1, g2⟩ := rr_skip m s w0 ws op (by omega) he
      have := ih (op + 1) (by omega)
      cases hq : (mnTab.drop (op + 1)).findIdx? (fun x => decide (x = w0)) with
      | none =>
        rw [hq] at this
        exact loopS_step g1 (by rw [g2]; exact this)
      | some j =>
        rw [hq] at this
        obtain ⟨σ'', cs', i, ok, h1, h2, h3⟩ := this
        simp only [Option.map_some]
        refine ⟨σ'', cs', i, ok, loopS_step g1 (by rw [g2]; exact h1), h2, ?_⟩
        rw [show op + 1 + j = op + (j + 1) by omega] at h3
        exact h3

set_option maxHeartbeats 4000000 in
theorem r_Read (s : List UInt8) (hs : s.length ≤ 1000) : ∃ i ok, ev1 (cfg m) 44 [.d (.str s)] = some (.tup [.d (Ins.D i), .d (.bool ok)]) ∧ ((ok = true ∧ readI s = some i) ∨ (ok = false ∧ readI s = none)) := by
  have hfin : ∀ (i : Ins) b, (∃ cs, bodyS (cfg m) s_backstepref22_Read [.d (.str s)] [] = some (.tup [.d i.D, .d (.bool b)], cs)) → ev1 (cfg m) 44 [.d (.str s)] = some (.tup [.d i.D, .d (.bool b)]) := by
    rintro i b ⟨cs, h⟩
    exact ev1_fn rfl rfl (by rw [h]; rfl) rfl
  rw [← readR_eq]
  obtain ⟨w0, ws, hW, hwl, hwc⟩ := split_facts _ s (Nat.le_refl _)
  have hsp := r_words m s (by omega)
  rw [hW] at hsp
  unfold readR readBy
  rw [hW]
  simp only [List.headD_cons, List.drop_succ_cons, List.drop_zero, List.length_cons]
  have hl := rr_loop m s w0 ws (fun w hw => by have := hwl w (by simp [hw]); omega) (by omega) 35 0 (by omega)
  rw [List.drop_zero] at hl
  unfold opBy
  cases hq : mnTab.findIdx? (fun x => decide (x = w0)) with
  | none =>
    rw [hq] at hl
    simp [rrSt, rrEx, rrEnv, rrCells, rrKs] at hl
    simp at hsp
    refine ⟨⟨0, 0, 0, 0, 0⟩, false, hfin _ _ ?_, .inr ⟨rfl, rfl⟩⟩
    simp [s_backstepref22_Read, hsp, hl, Ins.D]
  | some k =>
    rw [hq] at hl
    obtain ⟨σ', cs', i, ok, g1, g2, g3⟩ := hl
    simp only [Nat.zero_add] at g3
    simp [rrSt, rrEnv, rrCells, rrKs] at g1
    simp at hsp
    refine ⟨i, ok, hfin _ _ ⟨cs', ?_⟩, ?_⟩
    · simp only [rrRs] at g2
      simp [s_backstepref22_Read, hsp, g1, -result]
      rw [g2]
    · have e : (ws.length + 1 = (clsD (k : Int)).length + 1) = (ws.length = (clsD (k : Int)).length) := by rw [eq_iff_iff]; omega
      simp only [e]
      exact g3
end Go.Ev.S
