/- Machine code: a line read. -/
import Derived.Test.YtglggojbbenobaaGreatDoorEvE9
set_option linter.all false
namespace Go.Ev.S
open Go.Proofs Go.Ev.A
variable (m : Int)

theorem keyAt_strs (w : List UInt8) : ∀ (l : List (List UInt8)), keyAt (.str w) (l.map .str) = some (l.findIdx? fun x => decide (x = w))
  | [] => by simp [keyAt]
  | x :: l => by
    rw [List.map_cons, List.findIdx?_cons]
    simp only [keyAt, keyEq]
    by_cases h : x = w
    · simp [h]
    · have h' : ¬ w = x := fun e => h e.symm
      simp only [h, h', decide_false, Bool.false_eq_true, if_false]
      rw [keyAt_strs w l]
      cases l.findIdx? fun x => decide (x = w) <;> rfl

/-! ## The map of the mnemonics -/
def mnK : List D := mnTab.map .str
def mnO : List D := (List.range' 0 35).map fun (k : Nat) => .int .u8 (k : Int)
theorem mnK_at (w : List UInt8) : keyAt (.str w) mnK = some (opBy w) := keyAt_strs w mnTab
theorem mnO_get {k : Nat} (h : k < 35) : mnO[k]? = some (.int .u8 (k : Int)) := by
  unfold mnO; rw [List.getElem?_map, List.getElem?_range' h]; simp
theorem mn_new : ∀ k : Fin 35, keyAt (.str (mnem (k.val : Int))) ((mnTab.take k.val).map .str) = some none := by
  intro k
  rw [keyAt_strs]
  have : ∀ k : Fin 35, (mnTab.take k.val).findIdx? (fun x => decide (x = mnem (k.val : Int))) = none := by decide
  rw [this k]
theorem mnem_get {k : Nat} (h : k < 35) : mnTab[k]? = some (mnem (k : Int)) := by
  have e1 : mnTab.length = 35 := rfl
  unfold mnem
  rw [if_neg (by omega), show ((k : Int)).toNat = k from rfl, List.getElem?_eq_getElem (by omega)]; rfl

def mnSt (k : Nat) : St := { env := [(0, .d .nilmap), (1, .mp 1256), (4, .d (.int .u8 (k : Int)))], cells := [(1256, .map ((mnTab.take k).map .str) (mnO.take k))] }
theorem e_mnemonics : ev1 (cfg m) 41 [] = some (.d (.map mnK mnO)) := by
  refine ev1_fn rfl rfl ?_ rfl
  have h := loopS_upto (C := cfg m) (c := s_asm_mnemonics_l0) (ks := [0, 1, 4]) (ts := [1256]) mnSt 35 (x := .exit 0) (σ := { mnSt 35 with env := (mnSt 35).env ++ [(5, .d (.bool false))] }) (by simp)
    (fun k hk => by
      obtain ⟨cs, hc⟩ := cls_of (op := (k : Int)) (by omega) (by omega)
      have h1 := e_mnem m hc
      have h2 := mn_new ⟨k, hk⟩
      simp only at h2
      have hw : IntKind.u8.wrap ((k : Int) + 1) = (k : Int) + 1 := IntWalk.u8_in _ (by omega)
      have hk' : (k : Int) < 35 := by omega
      have t1 : (mnTab.take (k + 1)).map D.str = (mnTab.take k).map D.str ++ [.str (mnem (k : Int))] := by
        rw [List.take_add_one, mnem_get hk]; simp
      have t2 : mnO.take (k + 1) = mnO.take k ++ [.int .u8 (k : Int)] := by
        rw [List.take_add_one, mnO_get hk]; simp
      simp only [mnSt, t1, t2]
      generalize (mnTab.take k).map D.str = K at *
      simp [s_asm_mnemonics_l0, h1, h2, hw, hk', hk])
    (by simp [s_asm_mnemonics_l0, mnSt])
  have e0 : mnSt 0 = { env := [(0, .d .nilmap), (1, .mp 1256), (4, .d (.int .u8 0))], cells := [(1256, .map [] [])] } := by simp [mnSt]
  have e35 : mnSt 35 = { env := [(0, .d .nilmap), (1, .mp 1256), (4, .d (.int .u8 35))], cells := [(1256, .map mnK mnO)] } := by
    have a1 : mnTab.take 35 = mnTab := rfl
    have a2 : mnO.take 35 = mnO := by rw [List.take_of_length_le]; simp [mnO]
    simp [mnSt, a1, a2, mnK]
  rw [e0, e35] at h
  simp at h
  simp [s_asm_mnemonics, h]
end Go.Ev.S
