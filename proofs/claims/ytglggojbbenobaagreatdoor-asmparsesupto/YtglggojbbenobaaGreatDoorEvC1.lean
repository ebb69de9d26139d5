/- The evaluator's configuration for this seat: package variables, library functions, the program's functions. -/
import Derived.Test.YtglggojbbenobaaGreatDoorEvD
import Derived.Test.YtglggojbbenobaaGreatDoorEvB2
import Derived.Test.YtglggojbbenobaaGreatDoorKC
import Derived.Test.YtglggojbbenobaaGreatDoorShelf
set_option linter.all false
set_option linter.unusedVariables false
namespace Go.Ev.S
open Go.Proofs Go.RowKit

def ints (k : IntKind) (l : List Int) : D := .agg (l.map (D.int k))

/-- The package variables: 'm' is what internal/bytealg.MaxLen holds. -/
def glob (m : Int) : Nat → Option D
  | 0 => some (.int .i64 m)
  | 3 => some (ints .u64 Lib.pow10Tab)
  | 1 => some .err
  | 2 => some .err
  | _ => none

theorem RDs_ints {H : Imm} {k : IntKind} : ∀ {l : List Int} {cs : List Value}, RDs H (l.map (D.int k)) cs → cs = l.map (Value.int k)
  | [], cs, h => by cases h; rfl
  | x :: l, cs, h => by
    cases h with
    | cons h1 h2 => rw [RDs_ints h2]; cases h1; rfl

theorem tab_of {H : Imm} {w : World} {m : Int} (h : Fine (glob m) H w) {g : Nat} {k : IntKind} {l : List Int} {name : String} (hg : glob m g = some (ints k l)) (hn : Tryz.prog.globalNamed name = some g) : Lib.TabIs Tryz.prog w name k l := by
  obtain ⟨c, e, fr, h1, h2⟩ := h.1 g _ hg
  have h3 := h.2 _ _ h1
  unfold ints at h2
  have h4 : c.toList = l.map (Value.int k) := by
    cases h2 with
    | agg h => exact RDs_ints h
  unfold Lib.TabIs World.var?
  rw [hn]
  simp only [Option.bind_some, h3]
  congr 1
  apply Array.toList_inj.1
  rw [h4]

theorem err_of {H : Imm} {w : World} {m : Int} (h : Fine (glob m) H w) {g : Nat} (hg : glob m g = some .err) : ∃ t v, w.cell? ⟨g, 0, none⟩ = some (.iface t v) := by
  obtain ⟨c, e, fr, h1, h2⟩ := h.1 g _ hg
  have h3 := h.2 _ _ h1
  generalize hl : c.toList = l at h2
  cases h2 with
  | err t v =>
    have : c = #[.iface t v] := Array.toList_inj.1 hl
    subst this
    exact ⟨t, v, by simp [World.cell?, h3]⟩

theorem max_of {H : Imm} {w : World} {m : Int} (h : Fine (glob m) H w) : w.cell? ⟨0, 0, none⟩ = some (.int .i64 m) := by
  obtain ⟨c, e, fr, h1, h2⟩ := h.1 0 _ rfl
  have h3 := h.2 _ _ h1
  generalize hl : c.toList = l at h2
  cases h2 with
  | int k n =>
    have : c = #[.int .i64 m] := Array.toList_inj.1 hl
    subst this
    simp [World.cell?, h3]

theorem drewN_below (w : World) (n : Nat) : Below w.heap.size w (w.drewN n) := ⟨rfl, rfl, rfl, Nat.le_refl _, fun _ _ => rfl⟩
theorem grow_below (w : World) (os : Array Obj) : Below w.heap.size w (Sort.grow w os) :=
  ⟨rfl, rfl, rfl, by simp [Sort.grow], fun k hk => by simp only [Sort.grow]; rw [Array.getElem?_append_left hk]⟩
theorem freeze_below {w w' : World} {n : Nat} {a : Addr} (h : Below w.heap.size w w') (ha : w.heap.size ≤ a.block) : Below w.heap.size w (w'.freeze a n) := by
  unfold World.freeze
  split
  · exact h
  · refine ⟨h.os, h.tape, h.output, ?_, fun k hk => ?_⟩
    · simpa using h.size
    · show (w'.heap.modify _ _)[k]? = _
      rw [Array.getElem?_modify, if_neg (by omega)]
      exact h.block k hk
theorem bytesWorld_below (w : World) (e : TypeId) (s : ByteArray) : Below w.heap.size w (Lib.bytesWorld w e s) := by
  unfold Lib.bytesWorld
  exact freeze_below ((Below.refl _ _).drew.alloc (Nat.le_refl _) _) (Nat.le_refl _)

theorem body_of {f : FuncId} (h : (Tryz.prog.funcs[f]?.map fun fn => fn.body.isNone || (fn.name == "runtime.NumGoroutine")) = some false) : HasBody Tryz.prog f := by
  unfold HasBody
  cases hf : Tryz.prog.funcs[f]? with
  | none => simp [hf] at h
  | some fn =>
    simp only [hf, Option.map_some, Option.some.injEq, Bool.or_eq_false_iff] at h
    exact ⟨fn, rfl, h.1, h.2⟩

/-- The digits, by a count (for the kernel). -/
def decF : Nat → Nat → List UInt8
  | 0, _ => []
  | n + 1, u => if u < 10 then [UInt8.ofNat (48 + u)] else decF n (u / 10) ++ [UInt8.ofNat (48 + u % 10)]
theorem decF_eq : ∀ (n u : Nat), u < 10 ^ n → 0 < n → decF n u = Lib.decDigits u
  | 0, u, _, h0 => by omega
  | n + 1, u, h, _ => by
    rw [Lib.decDigits, decF]
    by_cases hu : u < 10
    · rw [if_pos hu, dif_pos hu]
    · rw [if_neg hu, dif_neg hu]
      have h1 : u / 10 < 10 ^ n := by rw [Nat.pow_succ] at h; omega
      have h2 : 0 < n := by
        rcases Nat.eq_zero_or_pos n with rfl | h2
        · simp at h1; omega
        · exact h2
      rw [decF_eq n (u / 10) h1 h2]
def itoaF (n : Int) : List UInt8 := if n < 0 then 45 :: decF 20 n.natAbs else decF 20 n.toNat
theorem itoaF_eq {n : Int} (h1 : -9223372036854775808 ≤ n) (h2 : n ≤ 9223372036854775807) : itoaF n = Lib.itoa n := by
  unfold itoaF Lib.itoa
  rw [decF_eq 20 _ (by omega) (by omega), decF_eq 20 _ (by omega) (by omega)]
def pItoa := pureP (pI .i64 (fun n => decide (-9223372036854775808 ≤ n ∧ n ≤ 9223372036854775807)) fun n => .d (.str (itoaF n)))
def pCut := pureP (p2 (fun s _ => short s) fun s p => .tup [.d (.str (Lib.cut s p).1), .d (.str (Lib.cut s p).2.1), .d (.bool (Lib.cut s p).2.2)])
def pSplit := pureP (p2 (fun s p => Nat.ble s.length 4294967280 && Nat.ble 1 p.length) fun s p => .d (.sl ((Lib.split s p).map .str)))
def pAtoi := pureP (p1 short atoiV)

variable (m : Int)
theorem ok_itoa : PrimOk Tryz.prog (glob m) 66 pItoa := prim_pI (body_of (by kernel_rfl)) fun n w H B hF ok => by
  obtain ⟨h1, h2⟩ := of_decide_eq_true ok
  rw [itoaF_eq h1 h2]
  exact (Tryz.strconv_Itoa n h1 h2 w (tab_of hF (g := 3) rfl (by kernel_rfl))).mono (by rintro e w' ⟨rfl, k, os, rfl⟩; exact ⟨_, rfl, (drewN_below w k).trans (show Below (w.drewN k).heap.size _ _ from grow_below _ _), rv_str _⟩)
theorem ok_cut : PrimOk Tryz.prog (glob m) 42 pCut := prim_cut (body_of (by kernel_rfl)) fun s sep w H hF h =>
  (Tryz.strings_Cut s sep m w h (max_of hF)).mono (by rintro e w' ⟨rfl, n, rfl⟩; exact ⟨rfl, drewN_below _ _⟩)
theorem ok_copyCheck : PrimOk Tryz.prog (glob m) 52 (pCopyCheck 61) := prim_copyCheck (body_of (by kernel_rfl)) Tryz.copyCheck_used Tryz.copyCheck_fresh
theorem ok_bString : PrimOk Tryz.prog (glob m) 30 (pBString 61 5) := prim_bString (body_of (by kernel_rfl)) Tryz.string_nil Tryz.string_some
theorem ok_atoi : PrimOk Tryz.prog (glob m) 73 pAtoi := prim_atoi (body_of (by kernel_rfl))
  (fun s v w h1 h2 => (Tryz.strconv_Atoi_ok s h1 v h2 w).mono (by
    rintro e w' ⟨rfl, h⟩
    refine ⟨rfl, ?_⟩
    rcases h with rfl | ⟨t, rfl⟩
    · exact Below.refl _ _
    · exact bytesWorld_below _ _ _))
  (fun s w H hF h1 h2 => by
    obtain ⟨t, v, h⟩ := err_of hF (g := 1) rfl
    exact (Tryz.strconv_Atoi_syntax s h1 h2 _ w h (.inr ⟨_, _, rfl⟩)).mono (by rintro e w' ⟨N, rfl, _, _, h⟩; exact ⟨_, _, rfl, h⟩))
  (fun s w H hF h1 h2 => by
    obtain ⟨t, v, h⟩ := err_of hF (g := 2) rfl
    exact (Tryz.strconv_Atoi_range s h1 h2 _ w h (.inr ⟨_, _, rfl⟩)).mono (by rintro e w' ⟨N, rfl, _, _, h⟩; exact ⟨_, _, rfl, h⟩))
theorem ok_split : PrimOk Tryz.prog (glob m) 58 pSplit := prim_strs2 (body_of (by kernel_rfl)) fun s sep w H hF hok => by
  simp only [Bool.and_eq_true, Nat.ble_eq] at hok
  have e1 : s.size = s.data.toList.length := (Array.length_toList).symm
  have e2 : sep.size = sep.data.toList.length := (Array.length_toList).symm
  refine (Tryz.strings_Split s sep m w (by omega) (max_of hF) (by omega)).mono ?_
  rintro e w' ⟨rfl, rfl⟩
  have h3 : Lib.split s.data.toList sep.data.toList = (Lib.splitB sep 0 (Lib.countB s sep) s).map (·.data.toList) := (Lib.splitB_data sep 0 _ s).symm
  have h4 := Lib.splitB_all sep (by omega) 0 _ s rfl
  rw [h3, List.map_map, List.length_map, h4]
  exact ⟨rfl, rfl⟩
theorem mem_of_assoc {α : Type} {k : Nat} {x : α} : ∀ {l : List (Nat × α)}, assoc k l = some x → (k, x) ∈ l
  | [], h => by simp [assoc] at h
  | (j, y) :: l, h => by
    simp only [assoc] at h
    split at h
    · rename_i e; subst e; simp only [Option.some.injEq] at h; subst h; exact List.mem_cons_self
    · exact List.mem_cons_of_mem _ (mem_of_assoc h)
set_option maxRecDepth 100000 in
theorem fn_ok (f : FuncId) (S : SFunc) (h : assoc f fnTab = some S) : ∃ mv drop, cFunc Tryz.prog mv f drop = some S := fnTab_ok (f, S) (mem_of_assoc h)
/-! ## The configuration -/
def primTab : List (Nat × (List V → Cells → Option (V × Cells))) := [(66, pItoa), (42, pCut), (73, pAtoi), (58, pSplit), (52, pCopyCheck 61), (30, pBString 61 5)]
def cfg : Cfg := { fn := fun f => assoc f fnTab, prim := fun f => assoc f primTab, gl := glob m }
theorem cfg_ok : (cfg m).Ok Tryz.prog := ⟨by kernel_rfl, fn_ok, fun f p h => by
  have hm := mem_of_assoc h
  simp only [primTab, List.mem_cons, List.not_mem_nil, or_false, Prod.mk.injEq] at hm
  rcases hm with ⟨rfl, rfl⟩ | ⟨rfl, rfl⟩ | ⟨rfl, rfl⟩ | ⟨rfl, rfl⟩ | ⟨rfl, rfl⟩ | ⟨rfl, rfl⟩
  · exact ok_itoa m
  · exact ok_cut m
  · exact ok_atoi m
  · exact ok_split m
  · exact ok_copyCheck m
  · exact ok_bString m⟩
end Go.Ev.S
