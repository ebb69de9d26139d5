/- The evaluator's configuration for this seat: package variables, library functions, the program's functions. -/
import Derived.Test.YtmldgbfnjfkneaaDoorEvD
import Derived.Test.YtmldgbfnjfkneaaDoorEvB2
import Derived.Test.YtmldgbfnjfkneaaDoorEvF1
import Derived.Test.YtmldgbfnjfkneaaDoorKC
import Derived.Test.YtmldgbfnjfkneaaDoorShelf
set_option linter.all false
set_option linter.unusedVariables false
namespace Go.Ev.S
open Go.Proofs Go.RowKit

def ints (k : IntKind) (l : List Int) : D := .agg (l.map (D.int k))

/-- The package variables: 'm' is what internal/bytealg.MaxLen holds. -/
def glob (m : Int) : Nat → Option D
  | 0 => some (.int .i64 m)
  | 1 => some (ints .u64 Lib.pow10Tab)
  | 2 => some (ints .u8 Lib.asciiSpaceTab)
  | 3 => some .err
  | 4 => some .err
  | _ => none

theorem RDs_ints {H : Imm} {k : IntKind} : ∀ {l : List Int} {cs : List Value}, RDs H (l.map (D.int k)) cs → cs = l.map (Value.int k)
  | [], cs, h => by cases h; rfl
  | x :: l, cs, h => by
    cases h with
    | cons h1 h2 => rw [RDs_ints h2]; cases h1; rfl

theorem tab_of {H : Imm} {w : World} {m : Int} (h : Fine (glob m) H w) {g : Nat} {k : IntKind} {l : List Int} {name : String} (hg : glob m g = some (ints k l)) (hn : Tryd.prog.globalNamed name = some g) : Lib.TabIs Tryd.prog w name k l := by
  obtain ⟨c, e, fr, h1, h2⟩ := h.1 g _ hg
  have h3 := h.2 _ _ h1
  unfold ints at h2
  have h4 : c.toList = l.map (Value.int k) := by
    cases h2 with
    | agg h => exact RDs_ints h
  unfold Lib.TabIs World.var?
  rw [hn]
  simp only [Option.bind_some, h3]
  congr 1
  apply Array.toList_inj.1
  rw [h4]

theorem err_of {H : Imm} {w : World} {m : Int} (h : Fine (glob m) H w) {g : Nat} (hg : glob m g = some .err) : ∃ t v, w.cell? ⟨g, 0, none⟩ = some (.iface t v) := by
  obtain ⟨c, e, fr, h1, h2⟩ := h.1 g _ hg
  have h3 := h.2 _ _ h1
  generalize hl : c.toList = l at h2
  cases h2 with
  | err t v =>
    have : c = #[.iface t v] := Array.toList_inj.1 hl
    subst this
    exact ⟨t, v, by simp [World.cell?, h3]⟩

theorem max_of {H : Imm} {w : World} {m : Int} (h : Fine (glob m) H w) : w.cell? ⟨0, 0, none⟩ = some (.int .i64 m) := by
  obtain ⟨c, e, fr, h1, h2⟩ := h.1 0 _ rfl
  have h3 := h.2 _ _ h1
  generalize hl : c.toList = l at h2
  cases h2 with
  | int k n =>
    have : c = #[.int .i64 m] := Array.toList_inj.1 hl
    subst this
    simp [World.cell?, h3]

theorem drewN_below (w : World) (n : Nat) : Below w.heap.size w (w.drewN n) := ⟨rfl, rfl, rfl, Nat.le_refl _, fun _ _ => rfl⟩
theorem grow_below (w : World) (os : Array Obj) : Below w.heap.size w (Sort.grow w os) :=
  ⟨rfl, rfl, rfl, by simp [Sort.grow], fun k hk => by simp only [Sort.grow]; rw [Array.getElem?_append_left hk]⟩
theorem freeze_below {w w' : World} {n : Nat} {a : Addr} (h : Below w.heap.size w w') (ha : w.heap.size ≤ a.block) : Below w.heap.size w (w'.freeze a n) := by
  unfold World.freeze
  split
  · exact h
  · refine ⟨h.os, h.tape, h.output, ?_, fun k hk => ?_⟩
    · simpa using h.size
    · show (w'.heap.modify _ _)[k]? = _
      rw [Array.getElem?_modify, if_neg (by omega)]
      exact h.block k hk
theorem bytesWorld_below (w : World) (e : TypeId) (s : ByteArray) : Below w.heap.size w (Lib.bytesWorld w e s) := by
  unfold Lib.bytesWorld
  exact freeze_below ((Below.refl _ _).drew.alloc (Nat.le_refl _) _) (Nat.le_refl _)

theorem body_of {f : FuncId} (h : (Tryd.prog.funcs[f]?.map fun fn => fn.body.isNone || (fn.name == "runtime.NumGoroutine")) = some false) : HasBody Tryd.prog f := by
  unfold HasBody
  cases hf : Tryd.prog.funcs[f]? with
  | none => simp [hf] at h
  | some fn =>
    simp only [hf, Option.map_some, Option.some.injEq, Bool.or_eq_false_iff] at h
    exact ⟨fn, rfl, h.1, h.2⟩

def pIndexByte := pureP (pSI .u8 (fun _ _ => true) fun s c => .d (.int .i64 (Lib.indexByte s c.toNat.toUInt8)))
def pHasSuffix := pureP (p2 (fun s _ => short s) fun s p => .d (.bool (Lib.hasSuffix s p)))
def pHasPrefix := pureP (p2 (fun _ _ => true) fun s p => .d (.bool (Lib.hasPrefix s p)))
def pCountOne := pureP (p2 one1 fun s p => .d (.int .i64 (Lib.countByte s (p.headD 0))))
/-- The digits, by a count (for the kernel). -/
def decF : Nat → Nat → List UInt8
  | 0, _ => []
  | n + 1, u => if u < 10 then [UInt8.ofNat (48 + u)] else decF n (u / 10) ++ [UInt8.ofNat (48 + u % 10)]
theorem decF_eq : ∀ (n u : Nat), u < 10 ^ n → 0 < n → decF n u = Lib.decDigits u
  | 0, u, _, h0 => by omega
  | n + 1, u, h, _ => by
    rw [Lib.decDigits, decF]
    by_cases hu : u < 10
    · rw [if_pos hu, dif_pos hu]
    · rw [if_neg hu, dif_neg hu]
      have h1 : u / 10 < 10 ^ n := by rw [Nat.pow_succ] at h; omega
      have h2 : 0 < n := by
        rcases Nat.eq_zero_or_pos n with rfl | h2
        · simp at h1; omega
        · exact h2
      rw [decF_eq n (u / 10) h1 h2]
def itoaF (n : Int) : List UInt8 := if n < 0 then 45 :: decF 20 n.natAbs else decF 20 n.toNat
theorem itoaF_eq {n : Int} (h1 : -9223372036854775808 ≤ n) (h2 : n ≤ 9223372036854775807) : itoaF n = Lib.itoa n := by
  unfold itoaF Lib.itoa
  rw [decF_eq 20 _ (by omega) (by omega), decF_eq 20 _ (by omega) (by omega)]
def pItoa := pureP (pI .i64 (fun n => decide (-9223372036854775808 ≤ n ∧ n ≤ 9223372036854775807)) fun n => .d (.str (itoaF n)))
def pCut := pureP (p2 (fun s _ => short s) fun s p => .tup [.d (.str (Lib.cut s p).1), .d (.str (Lib.cut s p).2.1), .d (.bool (Lib.cut s p).2.2)])
def pJoinC := pureP pJoin
def pSplit := pureP (p2 (fun s p => Nat.ble s.length 4294967280 && Nat.ble 1 p.length) fun s p => .d (.sl ((Lib.split s p).map .str)))
def ascii (s : List UInt8) : Bool := Nat.ble s.length 4294967280 && s.all fun b => decide (b.toNat < 128)
def pFields := pureP (p1 ascii fun s => .d (.sl ((Lib.fields s).map .str)))
def pAtoi := pureP (p1 short atoiV)

variable (m : Int)
theorem ok_indexByte : PrimOk Tryd.prog (glob m) 47 pIndexByte := prim_indexByte (body_of (by kernel_rfl)) Tryd.strings_IndexByte
theorem ok_hasSuffix : PrimOk Tryd.prog (glob m) 33 pHasSuffix := prim_hasSuffix (body_of (by kernel_rfl)) Tryd.strings_HasSuffix
theorem ok_hasPrefix : PrimOk Tryd.prog (glob m) 65 pHasPrefix := prim_hasPrefix (body_of (by kernel_rfl)) Tryd.strings_HasPrefix
theorem ok_countOne : PrimOk Tryd.prog (glob m) 19 pCountOne := prim_countOne (body_of (by kernel_rfl)) Tryd.strings_Count_one
theorem ok_itoa : PrimOk Tryd.prog (glob m) 18 pItoa := prim_pI (body_of (by kernel_rfl)) fun n w H B hF ok => by
  obtain ⟨h1, h2⟩ := of_decide_eq_true ok
  rw [itoaF_eq h1 h2]
  exact (Tryd.strconv_Itoa n h1 h2 w (tab_of hF (g := 1) rfl (by kernel_rfl))).mono (by rintro e w' ⟨rfl, k, os, rfl⟩; exact ⟨_, rfl, (drewN_below w k).trans (show Below (w.drewN k).heap.size _ _ from grow_below _ _), rv_str _⟩)
theorem ok_cut : PrimOk Tryd.prog (glob m) 34 pCut := prim_cut (body_of (by kernel_rfl)) fun s sep w H hF h =>
  (Tryd.strings_Cut s sep m w h (max_of hF)).mono (by rintro e w' ⟨rfl, n, rfl⟩; exact ⟨rfl, drewN_below _ _⟩)
theorem ok_join : PrimOk Tryd.prog (glob m) 21 pJoinC := prim_join (body_of (by kernel_rfl)) Tryd.strings_Join_none Tryd.strings_Join
theorem ok_copyCheck : PrimOk Tryd.prog (glob m) 30 (pCopyCheck 46) := prim_copyCheck (body_of (by kernel_rfl)) Tryd.copyCheck_used Tryd.copyCheck_fresh
theorem ok_bString : PrimOk Tryd.prog (glob m) 22 (pBString 46 5) := prim_bString (body_of (by kernel_rfl)) Tryd.string_nil Tryd.string_some
theorem ok_atoi : PrimOk Tryd.prog (glob m) 46 pAtoi := prim_atoi (body_of (by kernel_rfl))
  (fun s v w h1 h2 => (Tryd.strconv_Atoi_ok s h1 v h2 w).mono (by
    rintro e w' ⟨rfl, h⟩
    refine ⟨rfl, ?_⟩
    rcases h with rfl | ⟨t, rfl⟩
    · exact Below.refl _ _
    · exact bytesWorld_below _ _ _))
  (fun s w H hF h1 h2 => by
    obtain ⟨t, v, h⟩ := err_of hF (g := 3) rfl
    exact (Tryd.strconv_Atoi_syntax s h1 h2 _ w h (.inr ⟨_, _, rfl⟩)).mono (by rintro e w' ⟨N, rfl, _, _, h⟩; exact ⟨_, _, rfl, h⟩))
  (fun s w H hF h1 h2 => by
    obtain ⟨t, v, h⟩ := err_of hF (g := 4) rfl
    exact (Tryd.strconv_Atoi_range s h1 h2 _ w h (.inr ⟨_, _, rfl⟩)).mono (by rintro e w' ⟨N, rfl, _, _, h⟩; exact ⟨_, _, rfl, h⟩))
theorem ok_split : PrimOk Tryd.prog (glob m) 45 pSplit := prim_strs2 (body_of (by kernel_rfl)) fun s sep w H hF hok => by
  simp only [Bool.and_eq_true, Nat.ble_eq] at hok
  have e1 : s.size = s.data.toList.length := (Array.length_toList).symm
  have e2 : sep.size = sep.data.toList.length := (Array.length_toList).symm
  refine (Tryd.strings_Split s sep m w (by omega) (max_of hF) (by omega)).mono ?_
  rintro e w' ⟨rfl, rfl⟩
  have h3 : Lib.split s.data.toList sep.data.toList = (Lib.splitB sep 0 (Lib.countB s sep) s).map (·.data.toList) := (Lib.splitB_data sep 0 _ s).symm
  have h4 := Lib.splitB_all sep (by omega) 0 _ s rfl
  rw [h3, List.map_map, List.length_map, h4]
  exact ⟨rfl, rfl⟩
theorem ok_fields : PrimOk Tryd.prog (glob m) 76 pFields := prim_strs1 (body_of (by kernel_rfl)) fun s w H hF hok => by
  simp only [ascii, Bool.and_eq_true, Nat.ble_eq, List.all_eq_true, decide_eq_true_eq] at hok
  have e1 : s.size = s.data.toList.length := (Array.length_toList).symm
  refine (Tryd.strings_Fields s w (by omega) (fun j b hb => hok.2 b (List.mem_of_getElem? hb)) (tab_of hF (g := 2) rfl (by kernel_rfl))).mono ?_
  rintro e w' ⟨rfl, rfl⟩
  exact ⟨rfl, rfl⟩

/-! ## shapes and find -/
theorem begins_none (w : World) : Begins (fun _ => none) (fun _ => undef) w [] := {
  size := rfl
  defers := rfl
  env := fun s => .und _
  cells := fun t c h => by simp [bare, St.get, assoc] at h
  sep := fun t c b h => by simp [bare, St.get, assoc] at h
  apart := fun t t' c c' b _ h => by simp [bare, St.get, assoc] at h
  imm := fun b o h => by cases h
  le := Imm.le_refl _
  fromH := fun b o h => by cases h
  frame := fun _ _ _ => rfl
  grow := Nat.le_refl _
  os := rfl
  tape := rfl
  output := rfl
  keep := fun t ht => by obtain ⟨e, v, h⟩ := ht; simp [assoc] at h }

/-- A function that needs nothing: no memory, no package variable. -/
theorem calls_closed {C : Cfg} (hC : C.Ok Tryd.prog) (hg : C.gl = fun _ => none) {n : Nat} {f : FuncId} {x : D} {cells : Cells} (h : evalFn C n f [] [] = some (.d x, cells)) (w : World) :
    Calls Tryd.prog f #[] w fun e w' => ∃ v H', e = .returned v ∧ RDv H' x v ∧ (∀ b o, H' b = some o → w'.heap[b]? = some o) ∧ Below w.heap.size w w' := by
  obtain ⟨_, h2⟩ := evalFn_ok hC n f [] [] _ _ h
  refine (h2 (fun _ => none) (fun _ => undef) w [] (by rw [hg]; intro g x hx; cases hx) .nil (begins_none w)).mono ?_
  rintro e w' ⟨v, H', B', rfl, hr, J⟩
  refine ⟨v, H', rfl, ?_, J.imm, ⟨J.os, J.tape, J.output, J.grow, fun k hk => J.frame k hk (by rintro ⟨t, c, h, _⟩; simp [assoc] at h)⟩⟩
  cases hr with
  | one h1 h2 => cases h2 with
    | d h3 => exact .one h1 h3
  | agg h1 h2 => cases h2 with
    | d h3 => cases h3 with
      | agg h4 => exact .agg h4
      | _ => simp [V.isAgg, D.isAgg] at h1

def C0 : Cfg := { fn := fun f => assoc f fnTab, prim := fun _ => none, gl := fun _ => none }
theorem mem_of_assoc {α : Type} {k : Nat} {x : α} : ∀ {l : List (Nat × α)}, assoc k l = some x → (k, x) ∈ l
  | [], h => by simp [assoc] at h
  | (j, y) :: l, h => by
    simp only [assoc] at h
    split at h
    · rename_i e; subst e; simp only [Option.some.injEq] at h; subst h; exact List.mem_cons_self
    · exact List.mem_cons_of_mem _ (mem_of_assoc h)
set_option maxRecDepth 100000 in
theorem fn_ok (f : FuncId) (S : SFunc) (h : assoc f fnTab = some S) : ∃ drop, cFunc Tryd.prog f drop = some S := fnTab_ok (f, S) (mem_of_assoc h)
theorem C0_ok : C0.Ok Tryd.prog := ⟨by kernel_rfl, fn_ok, fun f p h => by cases h⟩

def rowD (r : ShRow) : D := .agg [.int .u8 r.kind, .bool r.name, .int .i64 r.nums, .bool r.text]
def shapesD : D := .map (shapeRows.map fun r => .str r.word) (shapeRows.map rowD)
def shapesCells : Cells := [(1004, .frz shapesD)]

theorem shapes_val : (evalFn C0 3 25 [] []).map Prod.fst = some (.d shapesD) := by kernel_rfl
theorem shapes_ev : ∃ cs, evalFn C0 3 25 [] [] = some (.d shapesD, cs) := by
  have h := shapes_val
  cases hx : evalFn C0 3 25 [] [] with
  | none => rw [hx] at h; cases h
  | some p => rw [hx] at h; simp only [Option.map_some, Option.some.injEq] at h; exact ⟨p.2, by rw [← h]⟩

theorem RDv_row {H : Imm} {r : ShRow} {v : Value} (h : RDv H (rowD r) v) : v = shapeVal r.kind r.name r.nums r.text := by
  cases h with
  | one h1 h2 => simp [rowD, D.isAgg] at h1
  | agg h =>
    cases h with
    | cons h1 h => cases h with
      | cons h2 h => cases h with
        | cons h3 h => cases h with
          | cons h4 h => cases h; cases h1; cases h2; cases h3; cases h4; rfl

theorem RDv_str {H : Imm} {s : List UInt8} {v : Value} (h : RDv H (.str s) v) : v = .string ⟨s.toArray⟩ := by
  cases h with
  | one h1 h2 => cases h2; rfl

theorem entries_rows {H : Imm} : ∀ {rows : List ShRow} {es : List MapEntry}, RDvs H (rows.map fun r => D.str r.word) (es.map (·.key)) → RDvs H (rows.map rowD) (es.map (·.val)) → (es.map fun x => (x.key, x.val)) = rows.map ShRow.entry
  | [], [], _, _ => rfl
  | [], _ :: _, h, _ => by cases h
  | _ :: _, [], h, _ => by cases h
  | r :: rows, x :: es, h, h' => by
    simp only [List.map_cons] at h h' ⊢
    cases h with
    | cons h1 h2 => cases h' with
      | cons h3 h4 =>
        rw [entries_rows h2 h4, RDv_str h1, RDv_row h3]
        rfl

theorem shapes_post (w : World) : Calls Tryd.prog 25 #[] w (ShapesPost shapeRows w) := by
  obtain ⟨cs, h⟩ := shapes_ev
  refine (calls_closed C0_ok rfl h w).mono ?_
  rintro e w' ⟨v, H', rfl, hr, hi, hb⟩
  cases hr with
  | one h1 h2 =>
    generalize hx : shapesD = x at h2
    cases h2 with
    | map g1 g2 g3 g4 =>
      injection hx with e1 e2
      subst e1; subst e2
      exact ⟨_, _, _, rfl, hb, hi _ _ g1, g2, entries_rows g3 g4⟩
    | _ => cases hx

def findV (k : Int) : V :=
  match shapeRows.find? (fun r => r.kind == k) with
  | some r => .tup [.d (.str r.word), .d (rowD r), .d (.bool true)]
  | none => .tup [.d (.str []), .d (rowD ⟨[], 0, false, 0, false⟩), .d (.bool false)]
def pFind := pureP (pI .u8 (fun _ => true) findV)

theorem rv_row {H : Imm} {B : Bind} (r : ShRow) : RVv H B (.d (rowD r)) (shapeVal r.kind r.name r.nums r.text) :=
  .agg rfl (cs := [.int .u8 r.kind, .bool r.name, .int .i64 r.nums, .bool r.text]) (.d (.agg (.cons (cs := [_]) (.int _ _) (.cons (cs := [_]) (.bool _) (.cons (cs := [_]) (.int _ _) (.cons (cs := [_]) (.bool _) .nil))))))

theorem kinds_inj : ∀ r ∈ shapeRows, ∀ r' ∈ shapeRows, r.kind = r'.kind → r = r' := by
  intro r hr r' hr' h
  simp only [shapeRows, List.mem_cons, List.not_mem_nil, or_false] at hr hr'
  rcases hr with rfl | rfl | rfl | rfl | rfl | rfl | rfl | rfl | rfl | rfl | rfl | rfl | rfl | rfl <;>
  rcases hr' with rfl | rfl | rfl | rfl | rfl | rfl | rfl | rfl | rfl | rfl | rfl | rfl | rfl | rfl <;> first | rfl | (simp at h)

theorem ok_find : PrimOk Tryd.prog (glob m) 17 pFind := prim_pI (body_of (by kernel_rfl)) fun k w H B hF _ => by
  refine (Tryd.find_walk shapes_post k w).mono ?_
  rintro e w' ⟨hb, h⟩
  unfold findV
  rcases h with ⟨r, hr, hk, rfl⟩ | ⟨hno, rfl⟩
  · cases hf : shapeRows.find? (fun r => r.kind == k) with
    | none =>
      have := List.find?_eq_none.1 hf r hr
      simp [hk] at this
    | some r' =>
      have h1 := List.find?_some hf
      have h2 := List.mem_of_find?_eq_some hf
      have : r' = r := kinds_inj r' h2 r hr (by simp at h1; omega)
      subst this
      exact ⟨_, rfl, hb, .tup (.cons (rv_str _) (.cons (rv_row _) (.cons (rv_bool _) .nil)))⟩
  · have hf : shapeRows.find? (fun r => r.kind == k) = none := List.find?_eq_none.2 fun r hr => by simpa using hno r hr
    rw [hf]
    exact ⟨_, rfl, hb, .tup (.cons (rv_str _) (.cons (rv_row ⟨[], 0, false, 0, false⟩) (.cons (rv_bool _) .nil)))⟩

/-! ## The configuration -/
def primTab : List (Nat × (List V → Cells → Option (V × Cells))) := [(47, pIndexByte), (33, pHasSuffix), (65, pHasPrefix), (19, pCountOne), (18, pItoa), (34, pCut), (21, pJoinC), (46, pAtoi), (45, pSplit), (76, pFields), (17, pFind), (30, pCopyCheck 46), (22, pBString 46 5)]
def cfg : Cfg := { fn := fun f => assoc f fnTab, prim := fun f => assoc f primTab, gl := glob m }
theorem cfg_ok : (cfg m).Ok Tryd.prog := ⟨by kernel_rfl, fn_ok, fun f p h => by
  have hm := mem_of_assoc h
  simp only [primTab, List.mem_cons, List.not_mem_nil, or_false, Prod.mk.injEq] at hm
  rcases hm with ⟨rfl, rfl⟩ | ⟨rfl, rfl⟩ | ⟨rfl, rfl⟩ | ⟨rfl, rfl⟩ | ⟨rfl, rfl⟩ | ⟨rfl, rfl⟩ | ⟨rfl, rfl⟩ | ⟨rfl, rfl⟩ | ⟨rfl, rfl⟩ | ⟨rfl, rfl⟩ | ⟨rfl, rfl⟩ | ⟨rfl, rfl⟩ | ⟨rfl, rfl⟩
  · exact ok_indexByte m
  · exact ok_hasSuffix m
  · exact ok_hasPrefix m
  · exact ok_countOne m
  · exact ok_itoa m
  · exact ok_cut m
  · exact ok_join m
  · exact ok_atoi m
  · exact ok_split m
  · exact ok_fields m
  · exact ok_find m
  · exact ok_copyCheck m
  · exact ok_bString m⟩
end Go.Ev.S
