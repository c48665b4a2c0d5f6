import Derived.Test.YtbljidhiecbcfaaProg
import Derived.Test.YtbljidhiecbcfaaAmDefs
import Derived.Test.YtbljidhiecbcfaaAmPs
namespace Go.PgAM
open Go Go.Proofs
set_option linter.unusedVariables false
abbrev V_runtime_boundsError : VT := (.ag (.cons (.int .i64) (.cons (.int .i64) (.cons .bool (.cons (.int .u8) .nil)))))
abbrev runtime_boundsError := (Int × Int × Bool × Int)
abbrev V_runtime_errorAddressString : VT := (.ag (.cons .str (.cons (.int .u64) .nil)))
abbrev runtime_errorAddressString := (ByteArray × Int)
abbrev V_addr_Addr : VT := (.ag (.cons (.int .u64) (.cons (.int .u64) .nil)))
abbrev addr_Addr := (Int × Int)
abbrev V_word_Word : VT := (.ag (.cons (.int .u64) (.cons (.int .u64) (.cons (.int .u64) (.cons (.int .u64) .nil)))))
abbrev word_Word := (Int × Int × Int × Int)
abbrev V_entry_Entry : VT := (.ag (.cons (.int .u64) (.cons (.int .u64) (.cons (.int .u64) (.cons (.int .u64) (.cons (.int .i64) (.cons (.int .i64) .nil)))))))
abbrev entry_Entry := (Int × Int × Int × Int × Int × Int)
abbrev V_prefix_Prefix : VT := (.ag (.cons (.int .u64) (.cons (.int .u64) (.cons (.int .i64) .nil))))
abbrev prefix_Prefix := (Int × Int × Int)
abbrev V_rib_Route : VT := (.ag (.cons (.int .u64) (.cons (.int .u64) (.cons (.int .i64) (.cons (.int .i64) .nil)))))
abbrev rib_Route := (Int × Int × Int × Int)
abbrev V_bank_Slot : VT := (.ag (.cons .bool (.cons (.int .u64) (.cons (.int .u64) (.cons (.int .u64) (.cons (.int .u64) (.cons (.int .i64) (.cons (.int .i64) .nil))))))))
abbrev bank_Slot := (Bool × Int × Int × Int × Int × Int × Int)
abbrev V_bank_Write : VT := (.ag (.cons (.int .i64) (.cons .bool (.cons (.int .u64) (.cons (.int .u64) (.cons (.int .u64) (.cons (.int .u64) (.cons (.int .i64) (.cons (.int .i64) .nil)))))))))
abbrev bank_Write := (Int × Bool × Int × Int × Int × Int × Int × Int)
abbrev V_diff_Step : VT := (.ag (.cons (.int .i64) (.cons (.int .u64) (.cons (.int .u64) (.cons (.int .u64) (.cons (.int .u64) (.cons (.int .i64) (.cons (.int .i64) .nil))))))))
abbrev diff_Step := (Int × Int × Int × Int × Int × Int × Int)
def tys : List (TypeId × TI) := [(3, { vt := (.sc (.int .i64)), bytes := 8, flds := [], arr := (0, 0, false), eb := 0 }),
  (4, { vt := (.sc .bool), bytes := 1, flds := [], arr := (0, 0, false), eb := 0 }),
  (22, { vt := (.sc (.sl V_entry_Entry)), bytes := 24, flds := [], arr := (0, 0, false), eb := 48 }),
  (23, { vt := (.sc (.int .u64)), bytes := 8, flds := [], arr := (0, 0, false), eb := 0 }),
  (25, { vt := V_addr_Addr, bytes := 16, flds := [], arr := (2, 1, false), eb := 0 }),
  (41, { vt := (.sc (.sl V_bank_Slot)), bytes := 24, flds := [], arr := (0, 0, false), eb := 56 }),
  (43, { vt := V_word_Word, bytes := 32, flds := [(0, 2, true), (2, 2, true)], arr := (0, 0, false), eb := 0 }),
  (45, { vt := V_entry_Entry, bytes := 48, flds := [(0, 4, true), (4, 1, false), (5, 1, false)], arr := (0, 0, false), eb := 0 }),
  (60, { vt := V_prefix_Prefix, bytes := 24, flds := [(0, 2, true), (2, 1, false)], arr := (0, 0, false), eb := 0 }),
  (87, { vt := V_bank_Slot, bytes := 56, flds := [(0, 1, false), (1, 6, true)], arr := (0, 0, false), eb := 0 }),
  (89, { vt := (.sc (.sl V_bank_Write)), bytes := 24, flds := [], arr := (0, 0, false), eb := 64 }),
  (90, { vt := (.sc (.int .i64)), bytes := 8, flds := [], arr := (0, 0, false), eb := 0 }),
  (94, { vt := V_bank_Write, bytes := 64, flds := [(0, 1, false), (1, 7, true)], arr := (0, 0, false), eb := 0 }),
  (126, { vt := (.sc (.sl (.sc (.int .i64)))), bytes := 24, flds := [], arr := (0, 0, false), eb := 8 })]
def sortE (x : List Ent) : Option (List Ent) := cond (Nat.ble x.length 4096) (some (srtE x)) none
noncomputable def sortE.con (N : Nat) : Con := ⟨[.d (.sc (.sl V_entry_Entry))], [.fresh V_entry_Entry], fun z => sortE z.1⟩
-- cmp.isNaN[int]
noncomputable def cmp_isNaN_int.b (N : Nat) (x0 : Int) : Option Bool :=
  some (x0 != x0)
noncomputable def cmp_isNaN_int (N : Nat) (x0 : Int) : Option Bool := cmp_isNaN_int.b N x0
noncomputable def cmp_isNaN_int.con (N : Nat) : Con := ⟨[.d (.sc (.int .i64))], [.d (.sc .bool)], fun z => cmp_isNaN_int N z.1⟩
-- cmp.Compare[int]
noncomputable def cmp_Compare_int.b (N : Nat) (x0 : Int) (x1 : Int) : Option Int :=
  (cmp_isNaN_int N x0).bind fun y1 => (cmp_isNaN_int N x1).bind fun y2 => cond y1 (cond y2 (some 0) (some (-1))) (cond y2 (some 1) (cond (decide (x0 < x1)) (some (-1)) (cond (decide (x0 > x1)) (some 1) (some 0))))
noncomputable def cmp_Compare_int (N : Nat) (x0 : Int) (x1 : Int) : Option Int := cmp_Compare_int.b N x0 x1
noncomputable def cmp_Compare_int.con (N : Nat) : Con := ⟨[.d (.sc (.int .i64)), .d (.sc (.int .i64))], [.d (.sc (.int .i64))], fun z => cmp_Compare_int N z.1 z.2.1⟩
-- pigeonhole/plo.Kept$1
noncomputable def plo_Kept_1.b (N : Nat) (x0 : entry_Entry) (x1 : entry_Entry) : Option Int :=
  (cmp_Compare_int N x1.2.2.2.2.1 x0.2.2.2.2.1).bind fun y1 => some y1
noncomputable def plo_Kept_1 (N : Nat) (x0 : entry_Entry) (x1 : entry_Entry) : Option Int := plo_Kept_1.b N x0 x1
noncomputable def plo_Kept_1.con (N : Nat) : Con := ⟨[.d V_entry_Entry, .d V_entry_Entry], [.d (.sc (.int .i64))], fun z => plo_Kept_1 N z.1 z.2.1⟩
-- slices.IsSortedFunc[[]pigeonhole/entry.Entry,pigeonhole/entry.Entry]
noncomputable def slices_IsSortedFunc_entry_Entry.l0s (N : Nat) (S0 : (List entry_Entry) → ((entry_Entry × entry_Entry) → Option Int) → Int → Option Bool) : (List entry_Entry) → ((entry_Entry × entry_Entry) → Option Int) → Int → Option Bool := fun (x0 : (List entry_Entry)) (x1 : ((entry_Entry × entry_Entry) → Option Int)) (p0_t_5_0 : Int) =>
  cond (decide (p0_t_5_0 > 0)) ((idx x0 p0_t_5_0).bind fun y1 => (idx x0 (w_i64 (p0_t_5_0 - 1))).bind fun y2 => (x1 (y1, y2)).bind fun y3 => cond (decide (y3 < 0)) (some false) (S0 x0 x1 (w_i64 (p0_t_5_0 - 1)))) (some true)
noncomputable def slices_IsSortedFunc_entry_Entry.l0 (N : Nat) : Nat → (List entry_Entry) → ((entry_Entry × entry_Entry) → Option Int) → Int → Option Bool
  | 0 => fun _ _ _ => none
  | n + 1 => slices_IsSortedFunc_entry_Entry.l0s N (slices_IsSortedFunc_entry_Entry.l0 N n)
noncomputable def slices_IsSortedFunc_entry_Entry.b (N : Nat) (L0 : (List entry_Entry) → ((entry_Entry × entry_Entry) → Option Int) → Int → Option Bool) (x0 : (List entry_Entry)) (x1 : ((entry_Entry × entry_Entry) → Option Int)) : Option Bool :=
  L0 x0 x1 (w_i64 (((List.length x0 : Nat) : Int) - 1))
noncomputable def slices_IsSortedFunc_entry_Entry (N : Nat) (x0 : (List entry_Entry)) (x1 : ((entry_Entry × entry_Entry) → Option Int)) : Option Bool := slices_IsSortedFunc_entry_Entry.b N (slices_IsSortedFunc_entry_Entry.l0 N N) x0 x1
noncomputable def slices_IsSortedFunc_entry_Entry.con (N : Nat) : Con := ⟨[.d (.sc (.sl V_entry_Entry)), .d (.sc (.fn (.cons V_entry_Entry (.cons V_entry_Entry .nil)) (.cons (.sc (.int .i64)) .nil)))], [.d (.sc .bool)], fun z => slices_IsSortedFunc_entry_Entry N z.1 z.2.1⟩
-- pigeonhole/bank.Entries
noncomputable def bank_Entries.l0s (N : Nat) (S0 : (List bank_Slot) → Int → (List entry_Entry) → Option (List entry_Entry)) : (List bank_Slot) → Int → (List entry_Entry) → Option (List entry_Entry) := fun (x0 : (List bank_Slot)) (p0_t_8_0 : Int) (p0_b_3 : (List entry_Entry)) =>
  cond (decide (p0_t_8_0 < ((List.length x0 : Nat) : Int))) ((idx x0 p0_t_8_0).bind fun y1 => cond y1.1 (grd (decide ((List.length p0_b_3 + List.length ([y1.2])) * 48 ≤ room)) (S0 x0 (w_i64 (p0_t_8_0 + 1)) (p0_b_3 ++ [y1.2]))) (S0 x0 (w_i64 (p0_t_8_0 + 1)) p0_b_3)) (some p0_b_3)
noncomputable def bank_Entries.l0 (N : Nat) : Nat → (List bank_Slot) → Int → (List entry_Entry) → Option (List entry_Entry)
  | 0 => fun _ _ _ => none
  | n + 1 => bank_Entries.l0s N (bank_Entries.l0 N n)
noncomputable def bank_Entries.b (N : Nat) (L0 : (List bank_Slot) → Int → (List entry_Entry) → Option (List entry_Entry)) (x0 : (List bank_Slot)) : Option (List entry_Entry) :=
  L0 x0 0 ([] : List entry_Entry)
noncomputable def bank_Entries (N : Nat) (x0 : (List bank_Slot)) : Option (List entry_Entry) := bank_Entries.b N (bank_Entries.l0 N N) x0
noncomputable def bank_Entries.con (N : Nat) : Con := ⟨[.d (.sc (.sl V_bank_Slot))], [.fresh V_entry_Entry], fun z => bank_Entries N z.1⟩
-- pigeonhole/plo.Kept
noncomputable def plo_Kept.b (N : Nat) (x0 : (List bank_Slot)) : Option Bool :=
  (bank_Entries N x0).bind fun y1 => (slices_IsSortedFunc_entry_Entry N y1 (fun a2 => (plo_Kept_1 N a2.1 a2.2).bind fun c3 => some c3)).bind fun y4 => some y4
noncomputable def plo_Kept (N : Nat) (x0 : (List bank_Slot)) : Option Bool := plo_Kept.b N x0
noncomputable def plo_Kept.con (N : Nat) : Con := ⟨[.d (.sc (.sl V_bank_Slot))], [.d (.sc .bool)], fun z => plo_Kept N z.1⟩
-- slices.IndexFunc[[]pigeonhole/entry.Entry,pigeonhole/entry.Entry]
noncomputable def slices_IndexFunc_entry_Entry.l0s (N : Nat) (S0 : (List entry_Entry) → (entry_Entry → Option Bool) → Int → Option Int) : (List entry_Entry) → (entry_Entry → Option Bool) → Int → Option Int := fun (x0 : (List entry_Entry)) (x1 : (entry_Entry → Option Bool)) (p0_t_8_0 : Int) =>
  cond (decide (p0_t_8_0 < ((List.length x0 : Nat) : Int))) ((idx x0 p0_t_8_0).bind fun y1 => (x1 y1).bind fun y2 => cond y2 (some p0_t_8_0) (S0 x0 x1 (w_i64 (p0_t_8_0 + 1)))) (some (-1))
noncomputable def slices_IndexFunc_entry_Entry.l0 (N : Nat) : Nat → (List entry_Entry) → (entry_Entry → Option Bool) → Int → Option Int
  | 0 => fun _ _ _ => none
  | n + 1 => slices_IndexFunc_entry_Entry.l0s N (slices_IndexFunc_entry_Entry.l0 N n)
noncomputable def slices_IndexFunc_entry_Entry.b (N : Nat) (L0 : (List entry_Entry) → (entry_Entry → Option Bool) → Int → Option Int) (x0 : (List entry_Entry)) (x1 : (entry_Entry → Option Bool)) : Option Int :=
  L0 x0 x1 0
noncomputable def slices_IndexFunc_entry_Entry (N : Nat) (x0 : (List entry_Entry)) (x1 : (entry_Entry → Option Bool)) : Option Int := slices_IndexFunc_entry_Entry.b N (slices_IndexFunc_entry_Entry.l0 N N) x0 x1
noncomputable def slices_IndexFunc_entry_Entry.con (N : Nat) : Con := ⟨[.d (.sc (.sl V_entry_Entry)), .d (.sc (.fn (.cons V_entry_Entry .nil) (.cons (.sc .bool) .nil)))], [.d (.sc (.int .i64))], fun z => slices_IndexFunc_entry_Entry N z.1 z.2.1⟩
-- slices.ContainsFunc[[]pigeonhole/entry.Entry,pigeonhole/entry.Entry]
noncomputable def slices_ContainsFunc_entry_Entry.b (N : Nat) (x0 : (List entry_Entry)) (x1 : (entry_Entry → Option Bool)) : Option Bool :=
  (slices_IndexFunc_entry_Entry N x0 x1).bind fun y1 => some (decide (y1 ≥ 0))
noncomputable def slices_ContainsFunc_entry_Entry (N : Nat) (x0 : (List entry_Entry)) (x1 : (entry_Entry → Option Bool)) : Option Bool := slices_ContainsFunc_entry_Entry.b N x0 x1
noncomputable def slices_ContainsFunc_entry_Entry.con (N : Nat) : Con := ⟨[.d (.sc (.sl V_entry_Entry)), .d (.sc (.fn (.cons V_entry_Entry .nil) (.cons (.sc .bool) .nil)))], [.d (.sc .bool)], fun z => slices_ContainsFunc_entry_Entry N z.1 z.2.1⟩
-- pigeonhole/addr.And
noncomputable def addr_And.b (N : Nat) (x0 : addr_Addr) (x1 : addr_Addr) : Option addr_Addr :=
  some ((b_and .u64 x0.1 x1.1), (b_and .u64 x0.2 x1.2))
noncomputable def addr_And (N : Nat) (x0 : addr_Addr) (x1 : addr_Addr) : Option addr_Addr := addr_And.b N x0 x1
noncomputable def addr_And.con (N : Nat) : Con := ⟨[.d V_addr_Addr, .d V_addr_Addr], [.d V_addr_Addr], fun z => addr_And N z.1 z.2.1⟩
-- pigeonhole/addr.Xor
noncomputable def addr_Xor.b (N : Nat) (x0 : addr_Addr) (x1 : addr_Addr) : Option addr_Addr :=
  some ((b_xor .u64 x0.1 x1.1), (b_xor .u64 x0.2 x1.2))
noncomputable def addr_Xor (N : Nat) (x0 : addr_Addr) (x1 : addr_Addr) : Option addr_Addr := addr_Xor.b N x0 x1
noncomputable def addr_Xor.con (N : Nat) : Con := ⟨[.d V_addr_Addr, .d V_addr_Addr], [.d V_addr_Addr], fun z => addr_Xor N z.1 z.2.1⟩
-- pigeonhole/word.differ
noncomputable def word_differ.b (N : Nat) (x0 : addr_Addr) (x1 : addr_Addr) (x2 : addr_Addr) : Option addr_Addr :=
  (addr_Xor N x0 x1).bind fun y1 => (addr_And N y1 x2).bind fun y2 => some y2
noncomputable def word_differ (N : Nat) (x0 : addr_Addr) (x1 : addr_Addr) (x2 : addr_Addr) : Option addr_Addr := word_differ.b N x0 x1 x2
noncomputable def word_differ.con (N : Nat) : Con := ⟨[.d V_addr_Addr, .d V_addr_Addr, .d V_addr_Addr], [.d V_addr_Addr], fun z => word_differ N z.1 z.2.1 z.2.2.1⟩
-- pigeonhole/word.Meet
noncomputable def word_Meet.b (N : Nat) (x0 : word_Word) (x1 : word_Word) : Option Bool :=
  (addr_And N x0.2.2 x1.2.2).bind fun y1 => (word_differ N (x0.1, x0.2.1) (x1.1, x1.2.1) y1).bind fun y2 => some (eqI y2.1 0 (eqI y2.2 0 true))
noncomputable def word_Meet (N : Nat) (x0 : word_Word) (x1 : word_Word) : Option Bool := word_Meet.b N x0 x1
noncomputable def word_Meet.con (N : Nat) : Con := ⟨[.d V_word_Word, .d V_word_Word], [.d (.sc .bool)], fun z => word_Meet N z.1 z.2.1⟩
-- pigeonhole/entry.Above
noncomputable def entry_Above.b (N : Nat) (x0 : entry_Entry) (x1 : entry_Entry) : Option Bool :=
  (cond (decide (x0.2.2.2.2.1 > x1.2.2.2.2.1)) ((word_Meet N (x0.1, x0.2.1, x0.2.2.1, x0.2.2.2.1) (x1.1, x1.2.1, x1.2.2.1, x1.2.2.2.1)).bind fun y1 => some y1) (some false)).bind fun v2 => some v2
noncomputable def entry_Above (N : Nat) (x0 : entry_Entry) (x1 : entry_Entry) : Option Bool := entry_Above.b N x0 x1
noncomputable def entry_Above.con (N : Nat) : Con := ⟨[.d V_entry_Entry, .d V_entry_Entry], [.d (.sc .bool)], fun z => entry_Above N z.1 z.2.1⟩
-- pigeonhole/entry.Ordered$1
noncomputable def entry_Ordered_1.b (N : Nat) (x0 : entry_Entry) (x1 : (Int × Int × Int × Int × Int × Int)) : Option Bool :=
  (entry_Above N x1 x0).bind fun y1 => some y1
noncomputable def entry_Ordered_1 (N : Nat) (x0 : entry_Entry) (x1 : (Int × Int × Int × Int × Int × Int)) : Option Bool := entry_Ordered_1.b N x0 x1
noncomputable def entry_Ordered_1.con (N : Nat) : Con := ⟨[.d V_entry_Entry, .ref (.cons (.int .u64) (.cons (.int .u64) (.cons (.int .u64) (.cons (.int .u64) (.cons (.int .i64) (.cons (.int .i64) .nil))))))], [.d (.sc .bool)], fun z => entry_Ordered_1 N z.1 z.2.1⟩
-- pigeonhole/entry.Ordered
noncomputable def entry_Ordered.l0s (N : Nat) (S0 : (List entry_Entry) → Int → Option Bool) : (List entry_Entry) → Int → Option Bool := fun (x0 : (List entry_Entry)) (p0_t_7_0 : Int) =>
  cond (decide (p0_t_7_0 < ((List.length x0 : Nat) : Int))) ((idx x0 p0_t_7_0).bind fun y1 => grd (decide (0 ≤ 0)) (grd (decide (0 ≤ p0_t_7_0)) (grd (decide (p0_t_7_0 ≤ ((List.length x0 : Nat) : Int))) ((slices_ContainsFunc_entry_Entry N (List.drop (Int.toNat 0) (List.take (Int.toNat p0_t_7_0) x0)) (fun a2 => (entry_Ordered_1 N a2 y1).bind fun c3 => some c3)).bind fun y4 => cond y4 (some false) (S0 x0 (w_i64 (p0_t_7_0 + 1))))))) (some true)
noncomputable def entry_Ordered.l0 (N : Nat) : Nat → (List entry_Entry) → Int → Option Bool
  | 0 => fun _ _ => none
  | n + 1 => entry_Ordered.l0s N (entry_Ordered.l0 N n)
noncomputable def entry_Ordered.b (N : Nat) (L0 : (List entry_Entry) → Int → Option Bool) (x0 : (List entry_Entry)) : Option Bool :=
  L0 x0 0
noncomputable def entry_Ordered (N : Nat) (x0 : (List entry_Entry)) : Option Bool := entry_Ordered.b N (entry_Ordered.l0 N N) x0
noncomputable def entry_Ordered.con (N : Nat) : Con := ⟨[.d (.sc (.sl V_entry_Entry))], [.d (.sc .bool)], fun z => entry_Ordered N z.1⟩
-- pigeonhole/cao.Kept
noncomputable def cao_Kept.b (N : Nat) (x0 : (List bank_Slot)) : Option Bool :=
  (bank_Entries N x0).bind fun y1 => (entry_Ordered N y1).bind fun y2 => some y2
noncomputable def cao_Kept (N : Nat) (x0 : (List bank_Slot)) : Option Bool := cao_Kept.b N x0
noncomputable def cao_Kept.con (N : Nat) : Con := ⟨[.d (.sc (.sl V_bank_Slot))], [.d (.sc .bool)], fun z => cao_Kept N z.1⟩
-- pigeonhole/addr.Mask
noncomputable def addr_Mask.b (N : Nat) (x0 : Int) : Option addr_Addr :=
  grd (decide (0 ≤ (minI (maxI (w_i64 ((minI (maxI x0 0) 128) - 0)) 0) 64))) (grd (decide (0 ≤ (minI (maxI (w_i64 ((minI (maxI x0 0) 128) - 64)) 0) 64))) (some ((b_not .u64 (b_shr .u64 18446744073709551615 (minI (maxI (w_i64 ((minI (maxI x0 0) 128) - 0)) 0) 64))), (b_not .u64 (b_shr .u64 18446744073709551615 (minI (maxI (w_i64 ((minI (maxI x0 0) 128) - 64)) 0) 64))))))
noncomputable def addr_Mask (N : Nat) (x0 : Int) : Option addr_Addr := addr_Mask.b N x0
noncomputable def addr_Mask.con (N : Nat) : Con := ⟨[.d (.sc (.int .i64))], [.d V_addr_Addr], fun z => addr_Mask N z.1⟩
-- pigeonhole/addr.Cut
noncomputable def addr_Cut.b (N : Nat) (x0 : addr_Addr) (x1 : Int) : Option addr_Addr :=
  (addr_Mask N x1).bind fun y1 => (addr_And N x0 y1).bind fun y2 => some y2
noncomputable def addr_Cut (N : Nat) (x0 : addr_Addr) (x1 : Int) : Option addr_Addr := addr_Cut.b N x0 x1
noncomputable def addr_Cut.con (N : Nat) : Con := ⟨[.d V_addr_Addr, .d (.sc (.int .i64))], [.d V_addr_Addr], fun z => addr_Cut N z.1 z.2.1⟩
-- pigeonhole/prefix.Make
noncomputable def prefix_Make.b (N : Nat) (x0 : addr_Addr) (x1 : Int) : Option prefix_Prefix :=
  (addr_Cut N x0 (minI (maxI x1 0) 128)).bind fun y1 => some (y1.1, y1.2, (minI (maxI x1 0) 128))
noncomputable def prefix_Make (N : Nat) (x0 : addr_Addr) (x1 : Int) : Option prefix_Prefix := prefix_Make.b N x0 x1
noncomputable def prefix_Make.con (N : Nat) : Con := ⟨[.d V_addr_Addr, .d (.sc (.int .i64))], [.d V_prefix_Prefix], fun z => prefix_Make N z.1 z.2.1⟩
-- pigeonhole/word.Of
noncomputable def word_Of.b (N : Nat) (x0 : prefix_Prefix) : Option word_Word :=
  (prefix_Make N (x0.1, x0.2.1) x0.2.2).bind fun y1 => (addr_Mask N y1.2.2).bind fun y2 => some (y1.1, y1.2.1, y2.1, y2.2)
noncomputable def word_Of (N : Nat) (x0 : prefix_Prefix) : Option word_Word := word_Of.b N x0
noncomputable def word_Of.con (N : Nat) : Con := ⟨[.d V_prefix_Prefix], [.d V_word_Word], fun z => word_Of N z.1⟩
-- pigeonhole/entry.Of
noncomputable def entry_Of.b (N : Nat) (x0 : prefix_Prefix) (x1 : Int) : Option entry_Entry :=
  (word_Of N x0).bind fun y1 => (prefix_Make N (x0.1, x0.2.1) x0.2.2).bind fun y2 => some (y1.1, y1.2.1, y1.2.2.1, y1.2.2.2, y2.2.2, x1)
noncomputable def entry_Of (N : Nat) (x0 : prefix_Prefix) (x1 : Int) : Option entry_Entry := entry_Of.b N x0 x1
noncomputable def entry_Of.con (N : Nat) : Con := ⟨[.d V_prefix_Prefix, .d (.sc (.int .i64))], [.d V_entry_Entry], fun z => entry_Of N z.1 z.2.1⟩
-- pigeonhole/pigeonholelaw13.slot
noncomputable def law13_slot.b (N : Nat) (x0 : Int) : Option bank_Slot :=
  (prefix_Make N (720857415355990016, 0) x0).bind fun y1 => (entry_Of N y1 1).bind fun y2 => some (true, y2.1, y2.2.1, y2.2.2.1, y2.2.2.2.1, y2.2.2.2.2.1, y2.2.2.2.2.2)
noncomputable def law13_slot (N : Nat) (x0 : Int) : Option bank_Slot := law13_slot.b N x0
noncomputable def law13_slot.con (N : Nat) : Con := ⟨[.d (.sc (.int .i64))], [.d V_bank_Slot], fun z => law13_slot N z.1⟩
-- pigeonhole/cao.highest
noncomputable def cao_highest.l0s (N : Nat) (S0 : (List bank_Slot) → entry_Entry → Int → Option Int) : (List bank_Slot) → entry_Entry → Int → Option Int := fun (x0 : (List bank_Slot)) (x2 : entry_Entry) (p0_t_7_0 : Int) =>
  cond (decide (p0_t_7_0 ≥ 0)) ((idx x0 p0_t_7_0).bind fun y1 => (cond y1.1 ((idx x0 p0_t_7_0).bind fun y2 => (entry_Above N y2.2 x2).bind fun y3 => some y3) (some false)).bind fun v4 => cond v4 (some p0_t_7_0) (S0 x0 x2 (w_i64 (p0_t_7_0 - 1)))) (some (-1))
noncomputable def cao_highest.l0 (N : Nat) : Nat → (List bank_Slot) → entry_Entry → Int → Option Int
  | 0 => fun _ _ _ => none
  | n + 1 => cao_highest.l0s N (cao_highest.l0 N n)
noncomputable def cao_highest.b (N : Nat) (L0 : (List bank_Slot) → entry_Entry → Int → Option Int) (x0 : (List bank_Slot)) (x1 : Int) (x2 : entry_Entry) : Option Int :=
  L0 x0 x2 (w_i64 (x1 - 1))
noncomputable def cao_highest (N : Nat) (x0 : (List bank_Slot)) (x1 : Int) (x2 : entry_Entry) : Option Int := cao_highest.b N (cao_highest.l0 N N) x0 x1 x2
noncomputable def cao_highest.con (N : Nat) : Con := ⟨[.d (.sc (.sl V_bank_Slot)), .d (.sc (.int .i64)), .d V_entry_Entry], [.d (.sc (.int .i64))], fun z => cao_highest N z.1 z.2.1 z.2.2.1⟩
-- pigeonhole/cao.lowest
noncomputable def cao_lowest.l0s (N : Nat) (S0 : (List bank_Slot) → entry_Entry → Int → Option Int) : (List bank_Slot) → entry_Entry → Int → Option Int := fun (x0 : (List bank_Slot)) (x2 : entry_Entry) (p0_t_7_0 : Int) =>
  cond (decide (p0_t_7_0 < ((List.length x0 : Nat) : Int))) ((idx x0 p0_t_7_0).bind fun y1 => (cond y1.1 ((idx x0 p0_t_7_0).bind fun y2 => (entry_Above N x2 y2.2).bind fun y3 => some y3) (some false)).bind fun v4 => cond v4 (some p0_t_7_0) (S0 x0 x2 (w_i64 (p0_t_7_0 + 1)))) (some ((List.length x0 : Nat) : Int))
noncomputable def cao_lowest.l0 (N : Nat) : Nat → (List bank_Slot) → entry_Entry → Int → Option Int
  | 0 => fun _ _ _ => none
  | n + 1 => cao_lowest.l0s N (cao_lowest.l0 N n)
noncomputable def cao_lowest.b (N : Nat) (L0 : (List bank_Slot) → entry_Entry → Int → Option Int) (x0 : (List bank_Slot)) (x1 : Int) (x2 : entry_Entry) : Option Int :=
  L0 x0 x2 x1
noncomputable def cao_lowest (N : Nat) (x0 : (List bank_Slot)) (x1 : Int) (x2 : entry_Entry) : Option Int := cao_lowest.b N (cao_lowest.l0 N N) x0 x1 x2
noncomputable def cao_lowest.con (N : Nat) : Con := ⟨[.d (.sc (.sl V_bank_Slot)), .d (.sc (.int .i64)), .d V_entry_Entry], [.d (.sc (.int .i64))], fun z => cao_lowest N z.1 z.2.1 z.2.2.1⟩
-- pigeonhole/cao.Gap
noncomputable def cao_Gap.b (N : Nat) (x0 : (List bank_Slot)) (x1 : entry_Entry) : Option (Int × Int) :=
  (cao_highest N x0 ((List.length x0 : Nat) : Int) x1).bind fun y1 => (cao_lowest N x0 0 x1).bind fun y2 => some ((w_i64 (y1 + 1)), y2)
noncomputable def cao_Gap (N : Nat) (x0 : (List bank_Slot)) (x1 : entry_Entry) : Option (Int × Int) := cao_Gap.b N x0 x1
noncomputable def cao_Gap.con (N : Nat) : Con := ⟨[.d (.sc (.sl V_bank_Slot)), .d V_entry_Entry], [.d (.sc (.int .i64)), .d (.sc (.int .i64))], fun z => cao_Gap N z.1 z.2.1⟩
-- pigeonhole/word.clean
noncomputable def word_clean.b (N : Nat) (x0 : word_Word) : Option word_Word :=
  (addr_And N (x0.1, x0.2.1) x0.2.2).bind fun y1 => some (y1.1, y1.2, x0.2.2.1, x0.2.2.2)
noncomputable def word_clean (N : Nat) (x0 : word_Word) : Option word_Word := word_clean.b N x0
noncomputable def word_clean.con (N : Nat) : Con := ⟨[.d V_word_Word], [.d V_word_Word], fun z => word_clean N z.1⟩
-- pigeonhole/word.Right
noncomputable def word_Right.b (N : Nat) (x0 : word_Word) : Option Bool :=
  (word_clean N x0).bind fun y1 => some (eqI x0.1 y1.1 (eqI x0.2.1 y1.2.1 (eqI x0.2.2.1 y1.2.2.1 (eqI x0.2.2.2 y1.2.2.2 true))))
noncomputable def word_Right (N : Nat) (x0 : word_Word) : Option Bool := word_Right.b N x0
noncomputable def word_Right.con (N : Nat) : Con := ⟨[.d V_word_Word], [.d (.sc .bool)], fun z => word_Right N z.1⟩
-- pigeonhole/entry.Right
noncomputable def entry_Right.b (N : Nat) (x0 : entry_Entry) : Option Bool :=
  (word_Right N (x0.1, x0.2.1, x0.2.2.1, x0.2.2.2.1)).bind fun y1 => (cond y1 (some (decide (x0.2.2.2.2.1 ≥ 0))) (some false)).bind fun v2 => (cond v2 (some (decide (x0.2.2.2.2.1 ≤ 128))) (some false)).bind fun v3 => (cond v3 (some (decide (x0.2.2.2.2.2 ≥ 1))) (some false)).bind fun v4 => (cond v4 (some (decide (x0.2.2.2.2.2 ≤ 255))) (some false)).bind fun v5 => some v5
noncomputable def entry_Right (N : Nat) (x0 : entry_Entry) : Option Bool := entry_Right.b N x0
noncomputable def entry_Right.con (N : Nat) : Con := ⟨[.d V_entry_Entry], [.d (.sc .bool)], fun z => entry_Right N z.1⟩
-- pigeonhole/cao.empty
noncomputable def cao_empty.l0s (N : Nat) (S0 : (List bank_Slot) → Int → Bool → Int → Int → Option Int) : (List bank_Slot) → Int → Bool → Int → Int → Option Int := fun (x0 : (List bank_Slot)) (x2 : Int) (x3 : Bool) (p0_t_9_0 : Int) (p0_t_10_0 : Int) =>
  cond (decide (p0_t_10_0 < x2)) ((idx x0 p0_t_10_0).bind fun y1 => (cond (!y1.1) ((cond (decide (p0_t_9_0 < 0)) (some true) (some x3)).bind fun v2 => some v2) (some false)).bind fun v3 => cond v3 (S0 x0 x2 x3 p0_t_10_0 (w_i64 (p0_t_10_0 + 1))) (S0 x0 x2 x3 p0_t_9_0 (w_i64 (p0_t_10_0 + 1)))) (some p0_t_9_0)
noncomputable def cao_empty.l0 (N : Nat) : Nat → (List bank_Slot) → Int → Bool → Int → Int → Option Int
  | 0 => fun _ _ _ _ _ => none
  | n + 1 => cao_empty.l0s N (cao_empty.l0 N n)
noncomputable def cao_empty.b (N : Nat) (L0 : (List bank_Slot) → Int → Bool → Int → Int → Option Int) (x0 : (List bank_Slot)) (x1 : Int) (x2 : Int) (x3 : Bool) : Option Int :=
  L0 x0 x2 x3 (-1) x1
noncomputable def cao_empty (N : Nat) (x0 : (List bank_Slot)) (x1 : Int) (x2 : Int) (x3 : Bool) : Option Int := cao_empty.b N (cao_empty.l0 N N) x0 x1 x2 x3
noncomputable def cao_empty.con (N : Nat) : Con := ⟨[.d (.sc (.sl V_bank_Slot)), .d (.sc (.int .i64)), .d (.sc (.int .i64)), .d (.sc .bool)], [.d (.sc (.int .i64))], fun z => cao_empty N z.1 z.2.1 z.2.2.1 z.2.2.2.1⟩
-- pigeonhole/cao.writes
noncomputable def cao_writes.l0s (N : Nat) (S0 : (List bank_Slot) → (List Int) → entry_Entry → Int → (List bank_Write) → Option (List bank_Write)) : (List bank_Slot) → (List Int) → entry_Entry → Int → (List bank_Write) → Option (List bank_Write) := fun (x0 : (List bank_Slot)) (x1 : (List Int)) (x2 : entry_Entry) (p0_t_8_0 : Int) (p0_b_7 : (List bank_Write)) =>
  cond (decide (p0_t_8_0 > 0)) ((idx x1 p0_t_8_0).bind fun y1 => (idx x1 (w_i64 (p0_t_8_0 - 1))).bind fun y2 => (idx x0 y2).bind fun y3 => grd (decide ((List.length p0_b_7 + List.length ([(y1, y3.1, y3.2.1, y3.2.2.1, y3.2.2.2.1, y3.2.2.2.2.1, y3.2.2.2.2.2.1, y3.2.2.2.2.2.2)])) * 64 ≤ room)) (S0 x0 x1 x2 (w_i64 (p0_t_8_0 - 1)) (p0_b_7 ++ [(y1, y3.1, y3.2.1, y3.2.2.1, y3.2.2.2.1, y3.2.2.2.2.1, y3.2.2.2.2.2.1, y3.2.2.2.2.2.2)]))) ((idx x1 0).bind fun y4 => grd (decide ((List.length p0_b_7 + List.length ([(y4, true, x2.1, x2.2.1, x2.2.2.1, x2.2.2.2.1, x2.2.2.2.2.1, x2.2.2.2.2.2)])) * 64 ≤ room)) (some (p0_b_7 ++ [(y4, true, x2.1, x2.2.1, x2.2.2.1, x2.2.2.2.1, x2.2.2.2.2.1, x2.2.2.2.2.2)])))
noncomputable def cao_writes.l0 (N : Nat) : Nat → (List bank_Slot) → (List Int) → entry_Entry → Int → (List bank_Write) → Option (List bank_Write)
  | 0 => fun _ _ _ _ _ => none
  | n + 1 => cao_writes.l0s N (cao_writes.l0 N n)
noncomputable def cao_writes.b (N : Nat) (L0 : (List bank_Slot) → (List Int) → entry_Entry → Int → (List bank_Write) → Option (List bank_Write)) (x0 : (List bank_Slot)) (x1 : (List Int)) (x2 : entry_Entry) : Option (List bank_Write) :=
  L0 x0 x1 x2 (w_i64 (((List.length x1 : Nat) : Int) - 1)) ([] : List bank_Write)
noncomputable def cao_writes (N : Nat) (x0 : (List bank_Slot)) (x1 : (List Int)) (x2 : entry_Entry) : Option (List bank_Write) := cao_writes.b N (cao_writes.l0 N N) x0 x1 x2
noncomputable def cao_writes.con (N : Nat) : Con := ⟨[.d (.sc (.sl V_bank_Slot)), .d (.sc (.sl (.sc (.int .i64)))), .d V_entry_Entry], [.fresh V_bank_Write], fun z => cao_writes N z.1 z.2.1 z.2.2.1⟩
-- pigeonhole/cao.walk
noncomputable def cao_walk.l0s (N : Nat) (S0 : (List bank_Slot) → (Int → Option (Int × Int)) → Int → (List Int) → Option (List Int)) : (List bank_Slot) → (Int → Option (Int × Int)) → Int → (List Int) → Option (List Int) := fun (x0 : (List bank_Slot)) (x2 : (Int → Option (Int × Int))) (p0_t_1_0 : Int) (p0_b_7 : (List Int)) =>
  (cond (decide (p0_t_1_0 ≥ 0)) (some (decide (p0_t_1_0 < ((List.length x0 : Nat) : Int)))) (some false)).bind fun v1 => cond v1 (grd (decide ((List.length p0_b_7 + List.length ([p0_t_1_0])) * 8 ≤ room)) ((x2 p0_t_1_0).bind fun y2 => cond (decide (y2.2 ≥ 0)) (grd (decide ((List.length (p0_b_7 ++ [p0_t_1_0]) + List.length ([y2.2])) * 8 ≤ room)) (some ((p0_b_7 ++ [p0_t_1_0]) ++ [y2.2]))) (S0 x0 x2 y2.1 (p0_b_7 ++ [p0_t_1_0])))) (some ([] : List Int))
noncomputable def cao_walk.l0 (N : Nat) : Nat → (List bank_Slot) → (Int → Option (Int × Int)) → Int → (List Int) → Option (List Int)
  | 0 => fun _ _ _ _ => none
  | n + 1 => cao_walk.l0s N (cao_walk.l0 N n)
noncomputable def cao_walk.b (N : Nat) (L0 : (List bank_Slot) → (Int → Option (Int × Int)) → Int → (List Int) → Option (List Int)) (x0 : (List bank_Slot)) (x1 : Int) (x2 : (Int → Option (Int × Int))) : Option (List Int) :=
  L0 x0 x2 x1 ([] : List Int)
noncomputable def cao_walk (N : Nat) (x0 : (List bank_Slot)) (x1 : Int) (x2 : (Int → Option (Int × Int))) : Option (List Int) := cao_walk.b N (cao_walk.l0 N N) x0 x1 x2
noncomputable def cao_walk.con (N : Nat) : Con := ⟨[.d (.sc (.sl V_bank_Slot)), .d (.sc (.int .i64)), .d (.sc (.fn (.cons (.sc (.int .i64)) .nil) (.cons (.sc (.int .i64)) (.cons (.sc (.int .i64)) .nil))))], [.fresh (.sc (.int .i64))], fun z => cao_walk N z.1 z.2.1 z.2.2.1⟩
-- pigeonhole/cao.Insert$1
noncomputable def cao_Insert_1.b (N : Nat) (x0 : Int) (x1 : (List bank_Slot)) : Option (Int × Int) :=
  (idx x1 x0).bind fun y1 => (cao_lowest N x1 (w_i64 (x0 + 1)) y1.2).bind fun y2 => (cao_empty N x1 (w_i64 (x0 + 1)) y2 false).bind fun y3 => some (y2, y3)
noncomputable def cao_Insert_1 (N : Nat) (x0 : Int) (x1 : (List bank_Slot)) : Option (Int × Int) := cao_Insert_1.b N x0 x1
noncomputable def cao_Insert_1.con (N : Nat) : Con := ⟨[.d (.sc (.int .i64)), .ref (.cons (.sl V_bank_Slot) .nil)], [.d (.sc (.int .i64)), .d (.sc (.int .i64))], fun z => cao_Insert_1 N z.1 z.2.1⟩
-- pigeonhole/cao.Insert$2
noncomputable def cao_Insert_2.b (N : Nat) (x0 : Int) (x1 : (List bank_Slot)) : Option (Int × Int) :=
  (idx x1 x0).bind fun y1 => (cao_highest N x1 x0 y1.2).bind fun y2 => (cao_empty N x1 (w_i64 (y2 + 1)) x0 true).bind fun y3 => some (y2, y3)
noncomputable def cao_Insert_2 (N : Nat) (x0 : Int) (x1 : (List bank_Slot)) : Option (Int × Int) := cao_Insert_2.b N x0 x1
noncomputable def cao_Insert_2.con (N : Nat) : Con := ⟨[.d (.sc (.int .i64)), .ref (.cons (.sl V_bank_Slot) .nil)], [.d (.sc (.int .i64)), .d (.sc (.int .i64))], fun z => cao_Insert_2 N z.1 z.2.1⟩
-- pigeonhole/cao.Insert
noncomputable def cao_Insert.b (N : Nat) (x0 : (List bank_Slot)) (x1 : entry_Entry) : Option ((List bank_Write) × Int) :=
  (cao_Gap N x0 x1).bind fun y1 => (entry_Right N x1).bind fun y2 => cond (!y2) (some (([] : List bank_Write), 1)) ((cao_Kept N x0).bind fun y3 => (cond (!y3) (some true) (some (decide (y1.2 < y1.1)))).bind fun v4 => cond v4 (some (([] : List bank_Write), 7)) ((cao_empty N x0 y1.1 y1.2 false).bind fun y5 => cond (decide (y5 ≥ 0)) ((cao_writes N x0 ([y5]) x1).bind fun y6 => some (y6, 0)) ((cao_walk N x0 y1.2 (fun a7 => (cao_Insert_1 N a7 x0).bind fun c8 => some c8)).bind fun y9 => (cao_walk N x0 (w_i64 (y1.1 - 1)) (fun a10 => (cao_Insert_2 N a10 x0).bind fun c11 => some c11)).bind fun y12 => cond ((w_i64 (((List.length y9 : Nat) : Int) + ((List.length y12 : Nat) : Int))) == 0) (some (([] : List bank_Write), 3)) ((cond (((List.length y9 : Nat) : Int) == 0) (some true) ((cond (decide (((List.length y12 : Nat) : Int) > 0)) (some (decide (((List.length y12 : Nat) : Int) < ((List.length y9 : Nat) : Int)))) (some false)).bind fun v13 => some v13)).bind fun v14 => cond v14 ((cao_writes N x0 y12 x1).bind fun y15 => some (y15, 0)) ((cao_writes N x0 y9 x1).bind fun y16 => some (y16, 0))))))
noncomputable def cao_Insert (N : Nat) (x0 : (List bank_Slot)) (x1 : entry_Entry) : Option ((List bank_Write) × Int) := cao_Insert.b N x0 x1
noncomputable def cao_Insert.con (N : Nat) : Con := ⟨[.d (.sc (.sl V_bank_Slot)), .d V_entry_Entry], [.fresh V_bank_Write, .d (.sc (.int .i64))], fun z => cao_Insert N z.1 z.2.1⟩
-- cmp.Or[int]
noncomputable def cmp_Or_int.l0s (N : Nat) (S0 : (List Int) → Int → Option Int) : (List Int) → Int → Option Int := fun (x0 : (List Int)) (p0_t_8_0 : Int) =>
  cond (decide (p0_t_8_0 < ((List.length x0 : Nat) : Int))) ((idx x0 p0_t_8_0).bind fun y1 => cond (y1 != 0) (some y1) (S0 x0 (w_i64 (p0_t_8_0 + 1)))) (some 0)
noncomputable def cmp_Or_int.l0 (N : Nat) : Nat → (List Int) → Int → Option Int
  | 0 => fun _ _ => none
  | n + 1 => cmp_Or_int.l0s N (cmp_Or_int.l0 N n)
noncomputable def cmp_Or_int.b (N : Nat) (L0 : (List Int) → Int → Option Int) (x0 : (List Int)) : Option Int :=
  L0 x0 0
noncomputable def cmp_Or_int (N : Nat) (x0 : (List Int)) : Option Int := cmp_Or_int.b N (cmp_Or_int.l0 N N) x0
noncomputable def cmp_Or_int.con (N : Nat) : Con := ⟨[.d (.sc (.sl (.sc (.int .i64))))], [.d (.sc (.int .i64))], fun z => cmp_Or_int N z.1⟩
-- pigeonhole/addr.Compare
noncomputable def addr_Compare.b (N : Nat) (x0 : addr_Addr) (x1 : addr_Addr) : Option Int :=
  cond (decide (x0.1 < x1.1)) (some (-1)) (cond (decide (x0.1 > x1.1)) (some 1) (cond (decide (x0.2 < x1.2)) (some (-1)) (cond (decide (x0.2 > x1.2)) (some 1) (some 0))))
noncomputable def addr_Compare (N : Nat) (x0 : addr_Addr) (x1 : addr_Addr) : Option Int := addr_Compare.b N x0 x1
noncomputable def addr_Compare.con (N : Nat) : Con := ⟨[.d V_addr_Addr, .d V_addr_Addr], [.d (.sc (.int .i64))], fun z => addr_Compare N z.1 z.2.1⟩
-- pigeonhole/entry.Compare
noncomputable def entry_Compare.b (N : Nat) (x0 : entry_Entry) (x1 : entry_Entry) : Option Int :=
  (cmp_Compare_int N x1.2.2.2.2.1 x0.2.2.2.2.1).bind fun y1 => (addr_Compare N (x0.1, x0.2.1) (x1.1, x1.2.1)).bind fun y2 => (addr_Compare N (x0.2.2.1, x0.2.2.2.1) (x1.2.2.1, x1.2.2.2.1)).bind fun y3 => (cmp_Compare_int N x0.2.2.2.2.2 x1.2.2.2.2.2).bind fun y4 => (cmp_Or_int N ([y1, y2, y3, y4])).bind fun y5 => some y5
noncomputable def entry_Compare (N : Nat) (x0 : entry_Entry) (x1 : entry_Entry) : Option Int := entry_Compare.b N x0 x1
noncomputable def entry_Compare.con (N : Nat) : Con := ⟨[.d V_entry_Entry, .d V_entry_Entry], [.d (.sc (.int .i64))], fun z => entry_Compare N z.1 z.2.1⟩
-- pigeonhole/cao.Chain
noncomputable def cao_Chain.l0s (N : Nat) (L1 : (List entry_Entry) → Int → Int → entry_Entry → Int → (List Int) → Option Int) (S0 : (List entry_Entry) → Int → Int → (List Int) → Option Int) : (List entry_Entry) → Int → Int → (List Int) → Option Int := fun (y1 : (List entry_Entry)) (p0_t_5_0 : Int) (p0_t_17_0 : Int) (p0_b_14 : (List Int)) =>
  cond (decide (p0_t_17_0 < ((List.length y1 : Nat) : Int))) ((idx y1 p0_t_17_0).bind fun y2 => (idx p0_b_14 p0_t_17_0).bind fun y3 => grd (decide (0 ≤ 0)) (grd (decide (0 ≤ p0_t_17_0)) (grd (decide (p0_t_17_0 ≤ ((List.length y1 : Nat) : Int))) (L1 y1 p0_t_5_0 p0_t_17_0 y2 0 (List.set p0_b_14 (Int.toNat p0_t_17_0) 1))))) (some p0_t_5_0)
noncomputable def cao_Chain.l1s (N : Nat) (S0 : (List entry_Entry) → Int → Int → (List Int) → Option Int) (S1 : (List entry_Entry) → Int → Int → entry_Entry → Int → (List Int) → Option Int) : (List entry_Entry) → Int → Int → entry_Entry → Int → (List Int) → Option Int := fun (y1 : (List entry_Entry)) (p0_t_5_0 : Int) (p0_t_17_0 : Int) (y2 : entry_Entry) (p1_t_29_0 : Int) (p1_b_14 : (List Int)) =>
  cond (decide (p1_t_29_0 < ((List.length (List.drop (Int.toNat 0) (List.take (Int.toNat p0_t_17_0) y1)) : Nat) : Int))) ((idx (List.drop (Int.toNat 0) (List.take (Int.toNat p0_t_17_0) y1)) p1_t_29_0).bind fun y4 => (entry_Above N y4 y2).bind fun y5 => cond y5 ((idx p1_b_14 p0_t_17_0).bind fun y6 => (idx p1_b_14 p1_t_29_0).bind fun y7 => (idx p1_b_14 p0_t_17_0).bind fun y8 => S1 y1 p0_t_5_0 p0_t_17_0 y2 (w_i64 (p1_t_29_0 + 1)) (List.set p1_b_14 (Int.toNat p0_t_17_0) (maxI y6 (w_i64 (y7 + 1))))) (S1 y1 p0_t_5_0 p0_t_17_0 y2 (w_i64 (p1_t_29_0 + 1)) p1_b_14)) ((idx p1_b_14 p0_t_17_0).bind fun y9 => S0 y1 (maxI p0_t_5_0 y9) (w_i64 (p0_t_17_0 + 1)) p1_b_14)
noncomputable def cao_Chain.l1 (N : Nat) (S0 : (List entry_Entry) → Int → Int → (List Int) → Option Int) : Nat → (List entry_Entry) → Int → Int → entry_Entry → Int → (List Int) → Option Int
  | 0 => fun _ _ _ _ _ _ => none
  | n + 1 => cao_Chain.l1s N S0 (cao_Chain.l1 N S0 n)
noncomputable def cao_Chain.l0 (N : Nat) : Nat → (List entry_Entry) → Int → Int → (List Int) → Option Int
  | 0 => fun _ _ _ _ => none
  | n + 1 => cao_Chain.l0s N (cao_Chain.l1 N (cao_Chain.l0 N n) N) (cao_Chain.l0 N n)
noncomputable def cao_Chain.b (N : Nat) (L0 : (List entry_Entry) → Int → Int → (List Int) → Option Int) (x0 : (List entry_Entry)) : Option Int :=
  (sortE x0).bind fun y1 => grd (decide (0 ≤ ((List.length y1 : Nat) : Int))) (grd (((List.length y1 : Nat) : Int) == ((List.length y1 : Nat) : Int)) (grd (decide ((Int.toNat ((List.length y1 : Nat) : Int)) * 8 ≤ room)) (L0 y1 0 0 (List.replicate (Int.toNat ((List.length y1 : Nat) : Int)) 0))))
noncomputable def cao_Chain (N : Nat) (x0 : (List entry_Entry)) : Option Int := cao_Chain.b N (cao_Chain.l0 N N) x0
noncomputable def cao_Chain.con (N : Nat) : Con := ⟨[.d (.sc (.sl V_entry_Entry))], [.d (.sc (.int .i64))], fun z => cao_Chain N z.1⟩
-- pigeonhole/pigeonholelaw13.awake
noncomputable def law13_awake.b (N : Nat) : Option Bool :=
  (law13_slot N 8).bind fun y1 => (law13_slot N 0).bind fun y2 => (law13_slot N 16).bind fun y3 => (cao_Insert N ([y1, y2, (false, 0, 0, 0, 0, 0, 0)]) y3.2).bind fun y4 => (cond (y4.2 == 0) (some (((List.length y4.1 : Nat) : Int) == 3)) (some false)).bind fun v5 => (cond v5 ((idx y4.1 0).bind fun y6 => (law13_slot N 0).bind fun y7 => some (eqI y6.1 2 (eqB y6.2.1 y7.1 (eqI y6.2.2.1 y7.2.1 (eqI y6.2.2.2.1 y7.2.2.1 (eqI y6.2.2.2.2.1 y7.2.2.2.1 (eqI y6.2.2.2.2.2.1 y7.2.2.2.2.1 (eqI y6.2.2.2.2.2.2.1 y7.2.2.2.2.2.1 (eqI y6.2.2.2.2.2.2.2 y7.2.2.2.2.2.2 true))))))))) (some false)).bind fun v8 => (cond v8 ((idx y4.1 1).bind fun y9 => (law13_slot N 8).bind fun y10 => some (eqI y9.1 1 (eqB y9.2.1 y10.1 (eqI y9.2.2.1 y10.2.1 (eqI y9.2.2.2.1 y10.2.2.1 (eqI y9.2.2.2.2.1 y10.2.2.2.1 (eqI y9.2.2.2.2.2.1 y10.2.2.2.2.1 (eqI y9.2.2.2.2.2.2.1 y10.2.2.2.2.2.1 (eqI y9.2.2.2.2.2.2.2 y10.2.2.2.2.2.2 true))))))))) (some false)).bind fun v11 => (cond v11 ((idx y4.1 2).bind fun y12 => (law13_slot N 16).bind fun y13 => some (eqI y12.1 0 (eqB y12.2.1 y13.1 (eqI y12.2.2.1 y13.2.1 (eqI y12.2.2.2.1 y13.2.2.1 (eqI y12.2.2.2.2.1 y13.2.2.2.1 (eqI y12.2.2.2.2.2.1 y13.2.2.2.2.1 (eqI y12.2.2.2.2.2.2.1 y13.2.2.2.2.2.1 (eqI y12.2.2.2.2.2.2.2 y13.2.2.2.2.2.2 true))))))))) (some false)).bind fun v14 => (cond v14 ((cao_Kept N ([y1, y2, (false, 0, 0, 0, 0, 0, 0)])).bind fun y15 => some y15) (some false)).bind fun v16 => (cond v16 ((bank_Entries N ([y1, y2, (false, 0, 0, 0, 0, 0, 0)])).bind fun y17 => (cao_Chain N y17).bind fun y18 => some (y18 == 2)) (some false)).bind fun v19 => some v19
noncomputable def law13_awake (N : Nat) : Option Bool := law13_awake.b N
noncomputable def law13_awake.con (N : Nat) : Con := ⟨[], [.d (.sc .bool)], fun z => law13_awake N⟩
-- pigeonhole/plo.Gap
noncomputable def plo_Gap.l0s (N : Nat) (S0 : (List bank_Slot) → Int → Int → Int → Int → Option (Int × Int)) : (List bank_Slot) → Int → Int → Int → Int → Option (Int × Int) := fun (x0 : (List bank_Slot)) (x1 : Int) (p0_t_6_0 : Int) (p0_t_7_0 : Int) (p0_t_17_0 : Int) =>
  cond (decide (p0_t_17_0 < ((List.length x0 : Nat) : Int))) ((idx x0 p0_t_17_0).bind fun y2 => (cond y2.1 (some (decide (y2.2.2.2.2.2.1 > x1))) (some false)).bind fun v3 => cond v3 ((cond y2.1 (some (decide (y2.2.2.2.2.2.1 < x1))) (some false)).bind fun v4 => cond v4 (S0 x0 x1 (w_i64 (p0_t_17_0 + 1)) (minI p0_t_7_0 p0_t_17_0) (w_i64 (p0_t_17_0 + 1))) (S0 x0 x1 (w_i64 (p0_t_17_0 + 1)) p0_t_7_0 (w_i64 (p0_t_17_0 + 1)))) ((cond y2.1 (some (decide (y2.2.2.2.2.2.1 < x1))) (some false)).bind fun v5 => cond v5 (S0 x0 x1 p0_t_6_0 (minI p0_t_7_0 p0_t_17_0) (w_i64 (p0_t_17_0 + 1))) (S0 x0 x1 p0_t_6_0 p0_t_7_0 (w_i64 (p0_t_17_0 + 1))))) (some (p0_t_6_0, p0_t_7_0))
noncomputable def plo_Gap.l0 (N : Nat) : Nat → (List bank_Slot) → Int → Int → Int → Int → Option (Int × Int)
  | 0 => fun _ _ _ _ _ => none
  | n + 1 => plo_Gap.l0s N (plo_Gap.l0 N n)
noncomputable def plo_Gap.b (N : Nat) (L0 : (List bank_Slot) → Int → Int → Int → Int → Option (Int × Int)) (x0 : (List bank_Slot)) (x1 : Int) : Option (Int × Int) :=
  (plo_Kept N x0).bind fun y1 => cond (!y1) (some (0, 0)) (L0 x0 x1 0 ((List.length x0 : Nat) : Int) 0)
noncomputable def plo_Gap (N : Nat) (x0 : (List bank_Slot)) (x1 : Int) : Option (Int × Int) := plo_Gap.b N (plo_Gap.l0 N N) x0 x1
noncomputable def plo_Gap.con (N : Nat) : Con := ⟨[.d (.sc (.sl V_bank_Slot)), .d (.sc (.int .i64))], [.d (.sc (.int .i64)), .d (.sc (.int .i64))], fun z => plo_Gap N z.1 z.2.1⟩
-- pigeonhole/pigeonholelaw13.CaoLengths
noncomputable def law13_CaoLengths.b (N : Nat) (x0 : (List bank_Slot)) (x1 : entry_Entry) : Option Bool :=
  (cond (decide (((List.length x0 : Nat) : Int) > 20)) (some true) ((plo_Kept N x0).bind fun y1 => some (!y1))).bind fun v2 => cond v2 ((law13_awake N).bind fun y3 => some y3) ((plo_Gap N x0 x1.2.2.2.2.1).bind fun y4 => (cao_Gap N x0 x1).bind fun y5 => (cao_Kept N x0).bind fun y6 => (cond y6 (some (decide (y5.1 ≤ y4.1))) (some false)).bind fun v7 => (cond v7 (some (decide (y5.2 ≥ y4.2))) (some false)).bind fun v8 => (cond v8 ((law13_awake N).bind fun y9 => some y9) (some false)).bind fun v10 => some v10)
noncomputable def law13_CaoLengths (N : Nat) (x0 : (List bank_Slot)) (x1 : entry_Entry) : Option Bool := law13_CaoLengths.b N x0 x1
noncomputable def law13_CaoLengths.con (N : Nat) : Con := ⟨[.d (.sc (.sl V_bank_Slot)), .d V_entry_Entry], [.d (.sc .bool)], fun z => law13_CaoLengths N z.1 z.2.1⟩
end Go.PgAM
