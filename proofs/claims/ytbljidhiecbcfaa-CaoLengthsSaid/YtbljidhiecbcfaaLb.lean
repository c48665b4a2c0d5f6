import Derived.Test.YtbljidhiecbcfaaLa
import Derived.Test.YtbljidhiecbcfaaAmGo
namespace Go.PgAM
open Go Go.Proofs
set_option linter.unusedVariables false
theorem Try.mixed : Try.prog.follows .mixedOrders = true := by kernel_rfl
theorem tys_ok : tysB Try.prog tys = true := by kernel_rfl
-- cmp.isNaN[int]
noncomputable def cmp_isNaN_int.E (N : Nat) : Env := { nt := 6, ty := tys, C := fun g => none, N := N, keep := [], shrink := [], shr := [], eqs := [] }
theorem cmp_isNaN_int.run_b (N : Nat) (x0 : Int) : arun (cmp_isNaN_int.E N) Try.f73 [.d (.sc (.int .i64))] [.d (.sc .bool)] (x0, ()) = cmp_isNaN_int.b N x0 := by kernel_rfl
theorem cmp_isNaN_int.run (N : Nat) (x0 : Int) : arun (cmp_isNaN_int.E N) Try.f73 [.d (.sc (.int .i64))] [.d (.sc .bool)] (x0, ()) = cmp_isNaN_int N x0 := by
  rw [cmp_isNaN_int.run_b]
  rfl
theorem cmp_isNaN_int.sound (N : Nat) : SoundCon Try.prog 73 (cmp_isNaN_int.con N) := sound_go (E := cmp_isNaN_int.E N) 10 Try.func73 (by kernel_rfl) (by kernel_rfl) Try.mixed (by kernel_rfl) tys_ok (by kernel_rfl) _ (by kernel_rfl) soundTab_nil fun z y h => (cmp_isNaN_int.run N z.1).trans h
-- cmp.Compare[int]
noncomputable def cmp_Compare_int.E (N : Nat) : Env := { nt := 20, ty := tys, C := fun g => cond (Nat.beq g 73) (some (cmp_isNaN_int.con N)) (none), N := N, keep := [], shrink := [], shr := [], eqs := [] }
theorem cmp_Compare_int.run_b (N : Nat) (x0 : Int) (x1 : Int) : arun (cmp_Compare_int.E N) Try.f42 [.d (.sc (.int .i64)), .d (.sc (.int .i64))] [.d (.sc (.int .i64))] (x0, (x1, ())) = cmp_Compare_int.b N x0 x1 := by kernel_rfl
theorem cmp_Compare_int.run (N : Nat) (x0 : Int) (x1 : Int) : arun (cmp_Compare_int.E N) Try.f42 [.d (.sc (.int .i64)), .d (.sc (.int .i64))] [.d (.sc (.int .i64))] (x0, (x1, ())) = cmp_Compare_int N x0 x1 := by
  rw [cmp_Compare_int.run_b]
  rfl
theorem cmp_Compare_int.sound (N : Nat) : SoundCon Try.prog 42 (cmp_Compare_int.con N) := sound_go (E := cmp_Compare_int.E N) 10 Try.func42 (by kernel_rfl) (by kernel_rfl) Try.mixed (by kernel_rfl) tys_ok (by kernel_rfl) _ (by kernel_rfl) (soundTab_cons (cmp_isNaN_int.sound N) soundTab_nil) fun z y h => (cmp_Compare_int.run N z.1 z.2.1).trans h
-- pigeonhole/plo.Kept$1
noncomputable def plo_Kept_1.E (N : Nat) : Env := { nt := 10, ty := tys, C := fun g => cond (Nat.beq g 42) (some (cmp_Compare_int.con N)) (none), N := N, keep := [], shrink := [], shr := [], eqs := [] }
theorem plo_Kept_1.run_b (N : Nat) (x0 : entry_Entry) (x1 : entry_Entry) : arun (plo_Kept_1.E N) Try.f41 [.d V_entry_Entry, .d V_entry_Entry] [.d (.sc (.int .i64))] (x0, (x1, ())) = plo_Kept_1.b N x0 x1 := by kernel_rfl
theorem plo_Kept_1.run (N : Nat) (x0 : entry_Entry) (x1 : entry_Entry) : arun (plo_Kept_1.E N) Try.f41 [.d V_entry_Entry, .d V_entry_Entry] [.d (.sc (.int .i64))] (x0, (x1, ())) = plo_Kept_1 N x0 x1 := by
  rw [plo_Kept_1.run_b]
  rfl
theorem plo_Kept_1.sound (N : Nat) : SoundCon Try.prog 41 (plo_Kept_1.con N) := sound_go (E := plo_Kept_1.E N) 10 Try.func41 (by kernel_rfl) (by kernel_rfl) Try.mixed (by kernel_rfl) tys_ok (by kernel_rfl) _ (by kernel_rfl) (soundTab_cons (cmp_Compare_int.sound N) soundTab_nil) fun z y h => (plo_Kept_1.run N z.1 z.2.1).trans h
-- slices.IsSortedFunc[[]pigeonhole/entry.Entry,pigeonhole/entry.Entry]
noncomputable def slices_IsSortedFunc_entry_Entry.E (N : Nat) : Env := { nt := 25, ty := tys, C := fun g => none, N := N, keep := [(2, ⟨[0, 1, 5], [], [], [], [], [], 0⟩)], shrink := [], shr := [], eqs := [] }
noncomputable def slices_IsSortedFunc_entry_Entry.code : Code := (Try.f43.body).getD .skip
noncomputable def slices_IsSortedFunc_entry_Entry.K (N : Nat) : AX → St → Option (RSs.I [.d (.sc .bool)]) := finish (slices_IsSortedFunc_entry_Entry.E N) Try.f43.results.toList [.d (.sc .bool)]
noncomputable def slices_IsSortedFunc_entry_Entry.st0 (x0 : (List entry_Entry)) (x1 : ((entry_Entry × entry_Entry) → Option Int)) (p0_t_5_0 : Int) : St := ⟨[(0, .s (.d ⟨(.sl V_entry_Entry), x0⟩)), (1, .s (.d ⟨(.fn (.cons V_entry_Entry (.cons V_entry_Entry .nil)) (.cons (.sc (.int .i64)) .nil)), x1⟩)), (5, .s (.d ⟨(.int .i64), p0_t_5_0⟩))], [], []⟩
noncomputable def slices_IsSortedFunc_entry_Entry.L0 (N : Nat) (n : Nat) : (List entry_Entry) → ((entry_Entry × entry_Entry) → Option Int) → Int → Option (RSs.I [.d (.sc .bool)]) := fun x0 x1 p0_t_5_0 => loopN (aexec (slices_IsSortedFunc_entry_Entry.E N) (subAt [.b, .a, .b, .i, .l] slices_IsSortedFunc_entry_Entry.code)) ((slices_IsSortedFunc_entry_Entry.E N).keepOf 2) n (slices_IsSortedFunc_entry_Entry.st0 x0 x1 p0_t_5_0) (kontAt (slices_IsSortedFunc_entry_Entry.E N) [.b, .a, .b, .i] slices_IsSortedFunc_entry_Entry.code [] (slices_IsSortedFunc_entry_Entry.K N))
theorem slices_IsSortedFunc_entry_Entry.L0_step (N : Nat) (n : Nat) : slices_IsSortedFunc_entry_Entry.L0 N (n + 1) = slices_IsSortedFunc_entry_Entry.l0s N (slices_IsSortedFunc_entry_Entry.L0 N n) := by kernel_rfl
theorem slices_IsSortedFunc_entry_Entry.L0_eq (N : Nat) (n : Nat) : slices_IsSortedFunc_entry_Entry.L0 N n = slices_IsSortedFunc_entry_Entry.l0 N n := by
  induction n with
  | zero => rfl
  | succ n ih =>
    refine (slices_IsSortedFunc_entry_Entry.L0_step N n).trans ?_
    rw [ih]
    rfl
theorem slices_IsSortedFunc_entry_Entry.run_b (N : Nat) (x0 : (List entry_Entry)) (x1 : ((entry_Entry × entry_Entry) → Option Int)) : arun (slices_IsSortedFunc_entry_Entry.E N) Try.f43 [.d (.sc (.sl V_entry_Entry)), .d (.sc (.fn (.cons V_entry_Entry (.cons V_entry_Entry .nil)) (.cons (.sc (.int .i64)) .nil)))] [.d (.sc .bool)] (x0, (x1, ())) = slices_IsSortedFunc_entry_Entry.b N (slices_IsSortedFunc_entry_Entry.L0 N N) x0 x1 := by kernel_rfl
theorem slices_IsSortedFunc_entry_Entry.run (N : Nat) (x0 : (List entry_Entry)) (x1 : ((entry_Entry × entry_Entry) → Option Int)) : arun (slices_IsSortedFunc_entry_Entry.E N) Try.f43 [.d (.sc (.sl V_entry_Entry)), .d (.sc (.fn (.cons V_entry_Entry (.cons V_entry_Entry .nil)) (.cons (.sc (.int .i64)) .nil)))] [.d (.sc .bool)] (x0, (x1, ())) = slices_IsSortedFunc_entry_Entry N x0 x1 := by
  rw [slices_IsSortedFunc_entry_Entry.run_b, slices_IsSortedFunc_entry_Entry.L0_eq]
  rfl
theorem slices_IsSortedFunc_entry_Entry.sound (N : Nat) : SoundCon Try.prog 43 (slices_IsSortedFunc_entry_Entry.con N) := sound_go (E := slices_IsSortedFunc_entry_Entry.E N) 10 Try.func43 (by kernel_rfl) (by kernel_rfl) Try.mixed (by kernel_rfl) tys_ok (by kernel_rfl) _ (by kernel_rfl) soundTab_nil fun z y h => (slices_IsSortedFunc_entry_Entry.run N z.1 z.2.1).trans h
-- pigeonhole/bank.Entries
noncomputable def bank_Entries.E (N : Nat) : Env := { nt := 21, ty := tys, C := fun g => none, N := N, keep := [(3, ⟨[3, 6, 7, 8], [], [3], [], [], [], 0⟩)], shrink := [], shr := [], eqs := [] }
noncomputable def bank_Entries.code : Code := (Try.f44.body).getD .skip
noncomputable def bank_Entries.K (N : Nat) : AX → St → Option (RSs.I [.fresh V_entry_Entry]) := finish (bank_Entries.E N) Try.f44.results.toList [.fresh V_entry_Entry]
noncomputable def bank_Entries.st0 (x0 : (List bank_Slot)) (p0_t_8_0 : Int) (p0_b_3 : (List entry_Entry)) : St := ⟨[(3, .s (.own 3)), (6, .s (.d ⟨(.sl V_bank_Slot), x0⟩)), (7, .s (.d ⟨(.int .i64), ((List.length x0 : Nat) : Int)⟩)), (8, .s (.d ⟨(.int .i64), p0_t_8_0⟩))], [], [(3, ⟨true, V_entry_Entry, p0_b_3⟩)]⟩
noncomputable def bank_Entries.L0 (N : Nat) (n : Nat) : (List bank_Slot) → Int → (List entry_Entry) → Option (RSs.I [.fresh V_entry_Entry]) := fun x0 p0_t_8_0 p0_b_3 => loopN (aexec (bank_Entries.E N) (subAt [.b, .b, .a, .b, .i, .l] bank_Entries.code)) ((bank_Entries.E N).keepOf 3) n (bank_Entries.st0 x0 p0_t_8_0 p0_b_3) (kontAt (bank_Entries.E N) [.b, .b, .a, .b, .i] bank_Entries.code [] (bank_Entries.K N))
theorem bank_Entries.L0_step (N : Nat) (n : Nat) : bank_Entries.L0 N (n + 1) = bank_Entries.l0s N (bank_Entries.L0 N n) := by kernel_rfl
theorem bank_Entries.L0_eq (N : Nat) (n : Nat) : bank_Entries.L0 N n = bank_Entries.l0 N n := by
  induction n with
  | zero => rfl
  | succ n ih =>
    refine (bank_Entries.L0_step N n).trans ?_
    rw [ih]
    rfl
theorem bank_Entries.run_b (N : Nat) (x0 : (List bank_Slot)) : arun (bank_Entries.E N) Try.f44 [.d (.sc (.sl V_bank_Slot))] [.fresh V_entry_Entry] (x0, ()) = bank_Entries.b N (bank_Entries.L0 N N) x0 := by kernel_rfl
theorem bank_Entries.run (N : Nat) (x0 : (List bank_Slot)) : arun (bank_Entries.E N) Try.f44 [.d (.sc (.sl V_bank_Slot))] [.fresh V_entry_Entry] (x0, ()) = bank_Entries N x0 := by
  rw [bank_Entries.run_b, bank_Entries.L0_eq]
  rfl
theorem bank_Entries.sound (N : Nat) : SoundCon Try.prog 44 (bank_Entries.con N) := sound_go (E := bank_Entries.E N) 10 Try.func44 (by kernel_rfl) (by kernel_rfl) Try.mixed (by kernel_rfl) tys_ok (by kernel_rfl) _ (by kernel_rfl) soundTab_nil fun z y h => (bank_Entries.run N z.1).trans h
-- pigeonhole/plo.Kept
noncomputable def plo_Kept.E (N : Nat) : Env := { nt := 8, ty := tys, C := fun g => cond (Nat.beq g 41) (some (plo_Kept_1.con N)) (cond (Nat.beq g 43) (some (slices_IsSortedFunc_entry_Entry.con N)) (cond (Nat.beq g 44) (some (bank_Entries.con N)) (none))), N := N, keep := [], shrink := [], shr := [], eqs := [] }
theorem plo_Kept.run_b (N : Nat) (x0 : (List bank_Slot)) : arun (plo_Kept.E N) Try.f18 [.d (.sc (.sl V_bank_Slot))] [.d (.sc .bool)] (x0, ()) = plo_Kept.b N x0 := by kernel_rfl
theorem plo_Kept.run (N : Nat) (x0 : (List bank_Slot)) : arun (plo_Kept.E N) Try.f18 [.d (.sc (.sl V_bank_Slot))] [.d (.sc .bool)] (x0, ()) = plo_Kept N x0 := by
  rw [plo_Kept.run_b]
  rfl
theorem plo_Kept.sound (N : Nat) : SoundCon Try.prog 18 (plo_Kept.con N) := sound_go (E := plo_Kept.E N) 10 Try.func18 (by kernel_rfl) (by kernel_rfl) Try.mixed (by kernel_rfl) tys_ok (by kernel_rfl) _ (by kernel_rfl) (soundTab_cons (plo_Kept_1.sound N) (soundTab_cons (slices_IsSortedFunc_entry_Entry.sound N) (soundTab_cons (bank_Entries.sound N) soundTab_nil))) fun z y h => (plo_Kept.run N z.1).trans h
-- slices.IndexFunc[[]pigeonhole/entry.Entry,pigeonhole/entry.Entry]
noncomputable def slices_IndexFunc_entry_Entry.E (N : Nat) : Env := { nt := 19, ty := tys, C := fun g => none, N := N, keep := [(2, ⟨[0, 1, 7, 8], [], [], [], [], [], 0⟩)], shrink := [], shr := [], eqs := [] }
noncomputable def slices_IndexFunc_entry_Entry.code : Code := (Try.f104.body).getD .skip
noncomputable def slices_IndexFunc_entry_Entry.K (N : Nat) : AX → St → Option (RSs.I [.d (.sc (.int .i64))]) := finish (slices_IndexFunc_entry_Entry.E N) Try.f104.results.toList [.d (.sc (.int .i64))]
noncomputable def slices_IndexFunc_entry_Entry.st0 (x0 : (List entry_Entry)) (x1 : (entry_Entry → Option Bool)) (p0_t_8_0 : Int) : St := ⟨[(0, .s (.d ⟨(.sl V_entry_Entry), x0⟩)), (1, .s (.d ⟨(.fn (.cons V_entry_Entry .nil) (.cons (.sc .bool) .nil)), x1⟩)), (7, .s (.d ⟨(.int .i64), ((List.length x0 : Nat) : Int)⟩)), (8, .s (.d ⟨(.int .i64), p0_t_8_0⟩))], [], []⟩
noncomputable def slices_IndexFunc_entry_Entry.L0 (N : Nat) (n : Nat) : (List entry_Entry) → (entry_Entry → Option Bool) → Int → Option (RSs.I [.d (.sc (.int .i64))]) := fun x0 x1 p0_t_8_0 => loopN (aexec (slices_IndexFunc_entry_Entry.E N) (subAt [.b, .a, .b, .i, .l] slices_IndexFunc_entry_Entry.code)) ((slices_IndexFunc_entry_Entry.E N).keepOf 2) n (slices_IndexFunc_entry_Entry.st0 x0 x1 p0_t_8_0) (kontAt (slices_IndexFunc_entry_Entry.E N) [.b, .a, .b, .i] slices_IndexFunc_entry_Entry.code [] (slices_IndexFunc_entry_Entry.K N))
theorem slices_IndexFunc_entry_Entry.L0_step (N : Nat) (n : Nat) : slices_IndexFunc_entry_Entry.L0 N (n + 1) = slices_IndexFunc_entry_Entry.l0s N (slices_IndexFunc_entry_Entry.L0 N n) := by kernel_rfl
theorem slices_IndexFunc_entry_Entry.L0_eq (N : Nat) (n : Nat) : slices_IndexFunc_entry_Entry.L0 N n = slices_IndexFunc_entry_Entry.l0 N n := by
  induction n with
  | zero => rfl
  | succ n ih =>
    refine (slices_IndexFunc_entry_Entry.L0_step N n).trans ?_
    rw [ih]
    rfl
theorem slices_IndexFunc_entry_Entry.run_b (N : Nat) (x0 : (List entry_Entry)) (x1 : (entry_Entry → Option Bool)) : arun (slices_IndexFunc_entry_Entry.E N) Try.f104 [.d (.sc (.sl V_entry_Entry)), .d (.sc (.fn (.cons V_entry_Entry .nil) (.cons (.sc .bool) .nil)))] [.d (.sc (.int .i64))] (x0, (x1, ())) = slices_IndexFunc_entry_Entry.b N (slices_IndexFunc_entry_Entry.L0 N N) x0 x1 := by kernel_rfl
theorem slices_IndexFunc_entry_Entry.run (N : Nat) (x0 : (List entry_Entry)) (x1 : (entry_Entry → Option Bool)) : arun (slices_IndexFunc_entry_Entry.E N) Try.f104 [.d (.sc (.sl V_entry_Entry)), .d (.sc (.fn (.cons V_entry_Entry .nil) (.cons (.sc .bool) .nil)))] [.d (.sc (.int .i64))] (x0, (x1, ())) = slices_IndexFunc_entry_Entry N x0 x1 := by
  rw [slices_IndexFunc_entry_Entry.run_b, slices_IndexFunc_entry_Entry.L0_eq]
  rfl
theorem slices_IndexFunc_entry_Entry.sound (N : Nat) : SoundCon Try.prog 104 (slices_IndexFunc_entry_Entry.con N) := sound_go (E := slices_IndexFunc_entry_Entry.E N) 10 Try.func104 (by kernel_rfl) (by kernel_rfl) Try.mixed (by kernel_rfl) tys_ok (by kernel_rfl) _ (by kernel_rfl) soundTab_nil fun z y h => (slices_IndexFunc_entry_Entry.run N z.1 z.2.1).trans h
-- slices.ContainsFunc[[]pigeonhole/entry.Entry,pigeonhole/entry.Entry]
noncomputable def slices_ContainsFunc_entry_Entry.E (N : Nat) : Env := { nt := 9, ty := tys, C := fun g => cond (Nat.beq g 104) (some (slices_IndexFunc_entry_Entry.con N)) (none), N := N, keep := [], shrink := [], shr := [], eqs := [] }
theorem slices_ContainsFunc_entry_Entry.run_b (N : Nat) (x0 : (List entry_Entry)) (x1 : (entry_Entry → Option Bool)) : arun (slices_ContainsFunc_entry_Entry.E N) Try.f81 [.d (.sc (.sl V_entry_Entry)), .d (.sc (.fn (.cons V_entry_Entry .nil) (.cons (.sc .bool) .nil)))] [.d (.sc .bool)] (x0, (x1, ())) = slices_ContainsFunc_entry_Entry.b N x0 x1 := by kernel_rfl
theorem slices_ContainsFunc_entry_Entry.run (N : Nat) (x0 : (List entry_Entry)) (x1 : (entry_Entry → Option Bool)) : arun (slices_ContainsFunc_entry_Entry.E N) Try.f81 [.d (.sc (.sl V_entry_Entry)), .d (.sc (.fn (.cons V_entry_Entry .nil) (.cons (.sc .bool) .nil)))] [.d (.sc .bool)] (x0, (x1, ())) = slices_ContainsFunc_entry_Entry N x0 x1 := by
  rw [slices_ContainsFunc_entry_Entry.run_b]
  rfl
theorem slices_ContainsFunc_entry_Entry.sound (N : Nat) : SoundCon Try.prog 81 (slices_ContainsFunc_entry_Entry.con N) := sound_go (E := slices_ContainsFunc_entry_Entry.E N) 10 Try.func81 (by kernel_rfl) (by kernel_rfl) Try.mixed (by kernel_rfl) tys_ok (by kernel_rfl) _ (by kernel_rfl) (soundTab_cons (slices_IndexFunc_entry_Entry.sound N) soundTab_nil) fun z y h => (slices_ContainsFunc_entry_Entry.run N z.1 z.2.1).trans h
-- pigeonhole/addr.And
noncomputable def addr_And.E (N : Nat) : Env := { nt := 16, ty := tys, C := fun g => none, N := N, keep := [], shrink := [], shr := [], eqs := [] }
theorem addr_And.run_b (N : Nat) (x0 : addr_Addr) (x1 : addr_Addr) : arun (addr_And.E N) Try.f89 [.d V_addr_Addr, .d V_addr_Addr] [.d V_addr_Addr] (x0, (x1, ())) = addr_And.b N x0 x1 := by kernel_rfl
theorem addr_And.run (N : Nat) (x0 : addr_Addr) (x1 : addr_Addr) : arun (addr_And.E N) Try.f89 [.d V_addr_Addr, .d V_addr_Addr] [.d V_addr_Addr] (x0, (x1, ())) = addr_And N x0 x1 := by
  rw [addr_And.run_b]
  rfl
theorem addr_And.sound (N : Nat) : SoundCon Try.prog 89 (addr_And.con N) := sound_go (E := addr_And.E N) 10 Try.func89 (by kernel_rfl) (by kernel_rfl) Try.mixed (by kernel_rfl) tys_ok (by kernel_rfl) _ (by kernel_rfl) soundTab_nil fun z y h => (addr_And.run N z.1 z.2.1).trans h
-- pigeonhole/addr.Xor
noncomputable def addr_Xor.E (N : Nat) : Env := { nt := 16, ty := tys, C := fun g => none, N := N, keep := [], shrink := [], shr := [], eqs := [] }
theorem addr_Xor.run_b (N : Nat) (x0 : addr_Addr) (x1 : addr_Addr) : arun (addr_Xor.E N) Try.f98 [.d V_addr_Addr, .d V_addr_Addr] [.d V_addr_Addr] (x0, (x1, ())) = addr_Xor.b N x0 x1 := by kernel_rfl
theorem addr_Xor.run (N : Nat) (x0 : addr_Addr) (x1 : addr_Addr) : arun (addr_Xor.E N) Try.f98 [.d V_addr_Addr, .d V_addr_Addr] [.d V_addr_Addr] (x0, (x1, ())) = addr_Xor N x0 x1 := by
  rw [addr_Xor.run_b]
  rfl
theorem addr_Xor.sound (N : Nat) : SoundCon Try.prog 98 (addr_Xor.con N) := sound_go (E := addr_Xor.E N) 10 Try.func98 (by kernel_rfl) (by kernel_rfl) Try.mixed (by kernel_rfl) tys_ok (by kernel_rfl) _ (by kernel_rfl) soundTab_nil fun z y h => (addr_Xor.run N z.1 z.2.1).trans h
-- pigeonhole/word.differ
noncomputable def word_differ.E (N : Nat) : Env := { nt := 12, ty := tys, C := fun g => cond (Nat.beq g 89) (some (addr_And.con N)) (cond (Nat.beq g 98) (some (addr_Xor.con N)) (none)), N := N, keep := [], shrink := [], shr := [], eqs := [] }
theorem word_differ.run_b (N : Nat) (x0 : addr_Addr) (x1 : addr_Addr) (x2 : addr_Addr) : arun (word_differ.E N) Try.f92 [.d V_addr_Addr, .d V_addr_Addr, .d V_addr_Addr] [.d V_addr_Addr] (x0, (x1, (x2, ()))) = word_differ.b N x0 x1 x2 := by kernel_rfl
theorem word_differ.run (N : Nat) (x0 : addr_Addr) (x1 : addr_Addr) (x2 : addr_Addr) : arun (word_differ.E N) Try.f92 [.d V_addr_Addr, .d V_addr_Addr, .d V_addr_Addr] [.d V_addr_Addr] (x0, (x1, (x2, ()))) = word_differ N x0 x1 x2 := by
  rw [word_differ.run_b]
  rfl
theorem word_differ.sound (N : Nat) : SoundCon Try.prog 92 (word_differ.con N) := sound_go (E := word_differ.E N) 10 Try.func92 (by kernel_rfl) (by kernel_rfl) Try.mixed (by kernel_rfl) tys_ok (by kernel_rfl) _ (by kernel_rfl) (soundTab_cons (addr_And.sound N) (soundTab_cons (addr_Xor.sound N) soundTab_nil)) fun z y h => (word_differ.run N z.1 z.2.1 z.2.2.1).trans h
-- pigeonhole/word.Meet
noncomputable def word_Meet.E (N : Nat) : Env := { nt := 17, ty := tys, C := fun g => cond (Nat.beq g 89) (some (addr_And.con N)) (cond (Nat.beq g 92) (some (word_differ.con N)) (none)), N := N, keep := [], shrink := [], shr := [], eqs := [25] }
theorem word_Meet.run_b (N : Nat) (x0 : word_Word) (x1 : word_Word) : arun (word_Meet.E N) Try.f59 [.d V_word_Word, .d V_word_Word] [.d (.sc .bool)] (x0, (x1, ())) = word_Meet.b N x0 x1 := by kernel_rfl
theorem word_Meet.run (N : Nat) (x0 : word_Word) (x1 : word_Word) : arun (word_Meet.E N) Try.f59 [.d V_word_Word, .d V_word_Word] [.d (.sc .bool)] (x0, (x1, ())) = word_Meet N x0 x1 := by
  rw [word_Meet.run_b]
  rfl
theorem word_Meet.sound (N : Nat) : SoundCon Try.prog 59 (word_Meet.con N) := sound_go (E := word_Meet.E N) 10 Try.func59 (by kernel_rfl) (by kernel_rfl) Try.mixed (by kernel_rfl) tys_ok (by kernel_rfl) _ (by kernel_rfl) (soundTab_cons (addr_And.sound N) (soundTab_cons (word_differ.sound N) soundTab_nil)) fun z y h => (word_Meet.run N z.1 z.2.1).trans h
-- pigeonhole/entry.Above
noncomputable def entry_Above.E (N : Nat) : Env := { nt := 17, ty := tys, C := fun g => cond (Nat.beq g 59) (some (word_Meet.con N)) (none), N := N, keep := [], shrink := [], shr := [], eqs := [] }
theorem entry_Above.run_b (N : Nat) (x0 : entry_Entry) (x1 : entry_Entry) : arun (entry_Above.E N) Try.f80 [.d V_entry_Entry, .d V_entry_Entry] [.d (.sc .bool)] (x0, (x1, ())) = entry_Above.b N x0 x1 := by kernel_rfl
theorem entry_Above.run (N : Nat) (x0 : entry_Entry) (x1 : entry_Entry) : arun (entry_Above.E N) Try.f80 [.d V_entry_Entry, .d V_entry_Entry] [.d (.sc .bool)] (x0, (x1, ())) = entry_Above N x0 x1 := by
  rw [entry_Above.run_b]
  rfl
theorem entry_Above.sound (N : Nat) : SoundCon Try.prog 80 (entry_Above.con N) := sound_go (E := entry_Above.E N) 10 Try.func80 (by kernel_rfl) (by kernel_rfl) Try.mixed (by kernel_rfl) tys_ok (by kernel_rfl) _ (by kernel_rfl) (soundTab_cons (word_Meet.sound N) soundTab_nil) fun z y h => (entry_Above.run N z.1 z.2.1).trans h
-- pigeonhole/entry.Ordered$1
noncomputable def entry_Ordered_1.E (N : Nat) : Env := { nt := 7, ty := tys, C := fun g => cond (Nat.beq g 80) (some (entry_Above.con N)) (none), N := N, keep := [], shrink := [], shr := [], eqs := [] }
theorem entry_Ordered_1.run_b (N : Nat) (x0 : entry_Entry) (x1 : (Int × Int × Int × Int × Int × Int)) : arun (entry_Ordered_1.E N) Try.f82 [.d V_entry_Entry, .ref (.cons (.int .u64) (.cons (.int .u64) (.cons (.int .u64) (.cons (.int .u64) (.cons (.int .i64) (.cons (.int .i64) .nil))))))] [.d (.sc .bool)] (x0, (x1, ())) = entry_Ordered_1.b N x0 x1 := by kernel_rfl
theorem entry_Ordered_1.run (N : Nat) (x0 : entry_Entry) (x1 : (Int × Int × Int × Int × Int × Int)) : arun (entry_Ordered_1.E N) Try.f82 [.d V_entry_Entry, .ref (.cons (.int .u64) (.cons (.int .u64) (.cons (.int .u64) (.cons (.int .u64) (.cons (.int .i64) (.cons (.int .i64) .nil))))))] [.d (.sc .bool)] (x0, (x1, ())) = entry_Ordered_1 N x0 x1 := by
  rw [entry_Ordered_1.run_b]
  rfl
theorem entry_Ordered_1.sound (N : Nat) : SoundCon Try.prog 82 (entry_Ordered_1.con N) := sound_go (E := entry_Ordered_1.E N) 10 Try.func82 (by kernel_rfl) (by kernel_rfl) Try.mixed (by kernel_rfl) tys_ok (by kernel_rfl) _ (by kernel_rfl) (soundTab_cons (entry_Above.sound N) soundTab_nil) fun z y h => (entry_Ordered_1.run N z.1 z.2.1).trans h
-- pigeonhole/entry.Ordered
noncomputable def entry_Ordered.E (N : Nat) : Env := { nt := 18, ty := tys, C := fun g => cond (Nat.beq g 81) (some (slices_ContainsFunc_entry_Entry.con N)) (cond (Nat.beq g 82) (some (entry_Ordered_1.con N)) (none)), N := N, keep := [(2, ⟨[0, 5, 6, 7], [], [], [], [], [], 0⟩)], shrink := [], shr := [], eqs := [] }
noncomputable def entry_Ordered.code : Code := (Try.f50.body).getD .skip
noncomputable def entry_Ordered.K (N : Nat) : AX → St → Option (RSs.I [.d (.sc .bool)]) := finish (entry_Ordered.E N) Try.f50.results.toList [.d (.sc .bool)]
noncomputable def entry_Ordered.st0 (x0 : (List entry_Entry)) (p0_t_7_0 : Int) : St := ⟨[(0, .s (.d ⟨(.sl V_entry_Entry), x0⟩)), (5, .s (.d ⟨(.sl V_entry_Entry), x0⟩)), (6, .s (.d ⟨(.int .i64), ((List.length x0 : Nat) : Int)⟩)), (7, .s (.d ⟨(.int .i64), p0_t_7_0⟩))], [], []⟩
noncomputable def entry_Ordered.L0 (N : Nat) (n : Nat) : (List entry_Entry) → Int → Option (RSs.I [.d (.sc .bool)]) := fun x0 p0_t_7_0 => loopN (aexec (entry_Ordered.E N) (subAt [.b, .a, .b, .i, .l] entry_Ordered.code)) ((entry_Ordered.E N).keepOf 2) n (entry_Ordered.st0 x0 p0_t_7_0) (kontAt (entry_Ordered.E N) [.b, .a, .b, .i] entry_Ordered.code [] (entry_Ordered.K N))
theorem entry_Ordered.L0_step (N : Nat) (n : Nat) : entry_Ordered.L0 N (n + 1) = entry_Ordered.l0s N (entry_Ordered.L0 N n) := by kernel_rfl
theorem entry_Ordered.L0_eq (N : Nat) (n : Nat) : entry_Ordered.L0 N n = entry_Ordered.l0 N n := by
  induction n with
  | zero => rfl
  | succ n ih =>
    refine (entry_Ordered.L0_step N n).trans ?_
    rw [ih]
    rfl
theorem entry_Ordered.run_b (N : Nat) (x0 : (List entry_Entry)) : arun (entry_Ordered.E N) Try.f50 [.d (.sc (.sl V_entry_Entry))] [.d (.sc .bool)] (x0, ()) = entry_Ordered.b N (entry_Ordered.L0 N N) x0 := by kernel_rfl
theorem entry_Ordered.run (N : Nat) (x0 : (List entry_Entry)) : arun (entry_Ordered.E N) Try.f50 [.d (.sc (.sl V_entry_Entry))] [.d (.sc .bool)] (x0, ()) = entry_Ordered N x0 := by
  rw [entry_Ordered.run_b, entry_Ordered.L0_eq]
  rfl
theorem entry_Ordered.sound (N : Nat) : SoundCon Try.prog 50 (entry_Ordered.con N) := sound_go (E := entry_Ordered.E N) 10 Try.func50 (by kernel_rfl) (by kernel_rfl) Try.mixed (by kernel_rfl) tys_ok (by kernel_rfl) _ (by kernel_rfl) (soundTab_cons (slices_ContainsFunc_entry_Entry.sound N) (soundTab_cons (entry_Ordered_1.sound N) soundTab_nil)) fun z y h => (entry_Ordered.run N z.1).trans h
-- pigeonhole/cao.Kept
noncomputable def cao_Kept.E (N : Nat) : Env := { nt := 6, ty := tys, C := fun g => cond (Nat.beq g 44) (some (bank_Entries.con N)) (cond (Nat.beq g 50) (some (entry_Ordered.con N)) (none)), N := N, keep := [], shrink := [], shr := [], eqs := [] }
theorem cao_Kept.run_b (N : Nat) (x0 : (List bank_Slot)) : arun (cao_Kept.E N) Try.f22 [.d (.sc (.sl V_bank_Slot))] [.d (.sc .bool)] (x0, ()) = cao_Kept.b N x0 := by kernel_rfl
theorem cao_Kept.run (N : Nat) (x0 : (List bank_Slot)) : arun (cao_Kept.E N) Try.f22 [.d (.sc (.sl V_bank_Slot))] [.d (.sc .bool)] (x0, ()) = cao_Kept N x0 := by
  rw [cao_Kept.run_b]
  rfl
theorem cao_Kept.sound (N : Nat) : SoundCon Try.prog 22 (cao_Kept.con N) := sound_go (E := cao_Kept.E N) 10 Try.func22 (by kernel_rfl) (by kernel_rfl) Try.mixed (by kernel_rfl) tys_ok (by kernel_rfl) _ (by kernel_rfl) (soundTab_cons (bank_Entries.sound N) (soundTab_cons (entry_Ordered.sound N) soundTab_nil)) fun z y h => (cao_Kept.run N z.1).trans h
-- pigeonhole/addr.Mask
noncomputable def addr_Mask.E (N : Nat) : Env := { nt := 25, ty := tys, C := fun g => none, N := N, keep := [(4, ⟨[0, 2, 3, 9], [0, 1, 2, 3, 4, 5, 6, 7, 8, 9, 10, 11, 12, 13, 14, 15, 16, 17, 18, 19, 20, 21, 22, 23, 24], [0, 1, 2, 3, 4, 5, 6, 7, 8, 9, 10, 11, 12, 13, 14, 15, 16, 17, 18, 19, 20, 21, 22, 23, 24], [], [], [], 12⟩)], shrink := [], shr := [], eqs := [] }
theorem addr_Mask.run_b (N : Nat) (x0 : Int) : arun (addr_Mask.E N) Try.f90 [.d (.sc (.int .i64))] [.d V_addr_Addr] (x0, ()) = addr_Mask.b N x0 := by kernel_rfl
theorem addr_Mask.run (N : Nat) (x0 : Int) : arun (addr_Mask.E N) Try.f90 [.d (.sc (.int .i64))] [.d V_addr_Addr] (x0, ()) = addr_Mask N x0 := by
  rw [addr_Mask.run_b]
  rfl
theorem addr_Mask.sound (N : Nat) : SoundCon Try.prog 90 (addr_Mask.con N) := sound_go (E := addr_Mask.E N) 10 Try.func90 (by kernel_rfl) (by kernel_rfl) Try.mixed (by kernel_rfl) tys_ok (by kernel_rfl) _ (by kernel_rfl) soundTab_nil fun z y h => (addr_Mask.run N z.1).trans h
-- pigeonhole/addr.Cut
noncomputable def addr_Cut.E (N : Nat) : Env := { nt := 9, ty := tys, C := fun g => cond (Nat.beq g 89) (some (addr_And.con N)) (cond (Nat.beq g 90) (some (addr_Mask.con N)) (none)), N := N, keep := [], shrink := [], shr := [], eqs := [] }
theorem addr_Cut.run_b (N : Nat) (x0 : addr_Addr) (x1 : Int) : arun (addr_Cut.E N) Try.f56 [.d V_addr_Addr, .d (.sc (.int .i64))] [.d V_addr_Addr] (x0, (x1, ())) = addr_Cut.b N x0 x1 := by kernel_rfl
theorem addr_Cut.run (N : Nat) (x0 : addr_Addr) (x1 : Int) : arun (addr_Cut.E N) Try.f56 [.d V_addr_Addr, .d (.sc (.int .i64))] [.d V_addr_Addr] (x0, (x1, ())) = addr_Cut N x0 x1 := by
  rw [addr_Cut.run_b]
  rfl
theorem addr_Cut.sound (N : Nat) : SoundCon Try.prog 56 (addr_Cut.con N) := sound_go (E := addr_Cut.E N) 10 Try.func56 (by kernel_rfl) (by kernel_rfl) Try.mixed (by kernel_rfl) tys_ok (by kernel_rfl) _ (by kernel_rfl) (soundTab_cons (addr_And.sound N) (soundTab_cons (addr_Mask.sound N) soundTab_nil)) fun z y h => (addr_Cut.run N z.1 z.2.1).trans h
-- pigeonhole/prefix.Make
noncomputable def prefix_Make.E (N : Nat) : Env := { nt := 13, ty := tys, C := fun g => cond (Nat.beq g 56) (some (addr_Cut.con N)) (none), N := N, keep := [], shrink := [], shr := [], eqs := [] }
theorem prefix_Make.run_b (N : Nat) (x0 : addr_Addr) (x1 : Int) : arun (prefix_Make.E N) Try.f27 [.d V_addr_Addr, .d (.sc (.int .i64))] [.d V_prefix_Prefix] (x0, (x1, ())) = prefix_Make.b N x0 x1 := by kernel_rfl
theorem prefix_Make.run (N : Nat) (x0 : addr_Addr) (x1 : Int) : arun (prefix_Make.E N) Try.f27 [.d V_addr_Addr, .d (.sc (.int .i64))] [.d V_prefix_Prefix] (x0, (x1, ())) = prefix_Make N x0 x1 := by
  rw [prefix_Make.run_b]
  rfl
theorem prefix_Make.sound (N : Nat) : SoundCon Try.prog 27 (prefix_Make.con N) := sound_go (E := prefix_Make.E N) 10 Try.func27 (by kernel_rfl) (by kernel_rfl) Try.mixed (by kernel_rfl) tys_ok (by kernel_rfl) _ (by kernel_rfl) (soundTab_cons (addr_Cut.sound N) soundTab_nil) fun z y h => (prefix_Make.run N z.1 z.2.1).trans h
-- pigeonhole/word.Of
noncomputable def word_Of.E (N : Nat) : Env := { nt := 14, ty := tys, C := fun g => cond (Nat.beq g 27) (some (prefix_Make.con N)) (cond (Nat.beq g 90) (some (addr_Mask.con N)) (none)), N := N, keep := [], shrink := [], shr := [], eqs := [] }
theorem word_Of.run_b (N : Nat) (x0 : prefix_Prefix) : arun (word_Of.E N) Try.f72 [.d V_prefix_Prefix] [.d V_word_Word] (x0, ()) = word_Of.b N x0 := by kernel_rfl
theorem word_Of.run (N : Nat) (x0 : prefix_Prefix) : arun (word_Of.E N) Try.f72 [.d V_prefix_Prefix] [.d V_word_Word] (x0, ()) = word_Of N x0 := by
  rw [word_Of.run_b]
  rfl
theorem word_Of.sound (N : Nat) : SoundCon Try.prog 72 (word_Of.con N) := sound_go (E := word_Of.E N) 10 Try.func72 (by kernel_rfl) (by kernel_rfl) Try.mixed (by kernel_rfl) tys_ok (by kernel_rfl) _ (by kernel_rfl) (soundTab_cons (prefix_Make.sound N) (soundTab_cons (addr_Mask.sound N) soundTab_nil)) fun z y h => (word_Of.run N z.1).trans h
-- pigeonhole/entry.Of
noncomputable def entry_Of.E (N : Nat) : Env := { nt := 15, ty := tys, C := fun g => cond (Nat.beq g 27) (some (prefix_Make.con N)) (cond (Nat.beq g 72) (some (word_Of.con N)) (none)), N := N, keep := [], shrink := [], shr := [], eqs := [] }
theorem entry_Of.run_b (N : Nat) (x0 : prefix_Prefix) (x1 : Int) : arun (entry_Of.E N) Try.f39 [.d V_prefix_Prefix, .d (.sc (.int .i64))] [.d V_entry_Entry] (x0, (x1, ())) = entry_Of.b N x0 x1 := by kernel_rfl
theorem entry_Of.run (N : Nat) (x0 : prefix_Prefix) (x1 : Int) : arun (entry_Of.E N) Try.f39 [.d V_prefix_Prefix, .d (.sc (.int .i64))] [.d V_entry_Entry] (x0, (x1, ())) = entry_Of N x0 x1 := by
  rw [entry_Of.run_b]
  rfl
theorem entry_Of.sound (N : Nat) : SoundCon Try.prog 39 (entry_Of.con N) := sound_go (E := entry_Of.E N) 10 Try.func39 (by kernel_rfl) (by kernel_rfl) Try.mixed (by kernel_rfl) tys_ok (by kernel_rfl) _ (by kernel_rfl) (soundTab_cons (prefix_Make.sound N) (soundTab_cons (word_Of.sound N) soundTab_nil)) fun z y h => (entry_Of.run N z.1 z.2.1).trans h
-- pigeonhole/pigeonholelaw13.slot
noncomputable def law13_slot.E (N : Nat) : Env := { nt := 8, ty := tys, C := fun g => cond (Nat.beq g 27) (some (prefix_Make.con N)) (cond (Nat.beq g 39) (some (entry_Of.con N)) (none)), N := N, keep := [], shrink := [], shr := [], eqs := [] }
theorem law13_slot.run_b (N : Nat) (x0 : Int) : arun (law13_slot.E N) Try.f45 [.d (.sc (.int .i64))] [.d V_bank_Slot] (x0, ()) = law13_slot.b N x0 := by kernel_rfl
theorem law13_slot.run (N : Nat) (x0 : Int) : arun (law13_slot.E N) Try.f45 [.d (.sc (.int .i64))] [.d V_bank_Slot] (x0, ()) = law13_slot N x0 := by
  rw [law13_slot.run_b]
  rfl
theorem law13_slot.sound (N : Nat) : SoundCon Try.prog 45 (law13_slot.con N) := sound_go (E := law13_slot.E N) 10 Try.func45 (by kernel_rfl) (by kernel_rfl) Try.mixed (by kernel_rfl) tys_ok (by kernel_rfl) _ (by kernel_rfl) (soundTab_cons (prefix_Make.sound N) (soundTab_cons (entry_Of.sound N) soundTab_nil)) fun z y h => (law13_slot.run N z.1).trans h
-- pigeonhole/cao.highest
noncomputable def cao_highest.E (N : Nat) : Env := { nt := 29, ty := tys, C := fun g => cond (Nat.beq g 80) (some (entry_Above.con N)) (none), N := N, keep := [(2, ⟨[0, 5, 7, 20, 21, 22, 23, 24, 25, 26], [5], [], [], [], [], 0⟩)], shrink := [], shr := [], eqs := [] }
noncomputable def cao_highest.code : Code := (Try.f48.body).getD .skip
noncomputable def cao_highest.K (N : Nat) : AX → St → Option (RSs.I [.d (.sc (.int .i64))]) := finish (cao_highest.E N) Try.f48.results.toList [.d (.sc (.int .i64))]
noncomputable def cao_highest.st0 (x0 : (List bank_Slot)) (x2 : entry_Entry) (p0_t_7_0 : Int) : St := ⟨[(0, .s (.d ⟨(.sl V_bank_Slot), x0⟩)), (5, .s (.loc 5 0)), (7, .s (.d ⟨(.int .i64), p0_t_7_0⟩)), (20, .s .dead), (21, .s .dead), (22, .s .dead), (23, .s .dead), (24, .s .dead), (25, .s .dead), (26, .s .dead)], [(5, some [.d ⟨(.int .u64), x2.1⟩, .d ⟨(.int .u64), x2.2.1⟩, .d ⟨(.int .u64), x2.2.2.1⟩, .d ⟨(.int .u64), x2.2.2.2.1⟩, .d ⟨(.int .i64), x2.2.2.2.2.1⟩, .d ⟨(.int .i64), x2.2.2.2.2.2⟩])], []⟩
noncomputable def cao_highest.L0 (N : Nat) (n : Nat) : (List bank_Slot) → entry_Entry → Int → Option (RSs.I [.d (.sc (.int .i64))]) := fun x0 x2 p0_t_7_0 => loopN (aexec (cao_highest.E N) (subAt [.b, .a, .b, .i, .l] cao_highest.code)) ((cao_highest.E N).keepOf 2) n (cao_highest.st0 x0 x2 p0_t_7_0) (kontAt (cao_highest.E N) [.b, .a, .b, .i] cao_highest.code [] (cao_highest.K N))
theorem cao_highest.L0_step (N : Nat) (n : Nat) : cao_highest.L0 N (n + 1) = cao_highest.l0s N (cao_highest.L0 N n) := by kernel_rfl
theorem cao_highest.L0_eq (N : Nat) (n : Nat) : cao_highest.L0 N n = cao_highest.l0 N n := by
  induction n with
  | zero => rfl
  | succ n ih =>
    refine (cao_highest.L0_step N n).trans ?_
    rw [ih]
    rfl
theorem cao_highest.run_b (N : Nat) (x0 : (List bank_Slot)) (x1 : Int) (x2 : entry_Entry) : arun (cao_highest.E N) Try.f48 [.d (.sc (.sl V_bank_Slot)), .d (.sc (.int .i64)), .d V_entry_Entry] [.d (.sc (.int .i64))] (x0, (x1, (x2, ()))) = cao_highest.b N (cao_highest.L0 N N) x0 x1 x2 := by kernel_rfl
theorem cao_highest.run (N : Nat) (x0 : (List bank_Slot)) (x1 : Int) (x2 : entry_Entry) : arun (cao_highest.E N) Try.f48 [.d (.sc (.sl V_bank_Slot)), .d (.sc (.int .i64)), .d V_entry_Entry] [.d (.sc (.int .i64))] (x0, (x1, (x2, ()))) = cao_highest N x0 x1 x2 := by
  rw [cao_highest.run_b, cao_highest.L0_eq]
  rfl
theorem cao_highest.sound (N : Nat) : SoundCon Try.prog 48 (cao_highest.con N) := sound_go (E := cao_highest.E N) 10 Try.func48 (by kernel_rfl) (by kernel_rfl) Try.mixed (by kernel_rfl) tys_ok (by kernel_rfl) _ (by kernel_rfl) (soundTab_cons (entry_Above.sound N) soundTab_nil) fun z y h => (cao_highest.run N z.1 z.2.1 z.2.2.1).trans h
-- pigeonhole/cao.lowest
noncomputable def cao_lowest.E (N : Nat) : Env := { nt := 32, ty := tys, C := fun g => cond (Nat.beq g 80) (some (entry_Above.con N)) (none), N := N, keep := [(2, ⟨[0, 5, 7, 21, 22, 23, 24, 25, 26, 27], [5], [], [], [], [], 0⟩)], shrink := [], shr := [], eqs := [] }
noncomputable def cao_lowest.code : Code := (Try.f49.body).getD .skip
noncomputable def cao_lowest.K (N : Nat) : AX → St → Option (RSs.I [.d (.sc (.int .i64))]) := finish (cao_lowest.E N) Try.f49.results.toList [.d (.sc (.int .i64))]
noncomputable def cao_lowest.st0 (x0 : (List bank_Slot)) (x2 : entry_Entry) (p0_t_7_0 : Int) : St := ⟨[(0, .s (.d ⟨(.sl V_bank_Slot), x0⟩)), (5, .s (.loc 5 0)), (7, .s (.d ⟨(.int .i64), p0_t_7_0⟩)), (21, .s .dead), (22, .s .dead), (23, .s .dead), (24, .s .dead), (25, .s .dead), (26, .s .dead), (27, .s .dead)], [(5, some [.d ⟨(.int .u64), x2.1⟩, .d ⟨(.int .u64), x2.2.1⟩, .d ⟨(.int .u64), x2.2.2.1⟩, .d ⟨(.int .u64), x2.2.2.2.1⟩, .d ⟨(.int .i64), x2.2.2.2.2.1⟩, .d ⟨(.int .i64), x2.2.2.2.2.2⟩])], []⟩
noncomputable def cao_lowest.L0 (N : Nat) (n : Nat) : (List bank_Slot) → entry_Entry → Int → Option (RSs.I [.d (.sc (.int .i64))]) := fun x0 x2 p0_t_7_0 => loopN (aexec (cao_lowest.E N) (subAt [.b, .a, .b, .i, .l] cao_lowest.code)) ((cao_lowest.E N).keepOf 2) n (cao_lowest.st0 x0 x2 p0_t_7_0) (kontAt (cao_lowest.E N) [.b, .a, .b, .i] cao_lowest.code [] (cao_lowest.K N))
theorem cao_lowest.L0_step (N : Nat) (n : Nat) : cao_lowest.L0 N (n + 1) = cao_lowest.l0s N (cao_lowest.L0 N n) := by kernel_rfl
theorem cao_lowest.L0_eq (N : Nat) (n : Nat) : cao_lowest.L0 N n = cao_lowest.l0 N n := by
  induction n with
  | zero => rfl
  | succ n ih =>
    refine (cao_lowest.L0_step N n).trans ?_
    rw [ih]
    rfl
theorem cao_lowest.run_b (N : Nat) (x0 : (List bank_Slot)) (x1 : Int) (x2 : entry_Entry) : arun (cao_lowest.E N) Try.f49 [.d (.sc (.sl V_bank_Slot)), .d (.sc (.int .i64)), .d V_entry_Entry] [.d (.sc (.int .i64))] (x0, (x1, (x2, ()))) = cao_lowest.b N (cao_lowest.L0 N N) x0 x1 x2 := by kernel_rfl
theorem cao_lowest.run (N : Nat) (x0 : (List bank_Slot)) (x1 : Int) (x2 : entry_Entry) : arun (cao_lowest.E N) Try.f49 [.d (.sc (.sl V_bank_Slot)), .d (.sc (.int .i64)), .d V_entry_Entry] [.d (.sc (.int .i64))] (x0, (x1, (x2, ()))) = cao_lowest N x0 x1 x2 := by
  rw [cao_lowest.run_b, cao_lowest.L0_eq]
  rfl
theorem cao_lowest.sound (N : Nat) : SoundCon Try.prog 49 (cao_lowest.con N) := sound_go (E := cao_lowest.E N) 10 Try.func49 (by kernel_rfl) (by kernel_rfl) Try.mixed (by kernel_rfl) tys_ok (by kernel_rfl) _ (by kernel_rfl) (soundTab_cons (entry_Above.sound N) soundTab_nil) fun z y h => (cao_lowest.run N z.1 z.2.1 z.2.2.1).trans h
-- pigeonhole/cao.Gap
noncomputable def cao_Gap.E (N : Nat) : Env := { nt := 15, ty := tys, C := fun g => cond (Nat.beq g 48) (some (cao_highest.con N)) (cond (Nat.beq g 49) (some (cao_lowest.con N)) (none)), N := N, keep := [], shrink := [], shr := [], eqs := [] }
theorem cao_Gap.run_b (N : Nat) (x0 : (List bank_Slot)) (x1 : entry_Entry) : arun (cao_Gap.E N) Try.f21 [.d (.sc (.sl V_bank_Slot)), .d V_entry_Entry] [.d (.sc (.int .i64)), .d (.sc (.int .i64))] (x0, (x1, ())) = cao_Gap.b N x0 x1 := by kernel_rfl
theorem cao_Gap.run (N : Nat) (x0 : (List bank_Slot)) (x1 : entry_Entry) : arun (cao_Gap.E N) Try.f21 [.d (.sc (.sl V_bank_Slot)), .d V_entry_Entry] [.d (.sc (.int .i64)), .d (.sc (.int .i64))] (x0, (x1, ())) = cao_Gap N x0 x1 := by
  rw [cao_Gap.run_b]
  rfl
theorem cao_Gap.sound (N : Nat) : SoundCon Try.prog 21 (cao_Gap.con N) := sound_go (E := cao_Gap.E N) 10 Try.func21 (by kernel_rfl) (by kernel_rfl) Try.mixed (by kernel_rfl) tys_ok (by kernel_rfl) _ (by kernel_rfl) (soundTab_cons (cao_highest.sound N) (soundTab_cons (cao_lowest.sound N) soundTab_nil)) fun z y h => (cao_Gap.run N z.1 z.2.1).trans h
-- pigeonhole/word.clean
noncomputable def word_clean.E (N : Nat) : Env := { nt := 11, ty := tys, C := fun g => cond (Nat.beq g 89) (some (addr_And.con N)) (none), N := N, keep := [], shrink := [], shr := [], eqs := [] }
theorem word_clean.run_b (N : Nat) (x0 : word_Word) : arun (word_clean.E N) Try.f97 [.d V_word_Word] [.d V_word_Word] (x0, ()) = word_clean.b N x0 := by kernel_rfl
theorem word_clean.run (N : Nat) (x0 : word_Word) : arun (word_clean.E N) Try.f97 [.d V_word_Word] [.d V_word_Word] (x0, ()) = word_clean N x0 := by
  rw [word_clean.run_b]
  rfl
theorem word_clean.sound (N : Nat) : SoundCon Try.prog 97 (word_clean.con N) := sound_go (E := word_clean.E N) 10 Try.func97 (by kernel_rfl) (by kernel_rfl) Try.mixed (by kernel_rfl) tys_ok (by kernel_rfl) _ (by kernel_rfl) (soundTab_cons (addr_And.sound N) soundTab_nil) fun z y h => (word_clean.run N z.1).trans h
-- pigeonhole/word.Right
noncomputable def word_Right.E (N : Nat) : Env := { nt := 7, ty := tys, C := fun g => cond (Nat.beq g 97) (some (word_clean.con N)) (none), N := N, keep := [], shrink := [], shr := [], eqs := [43] }
theorem word_Right.run_b (N : Nat) (x0 : word_Word) : arun (word_Right.E N) Try.f103 [.d V_word_Word] [.d (.sc .bool)] (x0, ()) = word_Right.b N x0 := by kernel_rfl
theorem word_Right.run (N : Nat) (x0 : word_Word) : arun (word_Right.E N) Try.f103 [.d V_word_Word] [.d (.sc .bool)] (x0, ()) = word_Right N x0 := by
  rw [word_Right.run_b]
  rfl
theorem word_Right.sound (N : Nat) : SoundCon Try.prog 103 (word_Right.con N) := sound_go (E := word_Right.E N) 10 Try.func103 (by kernel_rfl) (by kernel_rfl) Try.mixed (by kernel_rfl) tys_ok (by kernel_rfl) _ (by kernel_rfl) (soundTab_cons (word_clean.sound N) soundTab_nil) fun z y h => (word_Right.run N z.1).trans h
-- pigeonhole/entry.Right
noncomputable def entry_Right.E (N : Nat) : Env := { nt := 26, ty := tys, C := fun g => cond (Nat.beq g 103) (some (word_Right.con N)) (none), N := N, keep := [], shrink := [], shr := [], eqs := [] }
theorem entry_Right.run_b (N : Nat) (x0 : entry_Entry) : arun (entry_Right.E N) Try.f74 [.d V_entry_Entry] [.d (.sc .bool)] (x0, ()) = entry_Right.b N x0 := by kernel_rfl
theorem entry_Right.run (N : Nat) (x0 : entry_Entry) : arun (entry_Right.E N) Try.f74 [.d V_entry_Entry] [.d (.sc .bool)] (x0, ()) = entry_Right N x0 := by
  rw [entry_Right.run_b]
  rfl
theorem entry_Right.sound (N : Nat) : SoundCon Try.prog 74 (entry_Right.con N) := sound_go (E := entry_Right.E N) 10 Try.func74 (by kernel_rfl) (by kernel_rfl) Try.mixed (by kernel_rfl) tys_ok (by kernel_rfl) _ (by kernel_rfl) (soundTab_cons (word_Right.sound N) soundTab_nil) fun z y h => (entry_Right.run N z.1).trans h
-- pigeonhole/cao.empty
noncomputable def cao_empty.E (N : Nat) : Env := { nt := 32, ty := tys, C := fun g => none, N := N, keep := [(3, ⟨[0, 2, 3, 9, 10, 24, 25, 26, 27, 28], [], [], [], [], [], 0⟩)], shrink := [], shr := [], eqs := [] }
noncomputable def cao_empty.code : Code := (Try.f75.body).getD .skip
noncomputable def cao_empty.K (N : Nat) : AX → St → Option (RSs.I [.d (.sc (.int .i64))]) := finish (cao_empty.E N) Try.f75.results.toList [.d (.sc (.int .i64))]
noncomputable def cao_empty.st0 (x0 : (List bank_Slot)) (x2 : Int) (x3 : Bool) (p0_t_9_0 : Int) (p0_t_10_0 : Int) : St := ⟨[(0, .s (.d ⟨(.sl V_bank_Slot), x0⟩)), (2, .s (.d ⟨(.int .i64), x2⟩)), (3, .s (.d ⟨.bool, x3⟩)), (9, .s (.d ⟨(.int .i64), p0_t_9_0⟩)), (10, .s (.d ⟨(.int .i64), p0_t_10_0⟩)), (24, .s .dead), (25, .s .dead), (26, .s .dead), (27, .s .dead), (28, .s .dead)], [], []⟩
noncomputable def cao_empty.L0 (N : Nat) (n : Nat) : (List bank_Slot) → Int → Bool → Int → Int → Option (RSs.I [.d (.sc (.int .i64))]) := fun x0 x2 x3 p0_t_9_0 p0_t_10_0 => loopN (aexec (cao_empty.E N) (subAt [.b, .b, .a, .b, .i, .l] cao_empty.code)) ((cao_empty.E N).keepOf 3) n (cao_empty.st0 x0 x2 x3 p0_t_9_0 p0_t_10_0) (kontAt (cao_empty.E N) [.b, .b, .a, .b, .i] cao_empty.code [] (cao_empty.K N))
theorem cao_empty.L0_step (N : Nat) (n : Nat) : cao_empty.L0 N (n + 1) = cao_empty.l0s N (cao_empty.L0 N n) := by kernel_rfl
theorem cao_empty.L0_eq (N : Nat) (n : Nat) : cao_empty.L0 N n = cao_empty.l0 N n := by
  induction n with
  | zero => rfl
  | succ n ih =>
    refine (cao_empty.L0_step N n).trans ?_
    rw [ih]
    rfl
theorem cao_empty.run_b (N : Nat) (x0 : (List bank_Slot)) (x1 : Int) (x2 : Int) (x3 : Bool) : arun (cao_empty.E N) Try.f75 [.d (.sc (.sl V_bank_Slot)), .d (.sc (.int .i64)), .d (.sc (.int .i64)), .d (.sc .bool)] [.d (.sc (.int .i64))] (x0, (x1, (x2, (x3, ())))) = cao_empty.b N (cao_empty.L0 N N) x0 x1 x2 x3 := by kernel_rfl
theorem cao_empty.run (N : Nat) (x0 : (List bank_Slot)) (x1 : Int) (x2 : Int) (x3 : Bool) : arun (cao_empty.E N) Try.f75 [.d (.sc (.sl V_bank_Slot)), .d (.sc (.int .i64)), .d (.sc (.int .i64)), .d (.sc .bool)] [.d (.sc (.int .i64))] (x0, (x1, (x2, (x3, ())))) = cao_empty N x0 x1 x2 x3 := by
  rw [cao_empty.run_b, cao_empty.L0_eq]
  rfl
theorem cao_empty.sound (N : Nat) : SoundCon Try.prog 75 (cao_empty.con N) := sound_go (E := cao_empty.E N) 10 Try.func75 (by kernel_rfl) (by kernel_rfl) Try.mixed (by kernel_rfl) tys_ok (by kernel_rfl) _ (by kernel_rfl) soundTab_nil fun z y h => (cao_empty.run N z.1 z.2.1 z.2.2.1 z.2.2.2.1).trans h
-- pigeonhole/cao.writes
noncomputable def cao_writes.E (N : Nat) : Env := { nt := 41, ty := tys, C := fun g => none, N := N, keep := [(3, ⟨[0, 1, 5, 7, 8], [5], [7], [], [], [], 0⟩)], shrink := [], shr := [], eqs := [] }
noncomputable def cao_writes.code : Code := (Try.f76.body).getD .skip
noncomputable def cao_writes.K (N : Nat) : AX → St → Option (RSs.I [.fresh V_bank_Write]) := finish (cao_writes.E N) Try.f76.results.toList [.fresh V_bank_Write]
noncomputable def cao_writes.st0 (x0 : (List bank_Slot)) (x1 : (List Int)) (x2 : entry_Entry) (p0_t_8_0 : Int) (p0_b_7 : (List bank_Write)) : St := ⟨[(0, .s (.d ⟨(.sl V_bank_Slot), x0⟩)), (1, .s (.d ⟨(.sl (.sc (.int .i64))), x1⟩)), (5, .s (.loc 5 0)), (7, .s (.own 7)), (8, .s (.d ⟨(.int .i64), p0_t_8_0⟩))], [(5, some [.d ⟨(.int .u64), x2.1⟩, .d ⟨(.int .u64), x2.2.1⟩, .d ⟨(.int .u64), x2.2.2.1⟩, .d ⟨(.int .u64), x2.2.2.2.1⟩, .d ⟨(.int .i64), x2.2.2.2.2.1⟩, .d ⟨(.int .i64), x2.2.2.2.2.2⟩])], [(7, ⟨true, V_bank_Write, p0_b_7⟩)]⟩
noncomputable def cao_writes.L0 (N : Nat) (n : Nat) : (List bank_Slot) → (List Int) → entry_Entry → Int → (List bank_Write) → Option (RSs.I [.fresh V_bank_Write]) := fun x0 x1 x2 p0_t_8_0 p0_b_7 => loopN (aexec (cao_writes.E N) (subAt [.b, .b, .a, .b, .i, .l] cao_writes.code)) ((cao_writes.E N).keepOf 3) n (cao_writes.st0 x0 x1 x2 p0_t_8_0 p0_b_7) (kontAt (cao_writes.E N) [.b, .b, .a, .b, .i] cao_writes.code [] (cao_writes.K N))
theorem cao_writes.L0_step (N : Nat) (n : Nat) : cao_writes.L0 N (n + 1) = cao_writes.l0s N (cao_writes.L0 N n) := by kernel_rfl
theorem cao_writes.L0_eq (N : Nat) (n : Nat) : cao_writes.L0 N n = cao_writes.l0 N n := by
  induction n with
  | zero => rfl
  | succ n ih =>
    refine (cao_writes.L0_step N n).trans ?_
    rw [ih]
    rfl
theorem cao_writes.run_b (N : Nat) (x0 : (List bank_Slot)) (x1 : (List Int)) (x2 : entry_Entry) : arun (cao_writes.E N) Try.f76 [.d (.sc (.sl V_bank_Slot)), .d (.sc (.sl (.sc (.int .i64)))), .d V_entry_Entry] [.fresh V_bank_Write] (x0, (x1, (x2, ()))) = cao_writes.b N (cao_writes.L0 N N) x0 x1 x2 := by kernel_rfl
theorem cao_writes.run (N : Nat) (x0 : (List bank_Slot)) (x1 : (List Int)) (x2 : entry_Entry) : arun (cao_writes.E N) Try.f76 [.d (.sc (.sl V_bank_Slot)), .d (.sc (.sl (.sc (.int .i64)))), .d V_entry_Entry] [.fresh V_bank_Write] (x0, (x1, (x2, ()))) = cao_writes N x0 x1 x2 := by
  rw [cao_writes.run_b, cao_writes.L0_eq]
  rfl
theorem cao_writes.sound (N : Nat) : SoundCon Try.prog 76 (cao_writes.con N) := sound_go (E := cao_writes.E N) 10 Try.func76 (by kernel_rfl) (by kernel_rfl) Try.mixed (by kernel_rfl) tys_ok (by kernel_rfl) _ (by kernel_rfl) soundTab_nil fun z y h => (cao_writes.run N z.1 z.2.1 z.2.2.1).trans h
-- pigeonhole/cao.walk
noncomputable def cao_walk.E (N : Nat) : Env := { nt := 35, ty := tys, C := fun g => none, N := N, keep := [(2, ⟨[0, 1, 2, 7, 13, 14, 15, 16], [], [7], [], [], [], 0⟩)], shrink := [], shr := [], eqs := [] }
noncomputable def cao_walk.code : Code := (Try.f77.body).getD .skip
noncomputable def cao_walk.K (N : Nat) : AX → St → Option (RSs.I [.fresh (.sc (.int .i64))]) := finish (cao_walk.E N) Try.f77.results.toList [.fresh (.sc (.int .i64))]
noncomputable def cao_walk.st0 (x0 : (List bank_Slot)) (x2 : (Int → Option (Int × Int))) (p0_t_1_0 : Int) (p0_b_7 : (List Int)) : St := ⟨[(0, .s (.d ⟨(.sl V_bank_Slot), x0⟩)), (1, .s (.d ⟨(.int .i64), p0_t_1_0⟩)), (2, .s (.d ⟨(.fn (.cons (.sc (.int .i64)) .nil) (.cons (.sc (.int .i64)) (.cons (.sc (.int .i64)) .nil))), x2⟩)), (7, .s (.own 7)), (13, .s .dead), (14, .s .dead), (15, .s .dead), (16, .s .dead)], [], [(7, ⟨true, (.sc (.int .i64)), p0_b_7⟩)]⟩
noncomputable def cao_walk.L0 (N : Nat) (n : Nat) : (List bank_Slot) → (Int → Option (Int × Int)) → Int → (List Int) → Option (RSs.I [.fresh (.sc (.int .i64))]) := fun x0 x2 p0_t_1_0 p0_b_7 => loopN (aexec (cao_walk.E N) (subAt [.b, .b, .a, .i, .l] cao_walk.code)) ((cao_walk.E N).keepOf 2) n (cao_walk.st0 x0 x2 p0_t_1_0 p0_b_7) (kontAt (cao_walk.E N) [.b, .b, .a, .i] cao_walk.code [] (cao_walk.K N))
theorem cao_walk.L0_step (N : Nat) (n : Nat) : cao_walk.L0 N (n + 1) = cao_walk.l0s N (cao_walk.L0 N n) := by kernel_rfl
theorem cao_walk.L0_eq (N : Nat) (n : Nat) : cao_walk.L0 N n = cao_walk.l0 N n := by
  induction n with
  | zero => rfl
  | succ n ih =>
    refine (cao_walk.L0_step N n).trans ?_
    rw [ih]
    rfl
theorem cao_walk.run_b (N : Nat) (x0 : (List bank_Slot)) (x1 : Int) (x2 : (Int → Option (Int × Int))) : arun (cao_walk.E N) Try.f77 [.d (.sc (.sl V_bank_Slot)), .d (.sc (.int .i64)), .d (.sc (.fn (.cons (.sc (.int .i64)) .nil) (.cons (.sc (.int .i64)) (.cons (.sc (.int .i64)) .nil))))] [.fresh (.sc (.int .i64))] (x0, (x1, (x2, ()))) = cao_walk.b N (cao_walk.L0 N N) x0 x1 x2 := by kernel_rfl
theorem cao_walk.run (N : Nat) (x0 : (List bank_Slot)) (x1 : Int) (x2 : (Int → Option (Int × Int))) : arun (cao_walk.E N) Try.f77 [.d (.sc (.sl V_bank_Slot)), .d (.sc (.int .i64)), .d (.sc (.fn (.cons (.sc (.int .i64)) .nil) (.cons (.sc (.int .i64)) (.cons (.sc (.int .i64)) .nil))))] [.fresh (.sc (.int .i64))] (x0, (x1, (x2, ()))) = cao_walk N x0 x1 x2 := by
  rw [cao_walk.run_b, cao_walk.L0_eq]
  rfl
theorem cao_walk.sound (N : Nat) : SoundCon Try.prog 77 (cao_walk.con N) := sound_go (E := cao_walk.E N) 10 Try.func77 (by kernel_rfl) (by kernel_rfl) Try.mixed (by kernel_rfl) tys_ok (by kernel_rfl) _ (by kernel_rfl) soundTab_nil fun z y h => (cao_walk.run N z.1 z.2.1 z.2.2.1).trans h
-- pigeonhole/cao.Insert$1
noncomputable def cao_Insert_1.E (N : Nat) : Env := { nt := 21, ty := tys, C := fun g => cond (Nat.beq g 49) (some (cao_lowest.con N)) (cond (Nat.beq g 75) (some (cao_empty.con N)) (none)), N := N, keep := [], shrink := [], shr := [], eqs := [] }
theorem cao_Insert_1.run_b (N : Nat) (x0 : Int) (x1 : (List bank_Slot)) : arun (cao_Insert_1.E N) Try.f78 [.d (.sc (.int .i64)), .ref (.cons (.sl V_bank_Slot) .nil)] [.d (.sc (.int .i64)), .d (.sc (.int .i64))] (x0, (x1, ())) = cao_Insert_1.b N x0 x1 := by kernel_rfl
theorem cao_Insert_1.run (N : Nat) (x0 : Int) (x1 : (List bank_Slot)) : arun (cao_Insert_1.E N) Try.f78 [.d (.sc (.int .i64)), .ref (.cons (.sl V_bank_Slot) .nil)] [.d (.sc (.int .i64)), .d (.sc (.int .i64))] (x0, (x1, ())) = cao_Insert_1 N x0 x1 := by
  rw [cao_Insert_1.run_b]
  rfl
theorem cao_Insert_1.sound (N : Nat) : SoundCon Try.prog 78 (cao_Insert_1.con N) := sound_go (E := cao_Insert_1.E N) 10 Try.func78 (by kernel_rfl) (by kernel_rfl) Try.mixed (by kernel_rfl) tys_ok (by kernel_rfl) _ (by kernel_rfl) (soundTab_cons (cao_lowest.sound N) (soundTab_cons (cao_empty.sound N) soundTab_nil)) fun z y h => (cao_Insert_1.run N z.1 z.2.1).trans h
-- pigeonhole/cao.Insert$2
noncomputable def cao_Insert_2.E (N : Nat) : Env := { nt := 20, ty := tys, C := fun g => cond (Nat.beq g 48) (some (cao_highest.con N)) (cond (Nat.beq g 75) (some (cao_empty.con N)) (none)), N := N, keep := [], shrink := [], shr := [], eqs := [] }
theorem cao_Insert_2.run_b (N : Nat) (x0 : Int) (x1 : (List bank_Slot)) : arun (cao_Insert_2.E N) Try.f79 [.d (.sc (.int .i64)), .ref (.cons (.sl V_bank_Slot) .nil)] [.d (.sc (.int .i64)), .d (.sc (.int .i64))] (x0, (x1, ())) = cao_Insert_2.b N x0 x1 := by kernel_rfl
theorem cao_Insert_2.run (N : Nat) (x0 : Int) (x1 : (List bank_Slot)) : arun (cao_Insert_2.E N) Try.f79 [.d (.sc (.int .i64)), .ref (.cons (.sl V_bank_Slot) .nil)] [.d (.sc (.int .i64)), .d (.sc (.int .i64))] (x0, (x1, ())) = cao_Insert_2 N x0 x1 := by
  rw [cao_Insert_2.run_b]
  rfl
theorem cao_Insert_2.sound (N : Nat) : SoundCon Try.prog 79 (cao_Insert_2.con N) := sound_go (E := cao_Insert_2.E N) 10 Try.func79 (by kernel_rfl) (by kernel_rfl) Try.mixed (by kernel_rfl) tys_ok (by kernel_rfl) _ (by kernel_rfl) (soundTab_cons (cao_highest.sound N) (soundTab_cons (cao_empty.sound N) soundTab_nil)) fun z y h => (cao_Insert_2.run N z.1 z.2.1).trans h
-- pigeonhole/cao.Insert
noncomputable def cao_Insert.E (N : Nat) : Env := { nt := 81, ty := tys, C := fun g => cond (Nat.beq g 21) (some (cao_Gap.con N)) (cond (Nat.beq g 22) (some (cao_Kept.con N)) (cond (Nat.beq g 74) (some (entry_Right.con N)) (cond (Nat.beq g 75) (some (cao_empty.con N)) (cond (Nat.beq g 76) (some (cao_writes.con N)) (cond (Nat.beq g 77) (some (cao_walk.con N)) (cond (Nat.beq g 78) (some (cao_Insert_1.con N)) (cond (Nat.beq g 79) (some (cao_Insert_2.con N)) (none)))))))), N := N, keep := [], shrink := [], shr := [], eqs := [] }
theorem cao_Insert.run_b (N : Nat) (x0 : (List bank_Slot)) (x1 : entry_Entry) : arun (cao_Insert.E N) Try.f46 [.d (.sc (.sl V_bank_Slot)), .d V_entry_Entry] [.fresh V_bank_Write, .d (.sc (.int .i64))] (x0, (x1, ())) = cao_Insert.b N x0 x1 := by kernel_rfl
theorem cao_Insert.run (N : Nat) (x0 : (List bank_Slot)) (x1 : entry_Entry) : arun (cao_Insert.E N) Try.f46 [.d (.sc (.sl V_bank_Slot)), .d V_entry_Entry] [.fresh V_bank_Write, .d (.sc (.int .i64))] (x0, (x1, ())) = cao_Insert N x0 x1 := by
  rw [cao_Insert.run_b]
  rfl
theorem cao_Insert.sound (N : Nat) : SoundCon Try.prog 46 (cao_Insert.con N) := sound_go (E := cao_Insert.E N) 10 Try.func46 (by kernel_rfl) (by kernel_rfl) Try.mixed (by kernel_rfl) tys_ok (by kernel_rfl) _ (by kernel_rfl) (soundTab_cons (cao_Gap.sound N) (soundTab_cons (cao_Kept.sound N) (soundTab_cons (entry_Right.sound N) (soundTab_cons (cao_empty.sound N) (soundTab_cons (cao_writes.sound N) (soundTab_cons (cao_walk.sound N) (soundTab_cons (cao_Insert_1.sound N) (soundTab_cons (cao_Insert_2.sound N) soundTab_nil)))))))) fun z y h => (cao_Insert.run N z.1 z.2.1).trans h
-- cmp.Or[int]
noncomputable def cmp_Or_int.E (N : Nat) : Env := { nt := 18, ty := tys, C := fun g => none, N := N, keep := [(3, ⟨[3, 6, 7, 8], [], [], [], [], [], 0⟩)], shrink := [], shr := [], eqs := [] }
noncomputable def cmp_Or_int.code : Code := (Try.f95.body).getD .skip
noncomputable def cmp_Or_int.K (N : Nat) : AX → St → Option (RSs.I [.d (.sc (.int .i64))]) := finish (cmp_Or_int.E N) Try.f95.results.toList [.d (.sc (.int .i64))]
noncomputable def cmp_Or_int.st0 (x0 : (List Int)) (p0_t_8_0 : Int) : St := ⟨[(3, .s (.d ⟨(.int .i64), (0 : Int)⟩)), (6, .s (.d ⟨(.sl (.sc (.int .i64))), x0⟩)), (7, .s (.d ⟨(.int .i64), ((List.length x0 : Nat) : Int)⟩)), (8, .s (.d ⟨(.int .i64), p0_t_8_0⟩))], [], []⟩
noncomputable def cmp_Or_int.L0 (N : Nat) (n : Nat) : (List Int) → Int → Option (RSs.I [.d (.sc (.int .i64))]) := fun x0 p0_t_8_0 => loopN (aexec (cmp_Or_int.E N) (subAt [.b, .b, .a, .b, .i, .l] cmp_Or_int.code)) ((cmp_Or_int.E N).keepOf 3) n (cmp_Or_int.st0 x0 p0_t_8_0) (kontAt (cmp_Or_int.E N) [.b, .b, .a, .b, .i] cmp_Or_int.code [] (cmp_Or_int.K N))
theorem cmp_Or_int.L0_step (N : Nat) (n : Nat) : cmp_Or_int.L0 N (n + 1) = cmp_Or_int.l0s N (cmp_Or_int.L0 N n) := by kernel_rfl
theorem cmp_Or_int.L0_eq (N : Nat) (n : Nat) : cmp_Or_int.L0 N n = cmp_Or_int.l0 N n := by
  induction n with
  | zero => rfl
  | succ n ih =>
    refine (cmp_Or_int.L0_step N n).trans ?_
    rw [ih]
    rfl
theorem cmp_Or_int.run_b (N : Nat) (x0 : (List Int)) : arun (cmp_Or_int.E N) Try.f95 [.d (.sc (.sl (.sc (.int .i64))))] [.d (.sc (.int .i64))] (x0, ()) = cmp_Or_int.b N (cmp_Or_int.L0 N N) x0 := by kernel_rfl
theorem cmp_Or_int.run (N : Nat) (x0 : (List Int)) : arun (cmp_Or_int.E N) Try.f95 [.d (.sc (.sl (.sc (.int .i64))))] [.d (.sc (.int .i64))] (x0, ()) = cmp_Or_int N x0 := by
  rw [cmp_Or_int.run_b, cmp_Or_int.L0_eq]
  rfl
theorem cmp_Or_int.sound (N : Nat) : SoundCon Try.prog 95 (cmp_Or_int.con N) := sound_go (E := cmp_Or_int.E N) 10 Try.func95 (by kernel_rfl) (by kernel_rfl) Try.mixed (by kernel_rfl) tys_ok (by kernel_rfl) _ (by kernel_rfl) soundTab_nil fun z y h => (cmp_Or_int.run N z.1).trans h
-- pigeonhole/addr.Compare
noncomputable def addr_Compare.E (N : Nat) : Env := { nt := 26, ty := tys, C := fun g => none, N := N, keep := [(2, ⟨[2, 3, 6], [0, 1, 2, 3, 4, 5, 6, 7, 8, 9, 10, 11, 12, 13, 14, 15, 16, 17, 18, 19, 20, 21, 22, 23, 24, 25], [0, 1, 2, 3, 4, 5, 6, 7, 8, 9, 10, 11, 12, 13, 14, 15, 16, 17, 18, 19, 20, 21, 22, 23, 24, 25], [], [], [], 12⟩)], shrink := [], shr := [], eqs := [] }
theorem addr_Compare.run_b (N : Nat) (x0 : addr_Addr) (x1 : addr_Addr) : arun (addr_Compare.E N) Try.f96 [.d V_addr_Addr, .d V_addr_Addr] [.d (.sc (.int .i64))] (x0, (x1, ())) = addr_Compare.b N x0 x1 := by kernel_rfl
theorem addr_Compare.run (N : Nat) (x0 : addr_Addr) (x1 : addr_Addr) : arun (addr_Compare.E N) Try.f96 [.d V_addr_Addr, .d V_addr_Addr] [.d (.sc (.int .i64))] (x0, (x1, ())) = addr_Compare N x0 x1 := by
  rw [addr_Compare.run_b]
  rfl
theorem addr_Compare.sound (N : Nat) : SoundCon Try.prog 96 (addr_Compare.con N) := sound_go (E := addr_Compare.E N) 10 Try.func96 (by kernel_rfl) (by kernel_rfl) Try.mixed (by kernel_rfl) tys_ok (by kernel_rfl) _ (by kernel_rfl) soundTab_nil fun z y h => (addr_Compare.run N z.1 z.2.1).trans h
-- pigeonhole/entry.Compare
noncomputable def entry_Compare.E (N : Nat) : Env := { nt := 31, ty := tys, C := fun g => cond (Nat.beq g 42) (some (cmp_Compare_int.con N)) (cond (Nat.beq g 95) (some (cmp_Or_int.con N)) (cond (Nat.beq g 96) (some (addr_Compare.con N)) (none))), N := N, keep := [], shrink := [], shr := [], eqs := [] }
theorem entry_Compare.run_b (N : Nat) (x0 : entry_Entry) (x1 : entry_Entry) : arun (entry_Compare.E N) Try.f62 [.d V_entry_Entry, .d V_entry_Entry] [.d (.sc (.int .i64))] (x0, (x1, ())) = entry_Compare.b N x0 x1 := by kernel_rfl
theorem entry_Compare.run (N : Nat) (x0 : entry_Entry) (x1 : entry_Entry) : arun (entry_Compare.E N) Try.f62 [.d V_entry_Entry, .d V_entry_Entry] [.d (.sc (.int .i64))] (x0, (x1, ())) = entry_Compare N x0 x1 := by
  rw [entry_Compare.run_b]
  rfl
theorem entry_Compare.sound (N : Nat) : SoundCon Try.prog 62 (entry_Compare.con N) := sound_go (E := entry_Compare.E N) 10 Try.func62 (by kernel_rfl) (by kernel_rfl) Try.mixed (by kernel_rfl) tys_ok (by kernel_rfl) _ (by kernel_rfl) (soundTab_cons (cmp_Compare_int.sound N) (soundTab_cons (cmp_Or_int.sound N) (soundTab_cons (addr_Compare.sound N) soundTab_nil))) fun z y h => (entry_Compare.run N z.1 z.2.1).trans h
end Go.PgAM
