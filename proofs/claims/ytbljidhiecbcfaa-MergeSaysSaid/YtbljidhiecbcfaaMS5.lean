/-
  Part 5 of the texts that the claim leans on: an abstract machine over the model's code, its soundness, and plain laws.
-/
import Derived.KernelRfl
import Derived.Test.YtbljidhiecbcfaaMS4
namespace Go.PgAM
open Go Go.Proofs
set_option linter.unusedVariables false
-- math/bits.OnesCount64
noncomputable def bits_OnesCount64.E (N : Nat) : Env := { nt := 35, ty := tys, C := fun g => none, N := N, keep := [], shrink := [], shr := [], eqs := [] }
theorem bits_OnesCount64.run_b (N : Nat) (x0 : Int) : arun (bits_OnesCount64.E N) Try.f91 [.d (.sc (.int .u64))] [.d (.sc (.int .i64))] (x0, ()) = bits_OnesCount64.b N x0 := by kernel_rfl
theorem bits_OnesCount64.run (N : Nat) (x0 : Int) : arun (bits_OnesCount64.E N) Try.f91 [.d (.sc (.int .u64))] [.d (.sc (.int .i64))] (x0, ()) = bits_OnesCount64 N x0 := by
  rw [bits_OnesCount64.run_b]
  rfl
theorem bits_OnesCount64.sound (N : Nat) : SoundCon Try.prog 91 (bits_OnesCount64.con N) := sound_go (E := bits_OnesCount64.E N) 10 Try.func91 (by kernel_rfl) (by kernel_rfl) Try.mixed (by kernel_rfl) tys_ok (by kernel_rfl) _ (by kernel_rfl) soundTab_nil fun z y h => (bits_OnesCount64.run N z.1).trans h
-- pigeonhole/addr.Ones
noncomputable def addr_Ones.E (N : Nat) : Env := { nt := 10, ty := tys, C := fun g => cond (Nat.beq g 91) (some (bits_OnesCount64.con N)) (none), N := N, keep := [], shrink := [], shr := [], eqs := [] }
theorem addr_Ones.run_b (N : Nat) (x0 : addr_Addr) : arun (addr_Ones.E N) Try.f57 [.d V_addr_Addr] [.d (.sc (.int .i64))] (x0, ()) = addr_Ones.b N x0 := by kernel_rfl
theorem addr_Ones.run (N : Nat) (x0 : addr_Addr) : arun (addr_Ones.E N) Try.f57 [.d V_addr_Addr] [.d (.sc (.int .i64))] (x0, ()) = addr_Ones N x0 := by
  rw [addr_Ones.run_b]
  rfl
theorem addr_Ones.sound (N : Nat) : SoundCon Try.prog 57 (addr_Ones.con N) := sound_go (E := addr_Ones.E N) 10 Try.func57 (by kernel_rfl) (by kernel_rfl) Try.mixed (by kernel_rfl) tys_ok (by kernel_rfl) _ (by kernel_rfl) (soundTab_cons (bits_OnesCount64.sound N) soundTab_nil) fun z y h => (addr_Ones.run N z.1).trans h
-- pigeonhole/addr.And
noncomputable def addr_And.E (N : Nat) : Env := { nt := 16, ty := tys, C := fun g => none, N := N, keep := [], shrink := [], shr := [], eqs := [] }
theorem addr_And.run_b (N : Nat) (x0 : addr_Addr) (x1 : addr_Addr) : arun (addr_And.E N) Try.f89 [.d V_addr_Addr, .d V_addr_Addr] [.d V_addr_Addr] (x0, (x1, ())) = addr_And.b N x0 x1 := by kernel_rfl
theorem addr_And.run (N : Nat) (x0 : addr_Addr) (x1 : addr_Addr) : arun (addr_And.E N) Try.f89 [.d V_addr_Addr, .d V_addr_Addr] [.d V_addr_Addr] (x0, (x1, ())) = addr_And N x0 x1 := by
  rw [addr_And.run_b]
  rfl
theorem addr_And.sound (N : Nat) : SoundCon Try.prog 89 (addr_And.con N) := sound_go (E := addr_And.E N) 10 Try.func89 (by kernel_rfl) (by kernel_rfl) Try.mixed (by kernel_rfl) tys_ok (by kernel_rfl) _ (by kernel_rfl) soundTab_nil fun z y h => (addr_And.run N z.1 z.2.1).trans h
-- pigeonhole/addr.Xor
noncomputable def addr_Xor.E (N : Nat) : Env := { nt := 16, ty := tys, C := fun g => none, N := N, keep := [], shrink := [], shr := [], eqs := [] }
theorem addr_Xor.run_b (N : Nat) (x0 : addr_Addr) (x1 : addr_Addr) : arun (addr_Xor.E N) Try.f98 [.d V_addr_Addr, .d V_addr_Addr] [.d V_addr_Addr] (x0, (x1, ())) = addr_Xor.b N x0 x1 := by kernel_rfl
theorem addr_Xor.run (N : Nat) (x0 : addr_Addr) (x1 : addr_Addr) : arun (addr_Xor.E N) Try.f98 [.d V_addr_Addr, .d V_addr_Addr] [.d V_addr_Addr] (x0, (x1, ())) = addr_Xor N x0 x1 := by
  rw [addr_Xor.run_b]
  rfl
theorem addr_Xor.sound (N : Nat) : SoundCon Try.prog 98 (addr_Xor.con N) := sound_go (E := addr_Xor.E N) 10 Try.func98 (by kernel_rfl) (by kernel_rfl) Try.mixed (by kernel_rfl) tys_ok (by kernel_rfl) _ (by kernel_rfl) soundTab_nil fun z y h => (addr_Xor.run N z.1 z.2.1).trans h
-- pigeonhole/word.differ
noncomputable def word_differ.E (N : Nat) : Env := { nt := 12, ty := tys, C := fun g => cond (Nat.beq g 89) (some (addr_And.con N)) (cond (Nat.beq g 98) (some (addr_Xor.con N)) (none)), N := N, keep := [], shrink := [], shr := [], eqs := [] }
theorem word_differ.run_b (N : Nat) (x0 : addr_Addr) (x1 : addr_Addr) (x2 : addr_Addr) : arun (word_differ.E N) Try.f92 [.d V_addr_Addr, .d V_addr_Addr, .d V_addr_Addr] [.d V_addr_Addr] (x0, (x1, (x2, ()))) = word_differ.b N x0 x1 x2 := by kernel_rfl
theorem word_differ.run (N : Nat) (x0 : addr_Addr) (x1 : addr_Addr) (x2 : addr_Addr) : arun (word_differ.E N) Try.f92 [.d V_addr_Addr, .d V_addr_Addr, .d V_addr_Addr] [.d V_addr_Addr] (x0, (x1, (x2, ()))) = word_differ N x0 x1 x2 := by
  rw [word_differ.run_b]
  rfl
theorem word_differ.sound (N : Nat) : SoundCon Try.prog 92 (word_differ.con N) := sound_go (E := word_differ.E N) 10 Try.func92 (by kernel_rfl) (by kernel_rfl) Try.mixed (by kernel_rfl) tys_ok (by kernel_rfl) _ (by kernel_rfl) (soundTab_cons (addr_And.sound N) (soundTab_cons (addr_Xor.sound N) soundTab_nil)) fun z y h => (word_differ.run N z.1 z.2.1 z.2.2.1).trans h
-- pigeonhole/word.clean
noncomputable def word_clean.E (N : Nat) : Env := { nt := 11, ty := tys, C := fun g => cond (Nat.beq g 89) (some (addr_And.con N)) (none), N := N, keep := [], shrink := [], shr := [], eqs := [] }
theorem word_clean.run_b (N : Nat) (x0 : word_Word) : arun (word_clean.E N) Try.f97 [.d V_word_Word] [.d V_word_Word] (x0, ()) = word_clean.b N x0 := by kernel_rfl
theorem word_clean.run (N : Nat) (x0 : word_Word) : arun (word_clean.E N) Try.f97 [.d V_word_Word] [.d V_word_Word] (x0, ()) = word_clean N x0 := by
  rw [word_clean.run_b]
  rfl
theorem word_clean.sound (N : Nat) : SoundCon Try.prog 97 (word_clean.con N) := sound_go (E := word_clean.E N) 10 Try.func97 (by kernel_rfl) (by kernel_rfl) Try.mixed (by kernel_rfl) tys_ok (by kernel_rfl) _ (by kernel_rfl) (soundTab_cons (addr_And.sound N) soundTab_nil) fun z y h => (word_clean.run N z.1).trans h
-- pigeonhole/word.Merge
noncomputable def word_Merge.E (N : Nat) : Env := { nt := 33, ty := tys, C := fun g => cond (Nat.beq g 57) (some (addr_Ones.con N)) (cond (Nat.beq g 92) (some (word_differ.con N)) (cond (Nat.beq g 97) (some (word_clean.con N)) (cond (Nat.beq g 98) (some (addr_Xor.con N)) (none)))), N := N, keep := [], shrink := [], shr := [], eqs := [25] }
theorem word_Merge.run_b (N : Nat) (x0 : word_Word) (x1 : word_Word) : arun (word_Merge.E N) Try.f63 [.d V_word_Word, .d V_word_Word] [.d V_word_Word, .d (.sc .bool)] (x0, (x1, ())) = word_Merge.b N x0 x1 := by kernel_rfl
theorem word_Merge.run (N : Nat) (x0 : word_Word) (x1 : word_Word) : arun (word_Merge.E N) Try.f63 [.d V_word_Word, .d V_word_Word] [.d V_word_Word, .d (.sc .bool)] (x0, (x1, ())) = word_Merge N x0 x1 := by
  rw [word_Merge.run_b]
  rfl
theorem word_Merge.sound (N : Nat) : SoundCon Try.prog 63 (word_Merge.con N) := sound_go (E := word_Merge.E N) 10 Try.func63 (by kernel_rfl) (by kernel_rfl) Try.mixed (by kernel_rfl) tys_ok (by kernel_rfl) _ (by kernel_rfl) (soundTab_cons (addr_Ones.sound N) (soundTab_cons (word_differ.sound N) (soundTab_cons (word_clean.sound N) (soundTab_cons (addr_Xor.sound N) soundTab_nil)))) fun z y h => (word_Merge.run N z.1 z.2.1).trans h
-- pigeonhole/merge.two
noncomputable def merge_two.E (N : Nat) : Env := { nt := 61, ty := tys, C := fun g => cond (Nat.beq g 63) (some (word_Merge.con N)) (none), N := N, keep := [(2, ⟨[0, 4, 11, 12, 13, 25, 26, 27, 28, 29, 30, 31, 32], [4], [], [], [], [], 0⟩), (5, ⟨[0, 4, 6, 7, 8, 11, 12, 13, 25, 26, 27, 28, 29, 30, 31, 32], [4, 7], [], [], [], [], 0⟩)], shrink := [], shr := [], eqs := [] }
noncomputable def merge_two.code : Code := (Try.f32.body).getD .skip
noncomputable def merge_two.K (N : Nat) : AX → St → Option (RSs.I [.d (.sc (.int .i64)), .d (.sc (.int .i64)), .d V_word_Word, .d (.sc .bool)]) := finish (merge_two.E N) Try.f32.results.toList [.d (.sc (.int .i64)), .d (.sc (.int .i64)), .d V_word_Word, .d (.sc .bool)]
noncomputable def merge_two.st0 (x0 : (List entry_Entry)) (p0_t_13_0 : Int) : St := ⟨[(0, .s (.d ⟨(.sl V_entry_Entry), x0⟩)), (4, .s (.loc 4 0)), (11, .s (.d ⟨(.sl V_entry_Entry), x0⟩)), (12, .s (.d ⟨(.int .i64), ((List.length x0 : Nat) : Int)⟩)), (13, .s (.d ⟨(.int .i64), p0_t_13_0⟩)), (25, .s .dead), (26, .s .dead), (27, .s .dead), (28, .s .dead), (29, .s .dead), (30, .s .dead), (31, .s .dead), (32, .s .dead)], [(4, some [.d ⟨(.int .u64), (0 : Int)⟩, .d ⟨(.int .u64), (0 : Int)⟩, .d ⟨(.int .u64), (0 : Int)⟩, .d ⟨(.int .u64), (0 : Int)⟩])], []⟩
noncomputable def merge_two.L0 (N : Nat) (n : Nat) : (List entry_Entry) → Int → Option (RSs.I [.d (.sc (.int .i64)), .d (.sc (.int .i64)), .d V_word_Word, .d (.sc .bool)]) := fun x0 p0_t_13_0 => loopN (aexec (merge_two.E N) (subAt [.b, .a, .b, .i, .l] merge_two.code)) ((merge_two.E N).keepOf 2) n (merge_two.st0 x0 p0_t_13_0) (kontAt (merge_two.E N) [.b, .a, .b, .i] merge_two.code [] (merge_two.K N))
noncomputable def merge_two.st1 (x0 : (List entry_Entry)) (p0_t_13_0 : Int) (y1 : entry_Entry) (p1_t_8_0 : Int) : St := ⟨[(0, .s (.d ⟨(.sl V_entry_Entry), x0⟩)), (4, .s (.loc 4 0)), (6, .s (.d ⟨(.int .i64), p0_t_13_0⟩)), (7, .s (.loc 7 0)), (8, .s (.d ⟨(.int .i64), p1_t_8_0⟩)), (11, .s (.d ⟨(.sl V_entry_Entry), x0⟩)), (12, .s (.d ⟨(.int .i64), ((List.length x0 : Nat) : Int)⟩)), (13, .s (.d ⟨(.int .i64), p0_t_13_0⟩)), (25, .s .dead), (26, .s .dead), (27, .s .dead), (28, .s .dead), (29, .s .dead), (30, .s .dead), (31, .s .dead), (32, .s .dead)], [(4, some [.d ⟨(.int .u64), (0 : Int)⟩, .d ⟨(.int .u64), (0 : Int)⟩, .d ⟨(.int .u64), (0 : Int)⟩, .d ⟨(.int .u64), (0 : Int)⟩]), (7, some [.d ⟨(.int .u64), y1.1⟩, .d ⟨(.int .u64), y1.2.1⟩, .d ⟨(.int .u64), y1.2.2.1⟩, .d ⟨(.int .u64), y1.2.2.2.1⟩, .d ⟨(.int .i64), y1.2.2.2.2.1⟩, .d ⟨(.int .i64), y1.2.2.2.2.2⟩])], []⟩
noncomputable def merge_two.L1 (N : Nat) (n0 : Nat) (n : Nat) : (List entry_Entry) → Int → entry_Entry → Int → Option (RSs.I [.d (.sc (.int .i64)), .d (.sc (.int .i64)), .d V_word_Word, .d (.sc .bool)]) := fun x0 p0_t_13_0 y1 p1_t_8_0 => loopN (aexec (merge_two.E N) (subAt [.b, .a, .b, .i, .l, .b, .b, .a, .i, .b, .b, .i, .l] merge_two.code)) ((merge_two.E N).keepOf 5) n (merge_two.st1 x0 p0_t_13_0 y1 p1_t_8_0) (kontAt (merge_two.E N) [.b, .a, .b, .i, .l, .b, .b, .a, .i, .b, .b, .i] merge_two.code [n0] (merge_two.K N))
theorem merge_two.L1_step (N : Nat) (n0 : Nat) (n : Nat) : merge_two.L1 N n0 (n + 1) = merge_two.l1s N (merge_two.L0 N n0) (merge_two.L1 N n0 n) := by kernel_rfl
theorem merge_two.L1_eq (N : Nat) (n0 : Nat) (n : Nat) : merge_two.L1 N n0 n = merge_two.l1 N (merge_two.L0 N n0) n := by
  induction n with
  | zero => rfl
  | succ n ih =>
    refine (merge_two.L1_step N n0 n).trans ?_
    rw [ih]
    rfl
theorem merge_two.L0_step (N : Nat) (n : Nat) : merge_two.L0 N (n + 1) = merge_two.l0s N (merge_two.L1 N n N) (merge_two.L0 N n) := by kernel_rfl
theorem merge_two.L0_eq (N : Nat) (n : Nat) : merge_two.L0 N n = merge_two.l0 N n := by
  induction n with
  | zero => rfl
  | succ n ih =>
    refine (merge_two.L0_step N n).trans ?_
    rw [merge_two.L1_eq]
    rw [ih]
    rfl
theorem merge_two.run_b (N : Nat) (x0 : (List entry_Entry)) : arun (merge_two.E N) Try.f32 [.d (.sc (.sl V_entry_Entry))] [.d (.sc (.int .i64)), .d (.sc (.int .i64)), .d V_word_Word, .d (.sc .bool)] (x0, ()) = merge_two.b N (merge_two.L0 N N) x0 := by kernel_rfl
theorem merge_two.run (N : Nat) (x0 : (List entry_Entry)) : arun (merge_two.E N) Try.f32 [.d (.sc (.sl V_entry_Entry))] [.d (.sc (.int .i64)), .d (.sc (.int .i64)), .d V_word_Word, .d (.sc .bool)] (x0, ()) = merge_two N x0 := by
  rw [merge_two.run_b, merge_two.L0_eq]
  rfl
theorem merge_two.sound (N : Nat) : SoundCon Try.prog 32 (merge_two.con N) := sound_go (E := merge_two.E N) 10 Try.func32 (by kernel_rfl) (by kernel_rfl) Try.mixed (by kernel_rfl) tys_ok (by kernel_rfl) _ (by kernel_rfl) (soundTab_cons (word_Merge.sound N) soundTab_nil) fun z y h => (merge_two.run N z.1).trans h
-- pigeonhole/merge.Merge
noncomputable def merge_Merge.E (N : Nat) : Env := { nt := 58, ty := tys, C := fun g => cond (Nat.beq g 31) (some (sortE.con N)) (cond (Nat.beq g 32) (some (merge_two.con N)) (none)), N := N, keep := [(10000, ⟨[3, 32, 33, 34], [], [500003], [], [], [3], 0⟩), (6, ⟨[3, 4, 5, 6, 8, 21, 22, 23, 32, 33, 34], [6], [8, 500003], [], [], [], 0⟩)], shrink := [], shr := [], eqs := [] }
noncomputable def merge_Merge.code : Code := (Try.f10.body).getD .skip
noncomputable def merge_Merge.K (N : Nat) : AX → St → Option (RSs.I [.fresh V_entry_Entry]) := finish (merge_Merge.E N) Try.f10.results.toList [.fresh V_entry_Entry]
noncomputable def merge_Merge.st0 (p0_b_500003 : (List entry_Entry)) : St := ⟨[(3, .s (.own 500003)), (32, .s .dead), (33, .s .dead), (34, .s .dead)], [], [(500003, ⟨true, V_entry_Entry, p0_b_500003⟩)]⟩
noncomputable def merge_Merge.L0 (N : Nat) (n : Nat) : (List entry_Entry) → Option (RSs.I [.fresh V_entry_Entry]) := fun p0_b_500003 => gotoN (aexec (merge_Merge.E N) (subAt [.b, .g] merge_Merge.code)) 0 ((merge_Merge.E N).keepOf 10000) n (merge_Merge.st0 p0_b_500003) (kontAt (merge_Merge.E N) [.b] merge_Merge.code [] (merge_Merge.K N))
noncomputable def merge_Merge.st1 (p0_b_500003 : (List entry_Entry)) (y2 : (Int × Int × word_Word × Bool)) (p1_t_23_0 : Int) (p1_b_8 : (List entry_Entry)) : St := ⟨[(3, .s (.own 500003)), (4, .s (.d ⟨(.int .i64), y2.1⟩)), (5, .s (.d ⟨(.int .i64), y2.2.1⟩)), (6, .s (.loc 6 0)), (8, .s (.own 8)), (21, .s (.own 500003)), (22, .s (.d ⟨(.int .i64), ((List.length p0_b_500003 : Nat) : Int)⟩)), (23, .s (.d ⟨(.int .i64), p1_t_23_0⟩)), (32, .s .dead), (33, .s .dead), (34, .s .dead)], [(6, some [.d ⟨(.int .u64), y2.2.2.1.1⟩, .d ⟨(.int .u64), y2.2.2.1.2.1⟩, .d ⟨(.int .u64), y2.2.2.1.2.2.1⟩, .d ⟨(.int .u64), y2.2.2.1.2.2.2⟩])], [(8, ⟨true, V_entry_Entry, p1_b_8⟩), (500003, ⟨true, V_entry_Entry, p0_b_500003⟩)]⟩
noncomputable def merge_Merge.L1 (N : Nat) (n0 : Nat) (n : Nat) : (List entry_Entry) → (Int × Int × word_Word × Bool) → Int → (List entry_Entry) → Option (RSs.I [.fresh V_entry_Entry]) := fun p0_b_500003 y2 p1_t_23_0 p1_b_8 => loopN (aexec (merge_Merge.E N) (subAt [.b, .g, .a, .b, .b, .t, .b, .a, .b, .i, .l] merge_Merge.code)) ((merge_Merge.E N).keepOf 6) n (merge_Merge.st1 p0_b_500003 y2 p1_t_23_0 p1_b_8) (kontAt (merge_Merge.E N) [.b, .g, .a, .b, .b, .t, .b, .a, .b, .i] merge_Merge.code [n0] (merge_Merge.K N))
theorem merge_Merge.L1_step (N : Nat) (n0 : Nat) (n : Nat) : merge_Merge.L1 N n0 (n + 1) = merge_Merge.l1s N (merge_Merge.L0 N n0) (merge_Merge.L1 N n0 n) := by kernel_rfl
theorem merge_Merge.L1_eq (N : Nat) (n0 : Nat) (n : Nat) : merge_Merge.L1 N n0 n = merge_Merge.l1 N (merge_Merge.L0 N n0) n := by
  induction n with
  | zero => rfl
  | succ n ih =>
    refine (merge_Merge.L1_step N n0 n).trans ?_
    rw [ih]
    rfl
theorem merge_Merge.L0_step (N : Nat) (n : Nat) : merge_Merge.L0 N (n + 1) = merge_Merge.l0s N (merge_Merge.L1 N n N) (merge_Merge.L0 N n) := by kernel_rfl
theorem merge_Merge.L0_eq (N : Nat) (n : Nat) : merge_Merge.L0 N n = merge_Merge.l0 N n := by
  induction n with
  | zero => rfl
  | succ n ih =>
    refine (merge_Merge.L0_step N n).trans ?_
    rw [merge_Merge.L1_eq]
    rw [ih]
    rfl
theorem merge_Merge.run_b (N : Nat) (x0 : (List entry_Entry)) : arun (merge_Merge.E N) Try.f10 [.d (.sc (.sl V_entry_Entry))] [.fresh V_entry_Entry] (x0, ()) = merge_Merge.b N (merge_Merge.L0 N N) x0 := by kernel_rfl
theorem merge_Merge.run (N : Nat) (x0 : (List entry_Entry)) : arun (merge_Merge.E N) Try.f10 [.d (.sc (.sl V_entry_Entry))] [.fresh V_entry_Entry] (x0, ()) = merge_Merge N x0 := by
  rw [merge_Merge.run_b, merge_Merge.L0_eq]
  rfl
theorem merge_Merge.sound (N : Nat) : SoundCon Try.prog 10 (merge_Merge.con N) := sound_go (E := merge_Merge.E N) 10 Try.func10 (by kernel_rfl) (by kernel_rfl) Try.mixed (by kernel_rfl) tys_ok (by kernel_rfl) _ (by kernel_rfl) (soundTab_cons (sortE.sound N) (soundTab_cons (merge_two.sound N) soundTab_nil)) fun z y h => (merge_Merge.run N z.1).trans h
-- pigeonhole/merge.Mode
noncomputable def merge_Mode.E (N : Nat) : Env := { nt := 9, ty := tys, C := fun g => none, N := N, keep := [], shrink := [], shr := [], eqs := [] }
theorem merge_Mode.run_b (N : Nat) (x0 : Int) : arun (merge_Mode.E N) Try.f30 [.d (.sc (.int .i64))] [.d (.sc .bool)] (x0, ()) = merge_Mode.b N x0 := by kernel_rfl
theorem merge_Mode.run (N : Nat) (x0 : Int) : arun (merge_Mode.E N) Try.f30 [.d (.sc (.int .i64))] [.d (.sc .bool)] (x0, ()) = merge_Mode N x0 := by
  rw [merge_Mode.run_b]
  rfl
theorem merge_Mode.sound (N : Nat) : SoundCon Try.prog 30 (merge_Mode.con N) := sound_go (E := merge_Mode.E N) 10 Try.func30 (by kernel_rfl) (by kernel_rfl) Try.mixed (by kernel_rfl) tys_ok (by kernel_rfl) _ (by kernel_rfl) soundTab_nil fun z y h => (merge_Mode.run N z.1).trans h
-- pigeonhole/addr.Common
noncomputable def addr_Common.E (N : Nat) : Env := { nt := 19, ty := tys, C := fun g => cond (Nat.beq g 98) (some (addr_Xor.con N)) (cond (Nat.beq g 124) (some (clz64.con N)) (none)), N := N, keep := [], shrink := [], shr := [], eqs := [] }
theorem addr_Common.run_b (N : Nat) (x0 : addr_Addr) (x1 : addr_Addr) : arun (addr_Common.E N) Try.f118 [.d V_addr_Addr, .d V_addr_Addr] [.d (.sc (.int .i64))] (x0, (x1, ())) = addr_Common.b N x0 x1 := by kernel_rfl
theorem addr_Common.run (N : Nat) (x0 : addr_Addr) (x1 : addr_Addr) : arun (addr_Common.E N) Try.f118 [.d V_addr_Addr, .d V_addr_Addr] [.d (.sc (.int .i64))] (x0, (x1, ())) = addr_Common N x0 x1 := by
  rw [addr_Common.run_b]
  rfl
theorem addr_Common.sound (N : Nat) : SoundCon Try.prog 118 (addr_Common.con N) := sound_go (E := addr_Common.E N) 10 Try.func118 (by kernel_rfl) (by kernel_rfl) Try.mixed (by kernel_rfl) tys_ok (by kernel_rfl) _ (by kernel_rfl) (soundTab_cons (addr_Xor.sound N) (soundTab_cons (clz64.sound N) soundTab_nil)) fun z y h => (addr_Common.run N z.1 z.2.1).trans h
-- pigeonhole/prefix.Match
noncomputable def prefix_Match.E (N : Nat) : Env := { nt := 14, ty := tys, C := fun g => cond (Nat.beq g 118) (some (addr_Common.con N)) (none), N := N, keep := [], shrink := [], shr := [], eqs := [] }
theorem prefix_Match.run_b (N : Nat) (x0 : prefix_Prefix) (x1 : addr_Addr) : arun (prefix_Match.E N) Try.f102 [.d V_prefix_Prefix, .d V_addr_Addr] [.d (.sc .bool)] (x0, (x1, ())) = prefix_Match.b N x0 x1 := by kernel_rfl
theorem prefix_Match.run (N : Nat) (x0 : prefix_Prefix) (x1 : addr_Addr) : arun (prefix_Match.E N) Try.f102 [.d V_prefix_Prefix, .d V_addr_Addr] [.d (.sc .bool)] (x0, (x1, ())) = prefix_Match N x0 x1 := by
  rw [prefix_Match.run_b]
  rfl
theorem prefix_Match.sound (N : Nat) : SoundCon Try.prog 102 (prefix_Match.con N) := sound_go (E := prefix_Match.E N) 10 Try.func102 (by kernel_rfl) (by kernel_rfl) Try.mixed (by kernel_rfl) tys_ok (by kernel_rfl) _ (by kernel_rfl) (soundTab_cons (addr_Common.sound N) soundTab_nil) fun z y h => (prefix_Match.run N z.1 z.2.1).trans h
-- pigeonhole/prefix.Covers
noncomputable def prefix_Covers.E (N : Nat) : Env := { nt := 16, ty := tys, C := fun g => cond (Nat.beq g 102) (some (prefix_Match.con N)) (none), N := N, keep := [], shrink := [], shr := [], eqs := [] }
theorem prefix_Covers.run_b (N : Nat) (x0 : prefix_Prefix) (x1 : prefix_Prefix) : arun (prefix_Covers.E N) Try.f71 [.d V_prefix_Prefix, .d V_prefix_Prefix] [.d (.sc .bool)] (x0, (x1, ())) = prefix_Covers.b N x0 x1 := by kernel_rfl
theorem prefix_Covers.run (N : Nat) (x0 : prefix_Prefix) (x1 : prefix_Prefix) : arun (prefix_Covers.E N) Try.f71 [.d V_prefix_Prefix, .d V_prefix_Prefix] [.d (.sc .bool)] (x0, (x1, ())) = prefix_Covers N x0 x1 := by
  rw [prefix_Covers.run_b]
  rfl
theorem prefix_Covers.sound (N : Nat) : SoundCon Try.prog 71 (prefix_Covers.con N) := sound_go (E := prefix_Covers.E N) 10 Try.func71 (by kernel_rfl) (by kernel_rfl) Try.mixed (by kernel_rfl) tys_ok (by kernel_rfl) _ (by kernel_rfl) (soundTab_cons (prefix_Match.sound N) soundTab_nil) fun z y h => (prefix_Covers.run N z.1 z.2.1).trans h
-- pigeonhole/prune.Keep$1
noncomputable def prune_Keep_1.E (N : Nat) : Env := { nt := 9, ty := tys, C := fun g => cond (Nat.beq g 71) (some (prefix_Covers.con N)) (none), N := N, keep := [], shrink := [], shr := [], eqs := [] }
theorem prune_Keep_1.run_b (N : Nat) (x0 : rib_Route) (x1 : (Int × Int × Int × Int)) : arun (prune_Keep_1.E N) Try.f70 [.d V_rib_Route, .ref (.cons (.int .u64) (.cons (.int .u64) (.cons (.int .i64) (.cons (.int .i64) .nil))))] [.d (.sc .bool)] (x0, (x1, ())) = prune_Keep_1.b N x0 x1 := by kernel_rfl
theorem prune_Keep_1.run (N : Nat) (x0 : rib_Route) (x1 : (Int × Int × Int × Int)) : arun (prune_Keep_1.E N) Try.f70 [.d V_rib_Route, .ref (.cons (.int .u64) (.cons (.int .u64) (.cons (.int .i64) (.cons (.int .i64) .nil))))] [.d (.sc .bool)] (x0, (x1, ())) = prune_Keep_1 N x0 x1 := by
  rw [prune_Keep_1.run_b]
  rfl
theorem prune_Keep_1.sound (N : Nat) : SoundCon Try.prog 70 (prune_Keep_1.con N) := sound_go (E := prune_Keep_1.E N) 10 Try.func70 (by kernel_rfl) (by kernel_rfl) Try.mixed (by kernel_rfl) tys_ok (by kernel_rfl) _ (by kernel_rfl) (soundTab_cons (prefix_Covers.sound N) soundTab_nil) fun z y h => (prune_Keep_1.run N z.1 z.2.1).trans h
-- pigeonhole/prune.Keep
noncomputable def prune_Keep.E (N : Nat) : Env := { nt := 59, ty := tys, C := fun g => cond (Nat.beq g 70) (some (prune_Keep_1.con N)) (none), N := N, keep := [(3, ⟨[3, 4, 8, 9, 10, 19, 20, 21, 22, 23, 24, 25, 26, 27, 38, 39, 40, 41, 42, 43, 44, 45, 46, 47], [], [3, 4], [], [], [], 0⟩), (6, ⟨[3, 4, 6, 7, 8, 9, 10, 19, 20, 21, 22, 23, 24, 25, 26, 27, 38, 39, 40, 41, 42, 43, 44, 45, 46, 47], [6], [3, 4], [], [], [], 0⟩)], shrink := [33], shr := [], eqs := [] }
noncomputable def prune_Keep.code : Code := (Try.f38.body).getD .skip
noncomputable def prune_Keep.K (N : Nat) : AX → St → Option (RSs.I [.fresh V_rib_Route]) := finish (prune_Keep.E N) Try.f38.results.toList [.fresh V_rib_Route]
noncomputable def prune_Keep.st0 (x0 : (List rib_Route)) (p0_t_10_0 : Int) (p0_b_3 : (List rib_Route)) (p0_b_4 : (List rib_Route)) : St := ⟨[(3, .s (.own 3)), (4, .s (.own 4)), (8, .s (.d ⟨(.sl V_rib_Route), x0⟩)), (9, .s (.d ⟨(.int .i64), ((List.length x0 : Nat) : Int)⟩)), (10, .s (.d ⟨(.int .i64), p0_t_10_0⟩)), (19, .s .dead), (20, .s .dead), (21, .s .dead), (22, .s .dead), (23, .s .dead), (24, .s .dead), (25, .s .dead), (26, .s .dead), (27, .s .dead), (38, .s .dead), (39, .s .dead), (40, .s .dead), (41, .s .dead), (42, .s .dead), (43, .s .dead), (44, .s .dead), (45, .s .dead), (46, .s .dead), (47, .s .dead)], [], [(3, ⟨true, V_rib_Route, p0_b_3⟩), (4, ⟨true, V_rib_Route, p0_b_4⟩)]⟩
noncomputable def prune_Keep.L0 (N : Nat) (n : Nat) : (List rib_Route) → Int → (List rib_Route) → (List rib_Route) → Option (RSs.I [.fresh V_rib_Route]) := fun x0 p0_t_10_0 p0_b_3 p0_b_4 => loopN (aexec (prune_Keep.E N) (subAt [.b, .b, .a, .b, .i, .l] prune_Keep.code)) ((prune_Keep.E N).keepOf 3) n (prune_Keep.st0 x0 p0_t_10_0 p0_b_3 p0_b_4) (kontAt (prune_Keep.E N) [.b, .b, .a, .b, .i] prune_Keep.code [] (prune_Keep.K N))
noncomputable def prune_Keep.st1 (x0 : (List rib_Route)) (p0_t_10_0 : Int) (p0_b_3 : (List rib_Route)) (y1 : rib_Route) (p1_b_4 : (List rib_Route)) : St := ⟨[(3, .s (.own 3)), (4, .s (.own 4)), (6, .s (.loc 6 0)), (7, .s (.fn 70 [.loc 6])), (8, .s (.d ⟨(.sl V_rib_Route), x0⟩)), (9, .s (.d ⟨(.int .i64), ((List.length x0 : Nat) : Int)⟩)), (10, .s (.d ⟨(.int .i64), p0_t_10_0⟩)), (19, .s .dead), (20, .s .dead), (21, .s .dead), (22, .s .dead), (23, .s .dead), (24, .s .dead), (25, .s .dead), (26, .s .dead), (27, .s .dead), (38, .s .dead), (39, .s .dead), (40, .s .dead), (41, .s .dead), (42, .s .dead), (43, .s .dead), (44, .s .dead), (45, .s .dead), (46, .s .dead), (47, .s .dead)], [(6, some [.d ⟨(.int .u64), y1.1⟩, .d ⟨(.int .u64), y1.2.1⟩, .d ⟨(.int .i64), y1.2.2.1⟩, .d ⟨(.int .i64), y1.2.2.2⟩])], [(3, ⟨true, V_rib_Route, p0_b_3⟩), (4, ⟨true, V_rib_Route, p1_b_4⟩)]⟩
noncomputable def prune_Keep.L1 (N : Nat) (n0 : Nat) (n : Nat) : (List rib_Route) → Int → (List rib_Route) → rib_Route → (List rib_Route) → Option (RSs.I [.fresh V_rib_Route]) := fun x0 p0_t_10_0 p0_b_3 y1 p1_b_4 => loopN (aexec (prune_Keep.E N) (subAt [.b, .b, .a, .b, .i, .l, .b, .b, .a, .i, .b, .b, .a, .i, .l] prune_Keep.code)) ((prune_Keep.E N).keepOf 6) n (prune_Keep.st1 x0 p0_t_10_0 p0_b_3 y1 p1_b_4) (kontAt (prune_Keep.E N) [.b, .b, .a, .b, .i, .l, .b, .b, .a, .i, .b, .b, .a, .i] prune_Keep.code [n0] (prune_Keep.K N))
theorem prune_Keep.L1_step (N : Nat) (n0 : Nat) (n : Nat) : prune_Keep.L1 N n0 (n + 1) = prune_Keep.l1s N (prune_Keep.L0 N n0) (prune_Keep.L1 N n0 n) := by kernel_rfl
theorem prune_Keep.L1_eq (N : Nat) (n0 : Nat) (n : Nat) : prune_Keep.L1 N n0 n = prune_Keep.l1 N (prune_Keep.L0 N n0) n := by
  induction n with
  | zero => rfl
  | succ n ih =>
    refine (prune_Keep.L1_step N n0 n).trans ?_
    rw [ih]
    rfl
theorem prune_Keep.L0_step (N : Nat) (n : Nat) : prune_Keep.L0 N (n + 1) = prune_Keep.l0s N (prune_Keep.L1 N n N) (prune_Keep.L0 N n) := by kernel_rfl
theorem prune_Keep.L0_eq (N : Nat) (n : Nat) : prune_Keep.L0 N n = prune_Keep.l0 N n := by
  induction n with
  | zero => rfl
  | succ n ih =>
    refine (prune_Keep.L0_step N n).trans ?_
    rw [prune_Keep.L1_eq]
    rw [ih]
    rfl
theorem prune_Keep.run_b (N : Nat) (x0 : (List rib_Route)) : arun (prune_Keep.E N) Try.f38 [.d (.sc (.sl V_rib_Route))] [.fresh V_rib_Route] (x0, ()) = prune_Keep.b N (prune_Keep.L0 N N) x0 := by kernel_rfl
theorem prune_Keep.run (N : Nat) (x0 : (List rib_Route)) : arun (prune_Keep.E N) Try.f38 [.d (.sc (.sl V_rib_Route))] [.fresh V_rib_Route] (x0, ()) = prune_Keep N x0 := by
  rw [prune_Keep.run_b, prune_Keep.L0_eq]
  rfl
theorem prune_Keep.sound (N : Nat) : SoundCon Try.prog 38 (prune_Keep.con N) := sound_go (E := prune_Keep.E N) 10 Try.func38 (by kernel_rfl) (by kernel_rfl) Try.mixed (by kernel_rfl) tys_ok (by kernel_rfl) _ (by kernel_rfl) (soundTab_cons (prune_Keep_1.sound N) soundTab_nil) fun z y h => (prune_Keep.run N z.1).trans h
-- pigeonhole/addr.Mask
noncomputable def addr_Mask.E (N : Nat) : Env := { nt := 25, ty := tys, C := fun g => none, N := N, keep := [(4, ⟨[0, 2, 3, 9], [0, 1, 2, 3, 4, 5, 6, 7, 8, 9, 10, 11, 12, 13, 14, 15, 16, 17, 18, 19, 20, 21, 22, 23, 24], [0, 1, 2, 3, 4, 5, 6, 7, 8, 9, 10, 11, 12, 13, 14, 15, 16, 17, 18, 19, 20, 21, 22, 23, 24], [], [], [], 12⟩)], shrink := [], shr := [], eqs := [] }
theorem addr_Mask.run_b (N : Nat) (x0 : Int) : arun (addr_Mask.E N) Try.f90 [.d (.sc (.int .i64))] [.d V_addr_Addr] (x0, ()) = addr_Mask.b N x0 := by kernel_rfl
theorem addr_Mask.run (N : Nat) (x0 : Int) : arun (addr_Mask.E N) Try.f90 [.d (.sc (.int .i64))] [.d V_addr_Addr] (x0, ()) = addr_Mask N x0 := by
  rw [addr_Mask.run_b]
  rfl
theorem addr_Mask.sound (N : Nat) : SoundCon Try.prog 90 (addr_Mask.con N) := sound_go (E := addr_Mask.E N) 10 Try.func90 (by kernel_rfl) (by kernel_rfl) Try.mixed (by kernel_rfl) tys_ok (by kernel_rfl) _ (by kernel_rfl) soundTab_nil fun z y h => (addr_Mask.run N z.1).trans h
-- pigeonhole/addr.Cut
noncomputable def addr_Cut.E (N : Nat) : Env := { nt := 9, ty := tys, C := fun g => cond (Nat.beq g 89) (some (addr_And.con N)) (cond (Nat.beq g 90) (some (addr_Mask.con N)) (none)), N := N, keep := [], shrink := [], shr := [], eqs := [] }
theorem addr_Cut.run_b (N : Nat) (x0 : addr_Addr) (x1 : Int) : arun (addr_Cut.E N) Try.f56 [.d V_addr_Addr, .d (.sc (.int .i64))] [.d V_addr_Addr] (x0, (x1, ())) = addr_Cut.b N x0 x1 := by kernel_rfl
theorem addr_Cut.run (N : Nat) (x0 : addr_Addr) (x1 : Int) : arun (addr_Cut.E N) Try.f56 [.d V_addr_Addr, .d (.sc (.int .i64))] [.d V_addr_Addr] (x0, (x1, ())) = addr_Cut N x0 x1 := by
  rw [addr_Cut.run_b]
  rfl
theorem addr_Cut.sound (N : Nat) : SoundCon Try.prog 56 (addr_Cut.con N) := sound_go (E := addr_Cut.E N) 10 Try.func56 (by kernel_rfl) (by kernel_rfl) Try.mixed (by kernel_rfl) tys_ok (by kernel_rfl) _ (by kernel_rfl) (soundTab_cons (addr_And.sound N) (soundTab_cons (addr_Mask.sound N) soundTab_nil)) fun z y h => (addr_Cut.run N z.1 z.2.1).trans h
-- pigeonhole/prefix.Make
noncomputable def prefix_Make.E (N : Nat) : Env := { nt := 13, ty := tys, C := fun g => cond (Nat.beq g 56) (some (addr_Cut.con N)) (none), N := N, keep := [], shrink := [], shr := [], eqs := [] }
theorem prefix_Make.run_b (N : Nat) (x0 : addr_Addr) (x1 : Int) : arun (prefix_Make.E N) Try.f27 [.d V_addr_Addr, .d (.sc (.int .i64))] [.d V_prefix_Prefix] (x0, (x1, ())) = prefix_Make.b N x0 x1 := by kernel_rfl
theorem prefix_Make.run (N : Nat) (x0 : addr_Addr) (x1 : Int) : arun (prefix_Make.E N) Try.f27 [.d V_addr_Addr, .d (.sc (.int .i64))] [.d V_prefix_Prefix] (x0, (x1, ())) = prefix_Make N x0 x1 := by
  rw [prefix_Make.run_b]
  rfl
theorem prefix_Make.sound (N : Nat) : SoundCon Try.prog 27 (prefix_Make.con N) := sound_go (E := prefix_Make.E N) 10 Try.func27 (by kernel_rfl) (by kernel_rfl) Try.mixed (by kernel_rfl) tys_ok (by kernel_rfl) _ (by kernel_rfl) (soundTab_cons (addr_Cut.sound N) soundTab_nil) fun z y h => (prefix_Make.run N z.1 z.2.1).trans h
-- pigeonhole/word.Of
noncomputable def word_Of.E (N : Nat) : Env := { nt := 14, ty := tys, C := fun g => cond (Nat.beq g 27) (some (prefix_Make.con N)) (cond (Nat.beq g 90) (some (addr_Mask.con N)) (none)), N := N, keep := [], shrink := [], shr := [], eqs := [] }
theorem word_Of.run_b (N : Nat) (x0 : prefix_Prefix) : arun (word_Of.E N) Try.f72 [.d V_prefix_Prefix] [.d V_word_Word] (x0, ()) = word_Of.b N x0 := by kernel_rfl
theorem word_Of.run (N : Nat) (x0 : prefix_Prefix) : arun (word_Of.E N) Try.f72 [.d V_prefix_Prefix] [.d V_word_Word] (x0, ()) = word_Of N x0 := by
  rw [word_Of.run_b]
  rfl
theorem word_Of.sound (N : Nat) : SoundCon Try.prog 72 (word_Of.con N) := sound_go (E := word_Of.E N) 10 Try.func72 (by kernel_rfl) (by kernel_rfl) Try.mixed (by kernel_rfl) tys_ok (by kernel_rfl) _ (by kernel_rfl) (soundTab_cons (prefix_Make.sound N) (soundTab_cons (addr_Mask.sound N) soundTab_nil)) fun z y h => (word_Of.run N z.1).trans h
-- pigeonhole/entry.Of
noncomputable def entry_Of.E (N : Nat) : Env := { nt := 15, ty := tys, C := fun g => cond (Nat.beq g 27) (some (prefix_Make.con N)) (cond (Nat.beq g 72) (some (word_Of.con N)) (none)), N := N, keep := [], shrink := [], shr := [], eqs := [] }
theorem entry_Of.run_b (N : Nat) (x0 : prefix_Prefix) (x1 : Int) : arun (entry_Of.E N) Try.f39 [.d V_prefix_Prefix, .d (.sc (.int .i64))] [.d V_entry_Entry] (x0, (x1, ())) = entry_Of.b N x0 x1 := by kernel_rfl
theorem entry_Of.run (N : Nat) (x0 : prefix_Prefix) (x1 : Int) : arun (entry_Of.E N) Try.f39 [.d V_prefix_Prefix, .d (.sc (.int .i64))] [.d V_entry_Entry] (x0, (x1, ())) = entry_Of N x0 x1 := by
  rw [entry_Of.run_b]
  rfl
theorem entry_Of.sound (N : Nat) : SoundCon Try.prog 39 (entry_Of.con N) := sound_go (E := entry_Of.E N) 10 Try.func39 (by kernel_rfl) (by kernel_rfl) Try.mixed (by kernel_rfl) tys_ok (by kernel_rfl) _ (by kernel_rfl) (soundTab_cons (prefix_Make.sound N) (soundTab_cons (word_Of.sound N) soundTab_nil)) fun z y h => (entry_Of.run N z.1 z.2.1).trans h
-- pigeonhole/merge.Build
noncomputable def merge_Build.E (N : Nat) : Env := { nt := 36, ty := tys, C := fun g => cond (Nat.beq g 10) (some (merge_Merge.con N)) (cond (Nat.beq g 30) (some (merge_Mode.con N)) (cond (Nat.beq g 31) (some (sortE.con N)) (cond (Nat.beq g 38) (some (prune_Keep.con N)) (cond (Nat.beq g 39) (some (entry_Of.con N)) (none))))), N := N, keep := [(7, ⟨[1, 5, 15, 16, 17], [], [5], [15], [], [], 0⟩)], shrink := [], shr := [], eqs := [] }
noncomputable def merge_Build.code : Code := (Try.f16.body).getD .skip
noncomputable def merge_Build.K (N : Nat) : AX → St → Option (RSs.I [.fresh V_entry_Entry]) := finish (merge_Build.E N) Try.f16.results.toList [.fresh V_entry_Entry]
noncomputable def merge_Build.st0 (x1 : Int) (p0_t_15_0 : (List rib_Route)) (p0_t_16_0 : Int) (p0_t_17_0 : Int) (p0_b_5 : (List entry_Entry)) : St := ⟨[(1, .s (.d ⟨(.int .i64), x1⟩)), (5, .s (.own 5)), (15, .s (.d ⟨(.sl V_rib_Route), p0_t_15_0⟩)), (16, .s (.d ⟨(.int .i64), p0_t_16_0⟩)), (17, .s (.d ⟨(.int .i64), p0_t_17_0⟩))], [], [(5, ⟨true, V_entry_Entry, p0_b_5⟩)]⟩
noncomputable def merge_Build.L0 (N : Nat) (n : Nat) : Int → (List rib_Route) → Int → Int → (List entry_Entry) → Option (RSs.I [.fresh V_entry_Entry]) := fun x1 p0_t_15_0 p0_t_16_0 p0_t_17_0 p0_b_5 => loopN (aexec (merge_Build.E N) (subAt [.b, .b, .b, .b, .a, .b, .i, .l] merge_Build.code)) ((merge_Build.E N).keepOf 7) n (merge_Build.st0 x1 p0_t_15_0 p0_t_16_0 p0_t_17_0 p0_b_5) (kontAt (merge_Build.E N) [.b, .b, .b, .b, .a, .b, .i] merge_Build.code [] (merge_Build.K N))
theorem merge_Build.L0_step (N : Nat) (n : Nat) : merge_Build.L0 N (n + 1) = merge_Build.l0s N (merge_Build.L0 N n) := by kernel_rfl
theorem merge_Build.L0_eq (N : Nat) (n : Nat) : merge_Build.L0 N n = merge_Build.l0 N n := by
  induction n with
  | zero => rfl
  | succ n ih =>
    refine (merge_Build.L0_step N n).trans ?_
    rw [ih]
    rfl
theorem merge_Build.run_b (N : Nat) (x0 : (List rib_Route)) (x1 : Int) : arun (merge_Build.E N) Try.f16 [.d (.sc (.sl V_rib_Route)), .d (.sc (.int .i64))] [.fresh V_entry_Entry] (x0, (x1, ())) = merge_Build.b N (merge_Build.L0 N N) x0 x1 := by kernel_rfl
theorem merge_Build.run (N : Nat) (x0 : (List rib_Route)) (x1 : Int) : arun (merge_Build.E N) Try.f16 [.d (.sc (.sl V_rib_Route)), .d (.sc (.int .i64))] [.fresh V_entry_Entry] (x0, (x1, ())) = merge_Build N x0 x1 := by
  rw [merge_Build.run_b, merge_Build.L0_eq]
  rfl
theorem merge_Build.sound (N : Nat) : SoundCon Try.prog 16 (merge_Build.con N) := sound_go (E := merge_Build.E N) 10 Try.func16 (by kernel_rfl) (by kernel_rfl) Try.mixed (by kernel_rfl) tys_ok (by kernel_rfl) _ (by kernel_rfl) (soundTab_cons (merge_Merge.sound N) (soundTab_cons (merge_Mode.sound N) (soundTab_cons (sortE.sound N) (soundTab_cons (prune_Keep.sound N) (soundTab_cons (entry_Of.sound N) soundTab_nil))))) fun z y h => (merge_Build.run N z.1 z.2.1).trans h
-- pigeonhole/addr.Not
noncomputable def addr_Not.E (N : Nat) : Env := { nt := 10, ty := tys, C := fun g => none, N := N, keep := [], shrink := [], shr := [], eqs := [] }
theorem addr_Not.run_b (N : Nat) (x0 : addr_Addr) : arun (addr_Not.E N) Try.f58 [.d V_addr_Addr] [.d V_addr_Addr] (x0, ()) = addr_Not.b N x0 := by kernel_rfl
theorem addr_Not.run (N : Nat) (x0 : addr_Addr) : arun (addr_Not.E N) Try.f58 [.d V_addr_Addr] [.d V_addr_Addr] (x0, ()) = addr_Not N x0 := by
  rw [addr_Not.run_b]
  rfl
theorem addr_Not.sound (N : Nat) : SoundCon Try.prog 58 (addr_Not.con N) := sound_go (E := addr_Not.E N) 10 Try.func58 (by kernel_rfl) (by kernel_rfl) Try.mixed (by kernel_rfl) tys_ok (by kernel_rfl) _ (by kernel_rfl) soundTab_nil fun z y h => (addr_Not.run N z.1).trans h
-- pigeonhole/word.Free
noncomputable def word_Free.E (N : Nat) : Env := { nt := 7, ty := tys, C := fun g => cond (Nat.beq g 57) (some (addr_Ones.con N)) (cond (Nat.beq g 58) (some (addr_Not.con N)) (none)), N := N, keep := [], shrink := [], shr := [], eqs := [] }
theorem word_Free.run_b (N : Nat) (x0 : word_Word) : arun (word_Free.E N) Try.f28 [.d V_word_Word] [.d (.sc (.int .i64))] (x0, ()) = word_Free.b N x0 := by kernel_rfl
theorem word_Free.run (N : Nat) (x0 : word_Word) : arun (word_Free.E N) Try.f28 [.d V_word_Word] [.d (.sc (.int .i64))] (x0, ()) = word_Free N x0 := by
  rw [word_Free.run_b]
  rfl
theorem word_Free.sound (N : Nat) : SoundCon Try.prog 28 (word_Free.con N) := sound_go (E := word_Free.E N) 10 Try.func28 (by kernel_rfl) (by kernel_rfl) Try.mixed (by kernel_rfl) tys_ok (by kernel_rfl) _ (by kernel_rfl) (soundTab_cons (addr_Ones.sound N) (soundTab_cons (addr_Not.sound N) soundTab_nil)) fun z y h => (word_Free.run N z.1).trans h
-- pigeonhole/word.Meet
noncomputable def word_Meet.E (N : Nat) : Env := { nt := 17, ty := tys, C := fun g => cond (Nat.beq g 89) (some (addr_And.con N)) (cond (Nat.beq g 92) (some (word_differ.con N)) (none)), N := N, keep := [], shrink := [], shr := [], eqs := [25] }
theorem word_Meet.run_b (N : Nat) (x0 : word_Word) (x1 : word_Word) : arun (word_Meet.E N) Try.f59 [.d V_word_Word, .d V_word_Word] [.d (.sc .bool)] (x0, (x1, ())) = word_Meet.b N x0 x1 := by kernel_rfl
theorem word_Meet.run (N : Nat) (x0 : word_Word) (x1 : word_Word) : arun (word_Meet.E N) Try.f59 [.d V_word_Word, .d V_word_Word] [.d (.sc .bool)] (x0, (x1, ())) = word_Meet N x0 x1 := by
  rw [word_Meet.run_b]
  rfl
theorem word_Meet.sound (N : Nat) : SoundCon Try.prog 59 (word_Meet.con N) := sound_go (E := word_Meet.E N) 10 Try.func59 (by kernel_rfl) (by kernel_rfl) Try.mixed (by kernel_rfl) tys_ok (by kernel_rfl) _ (by kernel_rfl) (soundTab_cons (addr_And.sound N) (soundTab_cons (word_differ.sound N) soundTab_nil)) fun z y h => (word_Meet.run N z.1 z.2.1).trans h
-- pigeonhole/merge.Simple
noncomputable def merge_Simple.E (N : Nat) : Env := { nt := 36, ty := tys, C := fun g => cond (Nat.beq g 59) (some (word_Meet.con N)) (none), N := N, keep := [(2, ⟨[0, 7, 8, 9, 28, 29, 30, 31, 32], [], [], [], [], [], 0⟩), (5, ⟨[0, 4, 7, 8, 9, 16, 17, 18, 28, 29, 30, 31, 32], [4], [], [], [], [], 0⟩)], shrink := [], shr := [], eqs := [] }
noncomputable def merge_Simple.code : Code := (Try.f29.body).getD .skip
noncomputable def merge_Simple.K (N : Nat) : AX → St → Option (RSs.I [.d (.sc .bool)]) := finish (merge_Simple.E N) Try.f29.results.toList [.d (.sc .bool)]
noncomputable def merge_Simple.st0 (x0 : (List entry_Entry)) (p0_t_9_0 : Int) : St := ⟨[(0, .s (.d ⟨(.sl V_entry_Entry), x0⟩)), (7, .s (.d ⟨(.sl V_entry_Entry), x0⟩)), (8, .s (.d ⟨(.int .i64), ((List.length x0 : Nat) : Int)⟩)), (9, .s (.d ⟨(.int .i64), p0_t_9_0⟩)), (28, .s .dead), (29, .s .dead), (30, .s .dead), (31, .s .dead), (32, .s .dead)], [], []⟩
noncomputable def merge_Simple.L0 (N : Nat) (n : Nat) : (List entry_Entry) → Int → Option (RSs.I [.d (.sc .bool)]) := fun x0 p0_t_9_0 => loopN (aexec (merge_Simple.E N) (subAt [.b, .a, .b, .i, .l] merge_Simple.code)) ((merge_Simple.E N).keepOf 2) n (merge_Simple.st0 x0 p0_t_9_0) (kontAt (merge_Simple.E N) [.b, .a, .b, .i] merge_Simple.code [] (merge_Simple.K N))
noncomputable def merge_Simple.st1 (x0 : (List entry_Entry)) (p0_t_9_0 : Int) (y1 : entry_Entry) (p1_t_18_0 : Int) : St := ⟨[(0, .s (.d ⟨(.sl V_entry_Entry), x0⟩)), (4, .s (.loc 4 0)), (7, .s (.d ⟨(.sl V_entry_Entry), x0⟩)), (8, .s (.d ⟨(.int .i64), ((List.length x0 : Nat) : Int)⟩)), (9, .s (.d ⟨(.int .i64), p0_t_9_0⟩)), (16, .s (.d ⟨(.sl V_entry_Entry), (List.drop (Int.toNat 0) (List.take (Int.toNat p0_t_9_0) x0))⟩)), (17, .s (.d ⟨(.int .i64), ((List.length (List.drop (Int.toNat 0) (List.take (Int.toNat p0_t_9_0) x0)) : Nat) : Int)⟩)), (18, .s (.d ⟨(.int .i64), p1_t_18_0⟩)), (28, .s .dead), (29, .s .dead), (30, .s .dead), (31, .s .dead), (32, .s .dead)], [(4, some [.d ⟨(.int .u64), y1.1⟩, .d ⟨(.int .u64), y1.2.1⟩, .d ⟨(.int .u64), y1.2.2.1⟩, .d ⟨(.int .u64), y1.2.2.2.1⟩, .d ⟨(.int .i64), y1.2.2.2.2.1⟩, .d ⟨(.int .i64), y1.2.2.2.2.2⟩])], []⟩
noncomputable def merge_Simple.L1 (N : Nat) (n0 : Nat) (n : Nat) : (List entry_Entry) → Int → entry_Entry → Int → Option (RSs.I [.d (.sc .bool)]) := fun x0 p0_t_9_0 y1 p1_t_18_0 => loopN (aexec (merge_Simple.E N) (subAt [.b, .a, .b, .i, .l, .b, .b, .a, .i, .b, .b, .i, .l] merge_Simple.code)) ((merge_Simple.E N).keepOf 5) n (merge_Simple.st1 x0 p0_t_9_0 y1 p1_t_18_0) (kontAt (merge_Simple.E N) [.b, .a, .b, .i, .l, .b, .b, .a, .i, .b, .b, .i] merge_Simple.code [n0] (merge_Simple.K N))
theorem merge_Simple.L1_step (N : Nat) (n0 : Nat) (n : Nat) : merge_Simple.L1 N n0 (n + 1) = merge_Simple.l1s N (merge_Simple.L0 N n0) (merge_Simple.L1 N n0 n) := by kernel_rfl
theorem merge_Simple.L1_eq (N : Nat) (n0 : Nat) (n : Nat) : merge_Simple.L1 N n0 n = merge_Simple.l1 N (merge_Simple.L0 N n0) n := by
  induction n with
  | zero => rfl
  | succ n ih =>
    refine (merge_Simple.L1_step N n0 n).trans ?_
    rw [ih]
    rfl
theorem merge_Simple.L0_step (N : Nat) (n : Nat) : merge_Simple.L0 N (n + 1) = merge_Simple.l0s N (merge_Simple.L1 N n N) (merge_Simple.L0 N n) := by kernel_rfl
theorem merge_Simple.L0_eq (N : Nat) (n : Nat) : merge_Simple.L0 N n = merge_Simple.l0 N n := by
  induction n with
  | zero => rfl
  | succ n ih =>
    refine (merge_Simple.L0_step N n).trans ?_
    rw [merge_Simple.L1_eq]
    rw [ih]
    rfl
theorem merge_Simple.run_b (N : Nat) (x0 : (List entry_Entry)) : arun (merge_Simple.E N) Try.f29 [.d (.sc (.sl V_entry_Entry))] [.d (.sc .bool)] (x0, ()) = merge_Simple.b N (merge_Simple.L0 N N) x0 := by kernel_rfl
theorem merge_Simple.run (N : Nat) (x0 : (List entry_Entry)) : arun (merge_Simple.E N) Try.f29 [.d (.sc (.sl V_entry_Entry))] [.d (.sc .bool)] (x0, ()) = merge_Simple N x0 := by
  rw [merge_Simple.run_b, merge_Simple.L0_eq]
  rfl
theorem merge_Simple.sound (N : Nat) : SoundCon Try.prog 29 (merge_Simple.con N) := sound_go (E := merge_Simple.E N) 10 Try.func29 (by kernel_rfl) (by kernel_rfl) Try.mixed (by kernel_rfl) tys_ok (by kernel_rfl) _ (by kernel_rfl) (soundTab_cons (word_Meet.sound N) soundTab_nil) fun z y h => (merge_Simple.run N z.1).trans h
-- pigeonhole/pigeonholelaw10.awake
noncomputable def law10_awake.E (N : Nat) : Env := { nt := 43, ty := tys, C := fun g => cond (Nat.beq g 16) (some (merge_Build.con N)) (cond (Nat.beq g 27) (some (prefix_Make.con N)) (cond (Nat.beq g 28) (some (word_Free.con N)) (cond (Nat.beq g 29) (some (merge_Simple.con N)) (cond (Nat.beq g 30) (some (merge_Mode.con N)) (none))))), N := N, keep := [], shrink := [], shr := [], eqs := [] }
theorem law10_awake.run_b (N : Nat) : arun (law10_awake.E N) Try.f9 [] [.d (.sc .bool)] () = law10_awake.b N := by kernel_rfl
theorem law10_awake.run (N : Nat) : arun (law10_awake.E N) Try.f9 [] [.d (.sc .bool)] () = law10_awake N := by
  rw [law10_awake.run_b]
  rfl
theorem law10_awake.sound (N : Nat) : SoundCon Try.prog 9 (law10_awake.con N) := sound_go (E := law10_awake.E N) 10 Try.func9 (by kernel_rfl) (by kernel_rfl) Try.mixed (by kernel_rfl) tys_ok (by kernel_rfl) _ (by kernel_rfl) (soundTab_cons (merge_Build.sound N) (soundTab_cons (prefix_Make.sound N) (soundTab_cons (word_Free.sound N) (soundTab_cons (merge_Simple.sound N) (soundTab_cons (merge_Mode.sound N) soundTab_nil))))) fun z y h => (law10_awake.run N).trans h
-- pigeonhole/word.Match
noncomputable def word_Match.E (N : Nat) : Env := { nt := 13, ty := tys, C := fun g => cond (Nat.beq g 92) (some (word_differ.con N)) (none), N := N, keep := [], shrink := [], shr := [], eqs := [25] }
theorem word_Match.run_b (N : Nat) (x0 : word_Word) (x1 : addr_Addr) : arun (word_Match.E N) Try.f64 [.d V_word_Word, .d V_addr_Addr] [.d (.sc .bool)] (x0, (x1, ())) = word_Match.b N x0 x1 := by kernel_rfl
theorem word_Match.run (N : Nat) (x0 : word_Word) (x1 : addr_Addr) : arun (word_Match.E N) Try.f64 [.d V_word_Word, .d V_addr_Addr] [.d (.sc .bool)] (x0, (x1, ())) = word_Match N x0 x1 := by
  rw [word_Match.run_b]
  rfl
theorem word_Match.sound (N : Nat) : SoundCon Try.prog 64 (word_Match.con N) := sound_go (E := word_Match.E N) 10 Try.func64 (by kernel_rfl) (by kernel_rfl) Try.mixed (by kernel_rfl) tys_ok (by kernel_rfl) _ (by kernel_rfl) (soundTab_cons (word_differ.sound N) soundTab_nil) fun z y h => (word_Match.run N z.1 z.2.1).trans h
-- pigeonhole/entry.Best
noncomputable def entry_Best.E (N : Nat) : Env := { nt := 39, ty := tys, C := fun g => cond (Nat.beq g 64) (some (word_Match.con N)) (none), N := N, keep := [(3, ⟨[0, 3, 6, 7, 10, 11, 12, 22, 23, 24, 25, 26, 27, 28, 29, 30, 31, 32, 33], [3], [], [], [], [], 0⟩)], shrink := [], shr := [], eqs := [] }
noncomputable def entry_Best.code : Code := (Try.f33.body).getD .skip
noncomputable def entry_Best.K (N : Nat) : AX → St → Option (RSs.I [.d (.sc (.int .i64)), .d (.sc .bool)]) := finish (entry_Best.E N) Try.f33.results.toList [.d (.sc (.int .i64)), .d (.sc .bool)]
noncomputable def entry_Best.st0 (x0 : (List entry_Entry)) (x1 : addr_Addr) (p0_t_6_0 : Int) (p0_t_7_0 : Bool) (p0_t_12_0 : Int) : St := ⟨[(0, .s (.d ⟨(.sl V_entry_Entry), x0⟩)), (3, .s (.loc 3 0)), (6, .s (.d ⟨(.int .i64), p0_t_6_0⟩)), (7, .s (.d ⟨.bool, p0_t_7_0⟩)), (10, .s (.d ⟨(.sl V_entry_Entry), x0⟩)), (11, .s (.d ⟨(.int .i64), ((List.length x0 : Nat) : Int)⟩)), (12, .s (.d ⟨(.int .i64), p0_t_12_0⟩)), (22, .s .dead), (23, .s .dead), (24, .s .dead), (25, .s .dead), (26, .s .dead), (27, .s .dead), (28, .s .dead), (29, .s .dead), (30, .s .dead), (31, .s .dead), (32, .s .dead), (33, .s .dead)], [(3, some [.d ⟨(.int .u64), x1.1⟩, .d ⟨(.int .u64), x1.2⟩])], []⟩
noncomputable def entry_Best.L0 (N : Nat) (n : Nat) : (List entry_Entry) → addr_Addr → Int → Bool → Int → Option (RSs.I [.d (.sc (.int .i64)), .d (.sc .bool)]) := fun x0 x1 p0_t_6_0 p0_t_7_0 p0_t_12_0 => loopN (aexec (entry_Best.E N) (subAt [.b, .b, .a, .b, .i, .l] entry_Best.code)) ((entry_Best.E N).keepOf 3) n (entry_Best.st0 x0 x1 p0_t_6_0 p0_t_7_0 p0_t_12_0) (kontAt (entry_Best.E N) [.b, .b, .a, .b, .i] entry_Best.code [] (entry_Best.K N))
theorem entry_Best.L0_step (N : Nat) (n : Nat) : entry_Best.L0 N (n + 1) = entry_Best.l0s N (entry_Best.L0 N n) := by kernel_rfl
theorem entry_Best.L0_eq (N : Nat) (n : Nat) : entry_Best.L0 N n = entry_Best.l0 N n := by
  induction n with
  | zero => rfl
  | succ n ih =>
    refine (entry_Best.L0_step N n).trans ?_
    rw [ih]
    rfl
theorem entry_Best.run_b (N : Nat) (x0 : (List entry_Entry)) (x1 : addr_Addr) : arun (entry_Best.E N) Try.f33 [.d (.sc (.sl V_entry_Entry)), .d V_addr_Addr] [.d (.sc (.int .i64)), .d (.sc .bool)] (x0, (x1, ())) = entry_Best.b N (entry_Best.L0 N N) x0 x1 := by kernel_rfl
theorem entry_Best.run (N : Nat) (x0 : (List entry_Entry)) (x1 : addr_Addr) : arun (entry_Best.E N) Try.f33 [.d (.sc (.sl V_entry_Entry)), .d V_addr_Addr] [.d (.sc (.int .i64)), .d (.sc .bool)] (x0, (x1, ())) = entry_Best N x0 x1 := by
  rw [entry_Best.run_b, entry_Best.L0_eq]
  rfl
theorem entry_Best.sound (N : Nat) : SoundCon Try.prog 33 (entry_Best.con N) := sound_go (E := entry_Best.E N) 10 Try.func33 (by kernel_rfl) (by kernel_rfl) Try.mixed (by kernel_rfl) tys_ok (by kernel_rfl) _ (by kernel_rfl) (soundTab_cons (word_Match.sound N) soundTab_nil) fun z y h => (entry_Best.run N z.1 z.2.1).trans h
-- pigeonhole/entry.Tell
noncomputable def entry_Tell.E (N : Nat) : Env := { nt := 20, ty := tys, C := fun g => cond (Nat.beq g 33) (some (entry_Best.con N)) (none), N := N, keep := [], shrink := [], shr := [], eqs := [] }
theorem entry_Tell.run_b (N : Nat) (x0 : (List entry_Entry)) (x1 : addr_Addr) : arun (entry_Tell.E N) Try.f11 [.d (.sc (.sl V_entry_Entry)), .d V_addr_Addr] [.d (.sc (.int .i64))] (x0, (x1, ())) = entry_Tell.b N x0 x1 := by kernel_rfl
theorem entry_Tell.run (N : Nat) (x0 : (List entry_Entry)) (x1 : addr_Addr) : arun (entry_Tell.E N) Try.f11 [.d (.sc (.sl V_entry_Entry)), .d V_addr_Addr] [.d (.sc (.int .i64))] (x0, (x1, ())) = entry_Tell N x0 x1 := by
  rw [entry_Tell.run_b]
  rfl
theorem entry_Tell.sound (N : Nat) : SoundCon Try.prog 11 (entry_Tell.con N) := sound_go (E := entry_Tell.E N) 10 Try.func11 (by kernel_rfl) (by kernel_rfl) Try.mixed (by kernel_rfl) tys_ok (by kernel_rfl) _ (by kernel_rfl) (soundTab_cons (entry_Best.sound N) soundTab_nil) fun z y h => (entry_Tell.run N z.1 z.2.1).trans h
-- pigeonhole/pigeonholeref04.Match
noncomputable def ref04_Match.E (N : Nat) : Env := { nt := 36, ty := tys, C := fun g => cond (Nat.beq g 54) (some (ref01_Bits.con N)) (none), N := N, keep := [(5, ⟨[5, 6, 7, 8, 26, 27, 28, 29, 30, 31, 32, 33, 34], [], [11, 14, 16], [], [], [], 0⟩)], shrink := [], shr := [], eqs := [] }
noncomputable def ref04_Match.code : Code := (Try.f65.body).getD .skip
noncomputable def ref04_Match.K (N : Nat) : AX → St → Option (RSs.I [.d (.sc .bool)]) := finish (ref04_Match.E N) Try.f65.results.toList [.d (.sc .bool)]
noncomputable def ref04_Match.st0 (y1 : (List Bool)) (y2 : (List Bool)) (y3 : (List Bool)) (p0_t_8_0 : Int) : St := ⟨[(5, .s (.own 11)), (6, .s (.own 14)), (7, .s (.own 16)), (8, .s (.d ⟨(.int .i64), p0_t_8_0⟩)), (26, .s .dead), (27, .s .dead), (28, .s .dead), (29, .s .dead), (30, .s .dead), (31, .s .dead), (32, .s .dead), (33, .s .dead), (34, .s .dead)], [], [(11, ⟨true, (.sc .bool), y1⟩), (14, ⟨true, (.sc .bool), y2⟩), (16, ⟨true, (.sc .bool), y3⟩)]⟩
noncomputable def ref04_Match.L0 (N : Nat) (n : Nat) : (List Bool) → (List Bool) → (List Bool) → Int → Option (RSs.I [.d (.sc .bool)]) := fun y1 y2 y3 p0_t_8_0 => loopN (aexec (ref04_Match.E N) (subAt [.b, .b, .b, .b, .a, .b, .i, .l] ref04_Match.code)) ((ref04_Match.E N).keepOf 5) n (ref04_Match.st0 y1 y2 y3 p0_t_8_0) (kontAt (ref04_Match.E N) [.b, .b, .b, .b, .a, .b, .i] ref04_Match.code [] (ref04_Match.K N))
theorem ref04_Match.L0_step (N : Nat) (n : Nat) : ref04_Match.L0 N (n + 1) = ref04_Match.l0s N (ref04_Match.L0 N n) := by kernel_rfl
theorem ref04_Match.L0_eq (N : Nat) (n : Nat) : ref04_Match.L0 N n = ref04_Match.l0 N n := by
  induction n with
  | zero => rfl
  | succ n ih =>
    refine (ref04_Match.L0_step N n).trans ?_
    rw [ih]
    rfl
theorem ref04_Match.run_b (N : Nat) (x0 : word_Word) (x1 : addr_Addr) : arun (ref04_Match.E N) Try.f65 [.d V_word_Word, .d V_addr_Addr] [.d (.sc .bool)] (x0, (x1, ())) = ref04_Match.b N (ref04_Match.L0 N N) x0 x1 := by kernel_rfl
theorem ref04_Match.run (N : Nat) (x0 : word_Word) (x1 : addr_Addr) : arun (ref04_Match.E N) Try.f65 [.d V_word_Word, .d V_addr_Addr] [.d (.sc .bool)] (x0, (x1, ())) = ref04_Match N x0 x1 := by
  rw [ref04_Match.run_b, ref04_Match.L0_eq]
  rfl
theorem ref04_Match.sound (N : Nat) : SoundCon Try.prog 65 (ref04_Match.con N) := sound_go (E := ref04_Match.E N) 10 Try.func65 (by kernel_rfl) (by kernel_rfl) Try.mixed (by kernel_rfl) tys_ok (by kernel_rfl) _ (by kernel_rfl) (soundTab_cons (ref01_Bits.sound N) soundTab_nil) fun z y h => (ref04_Match.run N z.1 z.2.1).trans h
-- pigeonhole/pigeonholeref05.Best
noncomputable def ref05_Best.E (N : Nat) : Env := { nt := 40, ty := tys, C := fun g => cond (Nat.beq g 65) (some (ref04_Match.con N)) (none), N := N, keep := [(3, ⟨[0, 3, 5, 6, 22, 23, 24, 25, 26, 27, 28, 29, 30, 31, 32, 33, 34, 35, 36], [3], [], [], [], [], 0⟩)], shrink := [], shr := [], eqs := [] }
noncomputable def ref05_Best.code : Code := (Try.f34.body).getD .skip
noncomputable def ref05_Best.K (N : Nat) : AX → St → Option (RSs.I [.d (.sc (.int .i64))]) := finish (ref05_Best.E N) Try.f34.results.toList [.d (.sc (.int .i64))]
noncomputable def ref05_Best.st0 (x0 : (List entry_Entry)) (x1 : addr_Addr) (p0_t_5_0 : Int) (p0_t_6_0 : Int) : St := ⟨[(0, .s (.d ⟨(.sl V_entry_Entry), x0⟩)), (3, .s (.loc 3 0)), (5, .s (.d ⟨(.int .i64), p0_t_5_0⟩)), (6, .s (.d ⟨(.int .i64), p0_t_6_0⟩)), (22, .s .dead), (23, .s .dead), (24, .s .dead), (25, .s .dead), (26, .s .dead), (27, .s .dead), (28, .s .dead), (29, .s .dead), (30, .s .dead), (31, .s .dead), (32, .s .dead), (33, .s .dead), (34, .s .dead), (35, .s .dead), (36, .s .dead)], [(3, some [.d ⟨(.int .u64), x1.1⟩, .d ⟨(.int .u64), x1.2⟩])], []⟩
noncomputable def ref05_Best.L0 (N : Nat) (n : Nat) : (List entry_Entry) → addr_Addr → Int → Int → Option (RSs.I [.d (.sc (.int .i64))]) := fun x0 x1 p0_t_5_0 p0_t_6_0 => loopN (aexec (ref05_Best.E N) (subAt [.b, .b, .a, .b, .i, .l] ref05_Best.code)) ((ref05_Best.E N).keepOf 3) n (ref05_Best.st0 x0 x1 p0_t_5_0 p0_t_6_0) (kontAt (ref05_Best.E N) [.b, .b, .a, .b, .i] ref05_Best.code [] (ref05_Best.K N))
theorem ref05_Best.L0_step (N : Nat) (n : Nat) : ref05_Best.L0 N (n + 1) = ref05_Best.l0s N (ref05_Best.L0 N n) := by kernel_rfl
theorem ref05_Best.L0_eq (N : Nat) (n : Nat) : ref05_Best.L0 N n = ref05_Best.l0 N n := by
  induction n with
  | zero => rfl
  | succ n ih =>
    refine (ref05_Best.L0_step N n).trans ?_
    rw [ih]
    rfl
theorem ref05_Best.run_b (N : Nat) (x0 : (List entry_Entry)) (x1 : addr_Addr) : arun (ref05_Best.E N) Try.f34 [.d (.sc (.sl V_entry_Entry)), .d V_addr_Addr] [.d (.sc (.int .i64))] (x0, (x1, ())) = ref05_Best.b N (ref05_Best.L0 N N) x0 x1 := by kernel_rfl
theorem ref05_Best.run (N : Nat) (x0 : (List entry_Entry)) (x1 : addr_Addr) : arun (ref05_Best.E N) Try.f34 [.d (.sc (.sl V_entry_Entry)), .d V_addr_Addr] [.d (.sc (.int .i64))] (x0, (x1, ())) = ref05_Best N x0 x1 := by
  rw [ref05_Best.run_b, ref05_Best.L0_eq]
  rfl
theorem ref05_Best.sound (N : Nat) : SoundCon Try.prog 34 (ref05_Best.con N) := sound_go (E := ref05_Best.E N) 10 Try.func34 (by kernel_rfl) (by kernel_rfl) Try.mixed (by kernel_rfl) tys_ok (by kernel_rfl) _ (by kernel_rfl) (soundTab_cons (ref04_Match.sound N) soundTab_nil) fun z y h => (ref05_Best.run N z.1 z.2.1).trans h
-- pigeonhole/pigeonholeref05.Tell
noncomputable def ref05_Tell.E (N : Nat) : Env := { nt := 16, ty := tys, C := fun g => cond (Nat.beq g 34) (some (ref05_Best.con N)) (none), N := N, keep := [], shrink := [], shr := [], eqs := [] }
theorem ref05_Tell.run_b (N : Nat) (x0 : (List entry_Entry)) (x1 : addr_Addr) : arun (ref05_Tell.E N) Try.f12 [.d (.sc (.sl V_entry_Entry)), .d V_addr_Addr] [.d (.sc (.int .i64))] (x0, (x1, ())) = ref05_Tell.b N x0 x1 := by kernel_rfl
theorem ref05_Tell.run (N : Nat) (x0 : (List entry_Entry)) (x1 : addr_Addr) : arun (ref05_Tell.E N) Try.f12 [.d (.sc (.sl V_entry_Entry)), .d V_addr_Addr] [.d (.sc (.int .i64))] (x0, (x1, ())) = ref05_Tell N x0 x1 := by
  rw [ref05_Tell.run_b]
  rfl
theorem ref05_Tell.sound (N : Nat) : SoundCon Try.prog 12 (ref05_Tell.con N) := sound_go (E := ref05_Tell.E N) 10 Try.func12 (by kernel_rfl) (by kernel_rfl) Try.mixed (by kernel_rfl) tys_ok (by kernel_rfl) _ (by kernel_rfl) (soundTab_cons (ref05_Best.sound N) soundTab_nil) fun z y h => (ref05_Tell.run N z.1 z.2.1).trans h
-- pigeonhole/pigeonholelaw10.MergeTells
noncomputable def law10_MergeTells.E (N : Nat) : Env := { nt := 51, ty := tys, C := fun g => cond (Nat.beq g 7) (some (ref10_Simple.con N)) (cond (Nat.beq g 8) (some (law05_Of.con N)) (cond (Nat.beq g 9) (some (law10_awake.con N)) (cond (Nat.beq g 10) (some (merge_Merge.con N)) (cond (Nat.beq g 11) (some (entry_Tell.con N)) (cond (Nat.beq g 12) (some (ref05_Tell.con N)) (none)))))), N := N, keep := [], shrink := [], shr := [], eqs := [] }
theorem law10_MergeTells.run_b (N : Nat) (x0 : (List entry_Entry)) (x1 : addr_Addr) : arun (law10_MergeTells.E N) Try.f3 [.d (.sc (.sl V_entry_Entry)), .d V_addr_Addr] [.d (.sc .bool)] (x0, (x1, ())) = law10_MergeTells.b N x0 x1 := by kernel_rfl
theorem law10_MergeTells.run (N : Nat) (x0 : (List entry_Entry)) (x1 : addr_Addr) : arun (law10_MergeTells.E N) Try.f3 [.d (.sc (.sl V_entry_Entry)), .d V_addr_Addr] [.d (.sc .bool)] (x0, (x1, ())) = law10_MergeTells N x0 x1 := by
  rw [law10_MergeTells.run_b]
  rfl
theorem law10_MergeTells.sound (N : Nat) : SoundCon Try.prog 3 (law10_MergeTells.con N) := sound_go (E := law10_MergeTells.E N) 10 Try.func3 (by kernel_rfl) (by kernel_rfl) Try.mixed (by kernel_rfl) tys_ok (by kernel_rfl) _ (by kernel_rfl) (soundTab_cons (ref10_Simple.sound N) (soundTab_cons (law05_Of.sound N) (soundTab_cons (law10_awake.sound N) (soundTab_cons (merge_Merge.sound N) (soundTab_cons (entry_Tell.sound N) (soundTab_cons (ref05_Tell.sound N) soundTab_nil)))))) fun z y h => (law10_MergeTells.run N z.1 z.2.1).trans h
-- pigeonhole/pigeonholelaw02.Of
noncomputable def law02_Of.E (N : Nat) : Env := { nt := 8, ty := tys, C := fun g => none, N := N, keep := [], shrink := [], shr := [], eqs := [] }
theorem law02_Of.run_b (N : Nat) (x0 : prefix_Prefix) : arun (law02_Of.E N) Try.f69 [.d V_prefix_Prefix] [.d V_prefix_Prefix] (x0, ()) = law02_Of.b N x0 := by kernel_rfl
theorem law02_Of.run (N : Nat) (x0 : prefix_Prefix) : arun (law02_Of.E N) Try.f69 [.d V_prefix_Prefix] [.d V_prefix_Prefix] (x0, ()) = law02_Of N x0 := by
  rw [law02_Of.run_b]
  rfl
theorem law02_Of.sound (N : Nat) : SoundCon Try.prog 69 (law02_Of.con N) := sound_go (E := law02_Of.E N) 10 Try.func69 (by kernel_rfl) (by kernel_rfl) Try.mixed (by kernel_rfl) tys_ok (by kernel_rfl) _ (by kernel_rfl) soundTab_nil fun z y h => (law02_Of.run N z.1).trans h
-- pigeonhole/pigeonholelaw06.One
noncomputable def law06_One.E (N : Nat) : Env := { nt := 9, ty := tys, C := fun g => cond (Nat.beq g 69) (some (law02_Of.con N)) (none), N := N, keep := [], shrink := [], shr := [], eqs := [] }
theorem law06_One.run_b (N : Nat) (x0 : rib_Route) : arun (law06_One.E N) Try.f37 [.d V_rib_Route] [.d V_rib_Route] (x0, ()) = law06_One.b N x0 := by kernel_rfl
theorem law06_One.run (N : Nat) (x0 : rib_Route) : arun (law06_One.E N) Try.f37 [.d V_rib_Route] [.d V_rib_Route] (x0, ()) = law06_One N x0 := by
  rw [law06_One.run_b]
  rfl
theorem law06_One.sound (N : Nat) : SoundCon Try.prog 37 (law06_One.con N) := sound_go (E := law06_One.E N) 10 Try.func37 (by kernel_rfl) (by kernel_rfl) Try.mixed (by kernel_rfl) tys_ok (by kernel_rfl) _ (by kernel_rfl) (soundTab_cons (law02_Of.sound N) soundTab_nil) fun z y h => (law06_One.run N z.1).trans h
-- pigeonhole/pigeonholelaw06.Of
noncomputable def law06_Of.E (N : Nat) : Env := { nt := 19, ty := tys, C := fun g => cond (Nat.beq g 37) (some (law06_One.con N)) (none), N := N, keep := [(3, ⟨[3, 6, 7, 8], [], [3], [], [], [], 0⟩)], shrink := [], shr := [], eqs := [] }
noncomputable def law06_Of.code : Code := (Try.f15.body).getD .skip
noncomputable def law06_Of.K (N : Nat) : AX → St → Option (RSs.I [.fresh V_rib_Route]) := finish (law06_Of.E N) Try.f15.results.toList [.fresh V_rib_Route]
noncomputable def law06_Of.st0 (x0 : (List rib_Route)) (p0_t_8_0 : Int) (p0_b_3 : (List rib_Route)) : St := ⟨[(3, .s (.own 3)), (6, .s (.d ⟨(.sl V_rib_Route), x0⟩)), (7, .s (.d ⟨(.int .i64), ((List.length x0 : Nat) : Int)⟩)), (8, .s (.d ⟨(.int .i64), p0_t_8_0⟩))], [], [(3, ⟨true, V_rib_Route, p0_b_3⟩)]⟩
noncomputable def law06_Of.L0 (N : Nat) (n : Nat) : (List rib_Route) → Int → (List rib_Route) → Option (RSs.I [.fresh V_rib_Route]) := fun x0 p0_t_8_0 p0_b_3 => loopN (aexec (law06_Of.E N) (subAt [.b, .b, .a, .b, .i, .l] law06_Of.code)) ((law06_Of.E N).keepOf 3) n (law06_Of.st0 x0 p0_t_8_0 p0_b_3) (kontAt (law06_Of.E N) [.b, .b, .a, .b, .i] law06_Of.code [] (law06_Of.K N))
theorem law06_Of.L0_step (N : Nat) (n : Nat) : law06_Of.L0 N (n + 1) = law06_Of.l0s N (law06_Of.L0 N n) := by kernel_rfl
theorem law06_Of.L0_eq (N : Nat) (n : Nat) : law06_Of.L0 N n = law06_Of.l0 N n := by
  induction n with
  | zero => rfl
  | succ n ih =>
    refine (law06_Of.L0_step N n).trans ?_
    rw [ih]
    rfl
theorem law06_Of.run_b (N : Nat) (x0 : (List rib_Route)) : arun (law06_Of.E N) Try.f15 [.d (.sc (.sl V_rib_Route))] [.fresh V_rib_Route] (x0, ()) = law06_Of.b N (law06_Of.L0 N N) x0 := by kernel_rfl
theorem law06_Of.run (N : Nat) (x0 : (List rib_Route)) : arun (law06_Of.E N) Try.f15 [.d (.sc (.sl V_rib_Route))] [.fresh V_rib_Route] (x0, ()) = law06_Of N x0 := by
  rw [law06_Of.run_b, law06_Of.L0_eq]
  rfl
theorem law06_Of.sound (N : Nat) : SoundCon Try.prog 15 (law06_Of.con N) := sound_go (E := law06_Of.E N) 10 Try.func15 (by kernel_rfl) (by kernel_rfl) Try.mixed (by kernel_rfl) tys_ok (by kernel_rfl) _ (by kernel_rfl) (soundTab_cons (law06_One.sound N) soundTab_nil) fun z y h => (law06_Of.run N z.1).trans h
-- pigeonhole/pigeonholeref02.Right
noncomputable def ref02_Right.E (N : Nat) : Env := { nt := 37, ty := tys, C := fun g => cond (Nat.beq g 54) (some (ref01_Bits.con N)) (none), N := N, keep := [(5, ⟨[5, 6], [], [26], [], [], [], 0⟩)], shrink := [], shr := [], eqs := [] }
noncomputable def ref02_Right.code : Code := (Try.f99.body).getD .skip
noncomputable def ref02_Right.K (N : Nat) : AX → St → Option (RSs.I [.d (.sc .bool)]) := finish (ref02_Right.E N) Try.f99.results.toList [.d (.sc .bool)]
noncomputable def ref02_Right.st0 (y4 : (List Bool)) (p0_t_6_0 : Int) : St := ⟨[(5, .s (.own 26)), (6, .s (.d ⟨(.int .i64), p0_t_6_0⟩))], [], [(26, ⟨true, (.sc .bool), y4⟩)]⟩
noncomputable def ref02_Right.L0 (N : Nat) (n : Nat) : (List Bool) → Int → Option (RSs.I [.d (.sc .bool)]) := fun y4 p0_t_6_0 => loopN (aexec (ref02_Right.E N) (subAt [.b, .b, .b, .a, .b, .i, .l] ref02_Right.code)) ((ref02_Right.E N).keepOf 5) n (ref02_Right.st0 y4 p0_t_6_0) (kontAt (ref02_Right.E N) [.b, .b, .b, .a, .b, .i] ref02_Right.code [] (ref02_Right.K N))
theorem ref02_Right.L0_step (N : Nat) (n : Nat) : ref02_Right.L0 N (n + 1) = ref02_Right.l0s N (ref02_Right.L0 N n) := by kernel_rfl
theorem ref02_Right.L0_eq (N : Nat) (n : Nat) : ref02_Right.L0 N n = ref02_Right.l0 N n := by
  induction n with
  | zero => rfl
  | succ n ih =>
    refine (ref02_Right.L0_step N n).trans ?_
    rw [ih]
    rfl
theorem ref02_Right.run_b (N : Nat) (x0 : Int) (x1 : prefix_Prefix) : arun (ref02_Right.E N) Try.f99 [.d (.sc (.int .i64)), .d V_prefix_Prefix] [.d (.sc .bool)] (x0, (x1, ())) = ref02_Right.b N (ref02_Right.L0 N N) x0 x1 := by kernel_rfl
theorem ref02_Right.run (N : Nat) (x0 : Int) (x1 : prefix_Prefix) : arun (ref02_Right.E N) Try.f99 [.d (.sc (.int .i64)), .d V_prefix_Prefix] [.d (.sc .bool)] (x0, (x1, ())) = ref02_Right N x0 x1 := by
  rw [ref02_Right.run_b, ref02_Right.L0_eq]
  rfl
theorem ref02_Right.sound (N : Nat) : SoundCon Try.prog 99 (ref02_Right.con N) := sound_go (E := ref02_Right.E N) 10 Try.func99 (by kernel_rfl) (by kernel_rfl) Try.mixed (by kernel_rfl) tys_ok (by kernel_rfl) _ (by kernel_rfl) (soundTab_cons (ref01_Bits.sound N) soundTab_nil) fun z y h => (ref02_Right.run N z.1 z.2.1).trans h
-- pigeonhole/pigeonholeref06.Right
noncomputable def ref06_Right.E (N : Nat) : Env := { nt := 19, ty := tys, C := fun g => cond (Nat.beq g 99) (some (ref02_Right.con N)) (none), N := N, keep := [], shrink := [], shr := [], eqs := [] }
theorem ref06_Right.run_b (N : Nat) (x0 : Int) (x1 : rib_Route) : arun (ref06_Right.E N) Try.f66 [.d (.sc (.int .i64)), .d V_rib_Route] [.d (.sc .bool)] (x0, (x1, ())) = ref06_Right.b N x0 x1 := by kernel_rfl
theorem ref06_Right.run (N : Nat) (x0 : Int) (x1 : rib_Route) : arun (ref06_Right.E N) Try.f66 [.d (.sc (.int .i64)), .d V_rib_Route] [.d (.sc .bool)] (x0, (x1, ())) = ref06_Right N x0 x1 := by
  rw [ref06_Right.run_b]
  rfl
theorem ref06_Right.sound (N : Nat) : SoundCon Try.prog 66 (ref06_Right.con N) := sound_go (E := ref06_Right.E N) 10 Try.func66 (by kernel_rfl) (by kernel_rfl) Try.mixed (by kernel_rfl) tys_ok (by kernel_rfl) _ (by kernel_rfl) (soundTab_cons (ref02_Right.sound N) soundTab_nil) fun z y h => (ref06_Right.run N z.1 z.2.1).trans h
-- pigeonhole/pigeonholeref01.Common
noncomputable def ref01_Common.E (N : Nat) : Env := { nt := 28, ty := tys, C := fun g => cond (Nat.beq g 54) (some (ref01_Bits.con N)) (none), N := N, keep := [(4, ⟨[5, 6, 7, 15, 16, 17, 18, 19, 20, 21, 22, 23], [], [9, 11], [], [], [], 0⟩)], shrink := [], shr := [], eqs := [] }
noncomputable def ref01_Common.code : Code := (Try.f117.body).getD .skip
noncomputable def ref01_Common.K (N : Nat) : AX → St → Option (RSs.I [.d (.sc (.int .i64))]) := finish (ref01_Common.E N) Try.f117.results.toList [.d (.sc (.int .i64))]
noncomputable def ref01_Common.st0 (y1 : (List Bool)) (y2 : (List Bool)) (p0_t_7_0 : Int) : St := ⟨[(5, .s (.own 9)), (6, .s (.own 11)), (7, .s (.d ⟨(.int .i64), p0_t_7_0⟩)), (15, .s .dead), (16, .s .dead), (17, .s .dead), (18, .s .dead), (19, .s .dead), (20, .s .dead), (21, .s .dead), (22, .s .dead), (23, .s .dead)], [], [(9, ⟨true, (.sc .bool), y1⟩), (11, ⟨true, (.sc .bool), y2⟩)]⟩
noncomputable def ref01_Common.L0 (N : Nat) (n : Nat) : (List Bool) → (List Bool) → Int → Option (RSs.I [.d (.sc (.int .i64))]) := fun y1 y2 p0_t_7_0 => loopN (aexec (ref01_Common.E N) (subAt [.b, .b, .b, .b, .a, .i, .l] ref01_Common.code)) ((ref01_Common.E N).keepOf 4) n (ref01_Common.st0 y1 y2 p0_t_7_0) (kontAt (ref01_Common.E N) [.b, .b, .b, .b, .a, .i] ref01_Common.code [] (ref01_Common.K N))
theorem ref01_Common.L0_step (N : Nat) (n : Nat) : ref01_Common.L0 N (n + 1) = ref01_Common.l0s N (ref01_Common.L0 N n) := by kernel_rfl
theorem ref01_Common.L0_eq (N : Nat) (n : Nat) : ref01_Common.L0 N n = ref01_Common.l0 N n := by
  induction n with
  | zero => rfl
  | succ n ih =>
    refine (ref01_Common.L0_step N n).trans ?_
    rw [ih]
    rfl
theorem ref01_Common.run_b (N : Nat) (x0 : addr_Addr) (x1 : addr_Addr) : arun (ref01_Common.E N) Try.f117 [.d V_addr_Addr, .d V_addr_Addr] [.d (.sc (.int .i64))] (x0, (x1, ())) = ref01_Common.b N (ref01_Common.L0 N N) x0 x1 := by kernel_rfl
theorem ref01_Common.run (N : Nat) (x0 : addr_Addr) (x1 : addr_Addr) : arun (ref01_Common.E N) Try.f117 [.d V_addr_Addr, .d V_addr_Addr] [.d (.sc (.int .i64))] (x0, (x1, ())) = ref01_Common N x0 x1 := by
  rw [ref01_Common.run_b, ref01_Common.L0_eq]
  rfl
theorem ref01_Common.sound (N : Nat) : SoundCon Try.prog 117 (ref01_Common.con N) := sound_go (E := ref01_Common.E N) 10 Try.func117 (by kernel_rfl) (by kernel_rfl) Try.mixed (by kernel_rfl) tys_ok (by kernel_rfl) _ (by kernel_rfl) (soundTab_cons (ref01_Bits.sound N) soundTab_nil) fun z y h => (ref01_Common.run N z.1 z.2.1).trans h
-- pigeonhole/pigeonholeref01.Compare
noncomputable def ref01_Compare.E (N : Nat) : Env := { nt := 16, ty := tys, C := fun g => cond (Nat.beq g 54) (some (ref01_Bits.con N)) (cond (Nat.beq g 117) (some (ref01_Common.con N)) (none)), N := N, keep := [], shrink := [], shr := [], eqs := [] }
theorem ref01_Compare.run_b (N : Nat) (x0 : addr_Addr) (x1 : addr_Addr) : arun (ref01_Compare.E N) Try.f100 [.d V_addr_Addr, .d V_addr_Addr] [.d (.sc (.int .i64))] (x0, (x1, ())) = ref01_Compare.b N x0 x1 := by kernel_rfl
theorem ref01_Compare.run (N : Nat) (x0 : addr_Addr) (x1 : addr_Addr) : arun (ref01_Compare.E N) Try.f100 [.d V_addr_Addr, .d V_addr_Addr] [.d (.sc (.int .i64))] (x0, (x1, ())) = ref01_Compare N x0 x1 := by
  rw [ref01_Compare.run_b]
  rfl
theorem ref01_Compare.sound (N : Nat) : SoundCon Try.prog 100 (ref01_Compare.con N) := sound_go (E := ref01_Compare.E N) 10 Try.func100 (by kernel_rfl) (by kernel_rfl) Try.mixed (by kernel_rfl) tys_ok (by kernel_rfl) _ (by kernel_rfl) (soundTab_cons (ref01_Bits.sound N) (soundTab_cons (ref01_Common.sound N) soundTab_nil)) fun z y h => (ref01_Compare.run N z.1 z.2.1).trans h
-- pigeonhole/pigeonholeref02.Compare
noncomputable def ref02_Compare.E (N : Nat) : Env := { nt := 30, ty := tys, C := fun g => cond (Nat.beq g 100) (some (ref01_Compare.con N)) (none), N := N, keep := [], shrink := [], shr := [], eqs := [] }
theorem ref02_Compare.run_b (N : Nat) (x0 : prefix_Prefix) (x1 : prefix_Prefix) : arun (ref02_Compare.E N) Try.f67 [.d V_prefix_Prefix, .d V_prefix_Prefix] [.d (.sc (.int .i64))] (x0, (x1, ())) = ref02_Compare.b N x0 x1 := by kernel_rfl
theorem ref02_Compare.run (N : Nat) (x0 : prefix_Prefix) (x1 : prefix_Prefix) : arun (ref02_Compare.E N) Try.f67 [.d V_prefix_Prefix, .d V_prefix_Prefix] [.d (.sc (.int .i64))] (x0, (x1, ())) = ref02_Compare N x0 x1 := by
  rw [ref02_Compare.run_b]
  rfl
theorem ref02_Compare.sound (N : Nat) : SoundCon Try.prog 67 (ref02_Compare.con N) := sound_go (E := ref02_Compare.E N) 10 Try.func67 (by kernel_rfl) (by kernel_rfl) Try.mixed (by kernel_rfl) tys_ok (by kernel_rfl) _ (by kernel_rfl) (soundTab_cons (ref01_Compare.sound N) soundTab_nil) fun z y h => (ref02_Compare.run N z.1 z.2.1).trans h
-- pigeonhole/pigeonholeref06.Table
noncomputable def ref06_Table.E (N : Nat) : Env := { nt := 49, ty := tys, C := fun g => cond (Nat.beq g 66) (some (ref06_Right.con N)) (cond (Nat.beq g 67) (some (ref02_Compare.con N)) (none)), N := N, keep := [(2, ⟨[0, 1, 5, 20, 21, 22, 23, 24, 25, 26, 27, 28, 29, 30, 31, 32, 33, 34, 35, 36, 41, 42, 45, 46, 47], [], [], [], [], [], 0⟩)], shrink := [], shr := [], eqs := [] }
noncomputable def ref06_Table.code : Code := (Try.f35.body).getD .skip
noncomputable def ref06_Table.K (N : Nat) : AX → St → Option (RSs.I [.d (.sc .bool)]) := finish (ref06_Table.E N) Try.f35.results.toList [.d (.sc .bool)]
noncomputable def ref06_Table.st0 (x0 : Int) (x1 : (List rib_Route)) (p0_t_5_0 : Int) : St := ⟨[(0, .s (.d ⟨(.int .i64), x0⟩)), (1, .s (.d ⟨(.sl V_rib_Route), x1⟩)), (5, .s (.d ⟨(.int .i64), p0_t_5_0⟩)), (20, .s .dead), (21, .s .dead), (22, .s .dead), (23, .s .dead), (24, .s .dead), (25, .s .dead), (26, .s .dead), (27, .s .dead), (28, .s .dead), (29, .s .dead), (30, .s .dead), (31, .s .dead), (32, .s .dead), (33, .s .dead), (34, .s .dead), (35, .s .dead), (36, .s .dead), (41, .s .dead), (42, .s .dead), (45, .s .dead), (46, .s .dead), (47, .s .dead)], [], []⟩
noncomputable def ref06_Table.L0 (N : Nat) (n : Nat) : Int → (List rib_Route) → Int → Option (RSs.I [.d (.sc .bool)]) := fun x0 x1 p0_t_5_0 => loopN (aexec (ref06_Table.E N) (subAt [.b, .a, .b, .i, .l] ref06_Table.code)) ((ref06_Table.E N).keepOf 2) n (ref06_Table.st0 x0 x1 p0_t_5_0) (kontAt (ref06_Table.E N) [.b, .a, .b, .i] ref06_Table.code [] (ref06_Table.K N))
theorem ref06_Table.L0_step (N : Nat) (n : Nat) : ref06_Table.L0 N (n + 1) = ref06_Table.l0s N (ref06_Table.L0 N n) := by kernel_rfl
theorem ref06_Table.L0_eq (N : Nat) (n : Nat) : ref06_Table.L0 N n = ref06_Table.l0 N n := by
  induction n with
  | zero => rfl
  | succ n ih =>
    refine (ref06_Table.L0_step N n).trans ?_
    rw [ih]
    rfl
theorem ref06_Table.run_b (N : Nat) (x0 : Int) (x1 : (List rib_Route)) : arun (ref06_Table.E N) Try.f35 [.d (.sc (.int .i64)), .d (.sc (.sl V_rib_Route))] [.d (.sc .bool)] (x0, (x1, ())) = ref06_Table.b N (ref06_Table.L0 N N) x0 x1 := by kernel_rfl
theorem ref06_Table.run (N : Nat) (x0 : Int) (x1 : (List rib_Route)) : arun (ref06_Table.E N) Try.f35 [.d (.sc (.int .i64)), .d (.sc (.sl V_rib_Route))] [.d (.sc .bool)] (x0, (x1, ())) = ref06_Table N x0 x1 := by
  rw [ref06_Table.run_b, ref06_Table.L0_eq]
  rfl
theorem ref06_Table.sound (N : Nat) : SoundCon Try.prog 35 (ref06_Table.con N) := sound_go (E := ref06_Table.E N) 10 Try.func35 (by kernel_rfl) (by kernel_rfl) Try.mixed (by kernel_rfl) tys_ok (by kernel_rfl) _ (by kernel_rfl) (soundTab_cons (ref06_Right.sound N) (soundTab_cons (ref02_Compare.sound N) soundTab_nil)) fun z y h => (ref06_Table.run N z.1 z.2.1).trans h
-- pigeonhole/pigeonholelaw09.Table
noncomputable def law09_Table.E (N : Nat) : Env := { nt := 11, ty := tys, C := fun g => cond (Nat.beq g 15) (some (law06_Of.con N)) (cond (Nat.beq g 35) (some (ref06_Table.con N)) (none)), N := N, keep := [], shrink := [], shr := [], eqs := [] }
theorem law09_Table.run_b (N : Nat) (x0 : (List rib_Route)) : arun (law09_Table.E N) Try.f13 [.d (.sc (.sl V_rib_Route))] [.d (.sc .bool)] (x0, ()) = law09_Table.b N x0 := by kernel_rfl
theorem law09_Table.run (N : Nat) (x0 : (List rib_Route)) : arun (law09_Table.E N) Try.f13 [.d (.sc (.sl V_rib_Route))] [.d (.sc .bool)] (x0, ()) = law09_Table N x0 := by
  rw [law09_Table.run_b]
  rfl
theorem law09_Table.sound (N : Nat) : SoundCon Try.prog 13 (law09_Table.con N) := sound_go (E := law09_Table.E N) 10 Try.func13 (by kernel_rfl) (by kernel_rfl) Try.mixed (by kernel_rfl) tys_ok (by kernel_rfl) _ (by kernel_rfl) (soundTab_cons (law06_Of.sound N) (soundTab_cons (ref06_Table.sound N) soundTab_nil)) fun z y h => (law09_Table.run N z.1).trans h
-- pigeonhole/pigeonholeref02.near
noncomputable def ref02_near.E (N : Nat) : Env := { nt := 8, ty := tys, C := fun g => none, N := N, keep := [], shrink := [], shr := [], eqs := [] }
theorem ref02_near.run_b (N : Nat) (x0 : Int) : arun (ref02_near.E N) Try.f101 [.d (.sc (.int .i64))] [.d (.sc (.int .i64))] (x0, ()) = ref02_near.b N x0 := by kernel_rfl
theorem ref02_near.run (N : Nat) (x0 : Int) : arun (ref02_near.E N) Try.f101 [.d (.sc (.int .i64))] [.d (.sc (.int .i64))] (x0, ()) = ref02_near N x0 := by
  rw [ref02_near.run_b]
  rfl
theorem ref02_near.sound (N : Nat) : SoundCon Try.prog 101 (ref02_near.con N) := sound_go (E := ref02_near.E N) 10 Try.func101 (by kernel_rfl) (by kernel_rfl) Try.mixed (by kernel_rfl) tys_ok (by kernel_rfl) _ (by kernel_rfl) soundTab_nil fun z y h => (ref02_near.run N z.1).trans h
-- pigeonhole/pigeonholeref02.Match
noncomputable def ref02_Match.E (N : Nat) : Env := { nt := 29, ty := tys, C := fun g => cond (Nat.beq g 54) (some (ref01_Bits.con N)) (cond (Nat.beq g 101) (some (ref02_near.con N)) (none)), N := N, keep := [(4, ⟨[2, 5, 6, 7], [2], [10, 12], [], [], [], 0⟩)], shrink := [], shr := [], eqs := [] }
noncomputable def ref02_Match.code : Code := (Try.f68.body).getD .skip
noncomputable def ref02_Match.K (N : Nat) : AX → St → Option (RSs.I [.d (.sc .bool)]) := finish (ref02_Match.E N) Try.f68.results.toList [.d (.sc .bool)]
noncomputable def ref02_Match.st0 (x0 : prefix_Prefix) (y1 : (List Bool)) (y2 : (List Bool)) (p0_t_7_0 : Int) : St := ⟨[(2, .s (.loc 2 0)), (5, .s (.own 10)), (6, .s (.own 12)), (7, .s (.d ⟨(.int .i64), p0_t_7_0⟩))], [(2, some [.d ⟨(.int .u64), x0.1⟩, .d ⟨(.int .u64), x0.2.1⟩, .d ⟨(.int .i64), x0.2.2⟩])], [(10, ⟨true, (.sc .bool), y1⟩), (12, ⟨true, (.sc .bool), y2⟩)]⟩
noncomputable def ref02_Match.L0 (N : Nat) (n : Nat) : prefix_Prefix → (List Bool) → (List Bool) → Int → Option (RSs.I [.d (.sc .bool)]) := fun x0 y1 y2 p0_t_7_0 => loopN (aexec (ref02_Match.E N) (subAt [.b, .b, .b, .a, .b, .i, .l] ref02_Match.code)) ((ref02_Match.E N).keepOf 4) n (ref02_Match.st0 x0 y1 y2 p0_t_7_0) (kontAt (ref02_Match.E N) [.b, .b, .b, .a, .b, .i] ref02_Match.code [] (ref02_Match.K N))
theorem ref02_Match.L0_step (N : Nat) (n : Nat) : ref02_Match.L0 N (n + 1) = ref02_Match.l0s N (ref02_Match.L0 N n) := by kernel_rfl
theorem ref02_Match.L0_eq (N : Nat) (n : Nat) : ref02_Match.L0 N n = ref02_Match.l0 N n := by
  induction n with
  | zero => rfl
  | succ n ih =>
    refine (ref02_Match.L0_step N n).trans ?_
    rw [ih]
    rfl
theorem ref02_Match.run_b (N : Nat) (x0 : prefix_Prefix) (x1 : addr_Addr) : arun (ref02_Match.E N) Try.f68 [.d V_prefix_Prefix, .d V_addr_Addr] [.d (.sc .bool)] (x0, (x1, ())) = ref02_Match.b N (ref02_Match.L0 N N) x0 x1 := by kernel_rfl
theorem ref02_Match.run (N : Nat) (x0 : prefix_Prefix) (x1 : addr_Addr) : arun (ref02_Match.E N) Try.f68 [.d V_prefix_Prefix, .d V_addr_Addr] [.d (.sc .bool)] (x0, (x1, ())) = ref02_Match N x0 x1 := by
  rw [ref02_Match.run_b, ref02_Match.L0_eq]
  rfl
theorem ref02_Match.sound (N : Nat) : SoundCon Try.prog 68 (ref02_Match.con N) := sound_go (E := ref02_Match.E N) 10 Try.func68 (by kernel_rfl) (by kernel_rfl) Try.mixed (by kernel_rfl) tys_ok (by kernel_rfl) _ (by kernel_rfl) (soundTab_cons (ref01_Bits.sound N) (soundTab_cons (ref02_near.sound N) soundTab_nil)) fun z y h => (ref02_Match.run N z.1 z.2.1).trans h
-- pigeonhole/pigeonholeref06.Best
noncomputable def ref06_Best.E (N : Nat) : Env := { nt := 40, ty := tys, C := fun g => cond (Nat.beq g 68) (some (ref02_Match.con N)) (none), N := N, keep := [(2, ⟨[0, 3, 4, 6, 27, 28, 29, 30, 31, 32, 33], [3, 4], [], [], [], [], 0⟩), (5, ⟨[0, 3, 4, 6, 7, 27, 28, 29, 30, 31, 32, 33], [3, 4], [], [], [], [], 0⟩)], shrink := [], shr := [], eqs := [] }
noncomputable def ref06_Best.code : Code := (Try.f36.body).getD .skip
noncomputable def ref06_Best.K (N : Nat) : AX → St → Option (RSs.I [.d V_rib_Route, .d (.sc .bool)]) := finish (ref06_Best.E N) Try.f36.results.toList [.d V_rib_Route, .d (.sc .bool)]
noncomputable def ref06_Best.st0 (x0 : (List rib_Route)) (x1 : addr_Addr) (p0_t_6_0 : Int) : St := ⟨[(0, .s (.d ⟨(.sl V_rib_Route), x0⟩)), (3, .s (.loc 3 0)), (4, .s (.loc 4 0)), (6, .s (.d ⟨(.int .i64), p0_t_6_0⟩)), (27, .s .dead), (28, .s .dead), (29, .s .dead), (30, .s .dead), (31, .s .dead), (32, .s .dead), (33, .s .dead)], [(3, some [.d ⟨(.int .u64), x1.1⟩, .d ⟨(.int .u64), x1.2⟩]), (4, some [.d ⟨(.int .u64), (0 : Int)⟩, .d ⟨(.int .u64), (0 : Int)⟩, .d ⟨(.int .i64), (0 : Int)⟩, .d ⟨(.int .i64), (0 : Int)⟩])], []⟩
noncomputable def ref06_Best.L0 (N : Nat) (n : Nat) : (List rib_Route) → addr_Addr → Int → Option (RSs.I [.d V_rib_Route, .d (.sc .bool)]) := fun x0 x1 p0_t_6_0 => loopN (aexec (ref06_Best.E N) (subAt [.b, .a, .b, .i, .l] ref06_Best.code)) ((ref06_Best.E N).keepOf 2) n (ref06_Best.st0 x0 x1 p0_t_6_0) (kontAt (ref06_Best.E N) [.b, .a, .b, .i] ref06_Best.code [] (ref06_Best.K N))
noncomputable def ref06_Best.st1 (x0 : (List rib_Route)) (x1 : addr_Addr) (p0_t_6_0 : Int) (p1_t_7_0 : Int) : St := ⟨[(0, .s (.d ⟨(.sl V_rib_Route), x0⟩)), (3, .s (.loc 3 0)), (4, .s (.loc 4 0)), (6, .s (.d ⟨(.int .i64), p0_t_6_0⟩)), (7, .s (.d ⟨(.int .i64), p1_t_7_0⟩)), (27, .s .dead), (28, .s .dead), (29, .s .dead), (30, .s .dead), (31, .s .dead), (32, .s .dead), (33, .s .dead)], [(3, some [.d ⟨(.int .u64), x1.1⟩, .d ⟨(.int .u64), x1.2⟩]), (4, some [.d ⟨(.int .u64), (0 : Int)⟩, .d ⟨(.int .u64), (0 : Int)⟩, .d ⟨(.int .i64), (0 : Int)⟩, .d ⟨(.int .i64), (0 : Int)⟩])], []⟩
noncomputable def ref06_Best.L1 (N : Nat) (n0 : Nat) (n : Nat) : (List rib_Route) → addr_Addr → Int → Int → Option (RSs.I [.d V_rib_Route, .d (.sc .bool)]) := fun x0 x1 p0_t_6_0 p1_t_7_0 => loopN (aexec (ref06_Best.E N) (subAt [.b, .a, .b, .i, .l, .b, .a, .i, .b, .i, .l] ref06_Best.code)) ((ref06_Best.E N).keepOf 5) n (ref06_Best.st1 x0 x1 p0_t_6_0 p1_t_7_0) (kontAt (ref06_Best.E N) [.b, .a, .b, .i, .l, .b, .a, .i, .b, .i] ref06_Best.code [n0] (ref06_Best.K N))
theorem ref06_Best.L1_step (N : Nat) (n0 : Nat) (n : Nat) : ref06_Best.L1 N n0 (n + 1) = ref06_Best.l1s N (ref06_Best.L0 N n0) (ref06_Best.L1 N n0 n) := by kernel_rfl
theorem ref06_Best.L1_eq (N : Nat) (n0 : Nat) (n : Nat) : ref06_Best.L1 N n0 n = ref06_Best.l1 N (ref06_Best.L0 N n0) n := by
  induction n with
  | zero => rfl
  | succ n ih =>
    refine (ref06_Best.L1_step N n0 n).trans ?_
    rw [ih]
    rfl
theorem ref06_Best.L0_step (N : Nat) (n : Nat) : ref06_Best.L0 N (n + 1) = ref06_Best.l0s N (ref06_Best.L1 N n N) (ref06_Best.L0 N n) := by kernel_rfl
theorem ref06_Best.L0_eq (N : Nat) (n : Nat) : ref06_Best.L0 N n = ref06_Best.l0 N n := by
  induction n with
  | zero => rfl
  | succ n ih =>
    refine (ref06_Best.L0_step N n).trans ?_
    rw [ref06_Best.L1_eq]
    rw [ih]
    rfl
theorem ref06_Best.run_b (N : Nat) (x0 : (List rib_Route)) (x1 : addr_Addr) : arun (ref06_Best.E N) Try.f36 [.d (.sc (.sl V_rib_Route)), .d V_addr_Addr] [.d V_rib_Route, .d (.sc .bool)] (x0, (x1, ())) = ref06_Best.b N (ref06_Best.L0 N N) x0 x1 := by kernel_rfl
theorem ref06_Best.run (N : Nat) (x0 : (List rib_Route)) (x1 : addr_Addr) : arun (ref06_Best.E N) Try.f36 [.d (.sc (.sl V_rib_Route)), .d V_addr_Addr] [.d V_rib_Route, .d (.sc .bool)] (x0, (x1, ())) = ref06_Best N x0 x1 := by
  rw [ref06_Best.run_b, ref06_Best.L0_eq]
  rfl
theorem ref06_Best.sound (N : Nat) : SoundCon Try.prog 36 (ref06_Best.con N) := sound_go (E := ref06_Best.E N) 10 Try.func36 (by kernel_rfl) (by kernel_rfl) Try.mixed (by kernel_rfl) tys_ok (by kernel_rfl) _ (by kernel_rfl) (soundTab_cons (ref02_Match.sound N) soundTab_nil) fun z y h => (ref06_Best.run N z.1 z.2.1).trans h
-- pigeonhole/pigeonholeref06.Tell
noncomputable def ref06_Tell.E (N : Nat) : Env := { nt := 17, ty := tys, C := fun g => cond (Nat.beq g 36) (some (ref06_Best.con N)) (none), N := N, keep := [], shrink := [], shr := [], eqs := [] }
theorem ref06_Tell.run_b (N : Nat) (x0 : (List rib_Route)) (x1 : addr_Addr) : arun (ref06_Tell.E N) Try.f14 [.d (.sc (.sl V_rib_Route)), .d V_addr_Addr] [.d (.sc (.int .i64))] (x0, (x1, ())) = ref06_Tell.b N x0 x1 := by kernel_rfl
theorem ref06_Tell.run (N : Nat) (x0 : (List rib_Route)) (x1 : addr_Addr) : arun (ref06_Tell.E N) Try.f14 [.d (.sc (.sl V_rib_Route)), .d V_addr_Addr] [.d (.sc (.int .i64))] (x0, (x1, ())) = ref06_Tell N x0 x1 := by
  rw [ref06_Tell.run_b]
  rfl
theorem ref06_Tell.sound (N : Nat) : SoundCon Try.prog 14 (ref06_Tell.con N) := sound_go (E := ref06_Tell.E N) 10 Try.func14 (by kernel_rfl) (by kernel_rfl) Try.mixed (by kernel_rfl) tys_ok (by kernel_rfl) _ (by kernel_rfl) (soundTab_cons (ref06_Best.sound N) soundTab_nil) fun z y h => (ref06_Tell.run N z.1 z.2.1).trans h
-- pigeonhole/pigeonholeref05.Above
noncomputable def ref05_Above.E (N : Nat) : Env := { nt := 17, ty := tys, C := fun g => cond (Nat.beq g 25) (some (ref04_Meet.con N)) (none), N := N, keep := [], shrink := [], shr := [], eqs := [] }
theorem ref05_Above.run_b (N : Nat) (x0 : entry_Entry) (x1 : entry_Entry) : arun (ref05_Above.E N) Try.f40 [.d V_entry_Entry, .d V_entry_Entry] [.d (.sc .bool)] (x0, (x1, ())) = ref05_Above.b N x0 x1 := by kernel_rfl
theorem ref05_Above.run (N : Nat) (x0 : entry_Entry) (x1 : entry_Entry) : arun (ref05_Above.E N) Try.f40 [.d V_entry_Entry, .d V_entry_Entry] [.d (.sc .bool)] (x0, (x1, ())) = ref05_Above N x0 x1 := by
  rw [ref05_Above.run_b]
  rfl
theorem ref05_Above.sound (N : Nat) : SoundCon Try.prog 40 (ref05_Above.con N) := sound_go (E := ref05_Above.E N) 10 Try.func40 (by kernel_rfl) (by kernel_rfl) Try.mixed (by kernel_rfl) tys_ok (by kernel_rfl) _ (by kernel_rfl) (soundTab_cons (ref04_Meet.sound N) soundTab_nil) fun z y h => (ref05_Above.run N z.1 z.2.1).trans h
-- pigeonhole/pigeonholeref05.Ordered
noncomputable def ref05_Ordered.E (N : Nat) : Env := { nt := 28, ty := tys, C := fun g => cond (Nat.beq g 40) (some (ref05_Above.con N)) (none), N := N, keep := [(2, ⟨[0, 3], [], [], [], [], [], 0⟩), (5, ⟨[0, 3, 4], [], [], [], [], [], 0⟩)], shrink := [], shr := [], eqs := [] }
noncomputable def ref05_Ordered.code : Code := (Try.f17.body).getD .skip
noncomputable def ref05_Ordered.K (N : Nat) : AX → St → Option (RSs.I [.d (.sc .bool)]) := finish (ref05_Ordered.E N) Try.f17.results.toList [.d (.sc .bool)]
noncomputable def ref05_Ordered.st0 (x0 : (List entry_Entry)) (p0_t_3_0 : Int) : St := ⟨[(0, .s (.d ⟨(.sl V_entry_Entry), x0⟩)), (3, .s (.d ⟨(.int .i64), p0_t_3_0⟩))], [], []⟩
noncomputable def ref05_Ordered.L0 (N : Nat) (n : Nat) : (List entry_Entry) → Int → Option (RSs.I [.d (.sc .bool)]) := fun x0 p0_t_3_0 => loopN (aexec (ref05_Ordered.E N) (subAt [.b, .a, .b, .i, .l] ref05_Ordered.code)) ((ref05_Ordered.E N).keepOf 2) n (ref05_Ordered.st0 x0 p0_t_3_0) (kontAt (ref05_Ordered.E N) [.b, .a, .b, .i] ref05_Ordered.code [] (ref05_Ordered.K N))
noncomputable def ref05_Ordered.st1 (x0 : (List entry_Entry)) (p0_t_3_0 : Int) (p1_t_4_0 : Int) : St := ⟨[(0, .s (.d ⟨(.sl V_entry_Entry), x0⟩)), (3, .s (.d ⟨(.int .i64), p0_t_3_0⟩)), (4, .s (.d ⟨(.int .i64), p1_t_4_0⟩))], [], []⟩
noncomputable def ref05_Ordered.L1 (N : Nat) (n0 : Nat) (n : Nat) : (List entry_Entry) → Int → Int → Option (RSs.I [.d (.sc .bool)]) := fun x0 p0_t_3_0 p1_t_4_0 => loopN (aexec (ref05_Ordered.E N) (subAt [.b, .a, .b, .i, .l, .b, .a, .i, .b, .i, .l] ref05_Ordered.code)) ((ref05_Ordered.E N).keepOf 5) n (ref05_Ordered.st1 x0 p0_t_3_0 p1_t_4_0) (kontAt (ref05_Ordered.E N) [.b, .a, .b, .i, .l, .b, .a, .i, .b, .i] ref05_Ordered.code [n0] (ref05_Ordered.K N))
theorem ref05_Ordered.L1_step (N : Nat) (n0 : Nat) (n : Nat) : ref05_Ordered.L1 N n0 (n + 1) = ref05_Ordered.l1s N (ref05_Ordered.L0 N n0) (ref05_Ordered.L1 N n0 n) := by kernel_rfl
theorem ref05_Ordered.L1_eq (N : Nat) (n0 : Nat) (n : Nat) : ref05_Ordered.L1 N n0 n = ref05_Ordered.l1 N (ref05_Ordered.L0 N n0) n := by
  induction n with
  | zero => rfl
  | succ n ih =>
    refine (ref05_Ordered.L1_step N n0 n).trans ?_
    rw [ih]
    rfl
theorem ref05_Ordered.L0_step (N : Nat) (n : Nat) : ref05_Ordered.L0 N (n + 1) = ref05_Ordered.l0s N (ref05_Ordered.L1 N n N) (ref05_Ordered.L0 N n) := by kernel_rfl
theorem ref05_Ordered.L0_eq (N : Nat) (n : Nat) : ref05_Ordered.L0 N n = ref05_Ordered.l0 N n := by
  induction n with
  | zero => rfl
  | succ n ih =>
    refine (ref05_Ordered.L0_step N n).trans ?_
    rw [ref05_Ordered.L1_eq]
    rw [ih]
    rfl
theorem ref05_Ordered.run_b (N : Nat) (x0 : (List entry_Entry)) : arun (ref05_Ordered.E N) Try.f17 [.d (.sc (.sl V_entry_Entry))] [.d (.sc .bool)] (x0, ()) = ref05_Ordered.b N (ref05_Ordered.L0 N N) x0 := by kernel_rfl
theorem ref05_Ordered.run (N : Nat) (x0 : (List entry_Entry)) : arun (ref05_Ordered.E N) Try.f17 [.d (.sc (.sl V_entry_Entry))] [.d (.sc .bool)] (x0, ()) = ref05_Ordered N x0 := by
  rw [ref05_Ordered.run_b, ref05_Ordered.L0_eq]
  rfl
theorem ref05_Ordered.sound (N : Nat) : SoundCon Try.prog 17 (ref05_Ordered.con N) := sound_go (E := ref05_Ordered.E N) 10 Try.func17 (by kernel_rfl) (by kernel_rfl) Try.mixed (by kernel_rfl) tys_ok (by kernel_rfl) _ (by kernel_rfl) (soundTab_cons (ref05_Above.sound N) soundTab_nil) fun z y h => (ref05_Ordered.run N z.1).trans h
-- pigeonhole/pigeonholelaw10.MergeSays
noncomputable def law10_MergeSays.E (N : Nat) : Env := { nt := 57, ty := tys, C := fun g => cond (Nat.beq g 7) (some (ref10_Simple.con N)) (cond (Nat.beq g 8) (some (law05_Of.con N)) (cond (Nat.beq g 9) (some (law10_awake.con N)) (cond (Nat.beq g 11) (some (entry_Tell.con N)) (cond (Nat.beq g 13) (some (law09_Table.con N)) (cond (Nat.beq g 14) (some (ref06_Tell.con N)) (cond (Nat.beq g 15) (some (law06_Of.con N)) (cond (Nat.beq g 16) (some (merge_Build.con N)) (cond (Nat.beq g 17) (some (ref05_Ordered.con N)) (none))))))))), N := N, keep := [(6, ⟨[0, 3, 5, 6, 24, 35, 36, 37, 38, 41, 42, 43, 44, 45, 48, 49, 50, 51], [0, 1, 2, 3, 4, 5, 6, 7, 8, 9, 10, 11, 12, 13, 14, 15, 16, 17, 18, 19, 20, 21, 22, 23, 24, 25, 26, 27, 28, 29, 30, 31, 32, 33, 34, 35, 36, 37, 38, 39, 40, 41, 42, 43, 44, 45, 46, 47, 48, 49, 50, 51, 52, 53, 54, 55, 56], [0, 1, 2, 3, 4, 5, 6, 7, 8, 9, 10, 11, 12, 13, 14, 15, 16, 17, 18, 19, 20, 21, 22, 23, 24, 25, 26, 27, 28, 29, 30, 31, 32, 33, 34, 35, 36, 37, 38, 39, 40, 41, 42, 43, 44, 45, 46, 47, 48, 49, 50, 51, 52, 53, 54, 55, 56], [], [], [], 12⟩)], shrink := [], shr := [], eqs := [] }
theorem law10_MergeSays.run_b (N : Nat) (x0 : (List rib_Route)) (x1 : addr_Addr) : arun (law10_MergeSays.E N) Try.f4 [.d (.sc (.sl V_rib_Route)), .d V_addr_Addr] [.d (.sc .bool)] (x0, (x1, ())) = law10_MergeSays.b N x0 x1 := by kernel_rfl
theorem law10_MergeSays.run (N : Nat) (x0 : (List rib_Route)) (x1 : addr_Addr) : arun (law10_MergeSays.E N) Try.f4 [.d (.sc (.sl V_rib_Route)), .d V_addr_Addr] [.d (.sc .bool)] (x0, (x1, ())) = law10_MergeSays N x0 x1 := by
  rw [law10_MergeSays.run_b]
  rfl
theorem law10_MergeSays.sound (N : Nat) : SoundCon Try.prog 4 (law10_MergeSays.con N) := sound_go (E := law10_MergeSays.E N) 10 Try.func4 (by kernel_rfl) (by kernel_rfl) Try.mixed (by kernel_rfl) tys_ok (by kernel_rfl) _ (by kernel_rfl) (soundTab_cons (ref10_Simple.sound N) (soundTab_cons (law05_Of.sound N) (soundTab_cons (law10_awake.sound N) (soundTab_cons (entry_Tell.sound N) (soundTab_cons (law09_Table.sound N) (soundTab_cons (ref06_Tell.sound N) (soundTab_cons (law06_Of.sound N) (soundTab_cons (merge_Build.sound N) (soundTab_cons (ref05_Ordered.sound N) soundTab_nil))))))))) fun z y h => (law10_MergeSays.run N z.1 z.2.1).trans h
-- pigeonhole/plo.Kept$1
noncomputable def plo_Kept_1.E (N : Nat) : Env := { nt := 10, ty := tys, C := fun g => cond (Nat.beq g 42) (some (cmp_Compare_int.con N)) (none), N := N, keep := [], shrink := [], shr := [], eqs := [] }
theorem plo_Kept_1.run_b (N : Nat) (x0 : entry_Entry) (x1 : entry_Entry) : arun (plo_Kept_1.E N) Try.f41 [.d V_entry_Entry, .d V_entry_Entry] [.d (.sc (.int .i64))] (x0, (x1, ())) = plo_Kept_1.b N x0 x1 := by kernel_rfl
theorem plo_Kept_1.run (N : Nat) (x0 : entry_Entry) (x1 : entry_Entry) : arun (plo_Kept_1.E N) Try.f41 [.d V_entry_Entry, .d V_entry_Entry] [.d (.sc (.int .i64))] (x0, (x1, ())) = plo_Kept_1 N x0 x1 := by
  rw [plo_Kept_1.run_b]
  rfl
theorem plo_Kept_1.sound (N : Nat) : SoundCon Try.prog 41 (plo_Kept_1.con N) := sound_go (E := plo_Kept_1.E N) 10 Try.func41 (by kernel_rfl) (by kernel_rfl) Try.mixed (by kernel_rfl) tys_ok (by kernel_rfl) _ (by kernel_rfl) (soundTab_cons (cmp_Compare_int.sound N) soundTab_nil) fun z y h => (plo_Kept_1.run N z.1 z.2.1).trans h
-- slices.IsSortedFunc[[]pigeonhole/entry.Entry,pigeonhole/entry.Entry]
noncomputable def slices_IsSortedFunc_entry_Entry.E (N : Nat) : Env := { nt := 25, ty := tys, C := fun g => none, N := N, keep := [(2, ⟨[0, 1, 5], [], [], [], [], [], 0⟩)], shrink := [], shr := [], eqs := [] }
noncomputable def slices_IsSortedFunc_entry_Entry.code : Code := (Try.f43.body).getD .skip
noncomputable def slices_IsSortedFunc_entry_Entry.K (N : Nat) : AX → St → Option (RSs.I [.d (.sc .bool)]) := finish (slices_IsSortedFunc_entry_Entry.E N) Try.f43.results.toList [.d (.sc .bool)]
noncomputable def slices_IsSortedFunc_entry_Entry.st0 (x0 : (List entry_Entry)) (x1 : ((entry_Entry × entry_Entry) → Option Int)) (p0_t_5_0 : Int) : St := ⟨[(0, .s (.d ⟨(.sl V_entry_Entry), x0⟩)), (1, .s (.d ⟨(.fn (.cons V_entry_Entry (.cons V_entry_Entry .nil)) (.cons (.sc (.int .i64)) .nil)), x1⟩)), (5, .s (.d ⟨(.int .i64), p0_t_5_0⟩))], [], []⟩
noncomputable def slices_IsSortedFunc_entry_Entry.L0 (N : Nat) (n : Nat) : (List entry_Entry) → ((entry_Entry × entry_Entry) → Option Int) → Int → Option (RSs.I [.d (.sc .bool)]) := fun x0 x1 p0_t_5_0 => loopN (aexec (slices_IsSortedFunc_entry_Entry.E N) (subAt [.b, .a, .b, .i, .l] slices_IsSortedFunc_entry_Entry.code)) ((slices_IsSortedFunc_entry_Entry.E N).keepOf 2) n (slices_IsSortedFunc_entry_Entry.st0 x0 x1 p0_t_5_0) (kontAt (slices_IsSortedFunc_entry_Entry.E N) [.b, .a, .b, .i] slices_IsSortedFunc_entry_Entry.code [] (slices_IsSortedFunc_entry_Entry.K N))
theorem slices_IsSortedFunc_entry_Entry.L0_step (N : Nat) (n : Nat) : slices_IsSortedFunc_entry_Entry.L0 N (n + 1) = slices_IsSortedFunc_entry_Entry.l0s N (slices_IsSortedFunc_entry_Entry.L0 N n) := by kernel_rfl
theorem slices_IsSortedFunc_entry_Entry.L0_eq (N : Nat) (n : Nat) : slices_IsSortedFunc_entry_Entry.L0 N n = slices_IsSortedFunc_entry_Entry.l0 N n := by
  induction n with
  | zero => rfl
  | succ n ih =>
    refine (slices_IsSortedFunc_entry_Entry.L0_step N n).trans ?_
    rw [ih]
    rfl
theorem slices_IsSortedFunc_entry_Entry.run_b (N : Nat) (x0 : (List entry_Entry)) (x1 : ((entry_Entry × entry_Entry) → Option Int)) : arun (slices_IsSortedFunc_entry_Entry.E N) Try.f43 [.d (.sc (.sl V_entry_Entry)), .d (.sc (.fn (.cons V_entry_Entry (.cons V_entry_Entry .nil)) (.cons (.sc (.int .i64)) .nil)))] [.d (.sc .bool)] (x0, (x1, ())) = slices_IsSortedFunc_entry_Entry.b N (slices_IsSortedFunc_entry_Entry.L0 N N) x0 x1 := by kernel_rfl
theorem slices_IsSortedFunc_entry_Entry.run (N : Nat) (x0 : (List entry_Entry)) (x1 : ((entry_Entry × entry_Entry) → Option Int)) : arun (slices_IsSortedFunc_entry_Entry.E N) Try.f43 [.d (.sc (.sl V_entry_Entry)), .d (.sc (.fn (.cons V_entry_Entry (.cons V_entry_Entry .nil)) (.cons (.sc (.int .i64)) .nil)))] [.d (.sc .bool)] (x0, (x1, ())) = slices_IsSortedFunc_entry_Entry N x0 x1 := by
  rw [slices_IsSortedFunc_entry_Entry.run_b, slices_IsSortedFunc_entry_Entry.L0_eq]
  rfl
theorem slices_IsSortedFunc_entry_Entry.sound (N : Nat) : SoundCon Try.prog 43 (slices_IsSortedFunc_entry_Entry.con N) := sound_go (E := slices_IsSortedFunc_entry_Entry.E N) 10 Try.func43 (by kernel_rfl) (by kernel_rfl) Try.mixed (by kernel_rfl) tys_ok (by kernel_rfl) _ (by kernel_rfl) soundTab_nil fun z y h => (slices_IsSortedFunc_entry_Entry.run N z.1 z.2.1).trans h
-- pigeonhole/bank.Entries
noncomputable def bank_Entries.E (N : Nat) : Env := { nt := 21, ty := tys, C := fun g => none, N := N, keep := [(3, ⟨[3, 6, 7, 8], [], [3], [], [], [], 0⟩)], shrink := [], shr := [], eqs := [] }
noncomputable def bank_Entries.code : Code := (Try.f44.body).getD .skip
noncomputable def bank_Entries.K (N : Nat) : AX → St → Option (RSs.I [.fresh V_entry_Entry]) := finish (bank_Entries.E N) Try.f44.results.toList [.fresh V_entry_Entry]
noncomputable def bank_Entries.st0 (x0 : (List bank_Slot)) (p0_t_8_0 : Int) (p0_b_3 : (List entry_Entry)) : St := ⟨[(3, .s (.own 3)), (6, .s (.d ⟨(.sl V_bank_Slot), x0⟩)), (7, .s (.d ⟨(.int .i64), ((List.length x0 : Nat) : Int)⟩)), (8, .s (.d ⟨(.int .i64), p0_t_8_0⟩))], [], [(3, ⟨true, V_entry_Entry, p0_b_3⟩)]⟩
noncomputable def bank_Entries.L0 (N : Nat) (n : Nat) : (List bank_Slot) → Int → (List entry_Entry) → Option (RSs.I [.fresh V_entry_Entry]) := fun x0 p0_t_8_0 p0_b_3 => loopN (aexec (bank_Entries.E N) (subAt [.b, .b, .a, .b, .i, .l] bank_Entries.code)) ((bank_Entries.E N).keepOf 3) n (bank_Entries.st0 x0 p0_t_8_0 p0_b_3) (kontAt (bank_Entries.E N) [.b, .b, .a, .b, .i] bank_Entries.code [] (bank_Entries.K N))
theorem bank_Entries.L0_step (N : Nat) (n : Nat) : bank_Entries.L0 N (n + 1) = bank_Entries.l0s N (bank_Entries.L0 N n) := by kernel_rfl
theorem bank_Entries.L0_eq (N : Nat) (n : Nat) : bank_Entries.L0 N n = bank_Entries.l0 N n := by
  induction n with
  | zero => rfl
  | succ n ih =>
    refine (bank_Entries.L0_step N n).trans ?_
    rw [ih]
    rfl
theorem bank_Entries.run_b (N : Nat) (x0 : (List bank_Slot)) : arun (bank_Entries.E N) Try.f44 [.d (.sc (.sl V_bank_Slot))] [.fresh V_entry_Entry] (x0, ()) = bank_Entries.b N (bank_Entries.L0 N N) x0 := by kernel_rfl
theorem bank_Entries.run (N : Nat) (x0 : (List bank_Slot)) : arun (bank_Entries.E N) Try.f44 [.d (.sc (.sl V_bank_Slot))] [.fresh V_entry_Entry] (x0, ()) = bank_Entries N x0 := by
  rw [bank_Entries.run_b, bank_Entries.L0_eq]
  rfl
theorem bank_Entries.sound (N : Nat) : SoundCon Try.prog 44 (bank_Entries.con N) := sound_go (E := bank_Entries.E N) 10 Try.func44 (by kernel_rfl) (by kernel_rfl) Try.mixed (by kernel_rfl) tys_ok (by kernel_rfl) _ (by kernel_rfl) soundTab_nil fun z y h => (bank_Entries.run N z.1).trans h
-- pigeonhole/plo.Kept
noncomputable def plo_Kept.E (N : Nat) : Env := { nt := 8, ty := tys, C := fun g => cond (Nat.beq g 41) (some (plo_Kept_1.con N)) (cond (Nat.beq g 43) (some (slices_IsSortedFunc_entry_Entry.con N)) (cond (Nat.beq g 44) (some (bank_Entries.con N)) (none))), N := N, keep := [], shrink := [], shr := [], eqs := [] }
theorem plo_Kept.run_b (N : Nat) (x0 : (List bank_Slot)) : arun (plo_Kept.E N) Try.f18 [.d (.sc (.sl V_bank_Slot))] [.d (.sc .bool)] (x0, ()) = plo_Kept.b N x0 := by kernel_rfl
theorem plo_Kept.run (N : Nat) (x0 : (List bank_Slot)) : arun (plo_Kept.E N) Try.f18 [.d (.sc (.sl V_bank_Slot))] [.d (.sc .bool)] (x0, ()) = plo_Kept N x0 := by
  rw [plo_Kept.run_b]
  rfl
theorem plo_Kept.sound (N : Nat) : SoundCon Try.prog 18 (plo_Kept.con N) := sound_go (E := plo_Kept.E N) 10 Try.func18 (by kernel_rfl) (by kernel_rfl) Try.mixed (by kernel_rfl) tys_ok (by kernel_rfl) _ (by kernel_rfl) (soundTab_cons (plo_Kept_1.sound N) (soundTab_cons (slices_IsSortedFunc_entry_Entry.sound N) (soundTab_cons (bank_Entries.sound N) soundTab_nil))) fun z y h => (plo_Kept.run N z.1).trans h
-- slices.IndexFunc[[]pigeonhole/entry.Entry,pigeonhole/entry.Entry]
noncomputable def slices_IndexFunc_entry_Entry.E (N : Nat) : Env := { nt := 19, ty := tys, C := fun g => none, N := N, keep := [(2, ⟨[0, 1, 7, 8], [], [], [], [], [], 0⟩)], shrink := [], shr := [], eqs := [] }
noncomputable def slices_IndexFunc_entry_Entry.code : Code := (Try.f104.body).getD .skip
noncomputable def slices_IndexFunc_entry_Entry.K (N : Nat) : AX → St → Option (RSs.I [.d (.sc (.int .i64))]) := finish (slices_IndexFunc_entry_Entry.E N) Try.f104.results.toList [.d (.sc (.int .i64))]
noncomputable def slices_IndexFunc_entry_Entry.st0 (x0 : (List entry_Entry)) (x1 : (entry_Entry → Option Bool)) (p0_t_8_0 : Int) : St := ⟨[(0, .s (.d ⟨(.sl V_entry_Entry), x0⟩)), (1, .s (.d ⟨(.fn (.cons V_entry_Entry .nil) (.cons (.sc .bool) .nil)), x1⟩)), (7, .s (.d ⟨(.int .i64), ((List.length x0 : Nat) : Int)⟩)), (8, .s (.d ⟨(.int .i64), p0_t_8_0⟩))], [], []⟩
noncomputable def slices_IndexFunc_entry_Entry.L0 (N : Nat) (n : Nat) : (List entry_Entry) → (entry_Entry → Option Bool) → Int → Option (RSs.I [.d (.sc (.int .i64))]) := fun x0 x1 p0_t_8_0 => loopN (aexec (slices_IndexFunc_entry_Entry.E N) (subAt [.b, .a, .b, .i, .l] slices_IndexFunc_entry_Entry.code)) ((slices_IndexFunc_entry_Entry.E N).keepOf 2) n (slices_IndexFunc_entry_Entry.st0 x0 x1 p0_t_8_0) (kontAt (slices_IndexFunc_entry_Entry.E N) [.b, .a, .b, .i] slices_IndexFunc_entry_Entry.code [] (slices_IndexFunc_entry_Entry.K N))
theorem slices_IndexFunc_entry_Entry.L0_step (N : Nat) (n : Nat) : slices_IndexFunc_entry_Entry.L0 N (n + 1) = slices_IndexFunc_entry_Entry.l0s N (slices_IndexFunc_entry_Entry.L0 N n) := by kernel_rfl
theorem slices_IndexFunc_entry_Entry.L0_eq (N : Nat) (n : Nat) : slices_IndexFunc_entry_Entry.L0 N n = slices_IndexFunc_entry_Entry.l0 N n := by
  induction n with
  | zero => rfl
  | succ n ih =>
    refine (slices_IndexFunc_entry_Entry.L0_step N n).trans ?_
    rw [ih]
    rfl
theorem slices_IndexFunc_entry_Entry.run_b (N : Nat) (x0 : (List entry_Entry)) (x1 : (entry_Entry → Option Bool)) : arun (slices_IndexFunc_entry_Entry.E N) Try.f104 [.d (.sc (.sl V_entry_Entry)), .d (.sc (.fn (.cons V_entry_Entry .nil) (.cons (.sc .bool) .nil)))] [.d (.sc (.int .i64))] (x0, (x1, ())) = slices_IndexFunc_entry_Entry.b N (slices_IndexFunc_entry_Entry.L0 N N) x0 x1 := by kernel_rfl
theorem slices_IndexFunc_entry_Entry.run (N : Nat) (x0 : (List entry_Entry)) (x1 : (entry_Entry → Option Bool)) : arun (slices_IndexFunc_entry_Entry.E N) Try.f104 [.d (.sc (.sl V_entry_Entry)), .d (.sc (.fn (.cons V_entry_Entry .nil) (.cons (.sc .bool) .nil)))] [.d (.sc (.int .i64))] (x0, (x1, ())) = slices_IndexFunc_entry_Entry N x0 x1 := by
  rw [slices_IndexFunc_entry_Entry.run_b, slices_IndexFunc_entry_Entry.L0_eq]
  rfl
theorem slices_IndexFunc_entry_Entry.sound (N : Nat) : SoundCon Try.prog 104 (slices_IndexFunc_entry_Entry.con N) := sound_go (E := slices_IndexFunc_entry_Entry.E N) 10 Try.func104 (by kernel_rfl) (by kernel_rfl) Try.mixed (by kernel_rfl) tys_ok (by kernel_rfl) _ (by kernel_rfl) soundTab_nil fun z y h => (slices_IndexFunc_entry_Entry.run N z.1 z.2.1).trans h
-- slices.ContainsFunc[[]pigeonhole/entry.Entry,pigeonhole/entry.Entry]
noncomputable def slices_ContainsFunc_entry_Entry.E (N : Nat) : Env := { nt := 9, ty := tys, C := fun g => cond (Nat.beq g 104) (some (slices_IndexFunc_entry_Entry.con N)) (none), N := N, keep := [], shrink := [], shr := [], eqs := [] }
theorem slices_ContainsFunc_entry_Entry.run_b (N : Nat) (x0 : (List entry_Entry)) (x1 : (entry_Entry → Option Bool)) : arun (slices_ContainsFunc_entry_Entry.E N) Try.f81 [.d (.sc (.sl V_entry_Entry)), .d (.sc (.fn (.cons V_entry_Entry .nil) (.cons (.sc .bool) .nil)))] [.d (.sc .bool)] (x0, (x1, ())) = slices_ContainsFunc_entry_Entry.b N x0 x1 := by kernel_rfl
theorem slices_ContainsFunc_entry_Entry.run (N : Nat) (x0 : (List entry_Entry)) (x1 : (entry_Entry → Option Bool)) : arun (slices_ContainsFunc_entry_Entry.E N) Try.f81 [.d (.sc (.sl V_entry_Entry)), .d (.sc (.fn (.cons V_entry_Entry .nil) (.cons (.sc .bool) .nil)))] [.d (.sc .bool)] (x0, (x1, ())) = slices_ContainsFunc_entry_Entry N x0 x1 := by
  rw [slices_ContainsFunc_entry_Entry.run_b]
  rfl
theorem slices_ContainsFunc_entry_Entry.sound (N : Nat) : SoundCon Try.prog 81 (slices_ContainsFunc_entry_Entry.con N) := sound_go (E := slices_ContainsFunc_entry_Entry.E N) 10 Try.func81 (by kernel_rfl) (by kernel_rfl) Try.mixed (by kernel_rfl) tys_ok (by kernel_rfl) _ (by kernel_rfl) (soundTab_cons (slices_IndexFunc_entry_Entry.sound N) soundTab_nil) fun z y h => (slices_ContainsFunc_entry_Entry.run N z.1 z.2.1).trans h
-- pigeonhole/entry.Above
noncomputable def entry_Above.E (N : Nat) : Env := { nt := 17, ty := tys, C := fun g => cond (Nat.beq g 59) (some (word_Meet.con N)) (none), N := N, keep := [], shrink := [], shr := [], eqs := [] }
theorem entry_Above.run_b (N : Nat) (x0 : entry_Entry) (x1 : entry_Entry) : arun (entry_Above.E N) Try.f80 [.d V_entry_Entry, .d V_entry_Entry] [.d (.sc .bool)] (x0, (x1, ())) = entry_Above.b N x0 x1 := by kernel_rfl
theorem entry_Above.run (N : Nat) (x0 : entry_Entry) (x1 : entry_Entry) : arun (entry_Above.E N) Try.f80 [.d V_entry_Entry, .d V_entry_Entry] [.d (.sc .bool)] (x0, (x1, ())) = entry_Above N x0 x1 := by
  rw [entry_Above.run_b]
  rfl
theorem entry_Above.sound (N : Nat) : SoundCon Try.prog 80 (entry_Above.con N) := sound_go (E := entry_Above.E N) 10 Try.func80 (by kernel_rfl) (by kernel_rfl) Try.mixed (by kernel_rfl) tys_ok (by kernel_rfl) _ (by kernel_rfl) (soundTab_cons (word_Meet.sound N) soundTab_nil) fun z y h => (entry_Above.run N z.1 z.2.1).trans h
-- pigeonhole/entry.Ordered$1
noncomputable def entry_Ordered_1.E (N : Nat) : Env := { nt := 7, ty := tys, C := fun g => cond (Nat.beq g 80) (some (entry_Above.con N)) (none), N := N, keep := [], shrink := [], shr := [], eqs := [] }
theorem entry_Ordered_1.run_b (N : Nat) (x0 : entry_Entry) (x1 : (Int × Int × Int × Int × Int × Int)) : arun (entry_Ordered_1.E N) Try.f82 [.d V_entry_Entry, .ref (.cons (.int .u64) (.cons (.int .u64) (.cons (.int .u64) (.cons (.int .u64) (.cons (.int .i64) (.cons (.int .i64) .nil))))))] [.d (.sc .bool)] (x0, (x1, ())) = entry_Ordered_1.b N x0 x1 := by kernel_rfl
theorem entry_Ordered_1.run (N : Nat) (x0 : entry_Entry) (x1 : (Int × Int × Int × Int × Int × Int)) : arun (entry_Ordered_1.E N) Try.f82 [.d V_entry_Entry, .ref (.cons (.int .u64) (.cons (.int .u64) (.cons (.int .u64) (.cons (.int .u64) (.cons (.int .i64) (.cons (.int .i64) .nil))))))] [.d (.sc .bool)] (x0, (x1, ())) = entry_Ordered_1 N x0 x1 := by
  rw [entry_Ordered_1.run_b]
  rfl
theorem entry_Ordered_1.sound (N : Nat) : SoundCon Try.prog 82 (entry_Ordered_1.con N) := sound_go (E := entry_Ordered_1.E N) 10 Try.func82 (by kernel_rfl) (by kernel_rfl) Try.mixed (by kernel_rfl) tys_ok (by kernel_rfl) _ (by kernel_rfl) (soundTab_cons (entry_Above.sound N) soundTab_nil) fun z y h => (entry_Ordered_1.run N z.1 z.2.1).trans h
-- pigeonhole/entry.Ordered
noncomputable def entry_Ordered.E (N : Nat) : Env := { nt := 18, ty := tys, C := fun g => cond (Nat.beq g 81) (some (slices_ContainsFunc_entry_Entry.con N)) (cond (Nat.beq g 82) (some (entry_Ordered_1.con N)) (none)), N := N, keep := [(2, ⟨[0, 5, 6, 7], [], [], [], [], [], 0⟩)], shrink := [], shr := [], eqs := [] }
noncomputable def entry_Ordered.code : Code := (Try.f50.body).getD .skip
noncomputable def entry_Ordered.K (N : Nat) : AX → St → Option (RSs.I [.d (.sc .bool)]) := finish (entry_Ordered.E N) Try.f50.results.toList [.d (.sc .bool)]
noncomputable def entry_Ordered.st0 (x0 : (List entry_Entry)) (p0_t_7_0 : Int) : St := ⟨[(0, .s (.d ⟨(.sl V_entry_Entry), x0⟩)), (5, .s (.d ⟨(.sl V_entry_Entry), x0⟩)), (6, .s (.d ⟨(.int .i64), ((List.length x0 : Nat) : Int)⟩)), (7, .s (.d ⟨(.int .i64), p0_t_7_0⟩))], [], []⟩
noncomputable def entry_Ordered.L0 (N : Nat) (n : Nat) : (List entry_Entry) → Int → Option (RSs.I [.d (.sc .bool)]) := fun x0 p0_t_7_0 => loopN (aexec (entry_Ordered.E N) (subAt [.b, .a, .b, .i, .l] entry_Ordered.code)) ((entry_Ordered.E N).keepOf 2) n (entry_Ordered.st0 x0 p0_t_7_0) (kontAt (entry_Ordered.E N) [.b, .a, .b, .i] entry_Ordered.code [] (entry_Ordered.K N))
theorem entry_Ordered.L0_step (N : Nat) (n : Nat) : entry_Ordered.L0 N (n + 1) = entry_Ordered.l0s N (entry_Ordered.L0 N n) := by kernel_rfl
theorem entry_Ordered.L0_eq (N : Nat) (n : Nat) : entry_Ordered.L0 N n = entry_Ordered.l0 N n := by
  induction n with
  | zero => rfl
  | succ n ih =>
    refine (entry_Ordered.L0_step N n).trans ?_
    rw [ih]
    rfl
theorem entry_Ordered.run_b (N : Nat) (x0 : (List entry_Entry)) : arun (entry_Ordered.E N) Try.f50 [.d (.sc (.sl V_entry_Entry))] [.d (.sc .bool)] (x0, ()) = entry_Ordered.b N (entry_Ordered.L0 N N) x0 := by kernel_rfl
theorem entry_Ordered.run (N : Nat) (x0 : (List entry_Entry)) : arun (entry_Ordered.E N) Try.f50 [.d (.sc (.sl V_entry_Entry))] [.d (.sc .bool)] (x0, ()) = entry_Ordered N x0 := by
  rw [entry_Ordered.run_b, entry_Ordered.L0_eq]
  rfl
theorem entry_Ordered.sound (N : Nat) : SoundCon Try.prog 50 (entry_Ordered.con N) := sound_go (E := entry_Ordered.E N) 10 Try.func50 (by kernel_rfl) (by kernel_rfl) Try.mixed (by kernel_rfl) tys_ok (by kernel_rfl) _ (by kernel_rfl) (soundTab_cons (slices_ContainsFunc_entry_Entry.sound N) (soundTab_cons (entry_Ordered_1.sound N) soundTab_nil)) fun z y h => (entry_Ordered.run N z.1).trans h
-- pigeonhole/cao.Kept
noncomputable def cao_Kept.E (N : Nat) : Env := { nt := 6, ty := tys, C := fun g => cond (Nat.beq g 44) (some (bank_Entries.con N)) (cond (Nat.beq g 50) (some (entry_Ordered.con N)) (none)), N := N, keep := [], shrink := [], shr := [], eqs := [] }
theorem cao_Kept.run_b (N : Nat) (x0 : (List bank_Slot)) : arun (cao_Kept.E N) Try.f22 [.d (.sc (.sl V_bank_Slot))] [.d (.sc .bool)] (x0, ()) = cao_Kept.b N x0 := by kernel_rfl
theorem cao_Kept.run (N : Nat) (x0 : (List bank_Slot)) : arun (cao_Kept.E N) Try.f22 [.d (.sc (.sl V_bank_Slot))] [.d (.sc .bool)] (x0, ()) = cao_Kept N x0 := by
  rw [cao_Kept.run_b]
  rfl
theorem cao_Kept.sound (N : Nat) : SoundCon Try.prog 22 (cao_Kept.con N) := sound_go (E := cao_Kept.E N) 10 Try.func22 (by kernel_rfl) (by kernel_rfl) Try.mixed (by kernel_rfl) tys_ok (by kernel_rfl) _ (by kernel_rfl) (soundTab_cons (bank_Entries.sound N) (soundTab_cons (entry_Ordered.sound N) soundTab_nil)) fun z y h => (cao_Kept.run N z.1).trans h
-- pigeonhole/pigeonholelaw13.slot
noncomputable def law13_slot.E (N : Nat) : Env := { nt := 8, ty := tys, C := fun g => cond (Nat.beq g 27) (some (prefix_Make.con N)) (cond (Nat.beq g 39) (some (entry_Of.con N)) (none)), N := N, keep := [], shrink := [], shr := [], eqs := [] }
theorem law13_slot.run_b (N : Nat) (x0 : Int) : arun (law13_slot.E N) Try.f45 [.d (.sc (.int .i64))] [.d V_bank_Slot] (x0, ()) = law13_slot.b N x0 := by kernel_rfl
theorem law13_slot.run (N : Nat) (x0 : Int) : arun (law13_slot.E N) Try.f45 [.d (.sc (.int .i64))] [.d V_bank_Slot] (x0, ()) = law13_slot N x0 := by
  rw [law13_slot.run_b]
  rfl
theorem law13_slot.sound (N : Nat) : SoundCon Try.prog 45 (law13_slot.con N) := sound_go (E := law13_slot.E N) 10 Try.func45 (by kernel_rfl) (by kernel_rfl) Try.mixed (by kernel_rfl) tys_ok (by kernel_rfl) _ (by kernel_rfl) (soundTab_cons (prefix_Make.sound N) (soundTab_cons (entry_Of.sound N) soundTab_nil)) fun z y h => (law13_slot.run N z.1).trans h
-- pigeonhole/cao.highest
noncomputable def cao_highest.E (N : Nat) : Env := { nt := 29, ty := tys, C := fun g => cond (Nat.beq g 80) (some (entry_Above.con N)) (none), N := N, keep := [(2, ⟨[0, 5, 7, 20, 21, 22, 23, 24, 25, 26], [5], [], [], [], [], 0⟩)], shrink := [], shr := [], eqs := [] }
noncomputable def cao_highest.code : Code := (Try.f48.body).getD .skip
noncomputable def cao_highest.K (N : Nat) : AX → St → Option (RSs.I [.d (.sc (.int .i64))]) := finish (cao_highest.E N) Try.f48.results.toList [.d (.sc (.int .i64))]
noncomputable def cao_highest.st0 (x0 : (List bank_Slot)) (x2 : entry_Entry) (p0_t_7_0 : Int) : St := ⟨[(0, .s (.d ⟨(.sl V_bank_Slot), x0⟩)), (5, .s (.loc 5 0)), (7, .s (.d ⟨(.int .i64), p0_t_7_0⟩)), (20, .s .dead), (21, .s .dead), (22, .s .dead), (23, .s .dead), (24, .s .dead), (25, .s .dead), (26, .s .dead)], [(5, some [.d ⟨(.int .u64), x2.1⟩, .d ⟨(.int .u64), x2.2.1⟩, .d ⟨(.int .u64), x2.2.2.1⟩, .d ⟨(.int .u64), x2.2.2.2.1⟩, .d ⟨(.int .i64), x2.2.2.2.2.1⟩, .d ⟨(.int .i64), x2.2.2.2.2.2⟩])], []⟩
noncomputable def cao_highest.L0 (N : Nat) (n : Nat) : (List bank_Slot) → entry_Entry → Int → Option (RSs.I [.d (.sc (.int .i64))]) := fun x0 x2 p0_t_7_0 => loopN (aexec (cao_highest.E N) (subAt [.b, .a, .b, .i, .l] cao_highest.code)) ((cao_highest.E N).keepOf 2) n (cao_highest.st0 x0 x2 p0_t_7_0) (kontAt (cao_highest.E N) [.b, .a, .b, .i] cao_highest.code [] (cao_highest.K N))
theorem cao_highest.L0_step (N : Nat) (n : Nat) : cao_highest.L0 N (n + 1) = cao_highest.l0s N (cao_highest.L0 N n) := by kernel_rfl
theorem cao_highest.L0_eq (N : Nat) (n : Nat) : cao_highest.L0 N n = cao_highest.l0 N n := by
  induction n with
  | zero => rfl
  | succ n ih =>
    refine (cao_highest.L0_step N n).trans ?_
    rw [ih]
    rfl
theorem cao_highest.run_b (N : Nat) (x0 : (List bank_Slot)) (x1 : Int) (x2 : entry_Entry) : arun (cao_highest.E N) Try.f48 [.d (.sc (.sl V_bank_Slot)), .d (.sc (.int .i64)), .d V_entry_Entry] [.d (.sc (.int .i64))] (x0, (x1, (x2, ()))) = cao_highest.b N (cao_highest.L0 N N) x0 x1 x2 := by kernel_rfl
theorem cao_highest.run (N : Nat) (x0 : (List bank_Slot)) (x1 : Int) (x2 : entry_Entry) : arun (cao_highest.E N) Try.f48 [.d (.sc (.sl V_bank_Slot)), .d (.sc (.int .i64)), .d V_entry_Entry] [.d (.sc (.int .i64))] (x0, (x1, (x2, ()))) = cao_highest N x0 x1 x2 := by
  rw [cao_highest.run_b, cao_highest.L0_eq]
  rfl
theorem cao_highest.sound (N : Nat) : SoundCon Try.prog 48 (cao_highest.con N) := sound_go (E := cao_highest.E N) 10 Try.func48 (by kernel_rfl) (by kernel_rfl) Try.mixed (by kernel_rfl) tys_ok (by kernel_rfl) _ (by kernel_rfl) (soundTab_cons (entry_Above.sound N) soundTab_nil) fun z y h => (cao_highest.run N z.1 z.2.1 z.2.2.1).trans h
-- pigeonhole/cao.lowest
noncomputable def cao_lowest.E (N : Nat) : Env := { nt := 32, ty := tys, C := fun g => cond (Nat.beq g 80) (some (entry_Above.con N)) (none), N := N, keep := [(2, ⟨[0, 5, 7, 21, 22, 23, 24, 25, 26, 27], [5], [], [], [], [], 0⟩)], shrink := [], shr := [], eqs := [] }
noncomputable def cao_lowest.code : Code := (Try.f49.body).getD .skip
noncomputable def cao_lowest.K (N : Nat) : AX → St → Option (RSs.I [.d (.sc (.int .i64))]) := finish (cao_lowest.E N) Try.f49.results.toList [.d (.sc (.int .i64))]
noncomputable def cao_lowest.st0 (x0 : (List bank_Slot)) (x2 : entry_Entry) (p0_t_7_0 : Int) : St := ⟨[(0, .s (.d ⟨(.sl V_bank_Slot), x0⟩)), (5, .s (.loc 5 0)), (7, .s (.d ⟨(.int .i64), p0_t_7_0⟩)), (21, .s .dead), (22, .s .dead), (23, .s .dead), (24, .s .dead), (25, .s .dead), (26, .s .dead), (27, .s .dead)], [(5, some [.d ⟨(.int .u64), x2.1⟩, .d ⟨(.int .u64), x2.2.1⟩, .d ⟨(.int .u64), x2.2.2.1⟩, .d ⟨(.int .u64), x2.2.2.2.1⟩, .d ⟨(.int .i64), x2.2.2.2.2.1⟩, .d ⟨(.int .i64), x2.2.2.2.2.2⟩])], []⟩
noncomputable def cao_lowest.L0 (N : Nat) (n : Nat) : (List bank_Slot) → entry_Entry → Int → Option (RSs.I [.d (.sc (.int .i64))]) := fun x0 x2 p0_t_7_0 => loopN (aexec (cao_lowest.E N) (subAt [.b, .a, .b, .i, .l] cao_lowest.code)) ((cao_lowest.E N).keepOf 2) n (cao_lowest.st0 x0 x2 p0_t_7_0) (kontAt (cao_lowest.E N) [.b, .a, .b, .i] cao_lowest.code [] (cao_lowest.K N))
theorem cao_lowest.L0_step (N : Nat) (n : Nat) : cao_lowest.L0 N (n + 1) = cao_lowest.l0s N (cao_lowest.L0 N n) := by kernel_rfl
theorem cao_lowest.L0_eq (N : Nat) (n : Nat) : cao_lowest.L0 N n = cao_lowest.l0 N n := by
  induction n with
  | zero => rfl
  | succ n ih =>
    refine (cao_lowest.L0_step N n).trans ?_
    rw [ih]
    rfl
theorem cao_lowest.run_b (N : Nat) (x0 : (List bank_Slot)) (x1 : Int) (x2 : entry_Entry) : arun (cao_lowest.E N) Try.f49 [.d (.sc (.sl V_bank_Slot)), .d (.sc (.int .i64)), .d V_entry_Entry] [.d (.sc (.int .i64))] (x0, (x1, (x2, ()))) = cao_lowest.b N (cao_lowest.L0 N N) x0 x1 x2 := by kernel_rfl
theorem cao_lowest.run (N : Nat) (x0 : (List bank_Slot)) (x1 : Int) (x2 : entry_Entry) : arun (cao_lowest.E N) Try.f49 [.d (.sc (.sl V_bank_Slot)), .d (.sc (.int .i64)), .d V_entry_Entry] [.d (.sc (.int .i64))] (x0, (x1, (x2, ()))) = cao_lowest N x0 x1 x2 := by
  rw [cao_lowest.run_b, cao_lowest.L0_eq]
  rfl
theorem cao_lowest.sound (N : Nat) : SoundCon Try.prog 49 (cao_lowest.con N) := sound_go (E := cao_lowest.E N) 10 Try.func49 (by kernel_rfl) (by kernel_rfl) Try.mixed (by kernel_rfl) tys_ok (by kernel_rfl) _ (by kernel_rfl) (soundTab_cons (entry_Above.sound N) soundTab_nil) fun z y h => (cao_lowest.run N z.1 z.2.1 z.2.2.1).trans h
-- pigeonhole/cao.Gap
noncomputable def cao_Gap.E (N : Nat) : Env := { nt := 15, ty := tys, C := fun g => cond (Nat.beq g 48) (some (cao_highest.con N)) (cond (Nat.beq g 49) (some (cao_lowest.con N)) (none)), N := N, keep := [], shrink := [], shr := [], eqs := [] }
theorem cao_Gap.run_b (N : Nat) (x0 : (List bank_Slot)) (x1 : entry_Entry) : arun (cao_Gap.E N) Try.f21 [.d (.sc (.sl V_bank_Slot)), .d V_entry_Entry] [.d (.sc (.int .i64)), .d (.sc (.int .i64))] (x0, (x1, ())) = cao_Gap.b N x0 x1 := by kernel_rfl
theorem cao_Gap.run (N : Nat) (x0 : (List bank_Slot)) (x1 : entry_Entry) : arun (cao_Gap.E N) Try.f21 [.d (.sc (.sl V_bank_Slot)), .d V_entry_Entry] [.d (.sc (.int .i64)), .d (.sc (.int .i64))] (x0, (x1, ())) = cao_Gap N x0 x1 := by
  rw [cao_Gap.run_b]
  rfl
theorem cao_Gap.sound (N : Nat) : SoundCon Try.prog 21 (cao_Gap.con N) := sound_go (E := cao_Gap.E N) 10 Try.func21 (by kernel_rfl) (by kernel_rfl) Try.mixed (by kernel_rfl) tys_ok (by kernel_rfl) _ (by kernel_rfl) (soundTab_cons (cao_highest.sound N) (soundTab_cons (cao_lowest.sound N) soundTab_nil)) fun z y h => (cao_Gap.run N z.1 z.2.1).trans h
-- pigeonhole/word.Right
noncomputable def word_Right.E (N : Nat) : Env := { nt := 7, ty := tys, C := fun g => cond (Nat.beq g 97) (some (word_clean.con N)) (none), N := N, keep := [], shrink := [], shr := [], eqs := [43] }
theorem word_Right.run_b (N : Nat) (x0 : word_Word) : arun (word_Right.E N) Try.f103 [.d V_word_Word] [.d (.sc .bool)] (x0, ()) = word_Right.b N x0 := by kernel_rfl
theorem word_Right.run (N : Nat) (x0 : word_Word) : arun (word_Right.E N) Try.f103 [.d V_word_Word] [.d (.sc .bool)] (x0, ()) = word_Right N x0 := by
  rw [word_Right.run_b]
  rfl
theorem word_Right.sound (N : Nat) : SoundCon Try.prog 103 (word_Right.con N) := sound_go (E := word_Right.E N) 10 Try.func103 (by kernel_rfl) (by kernel_rfl) Try.mixed (by kernel_rfl) tys_ok (by kernel_rfl) _ (by kernel_rfl) (soundTab_cons (word_clean.sound N) soundTab_nil) fun z y h => (word_Right.run N z.1).trans h
-- pigeonhole/entry.Right
noncomputable def entry_Right.E (N : Nat) : Env := { nt := 26, ty := tys, C := fun g => cond (Nat.beq g 103) (some (word_Right.con N)) (none), N := N, keep := [], shrink := [], shr := [], eqs := [] }
theorem entry_Right.run_b (N : Nat) (x0 : entry_Entry) : arun (entry_Right.E N) Try.f74 [.d V_entry_Entry] [.d (.sc .bool)] (x0, ()) = entry_Right.b N x0 := by kernel_rfl
theorem entry_Right.run (N : Nat) (x0 : entry_Entry) : arun (entry_Right.E N) Try.f74 [.d V_entry_Entry] [.d (.sc .bool)] (x0, ()) = entry_Right N x0 := by
  rw [entry_Right.run_b]
  rfl
theorem entry_Right.sound (N : Nat) : SoundCon Try.prog 74 (entry_Right.con N) := sound_go (E := entry_Right.E N) 10 Try.func74 (by kernel_rfl) (by kernel_rfl) Try.mixed (by kernel_rfl) tys_ok (by kernel_rfl) _ (by kernel_rfl) (soundTab_cons (word_Right.sound N) soundTab_nil) fun z y h => (entry_Right.run N z.1).trans h
-- pigeonhole/cao.empty
noncomputable def cao_empty.E (N : Nat) : Env := { nt := 32, ty := tys, C := fun g => none, N := N, keep := [(3, ⟨[0, 2, 3, 9, 10, 24, 25, 26, 27, 28], [], [], [], [], [], 0⟩)], shrink := [], shr := [], eqs := [] }
noncomputable def cao_empty.code : Code := (Try.f75.body).getD .skip
noncomputable def cao_empty.K (N : Nat) : AX → St → Option (RSs.I [.d (.sc (.int .i64))]) := finish (cao_empty.E N) Try.f75.results.toList [.d (.sc (.int .i64))]
noncomputable def cao_empty.st0 (x0 : (List bank_Slot)) (x2 : Int) (x3 : Bool) (p0_t_9_0 : Int) (p0_t_10_0 : Int) : St := ⟨[(0, .s (.d ⟨(.sl V_bank_Slot), x0⟩)), (2, .s (.d ⟨(.int .i64), x2⟩)), (3, .s (.d ⟨.bool, x3⟩)), (9, .s (.d ⟨(.int .i64), p0_t_9_0⟩)), (10, .s (.d ⟨(.int .i64), p0_t_10_0⟩)), (24, .s .dead), (25, .s .dead), (26, .s .dead), (27, .s .dead), (28, .s .dead)], [], []⟩
noncomputable def cao_empty.L0 (N : Nat) (n : Nat) : (List bank_Slot) → Int → Bool → Int → Int → Option (RSs.I [.d (.sc (.int .i64))]) := fun x0 x2 x3 p0_t_9_0 p0_t_10_0 => loopN (aexec (cao_empty.E N) (subAt [.b, .b, .a, .b, .i, .l] cao_empty.code)) ((cao_empty.E N).keepOf 3) n (cao_empty.st0 x0 x2 x3 p0_t_9_0 p0_t_10_0) (kontAt (cao_empty.E N) [.b, .b, .a, .b, .i] cao_empty.code [] (cao_empty.K N))
theorem cao_empty.L0_step (N : Nat) (n : Nat) : cao_empty.L0 N (n + 1) = cao_empty.l0s N (cao_empty.L0 N n) := by kernel_rfl
theorem cao_empty.L0_eq (N : Nat) (n : Nat) : cao_empty.L0 N n = cao_empty.l0 N n := by
  induction n with
  | zero => rfl
  | succ n ih =>
    refine (cao_empty.L0_step N n).trans ?_
    rw [ih]
    rfl
theorem cao_empty.run_b (N : Nat) (x0 : (List bank_Slot)) (x1 : Int) (x2 : Int) (x3 : Bool) : arun (cao_empty.E N) Try.f75 [.d (.sc (.sl V_bank_Slot)), .d (.sc (.int .i64)), .d (.sc (.int .i64)), .d (.sc .bool)] [.d (.sc (.int .i64))] (x0, (x1, (x2, (x3, ())))) = cao_empty.b N (cao_empty.L0 N N) x0 x1 x2 x3 := by kernel_rfl
theorem cao_empty.run (N : Nat) (x0 : (List bank_Slot)) (x1 : Int) (x2 : Int) (x3 : Bool) : arun (cao_empty.E N) Try.f75 [.d (.sc (.sl V_bank_Slot)), .d (.sc (.int .i64)), .d (.sc (.int .i64)), .d (.sc .bool)] [.d (.sc (.int .i64))] (x0, (x1, (x2, (x3, ())))) = cao_empty N x0 x1 x2 x3 := by
  rw [cao_empty.run_b, cao_empty.L0_eq]
  rfl
theorem cao_empty.sound (N : Nat) : SoundCon Try.prog 75 (cao_empty.con N) := sound_go (E := cao_empty.E N) 10 Try.func75 (by kernel_rfl) (by kernel_rfl) Try.mixed (by kernel_rfl) tys_ok (by kernel_rfl) _ (by kernel_rfl) soundTab_nil fun z y h => (cao_empty.run N z.1 z.2.1 z.2.2.1 z.2.2.2.1).trans h
-- pigeonhole/cao.writes
noncomputable def cao_writes.E (N : Nat) : Env := { nt := 41, ty := tys, C := fun g => none, N := N, keep := [(3, ⟨[0, 1, 5, 7, 8], [5], [7], [], [], [], 0⟩)], shrink := [], shr := [], eqs := [] }
noncomputable def cao_writes.code : Code := (Try.f76.body).getD .skip
noncomputable def cao_writes.K (N : Nat) : AX → St → Option (RSs.I [.fresh V_bank_Write]) := finish (cao_writes.E N) Try.f76.results.toList [.fresh V_bank_Write]
noncomputable def cao_writes.st0 (x0 : (List bank_Slot)) (x1 : (List Int)) (x2 : entry_Entry) (p0_t_8_0 : Int) (p0_b_7 : (List bank_Write)) : St := ⟨[(0, .s (.d ⟨(.sl V_bank_Slot), x0⟩)), (1, .s (.d ⟨(.sl (.sc (.int .i64))), x1⟩)), (5, .s (.loc 5 0)), (7, .s (.own 7)), (8, .s (.d ⟨(.int .i64), p0_t_8_0⟩))], [(5, some [.d ⟨(.int .u64), x2.1⟩, .d ⟨(.int .u64), x2.2.1⟩, .d ⟨(.int .u64), x2.2.2.1⟩, .d ⟨(.int .u64), x2.2.2.2.1⟩, .d ⟨(.int .i64), x2.2.2.2.2.1⟩, .d ⟨(.int .i64), x2.2.2.2.2.2⟩])], [(7, ⟨true, V_bank_Write, p0_b_7⟩)]⟩
noncomputable def cao_writes.L0 (N : Nat) (n : Nat) : (List bank_Slot) → (List Int) → entry_Entry → Int → (List bank_Write) → Option (RSs.I [.fresh V_bank_Write]) := fun x0 x1 x2 p0_t_8_0 p0_b_7 => loopN (aexec (cao_writes.E N) (subAt [.b, .b, .a, .b, .i, .l] cao_writes.code)) ((cao_writes.E N).keepOf 3) n (cao_writes.st0 x0 x1 x2 p0_t_8_0 p0_b_7) (kontAt (cao_writes.E N) [.b, .b, .a, .b, .i] cao_writes.code [] (cao_writes.K N))
theorem cao_writes.L0_step (N : Nat) (n : Nat) : cao_writes.L0 N (n + 1) = cao_writes.l0s N (cao_writes.L0 N n) := by kernel_rfl
theorem cao_writes.L0_eq (N : Nat) (n : Nat) : cao_writes.L0 N n = cao_writes.l0 N n := by
  induction n with
  | zero => rfl
  | succ n ih =>
    refine (cao_writes.L0_step N n).trans ?_
    rw [ih]
    rfl
theorem cao_writes.run_b (N : Nat) (x0 : (List bank_Slot)) (x1 : (List Int)) (x2 : entry_Entry) : arun (cao_writes.E N) Try.f76 [.d (.sc (.sl V_bank_Slot)), .d (.sc (.sl (.sc (.int .i64)))), .d V_entry_Entry] [.fresh V_bank_Write] (x0, (x1, (x2, ()))) = cao_writes.b N (cao_writes.L0 N N) x0 x1 x2 := by kernel_rfl
theorem cao_writes.run (N : Nat) (x0 : (List bank_Slot)) (x1 : (List Int)) (x2 : entry_Entry) : arun (cao_writes.E N) Try.f76 [.d (.sc (.sl V_bank_Slot)), .d (.sc (.sl (.sc (.int .i64)))), .d V_entry_Entry] [.fresh V_bank_Write] (x0, (x1, (x2, ()))) = cao_writes N x0 x1 x2 := by
  rw [cao_writes.run_b, cao_writes.L0_eq]
  rfl
theorem cao_writes.sound (N : Nat) : SoundCon Try.prog 76 (cao_writes.con N) := sound_go (E := cao_writes.E N) 10 Try.func76 (by kernel_rfl) (by kernel_rfl) Try.mixed (by kernel_rfl) tys_ok (by kernel_rfl) _ (by kernel_rfl) soundTab_nil fun z y h => (cao_writes.run N z.1 z.2.1 z.2.2.1).trans h
-- pigeonhole/cao.walk
noncomputable def cao_walk.E (N : Nat) : Env := { nt := 35, ty := tys, C := fun g => none, N := N, keep := [(2, ⟨[0, 1, 2, 7, 13, 14, 15, 16], [], [7], [], [], [], 0⟩)], shrink := [], shr := [], eqs := [] }
noncomputable def cao_walk.code : Code := (Try.f77.body).getD .skip
noncomputable def cao_walk.K (N : Nat) : AX → St → Option (RSs.I [.fresh (.sc (.int .i64))]) := finish (cao_walk.E N) Try.f77.results.toList [.fresh (.sc (.int .i64))]
noncomputable def cao_walk.st0 (x0 : (List bank_Slot)) (x2 : (Int → Option (Int × Int))) (p0_t_1_0 : Int) (p0_b_7 : (List Int)) : St := ⟨[(0, .s (.d ⟨(.sl V_bank_Slot), x0⟩)), (1, .s (.d ⟨(.int .i64), p0_t_1_0⟩)), (2, .s (.d ⟨(.fn (.cons (.sc (.int .i64)) .nil) (.cons (.sc (.int .i64)) (.cons (.sc (.int .i64)) .nil))), x2⟩)), (7, .s (.own 7)), (13, .s .dead), (14, .s .dead), (15, .s .dead), (16, .s .dead)], [], [(7, ⟨true, (.sc (.int .i64)), p0_b_7⟩)]⟩
noncomputable def cao_walk.L0 (N : Nat) (n : Nat) : (List bank_Slot) → (Int → Option (Int × Int)) → Int → (List Int) → Option (RSs.I [.fresh (.sc (.int .i64))]) := fun x0 x2 p0_t_1_0 p0_b_7 => loopN (aexec (cao_walk.E N) (subAt [.b, .b, .a, .i, .l] cao_walk.code)) ((cao_walk.E N).keepOf 2) n (cao_walk.st0 x0 x2 p0_t_1_0 p0_b_7) (kontAt (cao_walk.E N) [.b, .b, .a, .i] cao_walk.code [] (cao_walk.K N))
theorem cao_walk.L0_step (N : Nat) (n : Nat) : cao_walk.L0 N (n + 1) = cao_walk.l0s N (cao_walk.L0 N n) := by kernel_rfl
theorem cao_walk.L0_eq (N : Nat) (n : Nat) : cao_walk.L0 N n = cao_walk.l0 N n := by
  induction n with
  | zero => rfl
  | succ n ih =>
    refine (cao_walk.L0_step N n).trans ?_
    rw [ih]
    rfl
theorem cao_walk.run_b (N : Nat) (x0 : (List bank_Slot)) (x1 : Int) (x2 : (Int → Option (Int × Int))) : arun (cao_walk.E N) Try.f77 [.d (.sc (.sl V_bank_Slot)), .d (.sc (.int .i64)), .d (.sc (.fn (.cons (.sc (.int .i64)) .nil) (.cons (.sc (.int .i64)) (.cons (.sc (.int .i64)) .nil))))] [.fresh (.sc (.int .i64))] (x0, (x1, (x2, ()))) = cao_walk.b N (cao_walk.L0 N N) x0 x1 x2 := by kernel_rfl
theorem cao_walk.run (N : Nat) (x0 : (List bank_Slot)) (x1 : Int) (x2 : (Int → Option (Int × Int))) : arun (cao_walk.E N) Try.f77 [.d (.sc (.sl V_bank_Slot)), .d (.sc (.int .i64)), .d (.sc (.fn (.cons (.sc (.int .i64)) .nil) (.cons (.sc (.int .i64)) (.cons (.sc (.int .i64)) .nil))))] [.fresh (.sc (.int .i64))] (x0, (x1, (x2, ()))) = cao_walk N x0 x1 x2 := by
  rw [cao_walk.run_b, cao_walk.L0_eq]
  rfl
theorem cao_walk.sound (N : Nat) : SoundCon Try.prog 77 (cao_walk.con N) := sound_go (E := cao_walk.E N) 10 Try.func77 (by kernel_rfl) (by kernel_rfl) Try.mixed (by kernel_rfl) tys_ok (by kernel_rfl) _ (by kernel_rfl) soundTab_nil fun z y h => (cao_walk.run N z.1 z.2.1 z.2.2.1).trans h
-- pigeonhole/cao.Insert$1
noncomputable def cao_Insert_1.E (N : Nat) : Env := { nt := 21, ty := tys, C := fun g => cond (Nat.beq g 49) (some (cao_lowest.con N)) (cond (Nat.beq g 75) (some (cao_empty.con N)) (none)), N := N, keep := [], shrink := [], shr := [], eqs := [] }
theorem cao_Insert_1.run_b (N : Nat) (x0 : Int) (x1 : (List bank_Slot)) : arun (cao_Insert_1.E N) Try.f78 [.d (.sc (.int .i64)), .ref (.cons (.sl V_bank_Slot) .nil)] [.d (.sc (.int .i64)), .d (.sc (.int .i64))] (x0, (x1, ())) = cao_Insert_1.b N x0 x1 := by kernel_rfl
theorem cao_Insert_1.run (N : Nat) (x0 : Int) (x1 : (List bank_Slot)) : arun (cao_Insert_1.E N) Try.f78 [.d (.sc (.int .i64)), .ref (.cons (.sl V_bank_Slot) .nil)] [.d (.sc (.int .i64)), .d (.sc (.int .i64))] (x0, (x1, ())) = cao_Insert_1 N x0 x1 := by
  rw [cao_Insert_1.run_b]
  rfl
theorem cao_Insert_1.sound (N : Nat) : SoundCon Try.prog 78 (cao_Insert_1.con N) := sound_go (E := cao_Insert_1.E N) 10 Try.func78 (by kernel_rfl) (by kernel_rfl) Try.mixed (by kernel_rfl) tys_ok (by kernel_rfl) _ (by kernel_rfl) (soundTab_cons (cao_lowest.sound N) (soundTab_cons (cao_empty.sound N) soundTab_nil)) fun z y h => (cao_Insert_1.run N z.1 z.2.1).trans h
-- pigeonhole/cao.Insert$2
noncomputable def cao_Insert_2.E (N : Nat) : Env := { nt := 20, ty := tys, C := fun g => cond (Nat.beq g 48) (some (cao_highest.con N)) (cond (Nat.beq g 75) (some (cao_empty.con N)) (none)), N := N, keep := [], shrink := [], shr := [], eqs := [] }
theorem cao_Insert_2.run_b (N : Nat) (x0 : Int) (x1 : (List bank_Slot)) : arun (cao_Insert_2.E N) Try.f79 [.d (.sc (.int .i64)), .ref (.cons (.sl V_bank_Slot) .nil)] [.d (.sc (.int .i64)), .d (.sc (.int .i64))] (x0, (x1, ())) = cao_Insert_2.b N x0 x1 := by kernel_rfl
theorem cao_Insert_2.run (N : Nat) (x0 : Int) (x1 : (List bank_Slot)) : arun (cao_Insert_2.E N) Try.f79 [.d (.sc (.int .i64)), .ref (.cons (.sl V_bank_Slot) .nil)] [.d (.sc (.int .i64)), .d (.sc (.int .i64))] (x0, (x1, ())) = cao_Insert_2 N x0 x1 := by
  rw [cao_Insert_2.run_b]
  rfl
theorem cao_Insert_2.sound (N : Nat) : SoundCon Try.prog 79 (cao_Insert_2.con N) := sound_go (E := cao_Insert_2.E N) 10 Try.func79 (by kernel_rfl) (by kernel_rfl) Try.mixed (by kernel_rfl) tys_ok (by kernel_rfl) _ (by kernel_rfl) (soundTab_cons (cao_highest.sound N) (soundTab_cons (cao_empty.sound N) soundTab_nil)) fun z y h => (cao_Insert_2.run N z.1 z.2.1).trans h
-- pigeonhole/cao.Insert
noncomputable def cao_Insert.E (N : Nat) : Env := { nt := 81, ty := tys, C := fun g => cond (Nat.beq g 21) (some (cao_Gap.con N)) (cond (Nat.beq g 22) (some (cao_Kept.con N)) (cond (Nat.beq g 74) (some (entry_Right.con N)) (cond (Nat.beq g 75) (some (cao_empty.con N)) (cond (Nat.beq g 76) (some (cao_writes.con N)) (cond (Nat.beq g 77) (some (cao_walk.con N)) (cond (Nat.beq g 78) (some (cao_Insert_1.con N)) (cond (Nat.beq g 79) (some (cao_Insert_2.con N)) (none)))))))), N := N, keep := [], shrink := [], shr := [], eqs := [] }
theorem cao_Insert.run_b (N : Nat) (x0 : (List bank_Slot)) (x1 : entry_Entry) : arun (cao_Insert.E N) Try.f46 [.d (.sc (.sl V_bank_Slot)), .d V_entry_Entry] [.fresh V_bank_Write, .d (.sc (.int .i64))] (x0, (x1, ())) = cao_Insert.b N x0 x1 := by kernel_rfl
theorem cao_Insert.run (N : Nat) (x0 : (List bank_Slot)) (x1 : entry_Entry) : arun (cao_Insert.E N) Try.f46 [.d (.sc (.sl V_bank_Slot)), .d V_entry_Entry] [.fresh V_bank_Write, .d (.sc (.int .i64))] (x0, (x1, ())) = cao_Insert N x0 x1 := by
  rw [cao_Insert.run_b]
  rfl
theorem cao_Insert.sound (N : Nat) : SoundCon Try.prog 46 (cao_Insert.con N) := sound_go (E := cao_Insert.E N) 10 Try.func46 (by kernel_rfl) (by kernel_rfl) Try.mixed (by kernel_rfl) tys_ok (by kernel_rfl) _ (by kernel_rfl) (soundTab_cons (cao_Gap.sound N) (soundTab_cons (cao_Kept.sound N) (soundTab_cons (entry_Right.sound N) (soundTab_cons (cao_empty.sound N) (soundTab_cons (cao_writes.sound N) (soundTab_cons (cao_walk.sound N) (soundTab_cons (cao_Insert_1.sound N) (soundTab_cons (cao_Insert_2.sound N) soundTab_nil)))))))) fun z y h => (cao_Insert.run N z.1 z.2.1).trans h
-- pigeonhole/cao.Chain
noncomputable def cao_Chain.E (N : Nat) : Env := { nt := 59, ty := tys, C := fun g => cond (Nat.beq g 31) (some (sortE.con N)) (cond (Nat.beq g 80) (some (entry_Above.con N)) (none)), N := N, keep := [(5, ⟨[3, 4, 5, 15, 16, 17], [], [11, 14], [], [11], [], 0⟩), (9, ⟨[3, 4, 5, 6, 7, 15, 16, 17, 27, 28, 29], [7], [11, 14], [], [], [], 0⟩)], shrink := [], shr := [], eqs := [] }
noncomputable def cao_Chain.code : Code := (Try.f47.body).getD .skip
noncomputable def cao_Chain.K (N : Nat) : AX → St → Option (RSs.I [.d (.sc (.int .i64))]) := finish (cao_Chain.E N) Try.f47.results.toList [.d (.sc (.int .i64))]
noncomputable def cao_Chain.st0 (y1 : (List entry_Entry)) (p0_t_5_0 : Int) (p0_t_17_0 : Int) (p0_b_14 : (List Int)) : St := ⟨[(3, .s (.own 11)), (4, .s (.own 14)), (5, .s (.d ⟨(.int .i64), p0_t_5_0⟩)), (15, .s (.own 11)), (16, .s (.d ⟨(.int .i64), ((List.length y1 : Nat) : Int)⟩)), (17, .s (.d ⟨(.int .i64), p0_t_17_0⟩))], [], [(11, ⟨false, V_entry_Entry, y1⟩), (14, ⟨true, (.sc (.int .i64)), p0_b_14⟩)]⟩
noncomputable def cao_Chain.L0 (N : Nat) (n : Nat) : (List entry_Entry) → Int → Int → (List Int) → Option (RSs.I [.d (.sc (.int .i64))]) := fun y1 p0_t_5_0 p0_t_17_0 p0_b_14 => loopN (aexec (cao_Chain.E N) (subAt [.b, .b, .b, .b, .a, .b, .i, .l] cao_Chain.code)) ((cao_Chain.E N).keepOf 5) n (cao_Chain.st0 y1 p0_t_5_0 p0_t_17_0 p0_b_14) (kontAt (cao_Chain.E N) [.b, .b, .b, .b, .a, .b, .i] cao_Chain.code [] (cao_Chain.K N))
noncomputable def cao_Chain.st1 (y1 : (List entry_Entry)) (p0_t_5_0 : Int) (p0_t_17_0 : Int) (y2 : entry_Entry) (p1_t_29_0 : Int) (p1_b_14 : (List Int)) : St := ⟨[(3, .s (.own 11)), (4, .s (.own 14)), (5, .s (.d ⟨(.int .i64), p0_t_5_0⟩)), (6, .s (.d ⟨(.int .i64), p0_t_17_0⟩)), (7, .s (.loc 7 0)), (15, .s (.own 11)), (16, .s (.d ⟨(.int .i64), ((List.length y1 : Nat) : Int)⟩)), (17, .s (.d ⟨(.int .i64), p0_t_17_0⟩)), (27, .s (.d ⟨(.sl V_entry_Entry), (List.drop (Int.toNat 0) (List.take (Int.toNat p0_t_17_0) y1))⟩)), (28, .s (.d ⟨(.int .i64), ((List.length (List.drop (Int.toNat 0) (List.take (Int.toNat p0_t_17_0) y1)) : Nat) : Int)⟩)), (29, .s (.d ⟨(.int .i64), p1_t_29_0⟩))], [(7, some [.d ⟨(.int .u64), y2.1⟩, .d ⟨(.int .u64), y2.2.1⟩, .d ⟨(.int .u64), y2.2.2.1⟩, .d ⟨(.int .u64), y2.2.2.2.1⟩, .d ⟨(.int .i64), y2.2.2.2.2.1⟩, .d ⟨(.int .i64), y2.2.2.2.2.2⟩])], [(11, ⟨false, V_entry_Entry, y1⟩), (14, ⟨true, (.sc (.int .i64)), p1_b_14⟩)]⟩
noncomputable def cao_Chain.L1 (N : Nat) (n0 : Nat) (n : Nat) : (List entry_Entry) → Int → Int → entry_Entry → Int → (List Int) → Option (RSs.I [.d (.sc (.int .i64))]) := fun y1 p0_t_5_0 p0_t_17_0 y2 p1_t_29_0 p1_b_14 => loopN (aexec (cao_Chain.E N) (subAt [.b, .b, .b, .b, .a, .b, .i, .l, .b, .b, .a, .i, .b, .b, .a, .b, .i, .l] cao_Chain.code)) ((cao_Chain.E N).keepOf 9) n (cao_Chain.st1 y1 p0_t_5_0 p0_t_17_0 y2 p1_t_29_0 p1_b_14) (kontAt (cao_Chain.E N) [.b, .b, .b, .b, .a, .b, .i, .l, .b, .b, .a, .i, .b, .b, .a, .b, .i] cao_Chain.code [n0] (cao_Chain.K N))
theorem cao_Chain.L1_step (N : Nat) (n0 : Nat) (n : Nat) : cao_Chain.L1 N n0 (n + 1) = cao_Chain.l1s N (cao_Chain.L0 N n0) (cao_Chain.L1 N n0 n) := by kernel_rfl
theorem cao_Chain.L1_eq (N : Nat) (n0 : Nat) (n : Nat) : cao_Chain.L1 N n0 n = cao_Chain.l1 N (cao_Chain.L0 N n0) n := by
  induction n with
  | zero => rfl
  | succ n ih =>
    refine (cao_Chain.L1_step N n0 n).trans ?_
    rw [ih]
    rfl
theorem cao_Chain.L0_step (N : Nat) (n : Nat) : cao_Chain.L0 N (n + 1) = cao_Chain.l0s N (cao_Chain.L1 N n N) (cao_Chain.L0 N n) := by kernel_rfl
theorem cao_Chain.L0_eq (N : Nat) (n : Nat) : cao_Chain.L0 N n = cao_Chain.l0 N n := by
  induction n with
  | zero => rfl
  | succ n ih =>
    refine (cao_Chain.L0_step N n).trans ?_
    rw [cao_Chain.L1_eq]
    rw [ih]
    rfl
theorem cao_Chain.run_b (N : Nat) (x0 : (List entry_Entry)) : arun (cao_Chain.E N) Try.f47 [.d (.sc (.sl V_entry_Entry))] [.d (.sc (.int .i64))] (x0, ()) = cao_Chain.b N (cao_Chain.L0 N N) x0 := by kernel_rfl
theorem cao_Chain.run (N : Nat) (x0 : (List entry_Entry)) : arun (cao_Chain.E N) Try.f47 [.d (.sc (.sl V_entry_Entry))] [.d (.sc (.int .i64))] (x0, ()) = cao_Chain N x0 := by
  rw [cao_Chain.run_b, cao_Chain.L0_eq]
  rfl
theorem cao_Chain.sound (N : Nat) : SoundCon Try.prog 47 (cao_Chain.con N) := sound_go (E := cao_Chain.E N) 10 Try.func47 (by kernel_rfl) (by kernel_rfl) Try.mixed (by kernel_rfl) tys_ok (by kernel_rfl) _ (by kernel_rfl) (soundTab_cons (sortE.sound N) (soundTab_cons (entry_Above.sound N) soundTab_nil)) fun z y h => (cao_Chain.run N z.1).trans h
-- pigeonhole/pigeonholelaw13.awake
noncomputable def law13_awake.E (N : Nat) : Env := { nt := 56, ty := tys, C := fun g => cond (Nat.beq g 22) (some (cao_Kept.con N)) (cond (Nat.beq g 44) (some (bank_Entries.con N)) (cond (Nat.beq g 45) (some (law13_slot.con N)) (cond (Nat.beq g 46) (some (cao_Insert.con N)) (cond (Nat.beq g 47) (some (cao_Chain.con N)) (none))))), N := N, keep := [], shrink := [], shr := [], eqs := [94] }
theorem law13_awake.run_b (N : Nat) : arun (law13_awake.E N) Try.f19 [] [.d (.sc .bool)] () = law13_awake.b N := by kernel_rfl
theorem law13_awake.run (N : Nat) : arun (law13_awake.E N) Try.f19 [] [.d (.sc .bool)] () = law13_awake N := by
  rw [law13_awake.run_b]
  rfl
theorem law13_awake.sound (N : Nat) : SoundCon Try.prog 19 (law13_awake.con N) := sound_go (E := law13_awake.E N) 10 Try.func19 (by kernel_rfl) (by kernel_rfl) Try.mixed (by kernel_rfl) tys_ok (by kernel_rfl) _ (by kernel_rfl) (soundTab_cons (cao_Kept.sound N) (soundTab_cons (bank_Entries.sound N) (soundTab_cons (law13_slot.sound N) (soundTab_cons (cao_Insert.sound N) (soundTab_cons (cao_Chain.sound N) soundTab_nil))))) fun z y h => (law13_awake.run N).trans h
-- pigeonhole/plo.Gap
noncomputable def plo_Gap.E (N : Nat) : Env := { nt := 48, ty := tys, C := fun g => cond (Nat.beq g 18) (some (plo_Kept.con N)) (none), N := N, keep := [(5, ⟨[1, 6, 7, 15, 16, 17, 25, 26, 27, 28, 29, 36, 37, 38, 39, 40], [], [], [], [], [], 0⟩)], shrink := [], shr := [], eqs := [] }
noncomputable def plo_Gap.code : Code := (Try.f20.body).getD .skip
noncomputable def plo_Gap.K (N : Nat) : AX → St → Option (RSs.I [.d (.sc (.int .i64)), .d (.sc (.int .i64))]) := finish (plo_Gap.E N) Try.f20.results.toList [.d (.sc (.int .i64)), .d (.sc (.int .i64))]
noncomputable def plo_Gap.st0 (x0 : (List bank_Slot)) (x1 : Int) (p0_t_6_0 : Int) (p0_t_7_0 : Int) (p0_t_17_0 : Int) : St := ⟨[(1, .s (.d ⟨(.int .i64), x1⟩)), (6, .s (.d ⟨(.int .i64), p0_t_6_0⟩)), (7, .s (.d ⟨(.int .i64), p0_t_7_0⟩)), (15, .s (.d ⟨(.sl V_bank_Slot), x0⟩)), (16, .s (.d ⟨(.int .i64), ((List.length x0 : Nat) : Int)⟩)), (17, .s (.d ⟨(.int .i64), p0_t_17_0⟩)), (25, .s .dead), (26, .s .dead), (27, .s .dead), (28, .s .dead), (29, .s .dead), (36, .s .dead), (37, .s .dead), (38, .s .dead), (39, .s .dead), (40, .s .dead)], [], []⟩
noncomputable def plo_Gap.L0 (N : Nat) (n : Nat) : (List bank_Slot) → Int → Int → Int → Int → Option (RSs.I [.d (.sc (.int .i64)), .d (.sc (.int .i64))]) := fun x0 x1 p0_t_6_0 p0_t_7_0 p0_t_17_0 => loopN (aexec (plo_Gap.E N) (subAt [.b, .b, .b, .a, .b, .i, .l] plo_Gap.code)) ((plo_Gap.E N).keepOf 5) n (plo_Gap.st0 x0 x1 p0_t_6_0 p0_t_7_0 p0_t_17_0) (kontAt (plo_Gap.E N) [.b, .b, .b, .a, .b, .i] plo_Gap.code [] (plo_Gap.K N))
theorem plo_Gap.L0_step (N : Nat) (n : Nat) : plo_Gap.L0 N (n + 1) = plo_Gap.l0s N (plo_Gap.L0 N n) := by kernel_rfl
theorem plo_Gap.L0_eq (N : Nat) (n : Nat) : plo_Gap.L0 N n = plo_Gap.l0 N n := by
  induction n with
  | zero => rfl
  | succ n ih =>
    refine (plo_Gap.L0_step N n).trans ?_
    rw [ih]
    rfl
theorem plo_Gap.run_b (N : Nat) (x0 : (List bank_Slot)) (x1 : Int) : arun (plo_Gap.E N) Try.f20 [.d (.sc (.sl V_bank_Slot)), .d (.sc (.int .i64))] [.d (.sc (.int .i64)), .d (.sc (.int .i64))] (x0, (x1, ())) = plo_Gap.b N (plo_Gap.L0 N N) x0 x1 := by kernel_rfl
theorem plo_Gap.run (N : Nat) (x0 : (List bank_Slot)) (x1 : Int) : arun (plo_Gap.E N) Try.f20 [.d (.sc (.sl V_bank_Slot)), .d (.sc (.int .i64))] [.d (.sc (.int .i64)), .d (.sc (.int .i64))] (x0, (x1, ())) = plo_Gap N x0 x1 := by
  rw [plo_Gap.run_b, plo_Gap.L0_eq]
  rfl
theorem plo_Gap.sound (N : Nat) : SoundCon Try.prog 20 (plo_Gap.con N) := sound_go (E := plo_Gap.E N) 10 Try.func20 (by kernel_rfl) (by kernel_rfl) Try.mixed (by kernel_rfl) tys_ok (by kernel_rfl) _ (by kernel_rfl) (soundTab_cons (plo_Kept.sound N) soundTab_nil) fun z y h => (plo_Gap.run N z.1 z.2.1).trans h
-- pigeonhole/pigeonholelaw13.CaoLengths
noncomputable def law13_CaoLengths.E (N : Nat) : Env := { nt := 46, ty := tys, C := fun g => cond (Nat.beq g 18) (some (plo_Kept.con N)) (cond (Nat.beq g 19) (some (law13_awake.con N)) (cond (Nat.beq g 20) (some (plo_Gap.con N)) (cond (Nat.beq g 21) (some (cao_Gap.con N)) (cond (Nat.beq g 22) (some (cao_Kept.con N)) (none))))), N := N, keep := [], shrink := [], shr := [], eqs := [] }
theorem law13_CaoLengths.run_b (N : Nat) (x0 : (List bank_Slot)) (x1 : entry_Entry) : arun (law13_CaoLengths.E N) Try.f5 [.d (.sc (.sl V_bank_Slot)), .d V_entry_Entry] [.d (.sc .bool)] (x0, (x1, ())) = law13_CaoLengths.b N x0 x1 := by kernel_rfl
theorem law13_CaoLengths.run (N : Nat) (x0 : (List bank_Slot)) (x1 : entry_Entry) : arun (law13_CaoLengths.E N) Try.f5 [.d (.sc (.sl V_bank_Slot)), .d V_entry_Entry] [.d (.sc .bool)] (x0, (x1, ())) = law13_CaoLengths N x0 x1 := by
  rw [law13_CaoLengths.run_b]
  rfl
theorem law13_CaoLengths.sound (N : Nat) : SoundCon Try.prog 5 (law13_CaoLengths.con N) := sound_go (E := law13_CaoLengths.E N) 10 Try.func5 (by kernel_rfl) (by kernel_rfl) Try.mixed (by kernel_rfl) tys_ok (by kernel_rfl) _ (by kernel_rfl) (soundTab_cons (plo_Kept.sound N) (soundTab_cons (law13_awake.sound N) (soundTab_cons (plo_Gap.sound N) (soundTab_cons (cao_Gap.sound N) (soundTab_cons (cao_Kept.sound N) soundTab_nil))))) fun z y h => (law13_CaoLengths.run N z.1 z.2.1).trans h
end Go.PgAM

/-
  Addresses as rows of 128 bits, in plain Lean.
-/
namespace Go.PgAM
open Go
set_option linter.unusedVariables false
set_option linter.unusedSimpArgs false
abbrev Adr := Int × Int
def okI (x : Int) : Prop := 0 ≤ x ∧ x < 18446744073709551616
def okA (a : Adr) : Prop := okI a.1 ∧ okI a.2
def bw (x : Int) : BitVec 64 := BitVec.ofInt 64 x
def bv (a : Adr) : BitVec 128 := (bw a.1) ++ (bw a.2)
theorem wrapU {n : Nat} (h : n < 18446744073709551616) : IntKind.wrap .u64 (n : Int) = (n : Int) := by
  unfold IntKind.wrap
  simp [IntKind.signed, IntKind.bits]
  omega
theorem b_and_eq (x y : Int) : b_and .u64 x y = ((bw x &&& bw y).toNat : Int) := by
  unfold b_and
  rw [show IntKind.bits .u64 = 64 from rfl]
  exact wrapU (BitVec.isLt _)
theorem b_xor_eq (x y : Int) : b_xor .u64 x y = ((bw x ^^^ bw y).toNat : Int) := by
  unfold b_xor
  rw [show IntKind.bits .u64 = 64 from rfl]
  exact wrapU (BitVec.isLt _)
theorem b_or_eq (x y : Int) : b_or .u64 x y = ((bw x ||| bw y).toNat : Int) := by
  unfold b_or
  rw [show IntKind.bits .u64 = 64 from rfl]
  exact wrapU (BitVec.isLt _)
theorem b_not_eq (x : Int) : b_not .u64 x = ((~~~ bw x).toNat : Int) := by
  unfold b_not
  rw [show IntKind.bits .u64 = 64 from rfl]
  rw [show (if IntKind.signed .u64 = true then (-1 : Int) else IntKind.max .u64) = 18446744073709551615 by decide]
  rw [show BitVec.ofInt 64 18446744073709551615 = BitVec.allOnes 64 by decide]
  rw [BitVec.allOnes_xor]
  exact wrapU (BitVec.isLt _)
theorem bw_nat (v : BitVec 64) : bw (v.toNat : Int) = v := by
  unfold bw
  simp
theorem ok_nat (v : BitVec 64) : okI (v.toNat : Int) := ⟨by omega, by have := v.isLt; omega⟩
theorem bw_inj {x y : Int} (hx : okI x) (hy : okI y) (h : bw x = bw y) : x = y := by
  have h := congrArg BitVec.toNat h
  simp only [bw, BitVec.toNat_ofInt] at h
  obtain ⟨h1, h2⟩ := hx
  obtain ⟨h3, h4⟩ := hy
  have e1 : x % 18446744073709551616 = x := Int.emod_eq_of_lt h1 h2
  have e2 : y % 18446744073709551616 = y := Int.emod_eq_of_lt h3 h4
  have h : (x % 18446744073709551616).toNat = (y % 18446744073709551616).toNat := h
  rw [e1, e2] at h
  omega
theorem app_inj {a b c d : BitVec 64} (h : a ++ b = c ++ d) : a = c ∧ b = d := by
  constructor
  · apply BitVec.eq_of_getLsbD_eq
    intro i hi
    have := congrArg (fun v : BitVec (64 + 64) => v.getLsbD (64 + i)) h
    simp only [BitVec.getLsbD_append] at this
    rw [if_neg (by omega), if_neg (by omega), show 64 + i - 64 = i by omega] at this
    exact this
  · apply BitVec.eq_of_getLsbD_eq
    intro i hi
    have := congrArg (fun v : BitVec (64 + 64) => v.getLsbD i) h
    simp only [BitVec.getLsbD_append] at this
    rw [if_pos hi, if_pos hi] at this
    exact this
theorem bv_inj {a b : Adr} (ha : okA a) (hb : okA b) (h : bv a = bv b) : a = b := by
  obtain ⟨h1, h2⟩ := app_inj h
  exact Prod.ext (bw_inj ha.1 hb.1 h1) (bw_inj ha.2 hb.2 h2)
def andA (a b : Adr) : Adr := (b_and .u64 a.1 b.1, b_and .u64 a.2 b.2)
def xorA (a b : Adr) : Adr := (b_xor .u64 a.1 b.1, b_xor .u64 a.2 b.2)
theorem bv_and (a b : Adr) : bv (andA a b) = bv a &&& bv b := by
  unfold bv andA
  simp only [b_and_eq, bw_nat]
  exact (BitVec.and_append).symm
theorem bv_xor (a b : Adr) : bv (xorA a b) = bv a ^^^ bv b := by
  unfold bv xorA
  simp only [b_xor_eq, bw_nat]
  exact (BitVec.xor_append).symm
theorem ok_and (a b : Adr) : okA (andA a b) := by
  unfold andA okA
  simp only [b_and_eq]
  exact ⟨ok_nat _, ok_nat _⟩
theorem ok_xor (a b : Adr) : okA (xorA a b) := by
  unfold xorA okA
  simp only [b_xor_eq]
  exact ⟨ok_nat _, ok_nat _⟩
theorem zeroA {a : Adr} (h : okA a) : eqI a.1 0 (eqI a.2 0 true) = decide (bv a = 0#128) := by
  have e0 : bv (0, 0) = 0#128 := by decide
  unfold eqI
  by_cases h1 : a = (0, 0)
  · subst h1
    rw [e0]; rfl
  · have h2 : bv a ≠ 0#128 := fun h3 => h1 (bv_inj h ⟨⟨by decide, by decide⟩, ⟨by decide, by decide⟩⟩ (h3.trans e0.symm))
    rw [decide_eq_false h2]
    cases e1 : a.1 == 0 with
    | false => rfl
    | true =>
      cases e2 : a.2 == 0 with
      | false => rfl
      | true => exact absurd (Prod.ext (eq_of_beq e1) (eq_of_beq e2)) h1
theorem eqA {a b : Adr} (ha : okA a) (hb : okA b) : eqI a.1 b.1 (eqI a.2 b.2 true) = decide (bv a = bv b) := by
  unfold eqI
  by_cases h1 : a = b
  · subst h1
    simp
  · have h2 : bv a ≠ bv b := fun h3 => h1 (bv_inj ha hb h3)
    rw [decide_eq_false h2]
    cases e1 : a.1 == b.1 with
    | false => rfl
    | true =>
      cases e2 : a.2 == b.2 with
      | false => rfl
      | true => exact absurd (Prod.ext (eq_of_beq e1) (eq_of_beq e2)) h1
end Go.PgAM

/-
  Words: the document's answers, bit by bit, and the program's, are one.
-/
namespace Go.PgAM
open Go
set_option linter.unusedVariables false
set_option linter.unusedSimpArgs false
theorem wrap_id {x : Int} (h1 : -9223372036854775808 ≤ x) (h2 : x < 9223372036854775808) : w_i64 x = x := by
  unfold w_i64 IntKind.wrap
  simp [IntKind.signed, IntKind.bits]
  split <;> omega
theorem w_succ {k : Nat} (h : k < 4611686018427387904) : w_i64 ((k : Int) + 1) = ((k + 1 : Nat) : Int) := by
  rw [wrap_id (by omega) (by omega)]; omega
theorem w_pred {k : Nat} (h : k < 4611686018427387904) : w_i64 (((k + 1 : Nat) : Int) - 1) = (k : Int) := by
  rw [wrap_id (by omega) (by omega)]; omega
theorem idx_nat {α : Type} {l : List α} {k : Nat} (h : k < l.length) : idx l (k : Int) = some l[k] := by
  show l[k]? = _
  exact List.getElem?_eq_getElem h
theorem lt_true {k n : Nat} (h : k < n) : decide ((k : Int) < (n : Int)) = true := decide_eq_true (by omega)
theorem lt_false {k n : Nat} (h : n ≤ k) : decide ((k : Int) < (n : Int)) = false := decide_eq_false (by omega)

theorem half_w {n : Nat} (h : n < 18446744073709551616) : w_u64 (Int.tdiv (n : Int) 2) = ((n / 2 : Nat) : Int) := by
  rw [show Int.tdiv (n : Int) 2 = ((n / 2 : Nat) : Int) from rfl]
  exact wrapU (by omega)
theorem odd_w (n : Nat) : (Int.tmod (n : Int) 2 == 1) = n.testBit 0 := by
  rw [show Int.tmod (n : Int) 2 = ((n % 2 : Nat) : Int) from rfl, Nat.testBit_zero]
  rcases Nat.mod_two_eq_zero_or_one n with h | h <;> rw [h] <;> rfl
theorem bits_l1 (N : Nat) (a : Adr) : ∀ (fuel m n : Nat) (l : List Bool), m < fuel → m ≤ 64 → n < 18446744073709551616 → l.length = 128 →
    ∃ l', ref01_Bits.l1 N fuel a (n : Int) ((m : Int) - 1) l = some l' ∧ l'.length = 128 ∧ ∀ j, j < 128 → l'[j]? = if 64 ≤ j ∧ j < 64 + m then some (n.testBit (m - 1 - (j - 64))) else l[j]?
  | 0, m, n, l, h, _, _, _ => by omega
  | fuel + 1, 0, n, l, h, _, _, hl => ⟨l, rfl, hl, fun j hj => by rw [if_neg (by omega)]⟩
  | fuel + 1, m + 1, n, l, h, hm, hn, hl => by
    obtain ⟨l', h1, h2, h3⟩ := bits_l1 N a fuel m (n / 2) (l.set (64 + m) (n.testBit 0)) (by omega) (by omega) (by omega) (by simpa using hl)
    refine ⟨l', ?_, h2, fun j hj => ?_⟩
    · show ref01_Bits.l1s N (ref01_Bits.l1 N fuel) a (n : Int) (((m + 1 : Nat) : Int) - 1) l = _
      unfold ref01_Bits.l1s
      rw [show ((m + 1 : Nat) : Int) - 1 = (m : Int) by omega, show decide ((m : Int) ≥ 0) = true from decide_eq_true (by omega)]
      simp only [cond_true]
      rw [show w_i64 (64 + (m : Int)) = ((64 + m : Nat) : Int) by rw [wrap_id (by omega) (by omega)]; omega, idx_nat (show 64 + m < l.length by omega), half_w hn, odd_w,
        wrap_id (x := (m : Int) - 1) (by omega) (by omega), Int.toNat_natCast]
      exact h1
    · rw [h3 j hj]
      by_cases c : 64 ≤ j ∧ j < 64 + m
      · rw [if_pos c, if_pos (by omega), show m + 1 - 1 - (j - 64) = (m - 1 - (j - 64)) + 1 by omega, Nat.testBit_succ]
      · rw [if_neg c]
        by_cases e : j = 64 + m
        · subst e
          rw [if_pos (by omega), List.getElem?_set, if_pos rfl, if_pos (by omega), show m + 1 - 1 - (64 + m - 64) = 0 by omega]
        · rw [if_neg (by omega), List.getElem?_set, if_neg (Ne.symm e)]
theorem bits_l0 (N : Nat) (a : Adr) (hN : 64 < N) (ha : okA a) : ∀ (fuel m n : Nat) (l : List Bool), m < fuel → m ≤ 64 → n < 18446744073709551616 → l.length = 128 →
    ∃ l', ref01_Bits.l0 N fuel a (n : Int) ((m : Int) - 1) l = some l' ∧ l'.length = 128 ∧ ∀ j, j < 128 → l'[j]? = if 64 ≤ j then some (a.2.toNat.testBit (63 - (j - 64))) else if j < m then some (n.testBit (m - 1 - j)) else l[j]?
  | 0, m, n, l, h, _, _, _ => by omega
  | fuel + 1, 0, n, l, h, _, _, hl => by
    obtain ⟨l', h1, h2, h3⟩ := bits_l1 N a N 64 a.2.toNat l hN (by omega) (by have := ha.2.2; have := ha.2.1; omega) hl
    refine ⟨l', ?_, h2, fun j hj => ?_⟩
    · rw [← h1, show ((a.2.toNat : Nat) : Int) = a.2 from Int.toNat_of_nonneg ha.2.1]
      rfl
    · rw [h3 j hj]
      by_cases c : 64 ≤ j
      · rw [if_pos (by omega), if_pos c]
      · rw [if_neg (by omega), if_neg c, if_neg (by omega)]
  | fuel + 1, m + 1, n, l, h, hm, hn, hl => by
    obtain ⟨l', h1, h2, h3⟩ := bits_l0 N a hN ha fuel m (n / 2) (l.set m (n.testBit 0)) (by omega) (by omega) (by omega) (by simpa using hl)
    refine ⟨l', ?_, h2, fun j hj => ?_⟩
    · show ref01_Bits.l0s N (ref01_Bits.l1 N N) (ref01_Bits.l0 N fuel) a (n : Int) (((m + 1 : Nat) : Int) - 1) l = _
      unfold ref01_Bits.l0s
      rw [show ((m + 1 : Nat) : Int) - 1 = (m : Int) by omega, show decide ((m : Int) ≥ 0) = true from decide_eq_true (by omega)]
      simp only [cond_true]
      rw [show w_i64 (0 + (m : Int)) = ((m : Nat) : Int) by rw [wrap_id (by omega) (by omega)]; omega, idx_nat (show m < l.length by omega), half_w hn, odd_w,
        wrap_id (x := (m : Int) - 1) (by omega) (by omega), Int.toNat_natCast]
      exact h1
    · rw [h3 j hj]
      by_cases c : 64 ≤ j
      · rw [if_pos c, if_pos c]
      · rw [if_neg c, if_neg c]
        by_cases c2 : j < m
        · rw [if_pos c2, if_pos (by omega), show m + 1 - 1 - j = (m - 1 - j) + 1 by omega, Nat.testBit_succ]
        · rw [if_neg c2]
          by_cases e : j = m
          · subst e
            rw [if_pos (by omega), List.getElem?_set, if_pos rfl, if_pos (by omega), show j + 1 - 1 - j = 0 by omega]
          · rw [if_neg (by omega), List.getElem?_set, if_neg (Ne.symm e)]
theorem bv_bit {a : Adr} (ha : okA a) {j : Nat} (hj : j < 128) : (bv a).getMsbD j = if 64 ≤ j then a.2.toNat.testBit (63 - (j - 64)) else a.1.toNat.testBit (63 - j) := by
  have e : ∀ x : Int, okI x → ∀ i, i < 64 → (bw x).getLsbD i = x.toNat.testBit i := by
    intro x hx i hi
    unfold bw
    rw [BitVec.getLsbD, BitVec.toNat_ofInt]
    rw [show (x % ((2 ^ 64 : Nat) : Int)) = x from Int.emod_eq_of_lt hx.1 hx.2]
  rw [BitVec.getMsbD_eq_getLsbD]
  rw [decide_eq_true hj, Bool.true_and]
  show ((bw a.1) ++ (bw a.2)).getLsbD (127 - j) = _
  rw [BitVec.getLsbD_append]
  by_cases c : 64 ≤ j
  · rw [if_pos c, if_pos (by omega), e _ ha.2 _ (by omega), show 127 - j = 63 - (j - 64) by omega]
  · rw [if_neg c, if_neg (by omega), e _ ha.1 _ (by omega), show 127 - j - 64 = 63 - j by omega]
def bitsL (a : Adr) : List Bool := (List.range 128).map fun j => (bv a).getMsbD j
theorem bitsL_get (a : Adr) {j : Nat} (hj : j < 128) : idx (bitsL a) (j : Int) = some ((bv a).getMsbD j) := by
  rw [idx_nat (by simp [bitsL]; omega)]
  simp [bitsL]
theorem bits_eq {N : Nat} {a : Adr} (hN : 64 < N) (ha : okA a) : ref01_Bits N a = some (bitsL a) := by
  obtain ⟨l', h1, h2, h3⟩ := bits_l0 N a hN ha N 64 a.1.toNat (List.replicate 128 false) hN (by omega) (by have := ha.1.2; have := ha.1.1; omega) (by simp)
  have e : ref01_Bits N a = some l' := by
    rw [← h1, show ((a.1.toNat : Nat) : Int) = a.1 from Int.toNat_of_nonneg ha.1.1]
    rfl
  rw [e]
  congr 1
  apply List.ext_getElem?
  intro j
  by_cases hj : j < 128
  · rw [h3 j hj]
    have : (bitsL a)[j]? = some ((bv a).getMsbD j) := bitsL_get a hj
    rw [this, bv_bit ha hj]
    by_cases c : 64 ≤ j
    · rw [if_pos c, if_pos c]
    · rw [if_neg c, if_neg c, if_pos (by omega), show 64 - 1 - j = 63 - j by omega]
  · rw [List.getElem?_eq_none (by omega), List.getElem?_eq_none (by simp [bitsL]; omega)]
/-- Two rows of bits are the same where a mask has bits. -/
def agree (v b m : BitVec 128) : Bool := decide ((v ^^^ b) &&& m = 0#128)
theorem agree_iff {v b m : BitVec 128} : agree v b m = true ↔ ∀ k, k < 128 → m.getMsbD k = true → v.getMsbD k = b.getMsbD k := by
  unfold agree
  rw [decide_eq_true_eq]
  constructor
  · intro h k hk hm
    have := congrArg (fun x : BitVec 128 => x.getMsbD k) h
    simp only [BitVec.getMsbD_and, BitVec.getMsbD_xor, hm, Bool.and_true] at this
    have h0 : (0#128).getMsbD k = false := by simp
    rw [h0] at this
    cases hv : v.getMsbD k <;> cases hb : b.getMsbD k <;> simp_all
  · intro h
    apply BitVec.eq_of_getMsbD_eq
    intro k hk
    have h0 : (0#128).getMsbD k = false := by simp
    rw [h0]
    simp only [BitVec.getMsbD_and, BitVec.getMsbD_xor]
    cases hm : m.getMsbD k with
    | false => simp
    | true => rw [h k hk hm]; simp
def wv (x : word_Word) : BitVec 128 := bv (x.1, x.2.1)
def wm (x : word_Word) : BitVec 128 := bv (x.2.2.1, x.2.2.2)
def okW (x : word_Word) : Prop := okA (x.1, x.2.1) ∧ okA (x.2.2.1, x.2.2.2)
theorem all_from {p : Nat → Prop} {k n : Nat} (hp : p k) : (∀ j, j < n → k + 1 ≤ j → p j) ↔ ∀ j, j < n → k ≤ j → p j :=
  ⟨fun h j hj hkj => by
    rcases Nat.eq_or_lt_of_le hkj with e | e
    · subst e; exact hp
    · exact h j hj e, fun h j hj hkj => h j hj (by omega)⟩
theorem match_loop (N : Nat) (v m b : Adr) : ∀ (fuel k : Nat), k ≤ 128 → 128 < fuel + k → ∃ r, ref04_Match.l0 N fuel (bitsL v) (bitsL m) (bitsL b) (k : Int) = some r ∧ (r = true ↔ ∀ j, j < 128 → k ≤ j → (bv m).getMsbD j = true → (bv v).getMsbD j = (bv b).getMsbD j)
  | 0, k, h, h2 => by omega
  | fuel + 1, k, h, h2 => by
    show ∃ r, ref04_Match.l0s N (ref04_Match.l0 N fuel) (bitsL v) (bitsL m) (bitsL b) (k : Int) = some r ∧ _
    unfold ref04_Match.l0s
    by_cases hk : k < 128
    · obtain ⟨r, h1, h2⟩ := match_loop N v m b fuel (k + 1) (by omega) (by omega)
      rw [show decide ((k : Int) < 128) = true from decide_eq_true (by omega), bitsL_get m hk, bitsL_get v hk, bitsL_get b hk]
      simp only [cond_true, Option.bind_some]
      rw [w_succ (by omega), h1]
      cases hm : (bv m).getMsbD k with
      | false => exact ⟨r, rfl, h2.trans (all_from fun h => by rw [hm] at h; cases h)⟩
      | true =>
        simp only [cond_true, Option.bind_some]
        by_cases e : (bv v).getMsbD k = (bv b).getMsbD k
        · rw [e]
          simp only [BEq.rfl, Bool.not_true, cond_false]
          exact ⟨r, rfl, h2.trans (all_from fun _ => e)⟩
        · rw [show ((bv v).getMsbD k == (bv b).getMsbD k) = false from beq_false_of_ne e]
          exact ⟨false, rfl, fun h => by (cases h), fun h => absurd (h k hk (Nat.le_refl _) hm) e⟩
    · rw [show decide ((k : Int) < 128) = false from decide_eq_false (by omega)]
      exact ⟨true, rfl, fun _ j hj hkj => by omega, fun _ => rfl⟩
theorem refMatch_eq {N : Nat} (hN : 128 < N) {x : word_Word} {a : Adr} (hx : okW x) (ha : okA a) : ref04_Match N x a = some (agree (wv x) (bv a) (wm x)) := by
  show ((ref01_Bits N (x.1, x.2.1)).bind fun y1 => (ref01_Bits N x.2.2).bind fun y2 => (ref01_Bits N a).bind fun y3 => ref04_Match.l0 N N y1 y2 y3 ((0 : Nat) : Int)) = _
  rw [bits_eq (by omega) hx.1, bits_eq (a := x.2.2) (by omega) hx.2, bits_eq (by omega) ha]
  simp only [Option.bind_some]
  obtain ⟨r, h1, h2⟩ := match_loop N (x.1, x.2.1) x.2.2 a N 0 (by omega) (by omega)
  rw [h1]
  congr 1
  rw [Bool.eq_iff_iff, h2, agree_iff]
  exact ⟨fun h k hk hm => h k hk (Nat.zero_le _) hm, fun h k hk _ hm => h k hk hm⟩
theorem meet_loop (N : Nat) (v m b n : Adr) : ∀ (fuel k : Nat), k ≤ 128 → 128 < fuel + k → ∃ r, ref04_Meet.l0 N fuel (bitsL v) (bitsL m) (bitsL b) (bitsL n) (k : Int) = some r ∧ (r = true ↔ ∀ j, j < 128 → k ≤ j → (bv m).getMsbD j = true → (bv n).getMsbD j = true → (bv v).getMsbD j = (bv b).getMsbD j)
  | 0, k, h, h2 => by omega
  | fuel + 1, k, h, h2 => by
    show ∃ r, ref04_Meet.l0s N (ref04_Meet.l0 N fuel) (bitsL v) (bitsL m) (bitsL b) (bitsL n) (k : Int) = some r ∧ _
    unfold ref04_Meet.l0s
    by_cases hk : k < 128
    · obtain ⟨r, h1, h2⟩ := meet_loop N v m b n fuel (k + 1) (by omega) (by omega)
      rw [show decide ((k : Int) < 128) = true from decide_eq_true (by omega), bitsL_get m hk, bitsL_get v hk, bitsL_get b hk, bitsL_get n hk]
      simp only [cond_true, Option.bind_some]
      rw [w_succ (by omega), h1]
      cases hm : (bv m).getMsbD k with
      | false => exact ⟨r, rfl, h2.trans (all_from fun h => by rw [hm] at h; cases h)⟩
      | true =>
        simp only [cond_true, Option.bind_some]
        cases hn : (bv n).getMsbD k with
        | false => exact ⟨r, rfl, h2.trans (all_from fun _ h => by rw [hn] at h; cases h)⟩
        | true =>
          simp only [cond_true, Option.bind_some]
          by_cases e : (bv v).getMsbD k = (bv b).getMsbD k
          · rw [e]
            simp only [BEq.rfl, Bool.not_true, cond_false]
            exact ⟨r, rfl, h2.trans (all_from fun _ _ => e)⟩
          · rw [show ((bv v).getMsbD k == (bv b).getMsbD k) = false from beq_false_of_ne e]
            exact ⟨false, rfl, fun h => by (cases h), fun h => absurd (h k hk (Nat.le_refl _) hm hn) e⟩
    · rw [show decide ((k : Int) < 128) = false from decide_eq_false (by omega)]
      exact ⟨true, rfl, fun _ j hj hkj => by omega, fun _ => rfl⟩
theorem refMeet_eq {N : Nat} (hN : 128 < N) {x y : word_Word} (hx : okW x) (hy : okW y) : ref04_Meet N x y = some (agree (wv x) (wv y) (wm x &&& wm y)) := by
  show ((ref01_Bits N (x.1, x.2.1)).bind fun y1 => (ref01_Bits N x.2.2).bind fun y2 => (ref01_Bits N (y.1, y.2.1)).bind fun y3 => (ref01_Bits N y.2.2).bind fun y4 => ref04_Meet.l0 N N y1 y2 y3 y4 ((0 : Nat) : Int)) = _
  rw [bits_eq (by omega) hx.1, bits_eq (a := x.2.2) (by omega) hx.2, bits_eq (by omega) hy.1, bits_eq (a := y.2.2) (by omega) hy.2]
  simp only [Option.bind_some]
  obtain ⟨r, h1, h2⟩ := meet_loop N (x.1, x.2.1) x.2.2 (y.1, y.2.1) y.2.2 N 0 (by omega) (by omega)
  rw [h1]
  congr 1
  rw [Bool.eq_iff_iff, h2, agree_iff]
  simp only [BitVec.getMsbD_and, Bool.and_eq_true]
  exact ⟨fun h k hk hm => h k hk (Nat.zero_le _) hm.1 hm.2, fun h k hk _ hm hn => h k hk ⟨hm, hn⟩⟩
theorem match_eq (N : Nat) (x : word_Word) (a : Adr) : word_Match N x a = some (agree (wv x) (bv a) (wm x)) := by
  show some (eqI (andA (xorA (x.1, x.2.1) a) x.2.2).1 0 (eqI (andA (xorA (x.1, x.2.1) a) x.2.2).2 0 true)) = _
  rw [zeroA (ok_and _ _), bv_and, bv_xor]
  rfl
theorem meet_eq (N : Nat) (x y : word_Word) : word_Meet N x y = some (agree (wv x) (wv y) (wm x &&& wm y)) := by
  show some (eqI (andA (xorA (x.1, x.2.1) (y.1, y.2.1)) (andA x.2.2 y.2.2)).1 0 (eqI (andA (xorA (x.1, x.2.1) (y.1, y.2.1)) (andA x.2.2 y.2.2)).2 0 true)) = _
  rw [zeroA (ok_and _ _), bv_and, bv_xor, bv_and]
  rfl
end Go.PgAM

/-
  How many bits are set: the library's way, byte by byte, in plain Lean.
-/
namespace Go.PgAM
open Go
set_option linter.unusedVariables false
set_option linter.unusedSimpArgs false
theorem land_split {a b m c : Nat} (ha : a < 256) (hm : m < 256) : (a + 256 * b) &&& (m + 256 * c) = (a &&& m) + 256 * (b &&& c) := by
  apply Nat.eq_of_testBit_eq
  intro i
  have h1 : ∀ (a b i : Nat), a < 256 → (a + 256 * b).testBit i = if i < 8 then a.testBit i else b.testBit (i - 8) := fun a b i h => by
    rw [Nat.add_comm, show 256 = 2 ^ 8 from rfl, Nat.testBit_two_pow_mul_add _ (by simpa using h)]
  have h2 : (a &&& m) < 256 := Nat.lt_of_le_of_lt Nat.and_le_left ha
  rw [Nat.testBit_and, h1 _ _ _ ha, h1 _ _ _ hm, h1 _ _ _ h2]
  by_cases h : i < 8
  · rw [if_pos h, if_pos h, if_pos h, Nat.testBit_and]
  · rw [if_neg h, if_neg h, if_neg h, Nat.testBit_and]
/-- A byte, over and over. -/
def rep (c : Nat) : Nat → Nat
  | 0 => 0
  | k + 1 => c + 256 * rep c k
theorem rep_succ (c k : Nat) : rep c (k + 1) = c + 256 * rep c k := rfl
def S1 (k n : Nat) : Nat := ((n / 2) &&& rep 85 k) + (n &&& rep 85 k)
def S2 (k n : Nat) : Nat := ((n / 4) &&& rep 51 k) + (n &&& rep 51 k)
def S3 (k n : Nat) : Nat := (n / 16 + n) &&& rep 15 k
def p1 (a : Nat) : Nat := ((a / 2) &&& 85) + (a &&& 85)
def p2 (a : Nat) : Nat := ((a / 4) &&& 51) + (a &&& 51)
def p3 (a : Nat) : Nat := (a / 16 + a) &&& 15
theorem d1 : ∀ a, a < 256 → ∀ e, e < 2 → (a / 2 + 128 * e) &&& 85 = (a / 2) &&& 85 := by decide +kernel
theorem d2 : ∀ a, a < 256 → ∀ e, e < 4 → (a / 4 + 64 * e) &&& 51 = (a / 4) &&& 51 := by decide +kernel
theorem d3 : ∀ a, a < 256 → ∀ e, e < 5 → (a / 16 + 16 * e + a) &&& 15 = p3 a := by decide +kernel
theorem d4 : ∀ a, a < 256 → p1 a < 256 ∧ p2 (p1 a) ≤ 68 ∧ p2 (p1 a) % 16 ≤ 4 ∧ p3 (p2 (p1 a)) ≤ 8 := by decide +kernel
theorem S1_step {k a t : Nat} (ha : a < 256) : S1 (k + 1) (a + 256 * t) = p1 a + 256 * S1 k t := by
  unfold S1 p1
  rw [rep_succ, show (a + 256 * t) / 2 = (a / 2 + 128 * (t % 2)) + 256 * (t / 2) by omega, land_split (by omega) (by omega), land_split ha (by omega), d1 a ha _ (by omega)]
  omega
theorem S2_step {k a t : Nat} (ha : a < 256) : S2 (k + 1) (a + 256 * t) = p2 a + 256 * S2 k t := by
  unfold S2 p2
  rw [rep_succ, show (a + 256 * t) / 4 = (a / 4 + 64 * (t % 4)) + 256 * (t / 4) by omega, land_split (by omega) (by omega), land_split ha (by omega), d2 a ha _ (by omega)]
  omega
theorem S3_step {k a t : Nat} (ha : a ≤ 68) (ht : t % 16 ≤ 4) : S3 (k + 1) (a + 256 * t) = p3 a + 256 * S3 k t := by
  unfold S3
  rw [rep_succ, show (a + 256 * t) / 16 + (a + 256 * t) = (a / 16 + 16 * (t % 16) + a) + 256 * (t / 16 + t) by omega, land_split (by omega) (by omega), d3 a (by omega) _ (by omega)]
theorem S2_low : ∀ (k n : Nat), S2 k (S1 k n) % 16 ≤ 4
  | 0, n => by simp [S2, rep]
  | k + 1, n => by
    have ha : n % 256 < 256 := Nat.mod_lt _ (by decide)
    obtain ⟨h1, h2, h3, h4⟩ := d4 _ ha
    rw [show n = n % 256 + 256 * (n / 256) by omega, S1_step ha, S2_step h1]
    omega
/-- How many bits are set in so many bytes. -/
def pop : Nat → Nat → Nat
  | 0, _ => 0
  | k + 1, n => p3 (p2 (p1 (n % 256))) + pop k (n / 256)
/-- The bytes' counts, one behind another. -/
def lots : Nat → Nat → Nat
  | 0, _ => 0
  | k + 1, n => p3 (p2 (p1 (n % 256))) + 256 * lots k (n / 256)
theorem swar : ∀ (k n : Nat), S3 k (S2 k (S1 k n)) = lots k n
  | 0, n => by simp [S3, rep, lots]
  | k + 1, n => by
    have ha : n % 256 < 256 := Nat.mod_lt _ (by decide)
    obtain ⟨h1, h2, h3, h4⟩ := d4 _ ha
    have e : n = n % 256 + 256 * (n / 256) := by omega
    have := S2_low k (n / 256)
    rw [show S1 (k + 1) n = p1 (n % 256) + 256 * S1 k (n / 256) by rw [← S1_step ha, ← e], S2_step h1, S3_step h2 this, swar k]
    rfl
theorem pc_le (n : Nat) : p3 (p2 (p1 (n % 256))) ≤ 8 := (d4 _ (Nat.mod_lt _ (by decide))).2.2.2
theorem pc_zero : ∀ a, a < 256 → p3 (p2 (p1 a)) = 0 → a = 0 := by decide +kernel
theorem pc_one : ∀ a, a < 256 → p3 (p2 (p1 a)) = 1 → ∃ i, i < 8 ∧ a = 2 ^ i := by decide +kernel
theorem pop_zero : ∀ (k n : Nat), n < 256 ^ k → pop k n = 0 → n = 0
  | 0, n, h, _ => by simpa using h
  | k + 1, n, h, hp => by
    unfold pop at hp
    have h1 := pc_zero (n % 256) (Nat.mod_lt _ (by decide)) (by omega)
    have h2 := pop_zero k (n / 256) (by rw [Nat.pow_succ] at h; omega) (by omega)
    omega
theorem pop_one : ∀ (k n : Nat), n < 256 ^ k → pop k n = 1 → ∃ i, i < 8 * k ∧ n = 2 ^ i
  | 0, n, h, hp => by simp [pop] at hp
  | k + 1, n, h, hp => by
    unfold pop at hp
    have hq : n / 256 < 256 ^ k := by rw [Nat.pow_succ] at h; omega
    by_cases c : p3 (p2 (p1 (n % 256))) = 0
    · have h1 := pc_zero (n % 256) (Nat.mod_lt _ (by decide)) c
      obtain ⟨i, hi, h2⟩ := pop_one k (n / 256) hq (by omega)
      refine ⟨i + 8, by omega, ?_⟩
      rw [Nat.pow_add]
      omega
    · obtain ⟨i, hi, h1⟩ := pc_one (n % 256) (Nat.mod_lt _ (by decide)) (by omega)
      have h2 := pop_zero k (n / 256) hq (by omega)
      exact ⟨i, by omega, by omega⟩
theorem fold8 (c0 c1 c2 c3 c4 c5 c6 c7 : Nat) (h0 : c0 ≤ 8) (h1 : c1 ≤ 8) (h2 : c2 ≤ 8) (h3 : c3 ≤ 8) (h4 : c4 ≤ 8) (h5 : c5 ≤ 8) (h6 : c6 ≤ 8) (h7 : c7 ≤ 8) (x x1 x2 x3 : Nat)
    (hx : x = c0 + 256 * (c1 + 256 * (c2 + 256 * (c3 + 256 * (c4 + 256 * (c5 + 256 * (c6 + 256 * c7))))))) (e1 : x1 = x + x / 256) (e2 : x2 = x1 + x1 / 65536) (e3 : x3 = x2 + x2 / 4294967296) :
    x3 < 9223372036854775808 ∧ x3 % 128 = c0 + c1 + c2 + c3 + c4 + c5 + c6 + c7 := by
  have q1 : x / 256 = c1 + 256 * (c2 + 256 * (c3 + 256 * (c4 + 256 * (c5 + 256 * (c6 + 256 * c7))))) := by omega
  rw [q1, hx] at e1
  clear q1 hx
  have q2 : x1 / 65536 = (c2 + c3) + 256 * (c3 + c4) + 65536 * (c4 + c5) + 16777216 * (c5 + c6) + 4294967296 * (c6 + c7) + 1099511627776 * c7 := by omega
  rw [q2, e1] at e2
  clear q2 e1
  have q3 : x2 / 4294967296 = (c4 + c5 + c6 + c7) + 256 * (c5 + c6 + c7) + 65536 * (c6 + c7) + 16777216 * c7 := by omega
  rw [q3, e2] at e3
  clear q3 e2
  constructor <;> omega
/-- What the library hands back. -/
theorem b_and_nat {n m : Nat} (hn : n < 18446744073709551616) (hm : m < 18446744073709551616) : b_and .u64 (n : Int) (m : Int) = ((n &&& m : Nat) : Int) := by
  rw [b_and_eq]
  unfold bw
  simp only [BitVec.ofInt_natCast, BitVec.toNat_and, BitVec.toNat_ofNat]
  rw [Nat.mod_eq_of_lt (by simpa using hn), Nat.mod_eq_of_lt (by simpa using hm)]
theorem b_shr_nat (n k : Nat) (hk : k ≤ 64) : b_shr .u64 (n : Int) (k : Int) = ((n / 2 ^ k : Nat) : Int) := by
  unfold b_shr
  rw [show min (k : Int).toNat (IntKind.bits .u64) = k by simp [IntKind.bits]; omega]
  rw [show ((2 : Int) ^ k) = ((2 ^ k : Nat) : Int) by simp]
  rw [Int.fdiv_eq_ediv_of_nonneg _ (Int.natCast_nonneg _)]
  rfl
theorem w_u64_nat {n : Nat} (h : n < 18446744073709551616) : w_u64 (n : Int) = (n : Int) := wrapU h
def t1 (x : Int) : Int := w_u64 (b_and .u64 (b_shr .u64 x 1) 6148914691236517205 + b_and .u64 x 6148914691236517205)
def t2 (x : Int) : Int := w_u64 (b_and .u64 (b_shr .u64 x 2) 3689348814741910323 + b_and .u64 x 3689348814741910323)
def t3 (x : Int) : Int := b_and .u64 (w_u64 (b_shr .u64 x 4 + x)) 1085102592571150095
def t4 (x : Int) : Int := w_u64 (x + b_shr .u64 x 8)
def t5 (x : Int) : Int := w_u64 (x + b_shr .u64 x 16)
def t6 (x : Int) : Int := w_u64 (x + b_shr .u64 x 32)
def t7 (x : Int) : Int := b_and .i64 (w_i64 x) 127
theorem ones_steps (N : Nat) (x : Int) : bits_OnesCount64 N x = some (t7 (t6 (t5 (t4 (t3 (t2 (t1 x))))))) := by kernel_rfl
theorem lots_lt : ∀ (k n : Nat), 255 * lots k n + 8 ≤ 8 * 256 ^ k
  | 0, n => by simp [lots]
  | k + 1, n => by
    have := lots_lt k (n / 256)
    have := pc_le n
    unfold lots
    rw [Nat.pow_succ]
    have : 0 < 256 ^ k := Nat.pow_pos (by decide)
    omega
theorem t1_eq {n : Nat} (h : n < 18446744073709551616) : t1 (n : Int) = ((S1 8 n : Nat) : Int) ∧ S1 8 n < 18446744073709551616 := by
  have h1 : (n / 2 &&& 6148914691236517205) ≤ 6148914691236517205 := Nat.and_le_right
  have h2 : (n &&& 6148914691236517205) ≤ 6148914691236517205 := Nat.and_le_right
  have e : S1 8 n = (n / 2 &&& 6148914691236517205) + (n &&& 6148914691236517205) := by
    unfold S1; rw [show rep 85 8 = 6148914691236517205 by decide]
  refine ⟨?_, by omega⟩
  unfold t1
  rw [show (1 : Int) = ((1 : Nat) : Int) from rfl, b_shr_nat n 1 (by omega), show (2 : Nat) ^ 1 = 2 from rfl, show (6148914691236517205 : Int) = ((6148914691236517205 : Nat) : Int) from rfl, b_and_nat (by omega) (by omega), b_and_nat h (by omega), ← Int.natCast_add, w_u64_nat (by omega), e]
theorem t2_eq {n : Nat} (h : n < 18446744073709551616) : t2 (n : Int) = ((S2 8 n : Nat) : Int) ∧ S2 8 n < 18446744073709551616 := by
  have h1 : (n / 4 &&& 3689348814741910323) ≤ 3689348814741910323 := Nat.and_le_right
  have h2 : (n &&& 3689348814741910323) ≤ 3689348814741910323 := Nat.and_le_right
  have e : S2 8 n = (n / 4 &&& 3689348814741910323) + (n &&& 3689348814741910323) := by
    unfold S2; rw [show rep 51 8 = 3689348814741910323 by decide]
  refine ⟨?_, by omega⟩
  unfold t2
  rw [show (2 : Int) = ((2 : Nat) : Int) from rfl, b_shr_nat n 2 (by omega), show (2 : Nat) ^ 2 = 4 from rfl, show (3689348814741910323 : Int) = ((3689348814741910323 : Nat) : Int) from rfl, b_and_nat (by omega) (by omega), b_and_nat h (by omega), ← Int.natCast_add, w_u64_nat (by omega), e]
theorem S2_small (n : Nat) : S2 8 (S1 8 n) ≤ 7378697629483820646 := by
  have h1 : (S1 8 n / 4 &&& 3689348814741910323) ≤ 3689348814741910323 := Nat.and_le_right
  have h2 : (S1 8 n &&& 3689348814741910323) ≤ 3689348814741910323 := Nat.and_le_right
  unfold S2
  rw [show rep 51 8 = 3689348814741910323 by decide]
  omega
theorem t3_eq {n : Nat} (h : n ≤ 7378697629483820646) : t3 (n : Int) = ((S3 8 n : Nat) : Int) := by
  have e : S3 8 n = (n / 16 + n) &&& 1085102592571150095 := by
    unfold S3; rw [show rep 15 8 = 1085102592571150095 by decide]
  unfold t3
  rw [show (4 : Int) = ((4 : Nat) : Int) from rfl, b_shr_nat n 4 (by omega), show (1085102592571150095 : Int) = ((1085102592571150095 : Nat) : Int) from rfl, ← Int.natCast_add, w_u64_nat (by omega), b_and_nat (by omega) (by omega), e]
theorem t7_eq {n : Nat} (h : n < 9223372036854775808) : t7 (n : Int) = ((n % 128 : Nat) : Int) := by
  unfold t7 b_and
  rw [show w_i64 (n : Int) = (n : Int) by unfold w_i64 IntKind.wrap; simp [IntKind.signed, IntKind.bits]; split <;> omega]
  rw [show IntKind.bits .i64 = 64 from rfl, show (127 : Int) = ((127 : Nat) : Int) from rfl]
  simp only [BitVec.ofInt_natCast, BitVec.toNat_and, BitVec.toNat_ofNat]
  rw [Nat.mod_eq_of_lt (a := n) (by omega), show 127 % 2 ^ 64 = 2 ^ 7 - 1 by decide, Nat.and_two_pow_sub_one_eq_mod]
  have : n % 2 ^ 7 < 128 := Nat.mod_lt _ (by decide)
  unfold IntKind.wrap
  simp [IntKind.signed, IntKind.bits]
  split <;> omega
theorem ones_eq (N : Nat) {n : Nat} (h : n < 18446744073709551616) : bits_OnesCount64 N (n : Int) = some ((pop 8 n : Nat) : Int) := by
  rw [ones_steps, (t1_eq h).1, (t2_eq (t1_eq h).2).1, t3_eq (S2_small n), swar]
  have e : ∃ x, lots 8 n = x := ⟨_, rfl⟩
  obtain ⟨x, hx⟩ := e
  have hf := fold8 _ _ _ _ _ _ _ _ (pc_le n) (pc_le (n / 256)) (pc_le (n / 256 / 256)) (pc_le (n / 256 / 256 / 256)) (pc_le (n / 256 / 256 / 256 / 256)) (pc_le (n / 256 / 256 / 256 / 256 / 256)) (pc_le (n / 256 / 256 / 256 / 256 / 256 / 256)) (pc_le (n / 256 / 256 / 256 / 256 / 256 / 256 / 256)) x (x + x / 256) (x + x / 256 + (x + x / 256) / 65536) (x + x / 256 + (x + x / 256) / 65536 + (x + x / 256 + (x + x / 256) / 65536) / 4294967296) (by rw [← hx]; simp [lots]) rfl rfl rfl
  have hl := lots_lt 8 n
  rw [hx] at hl ⊢
  have hl : 255 * x + 8 ≤ 8 * 18446744073709551616 := hl
  unfold t6 t5 t4
  rw [show (8 : Int) = ((8 : Nat) : Int) from rfl, b_shr_nat x 8 (by omega), ← Int.natCast_add, show (2 : Nat) ^ 8 = 256 from rfl, w_u64_nat (by omega)]
  rw [show (16 : Int) = ((16 : Nat) : Int) from rfl, b_shr_nat _ 16 (by omega), ← Int.natCast_add, show (2 : Nat) ^ 16 = 65536 from rfl, w_u64_nat (by omega)]
  rw [show (32 : Int) = ((32 : Nat) : Int) from rfl, b_shr_nat _ 32 (by omega), ← Int.natCast_add, show (2 : Nat) ^ 32 = 4294967296 from rfl, w_u64_nat (by omega)]
  rw [t7_eq hf.1, hf.2]
  congr 2
  simp only [pop]
  omega
end Go.PgAM

/-
  Two words that differ in one bit, merged.
-/
namespace Go.PgAM
open Go
set_option linter.unusedVariables false
set_option linter.unusedSimpArgs false
/-- The word z is of the words x and y, which differ in one bit, what is left without it. -/
structure MergedW (x y z : word_Word) : Prop where
  mask : wm x = wm y
  bit : ∃ i, i < 128 ∧ (wm x).getMsbD i = true ∧ (wv x).getMsbD i ≠ (wv y).getMsbD i ∧ (∀ k, k < 128 → k ≠ i → (wm x).getMsbD k = true → (wv x).getMsbD k = (wv y).getMsbD k) ∧
    (∀ k, k < 128 → (wm z).getMsbD k = ((wm x).getMsbD k && !decide (k = i))) ∧ (∀ k, k < 128 → (wv z).getMsbD k = ((wv x).getMsbD k && (wm z).getMsbD k))
  ok : okW z
/-- Whatever agrees with what is left agrees with one of the two; and the other way round. -/
theorem MergedW.agree {x y z : word_Word} (h : MergedW x y z) (b n : BitVec 128) : agree (wv z) b (wm z &&& n) = true ↔ agree (wv x) b (wm x &&& n) = true ∨ agree (wv y) b (wm y &&& n) = true := by
  obtain ⟨i, hi, hm, hd, hs, h1, h2⟩ := h.bit
  rw [← h.mask]
  simp only [agree_iff, BitVec.getMsbD_and, Bool.and_eq_true]
  constructor
  · intro hz
    have hz' : ∀ k, k < 128 → k ≠ i → (wm x).getMsbD k = true → n.getMsbD k = true → (wv x).getMsbD k = b.getMsbD k := by
      intro k hk hki hmk hnk
      have hmz : (wm z).getMsbD k = true := by rw [h1 k hk, hmk, decide_eq_false hki]; rfl
      have := hz k hk ⟨hmz, hnk⟩
      rw [h2 k hk, hmz, Bool.and_true] at this
      exact this
    by_cases e : (wv x).getMsbD i = b.getMsbD i
    · refine .inl fun k hk ⟨hmk, hnk⟩ => ?_
      by_cases hki : k = i
      · subst hki; exact e
      · exact hz' k hk hki hmk hnk
    · have e' : (wv y).getMsbD i = b.getMsbD i := by
        cases h3 : (wv x).getMsbD i <;> cases h4 : (wv y).getMsbD i <;> cases h5 : b.getMsbD i <;> simp_all
      refine .inr fun k hk ⟨hmk, hnk⟩ => ?_
      by_cases hki : k = i
      · subst hki; exact e'
      · rw [← hs k hk hki hmk]; exact hz' k hk hki hmk hnk
  · intro hxy k hk ⟨hmk, hnk⟩
    rw [h1 k hk, Bool.and_eq_true] at hmk
    have hki : k ≠ i := by simpa using hmk.2
    rw [h2 k hk, h1 k hk, hmk.1, decide_eq_false hki]
    simp only [Bool.not_false, Bool.and_self, Bool.and_true]
    rcases hxy with hx | hy
    · exact hx k hk ⟨hmk.1, hnk⟩
    · rw [hs k hk hki hmk.1]; exact hy k hk ⟨hmk.1, hnk⟩
theorem pow_bit {i k : Nat} : (2 ^ i).testBit k = decide (i = k) := Nat.testBit_two_pow
theorem ones_one {d : Adr} (hd : okA d) {N : Nat} (h : addr_Ones N d = some 1) : ∃ i, i < 128 ∧ ∀ k, k < 128 → (bv d).getMsbD k = decide (k = i) := by
  obtain ⟨⟨h1, h2⟩, h3, h4⟩ := hd
  have e1 : ((d.1.toNat : Nat) : Int) = d.1 := Int.toNat_of_nonneg h1
  have e2 : ((d.2.toNat : Nat) : Int) = d.2 := Int.toNat_of_nonneg h3
  have l1 : d.1.toNat < 18446744073709551616 := by omega
  have l2 : d.2.toNat < 18446744073709551616 := by omega
  have h : ((bits_OnesCount64 N d.1).bind fun y1 => (bits_OnesCount64 N d.2).bind fun y2 => some (w_i64 (y1 + y2))) = some 1 := h
  rw [← e1, ← e2, ones_eq N l1, ones_eq N l2] at h
  simp only [Option.bind_some, Option.some.injEq] at h
  have b1 : ∀ n, pop 8 n ≤ 64 := fun n => by
    simp only [pop]
    have := pc_le n; have := pc_le (n / 256); have := pc_le (n / 256 / 256); have := pc_le (n / 256 / 256 / 256); have := pc_le (n / 256 / 256 / 256 / 256); have := pc_le (n / 256 / 256 / 256 / 256 / 256); have := pc_le (n / 256 / 256 / 256 / 256 / 256 / 256); have := pc_le (n / 256 / 256 / 256 / 256 / 256 / 256 / 256)
    omega
  have q1 := b1 d.1.toNat
  have q2 := b1 d.2.toNat
  rw [wrap_id (by omega) (by omega)] at h
  have hsum : pop 8 d.1.toNat + pop 8 d.2.toNat = 1 := by omega
  by_cases c : pop 8 d.1.toNat = 0
  · have z1 := pop_zero 8 _ (by simpa using l1) c
    obtain ⟨i, hi, z2⟩ := pop_one 8 _ (by simpa using l2) (show pop 8 d.2.toNat = 1 by omega)
    refine ⟨127 - i, by omega, fun k hk => ?_⟩
    rw [bv_bit ⟨⟨h1, h2⟩, h3, h4⟩ hk, z1, z2, pow_bit]
    by_cases c2 : 64 ≤ k
    · rw [if_pos c2, decide_eq_decide]; omega
    · rw [if_neg c2, Nat.zero_testBit]; symm; rw [decide_eq_false_iff_not]; omega
  · obtain ⟨i, hi, z1⟩ := pop_one 8 _ (by simpa using l1) (show pop 8 d.1.toNat = 1 by omega)
    have z2 := pop_zero 8 _ (by simpa using l2) (show pop 8 d.2.toNat = 0 by omega)
    refine ⟨63 - i, by omega, fun k hk => ?_⟩
    rw [bv_bit ⟨⟨h1, h2⟩, h3, h4⟩ hk, z1, z2, pow_bit]
    by_cases c2 : 64 ≤ k
    · rw [if_pos c2, Nat.zero_testBit]; symm; rw [decide_eq_false_iff_not]; omega
    · rw [if_neg c2, decide_eq_decide]; omega
theorem ones_some {d : Adr} (hd : okA d) (N : Nat) : ∃ c, addr_Ones N d = some c := by
  obtain ⟨⟨h1, h2⟩, h3, h4⟩ := hd
  have e1 : ((d.1.toNat : Nat) : Int) = d.1 := Int.toNat_of_nonneg h1
  have e2 : ((d.2.toNat : Nat) : Int) = d.2 := Int.toNat_of_nonneg h3
  show ∃ c, ((bits_OnesCount64 N d.1).bind fun y1 => (bits_OnesCount64 N d.2).bind fun y2 => some (w_i64 (y1 + y2))) = some c
  rw [← e1, ← e2, ones_eq N (by omega), ones_eq N (by omega)]
  exact ⟨_, rfl⟩
theorem mergeW_eq (N : Nat) {x y : word_Word} (hx : okW x) (hy : okW y) : ∃ z is, word_Merge N x y = some (z, is) ∧ (is = true → MergedW x y z) := by
  let d : Adr := andA (xorA (x.1, x.2.1) (y.1, y.2.1)) x.2.2
  have hd : okA d := ok_and _ _
  obtain ⟨c, hc⟩ := ones_some hd N
  have e : word_Merge N x y = (cond (!(eqI x.2.2.1 y.2.2.1 (eqI x.2.2.2 y.2.2.2 true))) (some true) ((addr_Ones N d).bind fun y2 => some (y2 != 1))).bind fun v3 => cond v3 (some ((0, 0, 0, 0), false))
      (some (((andA (x.1, x.2.1) (xorA x.2.2 d)).1, (andA (x.1, x.2.1) (xorA x.2.2 d)).2, (xorA x.2.2 d).1, (xorA x.2.2 d).2), true)) := rfl
  rw [e, hc, eqA (a := x.2.2) (b := y.2.2) hx.2 hy.2]
  by_cases h1 : bv x.2.2 = bv y.2.2
  · rw [decide_eq_true h1]
    simp only [Bool.not_true, cond_false, Option.bind_some]
    by_cases h2 : c = 1
    · subst h2
      refine ⟨_, _, rfl, fun _ => ?_⟩
      obtain ⟨i, hi, hb⟩ := ones_one hd hc
      have hbd : bv d = (wv x ^^^ wv y) &&& wm x := by
        show bv (andA (xorA (x.1, x.2.1) (y.1, y.2.1)) x.2.2) = _
        rw [bv_and, bv_xor]
        rfl
      have hbk : ∀ k, k < 128 → (((wv x).getMsbD k ^^ (wv y).getMsbD k) && (wm x).getMsbD k) = decide (k = i) := by
        intro k hk
        rw [← hb k hk, hbd]
        simp only [BitVec.getMsbD_and, BitVec.getMsbD_xor]
      have hbi := hbk i hi
      rw [decide_eq_true rfl, Bool.and_eq_true] at hbi
      have hmz : ∀ k, k < 128 → (bv (xorA x.2.2 d)).getMsbD k = ((wm x).getMsbD k && !decide (k = i)) := by
        intro k hk
        rw [bv_xor]
        simp only [BitVec.getMsbD_xor]
        rw [hb k hk]
        have := hbk k hk
        show ((wm x).getMsbD k ^^ decide (k = i)) = _
        by_cases e : k = i
        · subst e; rw [hbi.2, decide_eq_true rfl]; rfl
        · rw [decide_eq_false e]; simp
      refine ⟨h1, ⟨i, hi, hbi.2, fun e => by rw [e] at hbi; simp at hbi, fun k hk hki hm => ?_, hmz, fun k hk => ?_⟩, ok_and _ _, ok_xor _ _⟩
      · have := hbk k hk
        rw [decide_eq_false hki, hm, Bool.and_true] at this
        cases h3 : (wv x).getMsbD k <;> cases h4 : (wv y).getMsbD k <;> simp_all
      · show (bv (andA (x.1, x.2.1) (xorA x.2.2 d))).getMsbD k = ((wv x).getMsbD k && (bv (xorA x.2.2 d)).getMsbD k)
        rw [bv_and]
        simp only [BitVec.getMsbD_and]
        rfl
    · rw [show (c != 1) = true from bne_iff_ne.2 h2]
      exact ⟨_, _, rfl, fun h => by cases h⟩
  · rw [decide_eq_false h1]
    exact ⟨_, _, rfl, fun h => by cases h⟩
end Go.PgAM

/-
  What rows of entries tell; rows in which no two as long meet; rows merged.
-/
namespace Go.PgAM
open Go
set_option linter.unusedVariables false
set_option linter.unusedSimpArgs false
def wOf (x : Ent) : word_Word := (x.1, x.2.1, x.2.2.1, x.2.2.2.1)
abbrev Lof (x : Ent) : Int := x.2.2.2.2.1
abbrev Aof (x : Ent) : Int := x.2.2.2.2.2
def okE (x : Ent) : Prop := okW (wOf x)
def mat (x : Ent) (a : Adr) : Bool := agree (wv (wOf x)) (bv a) (wm (wOf x))
def mee (x y : Ent) : Bool := agree (wv (wOf x)) (wv (wOf y)) (wm (wOf x) &&& wm (wOf y))
theorem mee_symm {x y : Ent} (h : mee x y = true) : mee y x = true := by
  unfold mee at *
  rw [agree_iff] at *
  intro k hk hm
  simp only [BitVec.getMsbD_and, Bool.and_eq_true] at hm h
  exact (h k hk ⟨hm.2, hm.1⟩).symm
theorem mat_mee {x y : Ent} {a : Adr} (h1 : mat x a = true) (h2 : mat y a = true) : mee x y = true := by
  unfold mat mee at *
  rw [agree_iff] at *
  intro k hk hm
  simp only [BitVec.getMsbD_and, Bool.and_eq_true] at hm
  exact (h1 k hk hm.1).trans (h2 k hk hm.2).symm
/-- What a row tells of an address. -/
def Tells (l : List Ent) (a : Adr) (t : Int) : Prop := (t = 0 ∧ ∀ e, e ∈ l → mat e a = false) ∨ ∃ e, e ∈ l ∧ mat e a = true ∧ t = Aof e ∧ ∀ f, f ∈ l → mat f a = true → Lof f ≤ Lof e
def far (x y : Ent) : Prop := ¬ (Lof x = Lof y ∧ mee x y = true)
theorem far_symm {x y : Ent} (h : far x y) : far y x := fun ⟨h1, h2⟩ => h ⟨h1.symm, mee_symm h2⟩
def Simple (l : List Ent) : Prop := l.Pairwise far
theorem Simple.perm {l l' : List Ent} (h : Simple l) (hp : l.Perm l') : Simple l' := (hp.pairwise_iff far_symm).1 h
theorem Tells.perm {l l' : List Ent} {a : Adr} {t : Int} (h : Tells l a t) (hp : l.Perm l') : Tells l' a t := by
  rcases h with ⟨h1, h2⟩ | ⟨e, h1, h2, h3, h4⟩
  · exact .inl ⟨h1, fun e he => h2 e (hp.mem_iff.2 he)⟩
  · exact .inr ⟨e, hp.mem_iff.1 h1, h2, h3, fun f hf => h4 f (hp.mem_iff.2 hf)⟩
theorem Simple.one {l : List Ent} (h : Simple l) {x y : Ent} {a : Adr} (hx : x ∈ l) (hy : y ∈ l) (h1 : mat x a = true) (h2 : mat y a = true) (hl : Lof x = Lof y) : x = y := by
  obtain ⟨i, hi, rfl⟩ := List.getElem_of_mem hx
  obtain ⟨j, hj, rfl⟩ := List.getElem_of_mem hy
  have hp := List.pairwise_iff_getElem.1 h
  rcases Nat.lt_trichotomy i j with c | c | c
  · exact absurd ⟨hl, mat_mee h1 h2⟩ (hp i j hi hj c)
  · subst c; rfl
  · exact absurd ⟨hl.symm, mat_mee h2 h1⟩ (hp j i hj hi c)
theorem Tells.one {l : List Ent} (hs : Simple l) {a : Adr} {t t' : Int} (h : Tells l a t) (h' : Tells l a t') : t = t' := by
  rcases h with ⟨h1, h2⟩ | ⟨e, h1, h2, h3, h4⟩
  · rcases h' with ⟨h5, _⟩ | ⟨e', h5, h6, _⟩
    · rw [h1, h5]
    · rw [h2 e' h5] at h6; cases h6
  · rcases h' with ⟨_, h6⟩ | ⟨e', h5, h6, h7, h8⟩
    · rw [h6 e h1] at h2; cases h2
    · have := hs.one h1 h5 h2 h6 (Int.le_antisymm (h8 e h1 h2) (h4 e' h5 h6))
      rw [h3, h7, this]
/-- One entry in the place of two. -/
structure MergedE (x y z : Ent) : Prop where
  word : MergedW (wOf x) (wOf y) (wOf z)
  len : Lof x = Lof y
  act : Aof x = Aof y
  lenz : Lof z = Lof x
  actz : Aof z = Aof x
theorem MergedE.mat {x y z : Ent} (h : MergedE x y z) (a : Adr) : mat z a = true ↔ mat x a = true ∨ mat y a = true := by
  have := h.word.agree (bv a) (BitVec.allOnes 128)
  simp only [BitVec.and_allOnes] at this
  exact this
theorem MergedE.mee {x y z e : Ent} (h : MergedE x y z) (hm : mee z e = true) : mee x e = true ∨ mee y e = true :=
  (h.word.agree (wv (wOf e)) (wm (wOf e))).1 hm
theorem MergedE.simple {x y z : Ent} {l : List Ent} (h : MergedE x y z) (hs : Simple (x :: y :: l)) : Simple (z :: l) := by
  unfold Simple at *
  rw [List.pairwise_cons] at hs
  obtain ⟨h1, hs⟩ := hs
  rw [List.pairwise_cons] at hs ⊢
  refine ⟨fun e he ⟨hl, hm⟩ => ?_, hs.2⟩
  rcases h.mee hm with hm | hm
  · exact h1 e (List.mem_cons_of_mem _ he) ⟨h.lenz.symm.trans hl, hm⟩
  · exact hs.1 e he ⟨h.len.symm.trans (h.lenz.symm.trans hl), hm⟩
theorem MergedE.tells {x y z : Ent} {l : List Ent} {a : Adr} {t : Int} (h : MergedE x y z) (ht : Tells (x :: y :: l) a t) : Tells (z :: l) a t := by
  have key : ∀ f, f ∈ z :: l → PgAM.mat f a = true → ∃ g, g ∈ x :: y :: l ∧ PgAM.mat g a = true ∧ Lof g = Lof f := by
    intro f hf hm
    rcases List.mem_cons.1 hf with rfl | hf
    · rcases (h.mat a).1 hm with h1 | h1
      · exact ⟨x, List.mem_cons_self .., h1, h.lenz.symm⟩
      · exact ⟨y, List.mem_cons_of_mem _ (List.mem_cons_self ..), h1, h.len.symm.trans h.lenz.symm⟩
    · exact ⟨f, List.mem_cons_of_mem _ (List.mem_cons_of_mem _ hf), hm, rfl⟩
  have back : ∀ f, f ∈ x :: y :: l → PgAM.mat f a = true → ∃ g, g ∈ z :: l ∧ PgAM.mat g a = true ∧ Lof g = Lof f ∧ Aof g = Aof f := by
    intro f hf hm
    rcases List.mem_cons.1 hf with rfl | hf
    · exact ⟨z, List.mem_cons_self .., (h.mat a).2 (.inl hm), h.lenz, h.actz⟩
    · rcases List.mem_cons.1 hf with rfl | hf
      · exact ⟨z, List.mem_cons_self .., (h.mat a).2 (.inr hm), h.lenz.trans h.len, h.actz.trans h.act⟩
      · exact ⟨f, List.mem_cons_of_mem _ hf, hm, rfl, rfl⟩
  rcases ht with ⟨h1, h2⟩ | ⟨e, h1, h2, h3, h4⟩
  · refine .inl ⟨h1, fun f hf => ?_⟩
    cases hm : PgAM.mat f a with
    | false => rfl
    | true =>
      obtain ⟨g, hg, hg2, _⟩ := key f hf hm
      rw [h2 g hg] at hg2; cases hg2
  · obtain ⟨g, hg, hg2, hg3, hg4⟩ := back e h1 h2
    refine .inr ⟨g, hg, hg2, h3.trans hg4.symm, fun f hf hm => ?_⟩
    obtain ⟨g', h5, h6, h7⟩ := key f hf hm
    have := h4 g' h5 h6
    omega
/-- The program's look for the best entry. -/
theorem best_loop (N : Nat) (l : List Ent) (hl : l.length ≤ 1000) (a : Adr) : ∀ (n k b : Nat) (is : Bool), k ≤ l.length → l.length < n + k →
    (is = true → b < k) → (∀ j (hj : j < l.length), j < k → mat l[j] a = true → is = true ∧ ∃ hb : b < l.length, Lof l[j] ≤ Lof l[b]) → (is = true → ∀ hb : b < l.length, mat l[b] a = true) →
    ∃ (b' : Nat) (is' : Bool), entry_Best.l0 N n l a (b : Int) is (k : Int) = some ((b' : Int), is') ∧ (is' = true → ∃ hb : b' < l.length, mat l[b'] a = true ∧ ∀ f, f ∈ l → mat f a = true → Lof f ≤ Lof l[b']) ∧ (is' = false → ∀ f, f ∈ l → mat f a = false)
  | 0, k, b, is, hk, hn, _, _, _ => by omega
  | n + 1, k, b, is, hk, hn, hb, hi, hm => by
    show ∃ (b' : Nat) (is' : Bool), entry_Best.l0s N (entry_Best.l0 N n) l a (b : Int) is (k : Int) = some ((b' : Int), is') ∧ _
    unfold entry_Best.l0s
    by_cases hlt : k < l.length
    · rw [lt_true hlt, idx_nat hlt]
      simp only [cond_true, Option.bind_some]
      rw [show word_Match N (l[k].1, l[k].2.1, l[k].2.2.1, l[k].2.2.2.1) a = some (mat l[k] a) from match_eq N _ a, w_succ (by omega)]
      simp only [Option.bind_some]
      cases e : mat l[k] a with
      | false =>
        simp only [cond_false, Option.bind_some]
        refine best_loop N l hl a n (k + 1) b is hlt (by omega) (fun h => by have := hb h; omega) (fun j hj hjk hmj => ?_) hm
        by_cases ej : j = k
        · subst ej; rw [e] at hmj; cases hmj
        · exact hi j hj (by omega) hmj
      | true =>
        simp only [cond_true, Option.bind_some]
        cases his : is with
        | false =>
          simp only [Bool.not_false, cond_true, Option.bind_some]
          refine best_loop N l hl a n (k + 1) k true hlt (by omega) (fun _ => by omega) (fun j hj hjk hmj => ?_) (fun _ _ => e)
          by_cases ej : j = k
          · subst ej; exact ⟨rfl, hj, Int.le_refl _⟩
          · have := (hi j hj (by omega) hmj).1
            rw [his] at this; cases this
        | true =>
          have hbk := hb his
          have hbl : b < l.length := by omega
          simp only [Bool.not_true, cond_false, Option.bind_some]
          rw [idx_nat hbl]
          simp only [Option.bind_some]
          by_cases c : Lof l[k] > Lof l[b]
          · rw [show decide (l[k].2.2.2.2.1 > l[b].2.2.2.2.1) = true from decide_eq_true c]
            simp only [cond_true]
            refine best_loop N l hl a n (k + 1) k true hlt (by omega) (fun _ => by omega) (fun j hj hjk hmj => ?_) (fun _ _ => e)
            by_cases ej : j = k
            · subst ej; exact ⟨rfl, hj, Int.le_refl _⟩
            · obtain ⟨_, _, h3⟩ := hi j hj (by omega) hmj
              exact ⟨rfl, hlt, by omega⟩
          · rw [show decide (l[k].2.2.2.2.1 > l[b].2.2.2.2.1) = false from decide_eq_false c]
            simp only [cond_false]
            refine best_loop N l hl a n (k + 1) b true hlt (by omega) (fun _ => by omega) (fun j hj hjk hmj => ?_) (fun _ => hm his)
            by_cases ej : j = k
            · subst ej; exact ⟨rfl, hbl, by omega⟩
            · obtain ⟨_, _, h3⟩ := hi j hj (by omega) hmj
              exact ⟨rfl, hbl, h3⟩
    · rw [lt_false (by omega)]
      refine ⟨b, is, rfl, fun h => ?_, fun h f hf => ?_⟩
      · have hbk := hb h
        refine ⟨by omega, hm h _, fun f hf hmf => ?_⟩
        obtain ⟨j, hj, rfl⟩ := List.getElem_of_mem hf
        obtain ⟨_, _, h3⟩ := hi j hj (by omega) hmf
        exact h3
      · obtain ⟨j, hj, rfl⟩ := List.getElem_of_mem hf
        cases hmf : mat l[j] a with
        | false => rfl
        | true =>
          have := (hi j hj (by omega) hmf).1
          rw [h] at this; cases this
theorem tell_eq {N : Nat} {l : List Ent} (hl : l.length ≤ 1000) (hN : l.length < N) (a : Adr) : ∃ t, entry_Tell N l a = some t ∧ Tells l a t := by
  obtain ⟨b, is, h1, h2, h3⟩ := best_loop N l hl a N 0 0 false (by omega) (by omega) (fun h => by cases h) (fun j _ h => by omega) (fun h => by cases h)
  have e : entry_Tell N l a = ((entry_Best.l0 N N l a ((0 : Nat) : Int) false ((0 : Nat) : Int)).bind fun y1 => cond (!y1.2) (some 0) ((idx l y1.1).bind fun y2 => some y2.2.2.2.2.2)) := rfl
  rw [e, h1]
  cases is with
  | false => exact ⟨0, rfl, .inl ⟨rfl, h3 rfl⟩⟩
  | true =>
    obtain ⟨hb, h4, h5⟩ := h2 rfl
    simp only [Option.bind_some, Bool.not_true, cond_false]
    rw [idx_nat hb]
    exact ⟨_, rfl, .inr ⟨l[b], List.getElem_mem hb, h4, rfl, h5⟩⟩
/-- The document's look for it, from the end. -/
theorem refBest_loop (N : Nat) (hN : 128 < N) (l : List Ent) (hl : l.length ≤ 1000) (hok : ∀ e, e ∈ l → okE e) (a : Adr) (ha : okA a) : ∀ (n k : Nat) (b : Int), k ≤ l.length → k < n →
    (b = -1 ∨ ∃ (m : Nat) (hm : m < l.length), b = (m : Int) ∧ mat l[m] a = true ∧ ∀ j (hj : j < l.length), k ≤ j → mat l[j] a = true → Lof l[j] ≤ Lof l[m]) →
    (b = -1 → ∀ j (hj : j < l.length), k ≤ j → mat l[j] a = false) →
    ∃ b' : Int, ref05_Best.l0 N n l a b ((k : Int) - 1) = some b' ∧ ((b' = -1 ∧ ∀ f, f ∈ l → mat f a = false) ∨ ∃ (m : Nat) (hm : m < l.length), b' = (m : Int) ∧ mat l[m] a = true ∧ ∀ f, f ∈ l → mat f a = true → Lof f ≤ Lof l[m])
  | 0, k, b, hk, hn, _, _ => by omega
  | n + 1, 0, b, hk, hn, hi, h0 => by
    refine ⟨b, rfl, ?_⟩
    rcases hi with rfl | ⟨m, hm, rfl, h1, h2⟩
    · refine .inl ⟨rfl, fun f hf => ?_⟩
      obtain ⟨j, hj, rfl⟩ := List.getElem_of_mem hf
      exact h0 rfl j hj (by omega)
    · refine .inr ⟨m, hm, rfl, h1, fun f hf hmf => ?_⟩
      obtain ⟨j, hj, rfl⟩ := List.getElem_of_mem hf
      exact h2 j hj (by omega) hmf
  | n + 1, k + 1, b, hk, hn, hi, h0 => by
    have hlt : k < l.length := by omega
    show ∃ b' : Int, ref05_Best.l0s N (ref05_Best.l0 N n) l a b (((k + 1 : Nat) : Int) - 1) = some b' ∧ _
    unfold ref05_Best.l0s
    rw [show ((k + 1 : Nat) : Int) - 1 = (k : Int) by omega, show decide ((k : Int) ≥ 0) = true from decide_eq_true (by omega), idx_nat hlt]
    simp only [cond_true, Option.bind_some]
    rw [show ref04_Match N (l[k].1, l[k].2.1, l[k].2.2.1, l[k].2.2.2.1) a = some (mat l[k] a) from refMatch_eq hN (hok _ (List.getElem_mem hlt)) ha, wrap_id (x := (k : Int) - 1) (by omega) (by omega)]
    simp only [Option.bind_some]
    cases e : mat l[k] a with
    | false =>
      simp only [cond_false, Option.bind_some]
      refine refBest_loop N hN l hl hok a ha n k b (by omega) (by omega) ?_ (fun hb j hj hkj => ?_)
      · rcases hi with h | ⟨m, hm, h1, h2, h3⟩
        · exact .inl h
        · refine .inr ⟨m, hm, h1, h2, fun j hj hkj hmj => ?_⟩
          by_cases ej : j = k
          · subst ej; rw [e] at hmj; cases hmj
          · exact h3 j hj (by omega) hmj
      · by_cases ej : j = k
        · subst ej; exact e
        · exact h0 hb j hj (by omega)
    | true =>
      simp only [cond_true, Option.bind_some]
      rcases hi with h | ⟨m, hm, h1, h2, h3⟩
      · subst h
        rw [show decide ((-1 : Int) < 0) = true from rfl]
        simp only [cond_true, Option.bind_some]
        refine refBest_loop N hN l hl hok a ha n k (k : Int) (by omega) (by omega) (.inr ⟨k, hlt, rfl, e, fun j hj hkj hmj => ?_⟩) (fun hb => by omega)
        by_cases ej : j = k
        · subst ej; exact Int.le_refl _
        · have := h0 rfl j hj (by omega)
          rw [this] at hmj; cases hmj
      · subst h1
        rw [show decide ((m : Int) < 0) = false from decide_eq_false (by omega), idx_nat hm]
        simp only [cond_false, Option.bind_some]
        by_cases c : Lof l[k] ≥ Lof l[m]
        · rw [show decide (l[k].2.2.2.2.1 ≥ l[m].2.2.2.2.1) = true from decide_eq_true c]
          simp only [cond_true]
          refine refBest_loop N hN l hl hok a ha n k (k : Int) (by omega) (by omega) (.inr ⟨k, hlt, rfl, e, fun j hj hkj hmj => ?_⟩) (fun hb => by omega)
          by_cases ej : j = k
          · subst ej; exact Int.le_refl _
          · have := h3 j hj (by omega) hmj
            omega
        · rw [show decide (l[k].2.2.2.2.1 ≥ l[m].2.2.2.2.1) = false from decide_eq_false c]
          simp only [cond_false]
          refine refBest_loop N hN l hl hok a ha n k (m : Int) (by omega) (by omega) (.inr ⟨m, hm, rfl, h2, fun j hj hkj hmj => ?_⟩) (fun hb => by omega)
          by_cases ej : j = k
          · subst ej; omega
          · exact h3 j hj (by omega) hmj
theorem refTell_eq {N : Nat} (hN : 128 < N) {l : List Ent} (hl : l.length ≤ 1000) (hlN : l.length < N) (hok : ∀ e, e ∈ l → okE e) {a : Adr} (ha : okA a) : ∃ t, ref05_Tell N l a = some t ∧ Tells l a t := by
  obtain ⟨b, h1, h2⟩ := refBest_loop N hN l hl hok a ha N l.length (-1) (Nat.le_refl _) hlN (.inl rfl) (fun _ j hj h => by omega)
  have e : ref05_Tell N l a = ((ref05_Best.l0 N N l a (-1) (w_i64 (((List.length l : Nat) : Int) - 1))).bind fun y1 => cond (decide (y1 < 0)) (some 0) ((idx l y1).bind fun y2 => some y2.2.2.2.2.2)) := rfl
  rw [e, wrap_id (by omega) (by omega), h1]
  rcases h2 with ⟨rfl, h3⟩ | ⟨m, hm, rfl, h4, h5⟩
  · exact ⟨0, rfl, .inl ⟨rfl, h3⟩⟩
  · simp only [Option.bind_some]
    rw [show decide ((m : Int) < 0) = false from decide_eq_false (by omega), idx_nat hm]
    exact ⟨_, rfl, .inr ⟨l[m], List.getElem_mem hm, h4, rfl, h5⟩⟩
/-- A row as the document has it is the row. -/
theorem of_loop (N : Nat) (l : List Ent) (hl : l.length ≤ 1000) : ∀ (n k : Nat), k ≤ l.length → l.length < n + k → law05_Of.l0 N n l (k : Int) (l.take k) = some l
  | 0, k, hk, hn => by omega
  | n + 1, k, hk, hn => by
    show law05_Of.l0s N (law05_Of.l0 N n) l (k : Int) (l.take k) = _
    unfold law05_Of.l0s
    by_cases hlt : k < l.length
    · rw [lt_true hlt, idx_nat hlt]
      simp only [cond_true, Option.bind_some]
      rw [show law05_One N l[k] = some l[k] from rfl]
      simp only [Option.bind_some, grd]
      rw [show decide ((List.length (l.take k) + List.length [l[k]]) * 48 ≤ room) = true from decide_eq_true (by simp only [List.length_take, List.length_singleton, room]; omega), w_succ (by omega)]
      simp only [cond_true]
      rw [show l.take k ++ [l[k]] = l.take (k + 1) by rw [List.take_add_one, List.getElem?_eq_getElem hlt]; rfl]
      exact of_loop N l hl n (k + 1) hlt (by omega)
    · rw [lt_false (by omega), List.take_of_length_le (by omega)]
      rfl
theorem of_eq {N : Nat} {l : List Ent} (hl : l.length ≤ 1000) (hN : l.length < N) : law05_Of N l = some l := of_loop N l hl N 0 (by omega) (by omega)
/-- Whether a row is simple, by the document. -/
theorem simple_in (N : Nat) (hN : 128 < N) (l : List Ent) (hl : l.length ≤ 1000) (hok : ∀ e, e ∈ l → okE e) (i : Nat) (hi : i < l.length) (S0 : List Ent → Int → Option Bool) : ∀ (n k : Nat), k ≤ i → i < n + k →
    ∃ r, ref10_Simple.l1 N S0 n l (i : Int) (k : Int) = r ∧ ((r = some false ∧ ∃ j, ∃ hj : j < i, ¬ far l[i] (l[j]'(by omega))) ∨ (r = S0 l ((i + 1 : Nat) : Int) ∧ ∀ j (hj : j < i), k ≤ j → far l[i] (l[j]'(by omega))))
  | 0, k, hk, hn => by omega
  | n + 1, k, hk, hn => by
    show ∃ r, ref10_Simple.l1s N S0 (ref10_Simple.l1 N S0 n) l (i : Int) (k : Int) = r ∧ _
    unfold ref10_Simple.l1s
    by_cases hlt : k < i
    · have hkl : k < l.length := by omega
      rw [lt_true hlt, idx_nat hi, idx_nat hkl]
      simp only [cond_true, Option.bind_some]
      rw [show ref04_Meet N (l[i].1, l[i].2.1, l[i].2.2.1, l[i].2.2.2.1) (l[k].1, l[k].2.1, l[k].2.2.1, l[k].2.2.2.1) = some (mee l[i] l[k]) from refMeet_eq hN (hok _ (List.getElem_mem hi)) (hok _ (List.getElem_mem hkl)), w_succ (by omega)]
      simp only [Option.bind_some]
      have next : far l[i] l[k] → ∃ r, ref10_Simple.l1 N S0 n l (i : Int) ((k + 1 : Nat) : Int) = r ∧ ((r = some false ∧ ∃ j, ∃ hj : j < i, ¬ far l[i] (l[j]'(by omega))) ∨ (r = S0 l ((i + 1 : Nat) : Int) ∧ ∀ j (hj : j < i), k ≤ j → far l[i] (l[j]'(by omega)))) := by
        intro hf
        obtain ⟨r, h1, h2⟩ := simple_in N hN l hl hok i hi S0 n (k + 1) (by omega) (by omega)
        refine ⟨r, h1, h2.imp id fun ⟨h3, h4⟩ => ⟨h3, fun j hj hkj => ?_⟩⟩
        by_cases ej : j = k
        · subst ej; exact hf
        · exact h4 j hj (by omega)
      by_cases c : Lof l[i] = Lof l[k]
      · rw [show (l[i].2.2.2.2.1 == l[k].2.2.2.2.1) = true from beq_iff_eq.2 c]
        simp only [cond_true, Option.bind_some]
        cases e : mee l[i] l[k] with
        | true => exact ⟨_, rfl, .inl ⟨rfl, k, hlt, fun h => h ⟨c, e⟩⟩⟩
        | false =>
          simp only [cond_false]
          exact next fun h => by rw [h.2] at e; cases e
      · rw [show (l[i].2.2.2.2.1 == l[k].2.2.2.2.1) = false from beq_false_of_ne c]
        simp only [cond_false, Option.bind_some]
        exact next fun h => c h.1
    · rw [lt_false (by omega)]
      simp only [cond_false]
      rw [w_succ (by omega)]
      exact ⟨_, rfl, .inr ⟨rfl, fun j hj hkj => by omega⟩⟩
theorem simple_loop (N : Nat) (hN : 128 < N) (l : List Ent) (hl : l.length ≤ 1000) (hlN : l.length < N) (hok : ∀ e, e ∈ l → okE e) : ∀ (n k : Nat), k ≤ l.length → l.length < n + k →
    ∃ r, ref10_Simple.l0 N n l (k : Int) = some r ∧ (r = true ↔ ∀ i (hi : i < l.length), k ≤ i → ∀ j (hj : j < i), far l[i] (l[j]'(by omega)))
  | 0, k, hk, hn => by omega
  | n + 1, k, hk, hn => by
    show ∃ r, ref10_Simple.l0s N (ref10_Simple.l1 N (ref10_Simple.l0 N n) N) (ref10_Simple.l0 N n) l (k : Int) = some r ∧ _
    unfold ref10_Simple.l0s
    by_cases hlt : k < l.length
    · rw [lt_true hlt]
      simp only [cond_true]
      obtain ⟨r, h1, h2⟩ := simple_in N hN l hl hok k hlt (ref10_Simple.l0 N n) N 0 (by omega) (by omega)
      rw [show ((0 : Int)) = ((0 : Nat) : Int) from rfl, h1]
      rcases h2 with ⟨rfl, j, hj, h3⟩ | ⟨rfl, h3⟩
      · exact ⟨false, rfl, fun h => by (cases h), fun h => absurd (h k hlt (Nat.le_refl _) j hj) h3⟩
      · obtain ⟨r, h4, h5⟩ := simple_loop N hN l hl hlN hok n (k + 1) hlt (by omega)
        refine ⟨r, h4, h5.trans ⟨fun h i hi hki => ?_, fun h i hi hki => h i hi (by omega)⟩⟩
        by_cases ei : i = k
        · subst ei; exact fun j hj => h3 j hj (by omega)
        · exact h i hi (by omega)
    · rw [lt_false (by omega)]
      exact ⟨true, rfl, fun _ i hi hki => by omega, fun _ => rfl⟩
theorem simple_eq {N : Nat} (hN : 128 < N) {l : List Ent} (hl : l.length ≤ 1000) (hlN : l.length < N) (hok : ∀ e, e ∈ l → okE e) : ∃ r, ref10_Simple N l = some r ∧ (r = true ↔ Simple l) := by
  obtain ⟨r, h1, h2⟩ := simple_loop N hN l hl hlN hok N 0 (by omega) (by omega)
  refine ⟨r, h1, h2.trans ?_⟩
  unfold Simple
  rw [List.pairwise_iff_getElem]
  exact ⟨fun h i j hi hj hij => far_symm (h j hj (by omega) i hij), fun h i hi _ j hj => far_symm (h j i (by omega) hi hj)⟩
end Go.PgAM

/-
  Arguments whose numbers are in range, as the plain laws ask them.
-/
namespace Go.PgAM
open Go
theorem okI_wf {x : Int} (h : Sc.wf (.int .u64) x) : okI x := by
  simp only [Sc.wf] at h
  have h1 : IntKind.min .u64 = 0 := by decide
  have h2 : IntKind.max .u64 = 18446744073709551615 := by decide
  rw [h1, h2] at h
  exact ⟨h.1, by have := h.2; omega⟩
theorem okE_wf {x : Ent} (h : VT.wf V_entry_Entry x) : okE x := by
  simp only [VT.wf, Scs.wf] at h
  exact ⟨⟨okI_wf h.1, okI_wf h.2.1⟩, okI_wf h.2.2.1, okI_wf h.2.2.2.1⟩
theorem okEs_wf {l : List Ent} (h : VT.wf (.sc (.sl V_entry_Entry)) l) : ∀ e, e ∈ l → okE e := by
  simp only [VT.wf, Sc.wf] at h
  exact fun e he => okE_wf (h.2 e he)
theorem okA_wf {a : Adr} (h : VT.wf V_addr_Addr a) : okA a := by
  simp only [VT.wf, Scs.wf] at h
  exact ⟨okI_wf h.1, okI_wf h.2⟩
end Go.PgAM

/-
  Rows of entries, merged.
-/
namespace Go.PgAM
open Go
set_option linter.unusedVariables false
set_option linter.unusedSimpArgs false
def Found (l : List Ent) (q : Int × Int × word_Word × Bool) : Prop :=
  q.2.2.2 = true → ∃ (i k : Nat) (hik : i < k) (hk : k < l.length), q.1 = (i : Int) ∧ q.2.1 = (k : Int) ∧ Lof (l[i]'(by omega)) = Lof l[k] ∧ Aof (l[i]'(by omega)) = Aof l[k] ∧ MergedW (wOf (l[i]'(by omega))) (wOf l[k]) q.2.2.1
theorem two_in (N : Nat) (l : List Ent) (hl : l.length ≤ 1000) (hok : ∀ e, e ∈ l → okE e) (i : Nat) (hi : i < l.length) (S0 : List Ent → Int → Option (Int × Int × word_Word × Bool)) : ∀ (n k : Nat), i < k → k ≤ l.length → l.length < n + k →
    (∃ q, merge_two.l1 N S0 n l (i : Int) l[i] (k : Int) = some q ∧ Found l q) ∨ merge_two.l1 N S0 n l (i : Int) l[i] (k : Int) = S0 l ((i + 1 : Nat) : Int)
  | 0, k, _, hk, hn => by omega
  | n + 1, k, hik, hk, hn => by
    show (∃ q, merge_two.l1s N S0 (merge_two.l1 N S0 n) l (i : Int) l[i] (k : Int) = some q ∧ Found l q) ∨ merge_two.l1s N S0 (merge_two.l1 N S0 n) l (i : Int) l[i] (k : Int) = S0 l ((i + 1 : Nat) : Int)
    unfold merge_two.l1s
    rw [w_succ (by omega), w_succ (by omega)]
    by_cases hlt : k < l.length
    · have next := two_in N l hl hok i hi S0 n (k + 1) (by omega) hlt (by omega)
      rw [lt_true hlt, idx_nat hlt]
      simp only [cond_true, Option.bind_some]
      by_cases c : Lof l[k] = Lof l[i]
      · rw [show (l[k].2.2.2.2.1 == l[i].2.2.2.2.1) = true from beq_iff_eq.2 c]
        simp only [cond_true]
        by_cases c2 : Aof l[k] = Aof l[i]
        · rw [show (l[k].2.2.2.2.2 != l[i].2.2.2.2.2) = false by rw [bne, show (l[k].2.2.2.2.2 == l[i].2.2.2.2.2) = true from beq_iff_eq.2 c2]; rfl]
          simp only [cond_false]
          obtain ⟨z, is, hz, hm⟩ := mergeW_eq N (hok _ (List.getElem_mem hi)) (hok _ (List.getElem_mem hlt))
          rw [show word_Merge N (l[i].1, l[i].2.1, l[i].2.2.1, l[i].2.2.2.1) (l[k].1, l[k].2.1, l[k].2.2.1, l[k].2.2.2.1) = some (z, is) from hz]
          simp only [Option.bind_some]
          cases is with
          | true => exact .inl ⟨_, rfl, fun _ => ⟨i, k, hik, hlt, rfl, rfl, c.symm, c2.symm, hm rfl⟩⟩
          | false => exact next
        · rw [show (l[k].2.2.2.2.2 != l[i].2.2.2.2.2) = true from bne_iff_ne.2 c2]
          exact next
      · rw [show (l[k].2.2.2.2.1 == l[i].2.2.2.2.1) = false from beq_false_of_ne c]
        exact .inr rfl
    · rw [lt_false (by omega)]
      exact .inr rfl
theorem two_loop (N : Nat) (l : List Ent) (hl : l.length ≤ 1000) (hN : l.length < N) (hok : ∀ e, e ∈ l → okE e) : ∀ (n k : Nat), k ≤ l.length → l.length < n + k → ∃ q, merge_two.l0 N n l (k : Int) = some q ∧ Found l q
  | 0, k, hk, hn => by omega
  | n + 1, k, hk, hn => by
    show ∃ q, merge_two.l0s N (merge_two.l1 N (merge_two.l0 N n) N) (merge_two.l0 N n) l (k : Int) = some q ∧ Found l q
    unfold merge_two.l0s
    by_cases hlt : k < l.length
    · rw [lt_true hlt, idx_nat hlt, w_succ (by omega)]
      simp only [cond_true, Option.bind_some]
      rcases two_in N l hl hok k hlt (merge_two.l0 N n) N (k + 1) (by omega) hlt (by omega) with h | h
      · exact h
      · rw [h]
        exact two_loop N l hl hN hok n (k + 1) hlt (by omega)
    · rw [lt_false (by omega)]
      exact ⟨_, rfl, fun h => by cases h⟩
theorem two_eq {N : Nat} {l : List Ent} (hl : l.length ≤ 1000) (hN : l.length < N) (hok : ∀ e, e ∈ l → okE e) : ∃ q, merge_two N l = some q ∧ Found l q := two_loop N l hl hN hok N 0 (by omega) (by omega)
/-- A row but for two places; and the two. -/
def oth (i k : Nat) : Nat → List Ent → List Ent
  | _, [] => []
  | p, x :: l => bif p != i && p != k then x :: oth i k (p + 1) l else oth i k (p + 1) l
def sel (i k : Nat) : Nat → List Ent → List Ent
  | _, [] => []
  | p, x :: l => bif p != i && p != k then sel i k (p + 1) l else x :: sel i k (p + 1) l
theorem sel_oth (i k : Nat) : ∀ (p : Nat) (l : List Ent), l.Perm (sel i k p l ++ oth i k p l)
  | _, [] => .refl _
  | p, x :: l => by
    unfold sel oth
    cases p != i && p != k with
    | true => exact ((sel_oth i k (p + 1) l).cons x).trans (List.perm_middle.symm)
    | false => exact (sel_oth i k (p + 1) l).cons x
theorem sel_none (i k : Nat) : ∀ (p : Nat) (l : List Ent), i < p → k < p → sel i k p l = []
  | _, [], _, _ => rfl
  | p, x :: l, h1, h2 => by
    unfold sel
    rw [show (p != i && p != k) = true by rw [bne_iff_ne.2 (show p ≠ i by omega), bne_iff_ne.2 (show p ≠ k by omega)]; rfl]
    exact sel_none i k (p + 1) l (by omega) (by omega)
theorem sel_one (i k : Nat) : ∀ (p : Nat) (l : List Ent) (h : k < p + l.length) (h2 : p ≤ k), i < p → sel i k p l = [l[k - p]'(by omega)]
  | p, [], h, h2, h1 => by simp at h; omega
  | p, x :: l, h, h2, h1 => by
    unfold sel
    by_cases e : p = k
    · subst e
      rw [show (p != p) = false by simp, Bool.and_false]
      simp only [cond_false]
      rw [sel_none i p (p + 1) l (by omega) (by omega)]
      simp
    · rw [show (p != i && p != k) = true by rw [bne_iff_ne.2 (show p ≠ i by omega), bne_iff_ne.2 e]; rfl]
      simp only [cond_true]
      rw [sel_one i k (p + 1) l (by simp at h; omega) (by omega) (by omega)]
      congr 1
      rw [List.getElem_cons]
      rw [dif_neg (by omega)]
      congr 1
theorem sel_two (i k : Nat) (hik : i < k) : ∀ (p : Nat) (l : List Ent) (h : k < p + l.length) (h1 : p ≤ i), sel i k p l = [l[i - p]'(by omega), l[k - p]'(by omega)]
  | p, [], h, h1 => by simp at h; omega
  | p, x :: l, h, h1 => by
    unfold sel
    by_cases e : p = i
    · subst e
      rw [show (p != p) = false by simp, Bool.false_and]
      simp only [cond_false]
      rw [sel_one p k (p + 1) l (by simp at h; omega) (by omega) (by omega)]
      congr 1
      · simp
      · congr 1
        rw [List.getElem_cons, dif_neg (by omega)]
        congr 1
    · rw [show (p != i && p != k) = true by rw [bne_iff_ne.2 e, bne_iff_ne.2 (show p ≠ k by omega)]; rfl]
      simp only [cond_true]
      rw [sel_two i k hik (p + 1) l (by simp at h; omega) (by omega)]
      congr 1
      · rw [List.getElem_cons, dif_neg (by omega)]; congr 1
      · congr 1
        rw [List.getElem_cons, dif_neg (by omega)]; congr 1
theorem oth_length (i k : Nat) : ∀ (p : Nat) (l : List Ent), (oth i k p l).length ≤ l.length
  | _, [] => Nat.le_refl _
  | p, x :: l => by
    have := oth_length i k (p + 1) l
    unfold oth
    cases p != i && p != k <;> simp <;> omega
/-- The others of a row. -/
theorem oth_loop (N : Nat) (l : List Ent) (hl : l.length ≤ 1000) (q : Int × Int × word_Word × Bool) (i k : Nat) (hik : i < k) (hk : k < l.length) (h1 : q.1 = (i : Int)) (h2 : q.2.1 = (k : Int)) (S0 : List Ent → Option (List Ent)) : ∀ (n p : Nat) (acc : List Ent), p ≤ l.length → l.length < n + p → acc.length ≤ p →
    merge_Merge.l1 N S0 n l q (p : Int) acc = (sortE ((acc ++ oth i k p (l.drop p)) ++ [(q.2.2.1.1, q.2.2.1.2.1, q.2.2.1.2.2.1, q.2.2.1.2.2.2, Lof (l[i]'(by omega)), Aof (l[i]'(by omega)))])).bind fun y7 => S0 y7
  | 0, p, acc, hp, hn, _ => by omega
  | n + 1, p, acc, hp, hn, ha => by
    show merge_Merge.l1s N S0 (merge_Merge.l1 N S0 n) l q (p : Int) acc = _
    unfold merge_Merge.l1s
    by_cases hlt : p < l.length
    · rw [lt_true hlt, idx_nat hlt, w_succ (by omega), h1, h2, List.drop_eq_getElem_cons hlt]
      simp only [cond_true, Option.bind_some]
      unfold oth
      have e1 : ((p : Int) != (i : Int)) = (p != i) := by
        by_cases e : p = i
        · subst e; simp
        · rw [bne_iff_ne.2 e, bne_iff_ne.2 (show (p : Int) ≠ (i : Int) by omega)]
      have e2 : ((p : Int) != (k : Int)) = (p != k) := by
        by_cases e : p = k
        · subst e; simp
        · rw [bne_iff_ne.2 e, bne_iff_ne.2 (show (p : Int) ≠ (k : Int) by omega)]
      rw [e1, e2]
      cases c1 : p != i with
      | false =>
        simp only [cond_false, Option.bind_some, Bool.false_and]
        rw [oth_loop N l hl q i k hik hk h1 h2 S0 n (p + 1) acc hlt (by omega) (by omega)]
      | true =>
        cases c2 : p != k with
        | false =>
          simp only [cond_true, cond_false, Option.bind_some, Bool.and_false]
          rw [oth_loop N l hl q i k hik hk h1 h2 S0 n (p + 1) acc hlt (by omega) (by omega)]
        | true =>
          simp only [cond_true, Option.bind_some, Bool.and_self, grd]
          rw [show decide ((List.length acc + List.length [l[p]]) * 48 ≤ room) = true from decide_eq_true (by simp only [List.length_singleton, room]; omega)]
          simp only [cond_true]
          rw [oth_loop N l hl q i k hik hk h1 h2 S0 n (p + 1) (acc ++ [l[p]]) hlt (by omega) (by simp; omega)]
          simp
    · rw [lt_false (by omega), h1, idx_nat (show i < l.length by omega)]
      simp only [cond_false, Option.bind_some, grd]
      rw [show decide ((List.length acc + List.length [(q.2.2.1.1, q.2.2.1.2.1, q.2.2.1.2.2.1, q.2.2.1.2.2.2, (l[i]'(by omega)).2.2.2.2.1, (l[i]'(by omega)).2.2.2.2.2)]) * 48 ≤ room) = true from decide_eq_true (by simp only [List.length_singleton, room]; omega)]
      simp only [cond_true]
      rw [show l.drop p = [] from List.drop_eq_nil_of_le (by omega)]
      simp [oth]
/-- What merging keeps. -/
structure Kept (l l' : List Ent) : Prop where
  len : l'.length ≤ l.length
  some : 0 < l.length → 0 < l'.length
  ok : (∀ e, e ∈ l → okE e) → ∀ e, e ∈ l' → okE e
  simple : Simple l → Simple l'
  tells : ∀ a t, Tells l a t → Tells l' a t
theorem Kept.refl (l : List Ent) : Kept l l := ⟨Nat.le_refl _, fun h => h, fun h => h, fun h => h, fun _ _ h => h⟩
theorem Kept.trans {l l' l'' : List Ent} (h : Kept l l') (k : Kept l' l'') : Kept l l'' :=
  ⟨Nat.le_trans k.len h.len, fun x => k.some (h.some x), fun x => k.ok (h.ok x), fun x => k.simple (h.simple x), fun a t x => k.tells a t (h.tells a t x)⟩
theorem Kept.perm {l l' : List Ent} (h : l.Perm l') : Kept l l' :=
  ⟨Nat.le_of_eq h.length_eq.symm, fun x => by rw [← h.length_eq]; exact x, fun x e he => x e (h.mem_iff.2 he), fun x => x.perm h, fun a t x => x.perm h⟩
theorem MergedE.kept {x y z : Ent} (h : MergedE x y z) (l : List Ent) : Kept (x :: y :: l) (z :: l) :=
  ⟨by simp, by simp, fun hok e he => by
    rcases List.mem_cons.1 he with rfl | he
    · exact h.word.ok
    · exact hok e (List.mem_cons_of_mem _ (List.mem_cons_of_mem _ he)), h.simple, fun a t ht => h.tells ht⟩
/-- Is a row in order? -/
def Srt (l : List Ent) : Prop := l.Pairwise fun a b => ltE b a = false
theorem merge_loop (N : Nat) : ∀ (n : Nat) (l : List Ent), l.length ≤ 1000 → l.length < N → l.length < n → (∀ e, e ∈ l → okE e) → ∃ l', merge_Merge.l0 N n l = some l' ∧ Kept l l' ∧ (Srt l → Srt l')
  | 0, l, _, _, hn, _ => by omega
  | n + 1, l, hl, hN, hn, hok => by
    show ∃ l', merge_Merge.l0s N (merge_Merge.l1 N (merge_Merge.l0 N n) N) (merge_Merge.l0 N n) l = some l' ∧ Kept l l' ∧ (Srt l → Srt l')
    unfold merge_Merge.l0s
    obtain ⟨q, hq, hf⟩ := two_eq hl hN hok
    rw [hq]
    simp only [Option.bind_some]
    cases e : q.2.2.2 with
    | false => exact ⟨l, rfl, Kept.refl l, fun h => h⟩
    | true =>
      obtain ⟨i, k, hik, hk, h1, h2, h3, h4, h5⟩ := hf e
      simp only [cond_true]
      have := oth_loop N l hl q i k hik hk h1 h2 (merge_Merge.l0 N n) N 0 [] (by omega) (by omega) (by simp)
      rw [show ((0 : Int)) = ((0 : Nat) : Int) from rfl, this]
      simp only [List.nil_append, List.drop_zero]
      have hp : l.Perm ((l[i]'(by omega)) :: l[k] :: oth i k 0 l) := by
        have hs := sel_oth i k 0 l
        rw [sel_two i k hik 0 l (by omega) (by omega)] at hs
        exact hs
      have hm : MergedE (l[i]'(by omega)) l[k] (q.2.2.1.1, q.2.2.1.2.1, q.2.2.1.2.2.1, q.2.2.1.2.2.2, Lof (l[i]'(by omega)), Aof (l[i]'(by omega))) := ⟨h5, h3, h4, rfl, rfl⟩
      have hlen := hp.length_eq
      simp only [List.length_cons] at hlen
      have k1 := ((Kept.perm hp).trans (hm.kept _)).trans (Kept.perm ((List.perm_append_singleton _ _).symm.trans (srtE_perm _).symm))
      have hsl : (srtE (oth i k 0 l ++ [(q.2.2.1.1, q.2.2.1.2.1, q.2.2.1.2.2.1, q.2.2.1.2.2.2, Lof (l[i]'(by omega)), Aof (l[i]'(by omega)))])).length = (oth i k 0 l).length + 1 := by rw [srtE_length]; simp
      obtain ⟨l', h6, h7, h8⟩ := merge_loop N n _ (by rw [hsl]; omega) (by rw [hsl]; omega) (by rw [hsl]; omega) (k1.ok hok)
      refine ⟨l', ?_, k1.trans h7, fun _ => h8 (srtE_sorted _)⟩
      unfold sortE
      rw [show Nat.ble (oth i k 0 l ++ [(q.2.2.1.1, q.2.2.1.2.1, q.2.2.1.2.2.1, q.2.2.1.2.2.2, Lof (l[i]'(by omega)), Aof (l[i]'(by omega)))]).length 4096 = true from Nat.ble_eq_true_of_le (by simp; omega)]
      exact h6
theorem merge_eq {N : Nat} {l : List Ent} (hl : l.length ≤ 1000) (hN : l.length < N) (hok : ∀ e, e ∈ l → okE e) : ∃ l', merge_Merge N l = some l' ∧ Kept l l' ∧ Srt l' := by
  have k1 := Kept.perm (srtE_perm l).symm
  obtain ⟨l', h1, h2, h3⟩ := merge_loop N N (srtE l) (by rw [srtE_length]; omega) (by rw [srtE_length]; omega) (by rw [srtE_length]; omega) (k1.ok hok)
  refine ⟨l', ?_, k1.trans h2, h3 (srtE_sorted l)⟩
  show (sortE l).bind (fun y1 => merge_Merge.l0 N N y1) = _
  unfold sortE
  rw [show Nat.ble l.length 4096 = true from Nat.ble_eq_true_of_le (by omega)]
  exact h1
end Go.PgAM

/-
  Routes: prefixes by their bits; the document's order, match and table.
-/
namespace Go.PgAM
open Go
set_option linter.unusedVariables false
set_option linter.unusedSimpArgs false
abbrev Rt := Int × Int × Int × Int
abbrev pa (r : Rt) : Adr := (r.1, r.2.1)
abbrev Ln (r : Rt) : Int := r.2.2.1
abbrev Ac (r : Rt) : Int := r.2.2.2
/-- The first bits are the same. -/
def pre (n : Int) (a b : Adr) : Prop := ∀ k : Nat, k < 128 → (k : Int) < n → (bv a).getMsbD k = (bv b).getMsbD k
structure OkR (r : Rt) : Prop where
  adr : okA (pa r)
  lo : 0 ≤ Ln r
  hi : Ln r ≤ 128
  rest : ∀ k : Nat, k < 128 → Ln r ≤ (k : Int) → (bv (pa r)).getMsbD k = false
theorem right_loop (N : Nat) (a : Adr) : ∀ (fuel k : Nat), k ≤ 128 → 128 < fuel + k → ∃ r, ref02_Right.l0 N fuel (bitsL a) (k : Int) = some r ∧ (r = true ↔ ∀ j, j < 128 → k ≤ j → (bv a).getMsbD j = false)
  | 0, k, h, h2 => by omega
  | fuel + 1, k, h, h2 => by
    show ∃ r, ref02_Right.l0s N (ref02_Right.l0 N fuel) (bitsL a) (k : Int) = some r ∧ _
    unfold ref02_Right.l0s
    by_cases hk : k < 128
    · obtain ⟨r, h1, h2⟩ := right_loop N a fuel (k + 1) (by omega) (by omega)
      rw [show decide ((k : Int) < 128) = true from decide_eq_true (by omega), bitsL_get a hk]
      simp only [cond_true, Option.bind_some]
      rw [w_succ (by omega), h1]
      cases e : (bv a).getMsbD k with
      | true => exact ⟨false, rfl, fun h => by (cases h), fun h => by have := h k hk (Nat.le_refl _); rw [e] at this; cases this⟩
      | false => exact ⟨r, rfl, h2.trans (all_from e)⟩
    · rw [show decide ((k : Int) < 128) = false from decide_eq_false (by omega)]
      exact ⟨true, rfl, fun _ j hj hkj => by omega, fun _ => rfl⟩
theorem right_eq {N : Nat} (hN : 128 < N) {r : Rt} (ha : okA (pa r)) : ∃ b, ref06_Right N 128 r = some b ∧ (b = true → OkR r) := by
  have e : ref06_Right N 128 r = (ref02_Right N 128 (r.1, r.2.1, r.2.2.1)).bind fun y1 => (cond y1 (some (decide (r.2.2.2 ≥ 1))) (some false)).bind fun v2 => (cond v2 (some (decide (r.2.2.2 ≤ 255))) (some false)).bind fun v3 => some v3 := rfl
  have e2 : ref02_Right N 128 (r.1, r.2.1, r.2.2.1) = (cond (decide (Ln r < 0)) (some true) (some (decide (Ln r > 128)))).bind fun v3 => cond v3 (some false) ((ref01_Bits N (pa r)).bind fun y4 => ref02_Right.l0 N N y4 (Ln r)) := rfl
  by_cases h1 : Ln r < 0
  · rw [e, e2, decide_eq_true h1]
    exact ⟨false, rfl, fun h => by cases h⟩
  · by_cases h2 : Ln r > 128
    · rw [e, e2, decide_eq_false h1, decide_eq_true h2]
      exact ⟨false, rfl, fun h => by cases h⟩
    · obtain ⟨n, hn⟩ : ∃ n : Nat, Ln r = (n : Int) := ⟨(Ln r).toNat, by omega⟩
      obtain ⟨b, h3, h4⟩ := right_loop N (pa r) N n (by omega) (by omega)
      rw [e, e2, decide_eq_false h1, decide_eq_false h2, bits_eq (by omega) ha]
      simp only [cond_false, Option.bind_some]
      rw [hn, h3]
      cases b with
      | false => exact ⟨false, rfl, fun h => by cases h⟩
      | true => exact ⟨decide (r.2.2.2 ≥ 1) && decide (r.2.2.2 ≤ 255), by simp only [Option.bind_some, cond_true]; cases decide (r.2.2.2 ≥ 1) <;> cases decide (r.2.2.2 ≤ 255) <;> rfl, fun _ => ⟨ha, by omega, by omega, fun k hk hk2 => h4.1 rfl k hk (by omega)⟩⟩
/-- The first bit that differs. -/
theorem common_loop (N : Nat) (a b : Adr) : ∀ (fuel k : Nat), k ≤ 128 → 128 < fuel + k → ∃ n : Nat, ref01_Common.l0 N fuel (bitsL a) (bitsL b) (k : Int) = some (n : Int) ∧ n ≤ 128 ∧ k ≤ n ∧ (∀ j, k ≤ j → j < n → (bv a).getMsbD j = (bv b).getMsbD j) ∧ (n < 128 → (bv a).getMsbD n ≠ (bv b).getMsbD n)
  | 0, k, h, h2 => by omega
  | fuel + 1, k, h, h2 => by
    show ∃ n : Nat, ref01_Common.l0s N (ref01_Common.l0 N fuel) (bitsL a) (bitsL b) (k : Int) = some (n : Int) ∧ _
    unfold ref01_Common.l0s
    by_cases hk : k < 128
    · rw [show decide ((k : Int) < 128) = true from decide_eq_true (by omega), bitsL_get a hk, bitsL_get b hk]
      simp only [cond_true, Option.bind_some]
      rw [w_succ (by omega)]
      by_cases e : (bv a).getMsbD k = (bv b).getMsbD k
      · obtain ⟨n, h3, h4, h5, h6, h7⟩ := common_loop N a b fuel (k + 1) (by omega) (by omega)
        rw [e]
        simp only [BEq.rfl, cond_true]
        refine ⟨n, h3, h4, by omega, fun j hj hjn => ?_, h7⟩
        by_cases ej : j = k
        · subst ej; exact e
        · exact h6 j (by omega) hjn
      · rw [show ((bv a).getMsbD k == (bv b).getMsbD k) = false from beq_false_of_ne e]
        exact ⟨k, rfl, by omega, by omega, fun j hj hjn => by omega, fun _ => e⟩
    · rw [show decide ((k : Int) < 128) = false from decide_eq_false (by omega)]
      exact ⟨k, rfl, by omega, by omega, fun j hj hjn => by omega, fun h => by omega⟩
/-- Ahead of, by bits. -/
def ahead (a b : Adr) : Prop := ∃ n, n < 128 ∧ (∀ k, k < n → (bv a).getMsbD k = (bv b).getMsbD k) ∧ (bv a).getMsbD n = false ∧ (bv b).getMsbD n = true
theorem ahead_trans {a b c : Adr} (h : ahead a b) (h' : ahead b c) : ahead a c := by
  obtain ⟨n, hn, h1, h2, h3⟩ := h
  obtain ⟨m, hm, h4, h5, h6⟩ := h'
  rcases Nat.lt_trichotomy n m with e | e | e
  · exact ⟨n, hn, fun k hk => (h1 k hk).trans (h4 k (by omega)), h2, by rw [← h4 n e]; exact h3⟩
  · subst e; rw [h3] at h5; cases h5
  · exact ⟨m, hm, fun k hk => (h1 k (by omega)).trans (h4 k hk), by rw [h1 m e]; exact h5, h6⟩
theorem ahead_irrefl {a : Adr} (h : ahead a a) : False := by
  obtain ⟨n, _, _, h2, h3⟩ := h
  rw [h2] at h3; cases h3
def ltR (p q : Rt) : Prop := ahead (pa p) (pa q) ∨ (pa p = pa q ∧ Ln p < Ln q)
theorem ltR_trans {p q r : Rt} (h : ltR p q) (h' : ltR q r) : ltR p r := by
  rcases h with h | ⟨h1, h2⟩
  · rcases h' with h' | ⟨h3, h4⟩
    · exact .inl (ahead_trans h h')
    · exact .inl (h3 ▸ h)
  · rcases h' with h' | ⟨h3, h4⟩
    · exact .inl (by rw [h1]; exact h')
    · exact .inr ⟨h1.trans h3, Int.lt_trans h2 h4⟩
theorem compare_eq {N : Nat} (hN : 128 < N) {p q : Rt} (hp : okA (pa p)) (hq : okA (pa q)) : ∃ c : Int, ref02_Compare N (p.1, p.2.1, p.2.2.1) (q.1, q.2.1, q.2.2.1) = some c ∧ (c < 0 → ltR p q) := by
  obtain ⟨n, h1, h2, _, h3, h4⟩ := common_loop N (pa p) (pa q) N 0 (by omega) (by omega)
  have e1 : ref01_Common N (pa p) (pa q) = some (n : Int) := by
    show ((ref01_Bits N (pa p)).bind fun y1 => (ref01_Bits N (pa q)).bind fun y2 => ref01_Common.l0 N N y1 y2 ((0 : Nat) : Int)) = _
    rw [bits_eq (by omega) hp, bits_eq (by omega) hq]
    exact h1
  have e : ref02_Compare N (p.1, p.2.1, p.2.2.1) (q.1, q.2.1, q.2.2.1) = (ref01_Compare N (pa p) (pa q)).bind fun y1 => (cond (y1 == 0) (some (decide (Ln p < Ln q))) (some false)).bind fun v2 => cond v2 (some (-1)) ((cond (y1 == 0) (some (decide (Ln p > Ln q))) (some false)).bind fun v3 => cond v3 (some 1) (some y1)) := rfl
  have e2 : ref01_Compare N (pa p) (pa q) = (ref01_Common N (pa p) (pa q)).bind fun y1 => cond (y1 == 128) (some 0) ((ref01_Bits N (pa q)).bind fun y2 => (idx y2 y1).bind fun y3 => cond y3 (some (-1)) (some 1)) := rfl
  rw [e, e2, e1]
  simp only [Option.bind_some]
  by_cases hn : n = 128
  · subst hn
    have heq : pa p = pa q := bv_inj hp hq (BitVec.eq_of_getMsbD_eq fun i hi => h3 i (by omega) hi)
    rw [show ((128 : Nat) : Int) == 128 from rfl]
    simp only [cond_true, Option.bind_some]
    rw [show ((0 : Int) == 0) = true from rfl]
    simp only [cond_true, Option.bind_some]
    by_cases c1 : Ln p < Ln q
    · rw [decide_eq_true c1]; exact ⟨-1, rfl, fun _ => .inr ⟨heq, c1⟩⟩
    · rw [decide_eq_false c1]
      by_cases c2 : Ln p > Ln q
      · simp only [cond_false]; rw [decide_eq_true c2]; exact ⟨1, rfl, fun h => by omega⟩
      · simp only [cond_false]; rw [decide_eq_false c2]; exact ⟨0, rfl, fun h => by omega⟩
  · rw [show ((n : Int) == 128) = false from beq_false_of_ne (by omega), bits_eq (by omega) hq]
    simp only [cond_false, Option.bind_some]
    rw [bitsL_get _ (by omega)]
    simp only [Option.bind_some]
    have hne := h4 (by omega)
    cases eb : (bv (pa q)).getMsbD n with
    | false => exact ⟨1, rfl, fun h => by omega⟩
    | true =>
      refine ⟨-1, rfl, fun _ => .inl ⟨n, by omega, fun k hk => h3 k (by omega) hk, ?_, eb⟩⟩
      rw [eb] at hne
      simpa using hne
theorem of6_loop (N : Nat) (l : List Rt) (hl : l.length ≤ 1000) : ∀ (n k : Nat), k ≤ l.length → l.length < n + k → law06_Of.l0 N n l (k : Int) (l.take k) = some l
  | 0, k, hk, hn => by omega
  | n + 1, k, hk, hn => by
    show law06_Of.l0s N (law06_Of.l0 N n) l (k : Int) (l.take k) = _
    unfold law06_Of.l0s
    by_cases hlt : k < l.length
    · rw [lt_true hlt, idx_nat hlt]
      simp only [cond_true, Option.bind_some]
      rw [show law06_One N l[k] = some l[k] from rfl]
      simp only [Option.bind_some, grd]
      rw [show decide ((List.length (l.take k) + List.length [l[k]]) * 32 ≤ room) = true from decide_eq_true (by simp only [List.length_take, List.length_singleton, room]; omega), w_succ (by omega)]
      simp only [cond_true]
      rw [show l.take k ++ [l[k]] = l.take (k + 1) by rw [List.take_add_one, List.getElem?_eq_getElem hlt]; rfl]
      exact of6_loop N l hl n (k + 1) hlt (by omega)
    · rw [lt_false (by omega), List.take_of_length_le (by omega)]
      rfl
theorem of6_eq {N : Nat} {l : List Rt} (hl : l.length ≤ 1000) (hN : l.length < N) : law06_Of N l = some l := of6_loop N l hl N 0 (by omega) (by omega)
theorem table_loop (N : Nat) (hN : 128 < N) (l : List Rt) (hl : l.length ≤ 256) (hok : ∀ r, r ∈ l → okA (pa r)) : ∀ (n k : Nat), k ≤ l.length → l.length < n + k →
    ∃ b, ref06_Table.l0 N n 128 l (k : Int) = some b ∧ (b = true → ∀ i (hi : i < l.length), k ≤ i → OkR l[i] ∧ (0 < i → ltR (l[i - 1]'(by omega)) l[i]))
  | 0, k, hk, hn => by omega
  | n + 1, k, hk, hn => by
    show ∃ b, ref06_Table.l0s N (ref06_Table.l0 N n) 128 l (k : Int) = some b ∧ _
    unfold ref06_Table.l0s
    by_cases hlt : k < l.length
    · rw [lt_true hlt, idx_nat hlt, w_succ (by omega)]
      simp only [cond_true, Option.bind_some]
      obtain ⟨b, h1, h2⟩ := table_loop N hN l hl hok n (k + 1) hlt (by omega)
      obtain ⟨r, h3, h4⟩ := right_eq hN (hok _ (List.getElem_mem hlt))
      rw [h1, h3]
      cases r with
      | false => exact ⟨false, rfl, fun h => by cases h⟩
      | true =>
        simp only [Option.bind_some, Bool.not_true, cond_false]
        by_cases h0 : k = 0
        · subst h0
          refine ⟨b, rfl, fun hb i hi _ => ?_⟩
          by_cases ei : i = 0
          · subst ei; exact ⟨h4 rfl, fun h => by omega⟩
          · exact h2 hb i hi (by omega)
        · obtain ⟨m, rfl⟩ : ∃ m, k = m + 1 := ⟨k - 1, by omega⟩
          have hm : m < l.length := by omega
          rw [show decide (((m + 1 : Nat) : Int) > 0) = true from decide_eq_true (by omega), w_pred (by omega), idx_nat hm]
          simp only [cond_true, Option.bind_some]
          obtain ⟨c, h5, h6⟩ := compare_eq hN (hok _ (List.getElem_mem hm)) (hok _ (List.getElem_mem hlt))
          rw [h5]
          simp only [Option.bind_some]
          by_cases hc : c ≥ 0
          · rw [decide_eq_true hc]; exact ⟨false, rfl, fun h => by cases h⟩
          · rw [decide_eq_false hc]
            refine ⟨b, rfl, fun hb i hi hki => ?_⟩
            by_cases ei : i = m + 1
            · subst ei; exact ⟨h4 rfl, fun _ => h6 (by omega)⟩
            · exact h2 hb i hi (by omega)
    · rw [lt_false (by omega)]
      simp only [cond_false]
      rw [show ((128 : Int) == 32) = false from rfl, show ((128 : Int) == 128) = true from rfl]
      simp only [cond_false, cond_true, Option.bind_some]
      exact ⟨_, rfl, fun _ i hi hki => by omega⟩
/-- A table: routes that may be, in order. -/
structure Tab9 (l : List Rt) : Prop where
  ok : ∀ r, r ∈ l → OkR r
  inc : l.Pairwise ltR
theorem inc_of {l : List Rt} (h : ∀ i (hi : i < l.length), 0 < i → ltR (l[i - 1]'(by omega)) l[i]) : l.Pairwise ltR := by
  rw [List.pairwise_iff_getElem]
  have key : ∀ (d i : Nat) (hj : i + d + 1 < l.length), ltR (l[i]'(by omega)) l[i + d + 1] := by
    intro d
    induction d with
    | zero => intro i hj; exact h (i + 1) hj (by omega)
    | succ d ih => intro i hj; exact ltR_trans (ih i (by omega)) (h (i + (d + 1) + 1) hj (by omega))
  intro i j hi hj hij
  obtain ⟨d, rfl⟩ : ∃ d, j = i + d + 1 := ⟨j - i - 1, by omega⟩
  exact key d i hj
theorem table_eq {N : Nat} (hN : 256 < N) {l : List Rt} (hok : ∀ r, r ∈ l → okA (pa r)) : ∃ b, law09_Table N l = some b ∧ (b = true → l.length ≤ 24 ∧ Tab9 l) := by
  have e : law09_Table N l = (cond (decide (((List.length l : Nat) : Int) ≤ 24)) ((law06_Of N l).bind fun y1 => (ref06_Table N 128 y1).bind fun y2 => some y2) (some false)).bind fun v3 => some v3 := rfl
  rw [e]
  by_cases h : l.length ≤ 24
  · rw [show decide (((List.length l : Nat) : Int) ≤ 24) = true from decide_eq_true (by omega), of6_eq (by omega) (by omega)]
    obtain ⟨b, h1, h2⟩ := table_loop N (by omega) l (by omega) hok N 0 (by omega) (by omega)
    simp only [cond_true, Option.bind_some]
    rw [show ref06_Table N 128 l = some b from h1]
    refine ⟨b, rfl, fun hb => ⟨h, ⟨fun r hr => ?_, inc_of fun i hi h0 => (h2 hb i hi (by omega)).2 h0⟩⟩⟩
    obtain ⟨i, hi, rfl⟩ := List.getElem_of_mem hr
    exact (h2 hb i hi (by omega)).1
  · rw [show decide (((List.length l : Nat) : Int) ≤ 24) = false from decide_eq_false (by omega)]
    exact ⟨false, rfl, fun h => by cases h⟩
end Go.PgAM

/-
  Routes whose numbers are in range.
-/
namespace Go.PgAM
open Go
theorem okRs_wf {l : List Rt} (h : VT.wf (.sc (.sl V_rib_Route)) l) : ∀ r, r ∈ l → okA (pa r) := by
  simp only [VT.wf, Sc.wf] at h
  intro r hr
  have h2 := h.2 r hr
  simp only [VT.wf, Scs.wf] at h2
  exact ⟨okI_wf h2.1, okI_wf h2.2.1⟩
end Go.PgAM

/-
  Routes' entries, and what routes tell.
-/
namespace Go.PgAM
open Go
set_option linter.unusedVariables false
set_option linter.unusedSimpArgs false
def maskH (m : Nat) : Int := b_not .u64 (b_shr .u64 18446744073709551615 (m : Int))
theorem maskH_bit : ∀ m, m < 65 → ∀ k, k < 64 → (bw (maskH m)).getMsbD k = decide (k < m) := by decide +kernel
theorem maskH_ok (m : Nat) : okI (maskH m) := by
  unfold maskH
  rw [b_not_eq]
  exact ok_nat _
def maskA (j : Nat) : Adr := (maskH (min j 64), maskH (min (j - 64) 64))
theorem maskA_ok (j : Nat) : okA (maskA j) := ⟨maskH_ok _, maskH_ok _⟩
theorem maskA_bit {j k : Nat} (hk : k < 128) : (bv (maskA j)).getMsbD k = decide (k < j) := by
  unfold bv maskA
  rw [BitVec.getMsbD_append]
  by_cases h : 64 ≤ k
  · rw [if_pos h, maskH_bit _ (by omega) _ (by omega), decide_eq_decide]; omega
  · rw [if_neg h, maskH_bit _ (by omega) _ (by omega), decide_eq_decide]; omega
theorem clamp_nat (j : Nat) (h : j ≤ 128) : minI (maxI (j : Int) 0) 128 = (j : Int) := by
  unfold minI maxI
  split <;> split <;> omega
theorem mask_eq (N : Nat) {j : Nat} (h : j ≤ 128) : addr_Mask N (j : Int) = some (maskA j) := by
  have e1 : minI (maxI (w_i64 ((minI (maxI (j : Int) 0) 128) - 0)) 0) 64 = ((min j 64 : Nat) : Int) := by
    rw [clamp_nat j h, wrap_id (by omega) (by omega)]
    unfold minI maxI
    split <;> split <;> omega
  have e2 : minI (maxI (w_i64 ((minI (maxI (j : Int) 0) 128) - 64)) 0) 64 = ((min (j - 64) 64 : Nat) : Int) := by
    rw [clamp_nat j h, wrap_id (by omega) (by omega)]
    unfold minI maxI
    split <;> split <;> omega
  have e : addr_Mask N (j : Int) = grd (decide (0 ≤ (minI (maxI (w_i64 ((minI (maxI (j : Int) 0) 128) - 0)) 0) 64))) (grd (decide (0 ≤ (minI (maxI (w_i64 ((minI (maxI (j : Int) 0) 128) - 64)) 0) 64))) (some ((b_not .u64 (b_shr .u64 18446744073709551615 (minI (maxI (w_i64 ((minI (maxI (j : Int) 0) 128) - 0)) 0) 64))), (b_not .u64 (b_shr .u64 18446744073709551615 (minI (maxI (w_i64 ((minI (maxI (j : Int) 0) 128) - 64)) 0) 64)))))) := rfl
  rw [e, e1, e2]
  unfold grd
  rw [decide_eq_true (Int.natCast_nonneg _), decide_eq_true (Int.natCast_nonneg _)]
  rfl
/-- A route's entry. -/
def E_ (r : Rt) : Ent := (r.1, r.2.1, (maskA (Ln r).toNat).1, (maskA (Ln r).toNat).2, Ln r, Ac r)
theorem entryOf_eq (N : Nat) {r : Rt} (h : OkR r) : entry_Of N (r.1, r.2.1, r.2.2.1) r.2.2.2 = some (E_ r) := by
  obtain ⟨j, hj⟩ : ∃ j : Nat, Ln r = (j : Int) := ⟨(Ln r).toNat, by have := h.lo; omega⟩
  have hj' : j ≤ 128 := by have := h.hi; omega
  have hand : andA (pa r) (maskA j) = pa r := by
    refine bv_inj (ok_and _ _) h.adr (BitVec.eq_of_getMsbD_eq fun k hk => ?_)
    rw [bv_and]
    simp only [BitVec.getMsbD_and]
    rw [maskA_bit hk]
    by_cases c : k < j
    · rw [decide_eq_true c, Bool.and_true]
    · rw [h.rest k hk (by omega)]; rfl
  have em : prefix_Make N (pa r) (Ln r) = some (r.1, r.2.1, Ln r) := by
    have e : prefix_Make N (pa r) (Ln r) = ((addr_Mask N (minI (maxI (Ln r) 0) 128)).bind fun y1 => some (andA (pa r) y1)).bind fun y1 => some (y1.1, y1.2, minI (maxI (Ln r) 0) 128) := by
      show (((addr_Mask N (minI (maxI (Ln r) 0) 128)).bind fun y1 => (addr_And N (pa r) y1).bind fun y2 => some y2).bind fun y1 => some (y1.1, y1.2, minI (maxI (Ln r) 0) 128)) = _
      rfl
    rw [e, hj, clamp_nat j hj', mask_eq N hj']
    simp only [Option.bind_some]
    rw [hand]
  have ew : word_Of N (r.1, r.2.1, Ln r) = some (r.1, r.2.1, (maskA j).1, (maskA j).2) := by
    show ((prefix_Make N (pa r) (Ln r)).bind fun y1 => (addr_Mask N y1.2.2).bind fun y2 => some (y1.1, y1.2.1, y2.1, y2.2)) = _
    rw [em]
    simp only [Option.bind_some]
    rw [hj, mask_eq N hj']
    rfl
  show ((word_Of N (r.1, r.2.1, Ln r)).bind fun y1 => (prefix_Make N (pa r) (Ln r)).bind fun y2 => some (y1.1, y1.2.1, y1.2.2.1, y1.2.2.2, y2.2.2, Ac r)) = _
  rw [ew, em]
  unfold E_
  rw [hj]
  rfl
theorem E_ok {r : Rt} (h : OkR r) : okE (E_ r) := ⟨h.adr, maskA_ok _⟩
theorem E_mask {r : Rt} (h : OkR r) {k : Nat} (hk : k < 128) : (wm (wOf (E_ r))).getMsbD k = decide ((k : Int) < Ln r) := by
  show (bv (maskA (Ln r).toNat)).getMsbD k = _
  rw [maskA_bit hk, decide_eq_decide]
  have := h.lo
  omega
theorem E_mat {r : Rt} (h : OkR r) (a : Adr) : mat (E_ r) a = true ↔ pre (Ln r) (pa r) a := by
  unfold mat pre
  rw [agree_iff]
  exact ⟨fun h1 k hk hk2 => h1 k hk (by rw [E_mask h hk]; exact decide_eq_true hk2), fun h1 k hk hm => h1 k hk (by rw [E_mask h hk] at hm; exact of_decide_eq_true hm)⟩
theorem E_mee {p q : Rt} (hp : OkR p) (hq : OkR q) (h : mee (E_ p) (E_ q) = true) (hl : Ln p = Ln q) : pa p = pa q := by
  unfold mee at h
  rw [agree_iff] at h
  refine bv_inj hp.adr hq.adr (BitVec.eq_of_getMsbD_eq fun k hk => ?_)
  by_cases c : (k : Int) < Ln p
  · exact h k hk (by simp only [BitVec.getMsbD_and]; rw [E_mask hp hk, E_mask hq hk, decide_eq_true c, decide_eq_true (by omega)]; rfl)
  · rw [hp.rest k hk (by omega), hq.rest k hk (by omega)]
theorem Tab9.simple {l : List Rt} (h : Tab9 l) : Simple (l.map E_) := by
  unfold Simple
  rw [List.pairwise_map]
  refine h.inc.imp_of_mem fun {p q} hp hq hlt ⟨hL, hm⟩ => ?_
  have := E_mee (h.ok p hp) (h.ok q hq) hm hL
  rcases hlt with h1 | ⟨_, h2⟩
  · rw [this] at h1; exact ahead_irrefl h1
  · have : Ln p = Ln q := hL
    omega
theorem pre_loop (N : Nat) {r : Rt} (hr : OkR r) (a : Adr) : ∀ (fuel k : Nat), k ≤ 128 → 128 < fuel + k → ∃ b, ref02_Match.l0 N fuel (r.1, r.2.1, r.2.2.1) (bitsL (pa r)) (bitsL a) (k : Int) = some b ∧ (b = true ↔ ∀ j, j < 128 → k ≤ j → (j : Int) < Ln r → (bv (pa r)).getMsbD j = (bv a).getMsbD j)
  | 0, k, h, h2 => by omega
  | fuel + 1, k, h, h2 => by
    show ∃ b, ref02_Match.l0s N (ref02_Match.l0 N fuel) (r.1, r.2.1, r.2.2.1) (bitsL (pa r)) (bitsL a) (k : Int) = some b ∧ _
    unfold ref02_Match.l0s
    have hnear : ref02_near N (Ln r) = some (Ln r) := by
      show cond (decide (Ln r < 0)) (some 0) (cond (decide (Ln r > 128)) (some 128) (some (Ln r))) = _
      rw [decide_eq_false (by have := hr.lo; omega), decide_eq_false (by have := hr.hi; omega)]
      rfl
    rw [show ref02_near N (r.1, r.2.1, r.2.2.1).2.2 = some (Ln r) from hnear]
    simp only [Option.bind_some]
    by_cases hk : (k : Int) < Ln r
    · have hk8 : k < 128 := by have := hr.hi; omega
      rw [decide_eq_true hk, bitsL_get _ hk8, bitsL_get _ hk8]
      simp only [cond_true, Option.bind_some]
      obtain ⟨b, h1, h2⟩ := pre_loop N hr a fuel (k + 1) (by omega) (by omega)
      rw [w_succ (by omega), h1]
      by_cases e : (bv (pa r)).getMsbD k = (bv a).getMsbD k
      · rw [e]
        simp only [BEq.rfl, Bool.not_true, cond_false]
        exact ⟨b, rfl, h2.trans (all_from fun _ => e)⟩
      · rw [show ((bv (pa r)).getMsbD k == (bv a).getMsbD k) = false from beq_false_of_ne e]
        exact ⟨false, rfl, fun h => by (cases h), fun h => absurd (h k hk8 (Nat.le_refl _) hk) e⟩
    · rw [decide_eq_false hk]
      exact ⟨true, rfl, fun _ j hj hkj hjl => by omega, fun _ => rfl⟩
theorem refPre_eq {N : Nat} (hN : 128 < N) {r : Rt} (hr : OkR r) {a : Adr} (ha : okA a) : ref02_Match N (r.1, r.2.1, r.2.2.1) a = some (mat (E_ r) a) := by
  show ((ref01_Bits N (pa r)).bind fun y1 => (ref01_Bits N a).bind fun y2 => ref02_Match.l0 N N (r.1, r.2.1, r.2.2.1) y1 y2 ((0 : Nat) : Int)) = _
  rw [bits_eq (by omega) hr.adr, bits_eq (by omega) ha]
  simp only [Option.bind_some]
  obtain ⟨b, h1, h2⟩ := pre_loop N hr a N 0 (by omega) (by omega)
  rw [h1]
  congr 1
  rw [Bool.eq_iff_iff, h2, E_mat hr]
  exact ⟨fun h k hk hk2 => h k hk (Nat.zero_le _) hk2, fun h k hk _ hk2 => h k hk hk2⟩
end Go.PgAM

/-
  What routes tell, by the document, is what their entries tell.
-/
namespace Go.PgAM
open Go
set_option linter.unusedVariables false
set_option linter.unusedSimpArgs false
theorem best6_in (N : Nat) (hN : 128 < N) (l : List Rt) (hl : l.length ≤ 1000) (hok : ∀ r, r ∈ l → OkR r) (a : Adr) (ha : okA a) (m : Int) (hm : 0 ≤ m) (hm2 : m ≤ 128) (S0 : List Rt → Adr → Int → Option (Rt × Bool)) : ∀ (n k : Nat), k ≤ l.length → l.length < n + k →
    (∃ (i : Nat) (hi : i < l.length), ref06_Best.l1 N S0 n l a m (k : Int) = some (l[i], true) ∧ Ln l[i] = m ∧ mat (E_ l[i]) a = true) ∨ (ref06_Best.l1 N S0 n l a m (k : Int) = S0 l a (m - 1) ∧ ∀ j (hj : j < l.length), k ≤ j → Ln l[j] = m → mat (E_ l[j]) a = false)
  | 0, k, hk, hn => by omega
  | n + 1, k, hk, hn => by
    show (∃ (i : Nat) (hi : i < l.length), ref06_Best.l1s N S0 (ref06_Best.l1 N S0 n) l a m (k : Int) = some (l[i], true) ∧ Ln l[i] = m ∧ mat (E_ l[i]) a = true) ∨ (ref06_Best.l1s N S0 (ref06_Best.l1 N S0 n) l a m (k : Int) = S0 l a (m - 1) ∧ ∀ j (hj : j < l.length), k ≤ j → Ln l[j] = m → mat (E_ l[j]) a = false)
    unfold ref06_Best.l1s
    by_cases hlt : k < l.length
    · rw [lt_true hlt, idx_nat hlt, w_succ (by omega)]
      simp only [cond_true, Option.bind_some]
      have next := best6_in N hN l hl hok a ha m hm hm2 S0 n (k + 1) hlt (by omega)
      have go : (Ln l[k] = m → mat (E_ l[k]) a = false) → (∃ (i : Nat) (hi : i < l.length), ref06_Best.l1 N S0 n l a m ((k + 1 : Nat) : Int) = some (l[i], true) ∧ Ln l[i] = m ∧ mat (E_ l[i]) a = true) ∨ (ref06_Best.l1 N S0 n l a m ((k + 1 : Nat) : Int) = S0 l a (m - 1) ∧ ∀ j (hj : j < l.length), k ≤ j → Ln l[j] = m → mat (E_ l[j]) a = false) := by
        intro h
        refine next.imp id fun ⟨h1, h2⟩ => ⟨h1, fun j hj hkj hL => ?_⟩
        by_cases e : j = k
        · subst e; exact h hL
        · exact h2 j hj (by omega) hL
      by_cases c : Ln l[k] = m
      · rw [show (l[k].2.2.1 == m) = true from beq_iff_eq.2 c]
        simp only [cond_true]
        rw [refPre_eq hN (hok _ (List.getElem_mem hlt)) ha]
        simp only [Option.bind_some]
        cases e : mat (E_ l[k]) a with
        | true => exact .inl ⟨k, hlt, rfl, c, e⟩
        | false => exact go fun _ => e
      · rw [show (l[k].2.2.1 == m) = false from beq_false_of_ne c]
        exact go fun h => absurd h c
    · rw [lt_false (by omega), wrap_id (x := m - 1) (by omega) (by omega)]
      exact .inr ⟨rfl, fun j hj hkj => by omega⟩
theorem best6_loop (N : Nat) (hN : 128 < N) (l : List Rt) (hl : l.length ≤ 1000) (hlN : l.length < N) (hok : ∀ r, r ∈ l → OkR r) (a : Adr) (ha : okA a) : ∀ (n p : Nat), p ≤ 129 → p < n → (∀ j (hj : j < l.length), (p : Int) ≤ Ln l[j] → mat (E_ l[j]) a = false) →
    ∃ q, ref06_Best.l0 N n l a ((p : Int) - 1) = some q ∧ ((q.2 = false ∧ ∀ j (hj : j < l.length), mat (E_ l[j]) a = false) ∨ (q.2 = true ∧ ∃ (i : Nat) (hi : i < l.length), q.1 = l[i] ∧ mat (E_ l[i]) a = true ∧ ∀ j (hj : j < l.length), mat (E_ l[j]) a = true → Ln l[j] ≤ Ln l[i]))
  | 0, p, hp, hn, _ => by omega
  | n + 1, 0, hp, hn, h => ⟨_, rfl, .inl ⟨rfl, fun j hj => h j hj (by have := (hok _ (List.getElem_mem hj)).lo; omega)⟩⟩
  | n + 1, p + 1, hp, hn, h => by
    show ∃ q, ref06_Best.l0s N (ref06_Best.l1 N (ref06_Best.l0 N n) N) (ref06_Best.l0 N n) l a (((p + 1 : Nat) : Int) - 1) = some q ∧ _
    unfold ref06_Best.l0s
    rw [show ((p + 1 : Nat) : Int) - 1 = (p : Int) by omega, decide_eq_true (show (p : Int) ≥ 0 by omega)]
    simp only [cond_true]
    rcases best6_in N hN l hl hok a ha (p : Int) (by omega) (by omega) (ref06_Best.l0 N n) N 0 (by omega) (by omega) with ⟨i, hi, h1, h2, h3⟩ | ⟨h1, h2⟩
    · refine ⟨_, h1, .inr ⟨rfl, i, hi, rfl, h3, fun j hj hmj => ?_⟩⟩
      rw [h2]
      by_cases c : (p : Int) < Ln l[j]
      · rw [h j hj (by omega)] at hmj; cases hmj
      · omega
    · obtain ⟨q, h4, h5⟩ := best6_loop N hN l hl hlN hok a ha n p (by omega) (by omega) (fun j hj hL => by
        by_cases c : (p : Int) < Ln l[j]
        · exact h j hj (by omega)
        · exact h2 j hj (by omega) (by omega))
      exact ⟨q, h1.trans h4, h5⟩
theorem tell6_eq {N : Nat} (hN : 129 < N) {l : List Rt} (hl : l.length ≤ 1000) (hlN : l.length < N) (hok : ∀ r, r ∈ l → OkR r) {a : Adr} (ha : okA a) : ∃ t, ref06_Tell N l a = some t ∧ Tells (l.map E_) a t := by
  obtain ⟨q, h1, h2⟩ := best6_loop N (by omega) l hl hlN hok a ha N 129 (by omega) hN (fun j hj hL => by have := (hok _ (List.getElem_mem hj)).hi; omega)
  have e : ref06_Tell N l a = (ref06_Best.l0 N N l a (((129 : Nat) : Int) - 1)).bind fun y1 => cond (!y1.2) (some 0) (some y1.1.2.2.2) := rfl
  rw [e, h1]
  rcases h2 with ⟨h3, h4⟩ | ⟨h3, i, hi, h4, h5, h6⟩
  · refine ⟨0, by simp only [Option.bind_some]; rw [h3]; rfl, .inl ⟨rfl, fun f hf => ?_⟩⟩
    obtain ⟨r, hr, rfl⟩ := List.mem_map.1 hf
    obtain ⟨j, hj, rfl⟩ := List.getElem_of_mem hr
    exact h4 j hj
  · refine ⟨Ac l[i], by simp only [Option.bind_some]; rw [h3, h4]; rfl, .inr ⟨E_ l[i], List.mem_map_of_mem (List.getElem_mem hi), h5, rfl, fun f hf hmf => ?_⟩⟩
    obtain ⟨r, hr, rfl⟩ := List.mem_map.1 hf
    obtain ⟨j, hj, rfl⟩ := List.getElem_of_mem hr
    exact h6 j hj hmf
/-- Rows in order stand as they must. -/
theorem ord_in (N : Nat) (l : List Ent) (hl : l.length ≤ 1000) (i : Nat) (hi : i < l.length) (hs : ∀ j (hj : j < l.length), i < j → Lof l[j] ≤ Lof l[i]) (S0 : List Ent → Int → Option Bool) : ∀ (n k : Nat), i < k → k ≤ l.length → l.length < n + k → ref05_Ordered.l1 N S0 n l (i : Int) (k : Int) = S0 l ((i + 1 : Nat) : Int)
  | 0, k, _, hk, hn => by omega
  | n + 1, k, hik, hk, hn => by
    show ref05_Ordered.l1s N S0 (ref05_Ordered.l1 N S0 n) l (i : Int) (k : Int) = _
    unfold ref05_Ordered.l1s
    by_cases hlt : k < l.length
    · rw [lt_true hlt, idx_nat hlt, idx_nat hi, w_succ (by omega)]
      simp only [cond_true, Option.bind_some]
      have e : ref05_Above N l[k] l[i] = some false := by
        show (cond (decide (Lof l[k] > Lof l[i])) ((ref04_Meet N (wOf l[k]) (wOf l[i])).bind fun y1 => some y1) (some false)).bind (fun v2 => some v2) = _
        rw [decide_eq_false (by have := hs k hlt hik; omega)]
        rfl
      rw [e]
      simp only [Option.bind_some, cond_false]
      exact ord_in N l hl i hi hs S0 n (k + 1) (by omega) hlt (by omega)
    · rw [lt_false (by omega), w_succ (k := i) (by omega)]
      rfl
theorem ord_loop (N : Nat) (l : List Ent) (hl : l.length ≤ 1000) (hN : l.length < N) (hs : ∀ i (hi : i < l.length) j (hj : j < l.length), i < j → Lof l[j] ≤ Lof l[i]) : ∀ (n k : Nat), k ≤ l.length → l.length < n + k → ref05_Ordered.l0 N n l (k : Int) = some true
  | 0, k, hk, hn => by omega
  | n + 1, k, hk, hn => by
    show ref05_Ordered.l0s N (ref05_Ordered.l1 N (ref05_Ordered.l0 N n) N) (ref05_Ordered.l0 N n) l (k : Int) = _
    unfold ref05_Ordered.l0s
    by_cases hlt : k < l.length
    · rw [lt_true hlt, w_succ (by omega)]
      simp only [cond_true]
      rw [ord_in N l hl k hlt (hs k hlt) (ref05_Ordered.l0 N n) N (k + 1) (by omega) hlt (by omega)]
      exact ord_loop N l hl hN hs n (k + 1) hlt (by omega)
    · rw [lt_false (by omega)]
      rfl
theorem ltE_len {x y : Ent} (h : ltE y x = false) : Lof y ≤ Lof x := by
  by_cases c : Lof x < Lof y
  · have : ltE y x = true := ltE_iff.2 (.inl c)
    rw [h] at this; cases this
  · omega
theorem ordered_eq {N : Nat} {l : List Ent} (hl : l.length ≤ 1000) (hN : l.length < N) (h : Srt l) : ref05_Ordered N l = some true := by
  refine ord_loop N l hl hN (fun i hi j hj hij => ?_) N 0 (by omega) (by omega)
  exact ltE_len (List.pairwise_iff_getElem.1 h i j hi hj hij)
end Go.PgAM
