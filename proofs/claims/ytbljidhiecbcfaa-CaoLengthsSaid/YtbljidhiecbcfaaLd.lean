import Derived.Test.YtbljidhiecbcfaaLc
namespace Go.PgAM
open Go Go.Proofs
set_option linter.unusedVariables false
-- pigeonhole/cao.Chain
noncomputable def cao_Chain.E (N : Nat) : Env := { nt := 59, ty := tys, C := fun g => cond (Nat.beq g 31) (some (sortE.con N)) (cond (Nat.beq g 80) (some (entry_Above.con N)) (none)), N := N, keep := [(5, ⟨[3, 4, 5, 15, 16, 17], [], [11, 14], [], [11], [], 0⟩), (9, ⟨[3, 4, 5, 6, 7, 15, 16, 17, 27, 28, 29], [7], [11, 14], [], [], [], 0⟩)], shrink := [], shr := [], eqs := [] }
noncomputable def cao_Chain.code : Code := (Try.f47.body).getD .skip
noncomputable def cao_Chain.K (N : Nat) : AX → St → Option (RSs.I [.d (.sc (.int .i64))]) := finish (cao_Chain.E N) Try.f47.results.toList [.d (.sc (.int .i64))]
noncomputable def cao_Chain.st0 (y1 : (List entry_Entry)) (p0_t_5_0 : Int) (p0_t_17_0 : Int) (p0_b_14 : (List Int)) : St := ⟨[(3, .s (.own 11)), (4, .s (.own 14)), (5, .s (.d ⟨(.int .i64), p0_t_5_0⟩)), (15, .s (.own 11)), (16, .s (.d ⟨(.int .i64), ((List.length y1 : Nat) : Int)⟩)), (17, .s (.d ⟨(.int .i64), p0_t_17_0⟩))], [], [(11, ⟨false, V_entry_Entry, y1⟩), (14, ⟨true, (.sc (.int .i64)), p0_b_14⟩)]⟩
noncomputable def cao_Chain.L0 (N : Nat) (n : Nat) : (List entry_Entry) → Int → Int → (List Int) → Option (RSs.I [.d (.sc (.int .i64))]) := fun y1 p0_t_5_0 p0_t_17_0 p0_b_14 => loopN (aexec (cao_Chain.E N) (subAt [.b, .b, .b, .b, .a, .b, .i, .l] cao_Chain.code)) ((cao_Chain.E N).keepOf 5) n (cao_Chain.st0 y1 p0_t_5_0 p0_t_17_0 p0_b_14) (kontAt (cao_Chain.E N) [.b, .b, .b, .b, .a, .b, .i] cao_Chain.code [] (cao_Chain.K N))
noncomputable def cao_Chain.st1 (y1 : (List entry_Entry)) (p0_t_5_0 : Int) (p0_t_17_0 : Int) (y2 : entry_Entry) (p1_t_29_0 : Int) (p1_b_14 : (List Int)) : St := ⟨[(3, .s (.own 11)), (4, .s (.own 14)), (5, .s (.d ⟨(.int .i64), p0_t_5_0⟩)), (6, .s (.d ⟨(.int .i64), p0_t_17_0⟩)), (7, .s (.loc 7 0)), (15, .s (.own 11)), (16, .s (.d ⟨(.int .i64), ((List.length y1 : Nat) : Int)⟩)), (17, .s (.d ⟨(.int .i64), p0_t_17_0⟩)), (27, .s (.d ⟨(.sl V_entry_Entry), (List.drop (Int.toNat 0) (List.take (Int.toNat p0_t_17_0) y1))⟩)), (28, .s (.d ⟨(.int .i64), ((List.length (List.drop (Int.toNat 0) (List.take (Int.toNat p0_t_17_0) y1)) : Nat) : Int)⟩)), (29, .s (.d ⟨(.int .i64), p1_t_29_0⟩))], [(7, some [.d ⟨(.int .u64), y2.1⟩, .d ⟨(.int .u64), y2.2.1⟩, .d ⟨(.int .u64), y2.2.2.1⟩, .d ⟨(.int .u64), y2.2.2.2.1⟩, .d ⟨(.int .i64), y2.2.2.2.2.1⟩, .d ⟨(.int .i64), y2.2.2.2.2.2⟩])], [(11, ⟨false, V_entry_Entry, y1⟩), (14, ⟨true, (.sc (.int .i64)), p1_b_14⟩)]⟩
noncomputable def cao_Chain.L1 (N : Nat) (n0 : Nat) (n : Nat) : (List entry_Entry) → Int → Int → entry_Entry → Int → (List Int) → Option (RSs.I [.d (.sc (.int .i64))]) := fun y1 p0_t_5_0 p0_t_17_0 y2 p1_t_29_0 p1_b_14 => loopN (aexec (cao_Chain.E N) (subAt [.b, .b, .b, .b, .a, .b, .i, .l, .b, .b, .a, .i, .b, .b, .a, .b, .i, .l] cao_Chain.code)) ((cao_Chain.E N).keepOf 9) n (cao_Chain.st1 y1 p0_t_5_0 p0_t_17_0 y2 p1_t_29_0 p1_b_14) (kontAt (cao_Chain.E N) [.b, .b, .b, .b, .a, .b, .i, .l, .b, .b, .a, .i, .b, .b, .a, .b, .i] cao_Chain.code [n0] (cao_Chain.K N))
theorem cao_Chain.L1_step (N : Nat) (n0 : Nat) (n : Nat) : cao_Chain.L1 N n0 (n + 1) = cao_Chain.l1s N (cao_Chain.L0 N n0) (cao_Chain.L1 N n0 n) := by kernel_rfl
theorem cao_Chain.L1_eq (N : Nat) (n0 : Nat) (n : Nat) : cao_Chain.L1 N n0 n = cao_Chain.l1 N (cao_Chain.L0 N n0) n := by
  induction n with
  | zero => rfl
  | succ n ih =>
    refine (cao_Chain.L1_step N n0 n).trans ?_
    rw [ih]
    rfl
theorem cao_Chain.L0_step (N : Nat) (n : Nat) : cao_Chain.L0 N (n + 1) = cao_Chain.l0s N (cao_Chain.L1 N n N) (cao_Chain.L0 N n) := by kernel_rfl
theorem cao_Chain.L0_eq (N : Nat) (n : Nat) : cao_Chain.L0 N n = cao_Chain.l0 N n := by
  induction n with
  | zero => rfl
  | succ n ih =>
    refine (cao_Chain.L0_step N n).trans ?_
    rw [cao_Chain.L1_eq]
    rw [ih]
    rfl
theorem cao_Chain.run_b (N : Nat) (x0 : (List entry_Entry)) : arun (cao_Chain.E N) Try.f47 [.d (.sc (.sl V_entry_Entry))] [.d (.sc (.int .i64))] (x0, ()) = cao_Chain.b N (cao_Chain.L0 N N) x0 := by kernel_rfl
theorem cao_Chain.run (N : Nat) (x0 : (List entry_Entry)) : arun (cao_Chain.E N) Try.f47 [.d (.sc (.sl V_entry_Entry))] [.d (.sc (.int .i64))] (x0, ()) = cao_Chain N x0 := by
  rw [cao_Chain.run_b, cao_Chain.L0_eq]
  rfl
theorem cao_Chain.sound (N : Nat) : SoundCon Try.prog 47 (cao_Chain.con N) := sound_go (E := cao_Chain.E N) 10 Try.func47 (by kernel_rfl) (by kernel_rfl) Try.mixed (by kernel_rfl) tys_ok (by kernel_rfl) _ (by kernel_rfl) (soundTab_cons (sortE.sound N) (soundTab_cons (entry_Above.sound N) soundTab_nil)) fun z y h => (cao_Chain.run N z.1).trans h
-- pigeonhole/pigeonholelaw13.awake
noncomputable def law13_awake.E (N : Nat) : Env := { nt := 56, ty := tys, C := fun g => cond (Nat.beq g 22) (some (cao_Kept.con N)) (cond (Nat.beq g 44) (some (bank_Entries.con N)) (cond (Nat.beq g 45) (some (law13_slot.con N)) (cond (Nat.beq g 46) (some (cao_Insert.con N)) (cond (Nat.beq g 47) (some (cao_Chain.con N)) (none))))), N := N, keep := [], shrink := [], shr := [], eqs := [94] }
theorem law13_awake.run_b (N : Nat) : arun (law13_awake.E N) Try.f19 [] [.d (.sc .bool)] () = law13_awake.b N := by kernel_rfl
theorem law13_awake.run (N : Nat) : arun (law13_awake.E N) Try.f19 [] [.d (.sc .bool)] () = law13_awake N := by
  rw [law13_awake.run_b]
  rfl
theorem law13_awake.sound (N : Nat) : SoundCon Try.prog 19 (law13_awake.con N) := sound_go (E := law13_awake.E N) 10 Try.func19 (by kernel_rfl) (by kernel_rfl) Try.mixed (by kernel_rfl) tys_ok (by kernel_rfl) _ (by kernel_rfl) (soundTab_cons (cao_Kept.sound N) (soundTab_cons (bank_Entries.sound N) (soundTab_cons (law13_slot.sound N) (soundTab_cons (cao_Insert.sound N) (soundTab_cons (cao_Chain.sound N) soundTab_nil))))) fun z y h => (law13_awake.run N).trans h
-- pigeonhole/plo.Gap
noncomputable def plo_Gap.E (N : Nat) : Env := { nt := 48, ty := tys, C := fun g => cond (Nat.beq g 18) (some (plo_Kept.con N)) (none), N := N, keep := [(5, ⟨[1, 6, 7, 15, 16, 17, 25, 26, 27, 28, 29, 36, 37, 38, 39, 40], [], [], [], [], [], 0⟩)], shrink := [], shr := [], eqs := [] }
noncomputable def plo_Gap.code : Code := (Try.f20.body).getD .skip
noncomputable def plo_Gap.K (N : Nat) : AX → St → Option (RSs.I [.d (.sc (.int .i64)), .d (.sc (.int .i64))]) := finish (plo_Gap.E N) Try.f20.results.toList [.d (.sc (.int .i64)), .d (.sc (.int .i64))]
noncomputable def plo_Gap.st0 (x0 : (List bank_Slot)) (x1 : Int) (p0_t_6_0 : Int) (p0_t_7_0 : Int) (p0_t_17_0 : Int) : St := ⟨[(1, .s (.d ⟨(.int .i64), x1⟩)), (6, .s (.d ⟨(.int .i64), p0_t_6_0⟩)), (7, .s (.d ⟨(.int .i64), p0_t_7_0⟩)), (15, .s (.d ⟨(.sl V_bank_Slot), x0⟩)), (16, .s (.d ⟨(.int .i64), ((List.length x0 : Nat) : Int)⟩)), (17, .s (.d ⟨(.int .i64), p0_t_17_0⟩)), (25, .s .dead), (26, .s .dead), (27, .s .dead), (28, .s .dead), (29, .s .dead), (36, .s .dead), (37, .s .dead), (38, .s .dead), (39, .s .dead), (40, .s .dead)], [], []⟩
noncomputable def plo_Gap.L0 (N : Nat) (n : Nat) : (List bank_Slot) → Int → Int → Int → Int → Option (RSs.I [.d (.sc (.int .i64)), .d (.sc (.int .i64))]) := fun x0 x1 p0_t_6_0 p0_t_7_0 p0_t_17_0 => loopN (aexec (plo_Gap.E N) (subAt [.b, .b, .b, .a, .b, .i, .l] plo_Gap.code)) ((plo_Gap.E N).keepOf 5) n (plo_Gap.st0 x0 x1 p0_t_6_0 p0_t_7_0 p0_t_17_0) (kontAt (plo_Gap.E N) [.b, .b, .b, .a, .b, .i] plo_Gap.code [] (plo_Gap.K N))
theorem plo_Gap.L0_step (N : Nat) (n : Nat) : plo_Gap.L0 N (n + 1) = plo_Gap.l0s N (plo_Gap.L0 N n) := by kernel_rfl
theorem plo_Gap.L0_eq (N : Nat) (n : Nat) : plo_Gap.L0 N n = plo_Gap.l0 N n := by
  induction n with
  | zero => rfl
  | succ n ih =>
    refine (plo_Gap.L0_step N n).trans ?_
    rw [ih]
    rfl
theorem plo_Gap.run_b (N : Nat) (x0 : (List bank_Slot)) (x1 : Int) : arun (plo_Gap.E N) Try.f20 [.d (.sc (.sl V_bank_Slot)), .d (.sc (.int .i64))] [.d (.sc (.int .i64)), .d (.sc (.int .i64))] (x0, (x1, ())) = plo_Gap.b N (plo_Gap.L0 N N) x0 x1 := by kernel_rfl
theorem plo_Gap.run (N : Nat) (x0 : (List bank_Slot)) (x1 : Int) : arun (plo_Gap.E N) Try.f20 [.d (.sc (.sl V_bank_Slot)), .d (.sc (.int .i64))] [.d (.sc (.int .i64)), .d (.sc (.int .i64))] (x0, (x1, ())) = plo_Gap N x0 x1 := by
  rw [plo_Gap.run_b, plo_Gap.L0_eq]
  rfl
theorem plo_Gap.sound (N : Nat) : SoundCon Try.prog 20 (plo_Gap.con N) := sound_go (E := plo_Gap.E N) 10 Try.func20 (by kernel_rfl) (by kernel_rfl) Try.mixed (by kernel_rfl) tys_ok (by kernel_rfl) _ (by kernel_rfl) (soundTab_cons (plo_Kept.sound N) soundTab_nil) fun z y h => (plo_Gap.run N z.1 z.2.1).trans h
-- pigeonhole/pigeonholelaw13.CaoLengths
noncomputable def law13_CaoLengths.E (N : Nat) : Env := { nt := 46, ty := tys, C := fun g => cond (Nat.beq g 18) (some (plo_Kept.con N)) (cond (Nat.beq g 19) (some (law13_awake.con N)) (cond (Nat.beq g 20) (some (plo_Gap.con N)) (cond (Nat.beq g 21) (some (cao_Gap.con N)) (cond (Nat.beq g 22) (some (cao_Kept.con N)) (none))))), N := N, keep := [], shrink := [], shr := [], eqs := [] }
theorem law13_CaoLengths.run_b (N : Nat) (x0 : (List bank_Slot)) (x1 : entry_Entry) : arun (law13_CaoLengths.E N) Try.f5 [.d (.sc (.sl V_bank_Slot)), .d V_entry_Entry] [.d (.sc .bool)] (x0, (x1, ())) = law13_CaoLengths.b N x0 x1 := by kernel_rfl
theorem law13_CaoLengths.run (N : Nat) (x0 : (List bank_Slot)) (x1 : entry_Entry) : arun (law13_CaoLengths.E N) Try.f5 [.d (.sc (.sl V_bank_Slot)), .d V_entry_Entry] [.d (.sc .bool)] (x0, (x1, ())) = law13_CaoLengths N x0 x1 := by
  rw [law13_CaoLengths.run_b]
  rfl
theorem law13_CaoLengths.sound (N : Nat) : SoundCon Try.prog 5 (law13_CaoLengths.con N) := sound_go (E := law13_CaoLengths.E N) 10 Try.func5 (by kernel_rfl) (by kernel_rfl) Try.mixed (by kernel_rfl) tys_ok (by kernel_rfl) _ (by kernel_rfl) (soundTab_cons (plo_Kept.sound N) (soundTab_cons (law13_awake.sound N) (soundTab_cons (plo_Gap.sound N) (soundTab_cons (cao_Gap.sound N) (soundTab_cons (cao_Kept.sound N) soundTab_nil))))) fun z y h => (law13_CaoLengths.run N z.1 z.2.1).trans h
end Go.PgAM
