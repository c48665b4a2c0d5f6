/-
  The library's functions that the program calls, by their contracts.
-/
import Derived.Test.YtbljidhiecbcfaaAmSo
import Derived.Test.YtbljidhiecbcfaaShelfP
import Derived.Test.YtbljidhiecbcfaaLb
namespace Go.PgAM
open Go Go.RowKit Go.Shelf Go.Proofs
theorem cloneEnt_sound : SoundCon Try.prog 60 (cloneCon VE) := by
  have h := clone_sound (P := Try.prog) Try.cloneEnt (i0 := (Try.prog.info? 45).getD default) (z := ((Try.prog.info? 45).getD default).zero.getD Go.undef) VE rfl (by decide) (by kernel_rfl) (by kernel_rfl) (by kernel_rfl) (by kernel_rfl) (of_decide_eq_true (by kernel_rfl)) (of_decide_eq_true (by kernel_rfl))
  exact h
theorem c1_eqn (N : Nat) (a b : Int) : cmp_Compare_int N a b = some (c1 a b) := by
  simp only [cmp_Compare_int, cmp_Compare_int.b, cmp_isNaN_int, cmp_isNaN_int.b, Option.bind_some, bne_self_eq_false, cond_false]
  unfold c1
  by_cases h1 : a < b
  · simp [h1]
  · by_cases h2 : b < a
    · simp [h1, h2]
    · simp [h1, h2]
theorem c2_eqn (N : Nat) (a b : addr_Addr) : addr_Compare N a b = some (orI (c1 a.1 b.1) (c1 a.2 b.2)) := by
  show cond (decide (a.1 < b.1)) (some (-1)) (cond (decide (a.1 > b.1)) (some 1) (cond (decide (a.2 < b.2)) (some (-1)) (cond (decide (a.2 > b.2)) (some 1) (some 0)))) = _
  unfold c1 orI
  by_cases h1 : a.1 < b.1
  · simp [h1]
  · by_cases h2 : b.1 < a.1
    · simp [h1, h2]
    · by_cases h3 : a.2 < b.2
      · simp [h1, h2, h3]
      · by_cases h4 : b.2 < a.2
        · simp [h1, h2, h3, h4]
        · simp [h1, h2, h3, h4]
theorem or_eqn (a b c d : Int) : cmp_Or_int 8 [a, b, c, d] = some (orI a (orI b (orI c d))) := by
  show cond (a != 0) (some a) (cond (b != 0) (some b) (cond (c != 0) (some c) (cond (d != 0) (some d) (some 0)))) = _
  unfold orI
  have hb : ∀ x : Int, ¬ x = 0 → (x != 0) = true := fun x h => bne_iff_ne.2 h
  by_cases h1 : a = 0
  · by_cases h2 : b = 0
    · by_cases h3 : c = 0
      · by_cases h4 : d = 0
        · simp [h1, h2, h3, h4]
        · rw [hb d h4]; simp [h1, h2, h3]
      · rw [hb c h3]; simp [h1, h2, h3]
    · rw [hb b h2]; simp [h1, h2]
  · rw [hb a h1]; simp [h1]
theorem cmp_eqn (x y : Ent) : entry_Compare 8 x y = some (cmpE x y) := by
  show ((cmp_Compare_int 8 y.2.2.2.2.1 x.2.2.2.2.1).bind fun y1 => (addr_Compare 8 (x.1, x.2.1) (y.1, y.2.1)).bind fun y2 => (addr_Compare 8 (x.2.2.1, x.2.2.2.1) (y.2.2.1, y.2.2.2.1)).bind fun y3 => (cmp_Compare_int 8 x.2.2.2.2.2 y.2.2.2.2.2).bind fun y4 => (cmp_Or_int 8 [y1, y2, y3, y4]).bind fun y5 => some y5) = _
  rw [c1_eqn, c2_eqn, c2_eqn, c1_eqn]
  simp only [Option.bind_some]
  rw [or_eqn]
  rfl
theorem cmp_sound (h : SoundCon Try.prog 62 (entry_Compare.con 8)) : SoundCon Try.prog 62 cmpCon :=
  ⟨h.1, fun z y hy => h.2 z y ((cmp_eqn z.1 z.2.1).trans hy)⟩
set_option maxHeartbeats 1000000 in
theorem sort_sound (hcmp : SoundCon Try.prog 62 (entry_Compare.con 8)) : SoundCon Try.prog 31 srtCon := by
  refine ⟨enters_of Try.func31 rfl rfl, fun z y hy F w us qs hF hnd hargs => ?_⟩
  obtain ⟨hle, hy⟩ := cond_some hy
  have hle' := Nat.le_of_ble_eq_true hle
  obtain ⟨xs, uz⟩ := z
  cases hy
  have h1 := cloneEnt_sound.2 (xs, ()) xs (by show cond _ _ _ = _; rw [show Nat.ble (List.length (α := VT.I VE) (xs, ()).1) 4096 = true from hle]; rfl) F w us qs hF hnd hargs
  obtain ⟨u, us', q, qs', rfl, rfl, ⟨rfl, -⟩, rfl, rfl⟩ := hargs
  have hsort := fun F1 w1 v q1 => sort_val (P := Try.prog) (F := F1) (w := w1) (v := v) (q := q1) Try.sortEnt Try.isAgg45 Try.sizeOf45 (cmp_sound hcmp) (xs := xs) hle'
  change ∀ F1 w1 v q1, _ → _ → Calls Try.prog 61 _ _ _ at hsort
  go_enter Try.func31, Try.ntmps31
  go_wp2_with (go_at_call 60; refine h1.mono ?_; rintro e w1 ⟨vs, F1, ps, rfl, hev, ⟨v, q1, rfl, rfl, hres⟩, hnd1, hnew⟩; dsimp only [packV])
  go_wp2_with (go_at_call 61; refine (hsort F1 _ v q1 hev.fnew hres).mono ?_; rintro e w2 ⟨rfl, hev2, hbuf⟩)
  go_ret
  exact ⟨[v], F1, [q1], rfl, Evo.two hev hev2 (fun b hb => (hnew b hb).resolve_right (by simp [blk])), ⟨_, _, rfl, rfl, hbuf⟩, hnd1, hnew⟩
theorem sortE.sound (N : Nat) : SoundCon Try.prog 31 (sortE.con N) := sort_sound (entry_Compare.sound 8)
end Go.PgAM
