/-
  slices.Clone at elements of any size in cells, as a contract of the abstract machine.
-/
import Derived.Test.YtbljidhiecbcfaaAmGo
import Derived.Shelf.SlicesE.Clone
namespace Go.PgAM
open Go Go.RowKit Go.Shelf Go.Proofs Go.Lib
set_option linter.unusedVariables false
set_option linter.unusedSimpArgs false
variable {P : Program} {ρ : Ren}

theorem wpList_append_run {w w' : World} {ops : Array Oper} {rest : List Oper} {o : Oper} {a : Act} {Q : Exit → Act → World → Prop} (hgd : o.guard = none) (s x : Operand) (t : TypeId)
    (ho : o.op = .call { callee := .builtin .append, args := #[s, x], argTypes := #[t, t] }) (v u v' : Value) (hs : a.eval s = v) (hx : a.eval x = u)
    (hrun : (Builtin.append_ #[t, t] o.type #[v, u]).run P w = .ok v' w')
    (h : wpList P ops Q rest (a.put o.dst v') w') : wpList P ops Q (o :: rest) a w := by
  refine wpList_plain hgd fun K hK => ?_
  unfold Oper.wp
  simp [execOp, ho, resolve, invoke, builtin, hs, hx, hrun, Result.andThen]
  exact hK _ _ h

set_option maxHeartbeats 2000000 in
set_option maxRecDepth 100000 in
theorem clone_walk (L : SlLaysE0.n41 P ρ) (size : Nat) (z23 : ∀ w, (Go.sizeOf (ρ.t 23)).run P w = .ok size w) (ad : Addr) (n c : Nat) (w w' : World) (v' : Value)
    (hrun : (Builtin.append_ #[ρ.t 22, ρ.t 22] (ρ.t 22) #[.slice (some ⟨w.heap.size, 0, none⟩) 0 0, .slice (some ad) n c]).run P (w.alloc (.cells #[] (ρ.t 23))) = .ok v' w') :
    Calls P (ρ.f 41) #[.slice (some ad) n c] w fun e w2 => e = .returned v' ∧ w2 = w' := by
  have mixed := L.mixed; have t4 := L.t4; have a4 := L.a4; have z4 := L.z4; have v4 := L.v4; have t22 := L.t22; have a22 := L.a22; have z22 := L.z22; have v22 := L.v22
  have q22 : ∀ (w : World) (a : Option Addr) (n c n' c' : Nat), (binOp .eql (ρ.t 22) (.slice a n c) (.slice none n' c')).run P w = .ok (.bool a.isNone) w := fun w a n c n' c' => Lib.run_eql_slice_nil w _ _ a n c n' c' L.t22
  have u22 : ∀ w, Sem.run P (underlying (ρ.t 22)) w = .ok (TypeDesc.slice (ρ.t 23)) w := run_underlying t22
  have A : Aside ((Builtin.append_ #[ρ.t 22, ρ.t 22] (ρ.t 22) #[.slice (some ⟨w.heap.size, 0, none⟩) 0 0, .slice (some ad) n c]).run P (w.alloc (.cells #[] (ρ.t 23))) = .ok v' w') := hrun
  clear hrun
  obtain ⟨_, _, FG⟩ := L.f41
  go_enter FG, SlBodyN.n41_ntmps ρ
  go_wp2_with (at_builtin; refine wpList_append_run (w' := w') rfl _ _ (ρ.t 22) rfl (.slice (some ⟨w.heap.size, 0, none⟩) 0 0) (.slice (some ad) n c) v' rfl rfl A.out ?_)
  go_ret
  exact ⟨rfl, rfl⟩

/-- A copy, of at most 4096 elements. -/
def cloneCon (e : VT) : Con := ⟨[.d (.sc (.sl e))], [.fresh e], fun z => cond (Nat.ble (List.length (α := e.I) z.1) 4096) (some z.1) none⟩
theorem clone_sound (L : SlLaysE0.n41 P ρ) (i0 : TypeInfo) (z : Value) (e : VT) (hnf : e.noFn = true) (hpos : 1 ≤ e.size) (hi : P.info? (ρ.t 23) = some i0) (hz0 : i0.zero = some z) (hz1 : i0.size = e.size) (hzs : z.cells.size = e.size) (hby1 : 1 ≤ i0.bytes)
    (hby : 4096 * i0.bytes ≤ 140737488355328) : SoundCon P (ρ.f 41) (cloneCon e) := by
  refine ⟨fun args w => L.f41.enters rfl args w, fun zz y hy F w us qs hF hnd hargs => ?_⟩
  obtain ⟨u, us', q, qs', rfl, rfl, ⟨rfl, g, hg, hr⟩, rfl, rfl⟩ := hargs
  obtain ⟨hle, hy⟩ := cond_some hy
  have hle := Nat.le_of_ble_eq_true hle
  obtain ⟨xs, uz⟩ := zz
  cases hy
  simp only [Whole] at hg
  subst hg
  simp only [RepV, RepS] at hr
  obtain ⟨u', hu', hr⟩ := hr
  cases hu'
  obtain ⟨a, c, rfl, hc, hx⟩ := hr
  cases a with
  | none =>
    have h0 : List.length (α := e.I) xs = 0 := by
      rcases hx with h | ⟨_, _, h, _⟩
      · exact h
      · cases h
    refine (AnyE.slices_Clone_nil L _ c w).mono fun e2 w2 ⟨he, hw⟩ => ⟨[.slice none 0 0], F, [none], he, ?_, ⟨_, _, rfl, rfl, h0, _, rfl⟩, List.nodup_nil, fun b hb => by cases hb⟩
    subst hw
    exact Evo.refl [] F _ hF
  | some ad =>
    have hle : List.length (α := e.I) xs ≤ 4096 := hle
    have hO : ∀ b, (b < w.heap.size ∧ b ∉ blk [none]) → b < w.heap.size := fun b h => h.1
    have e1 := alloc_evo F w (.cells #[] (ρ.t 23)) hF
    have hF1 : ∀ b, (w.alloc (.cells #[] (ρ.t 23))).heap.size ≤ b → F b = 0 := fun b hb => hF b (by simp at hb; omega)
    have hr1 : RepS P (.sl e) (fun b => b < w.heap.size ∧ b ∉ blk [none]) F (w.alloc (.cells #[] (ρ.t 23))) xs (.slice (some ad) (List.length (α := e.I) xs) c) :=
      RepS.mono (fun _ h => h) (fun _ => Nat.le_refl _) (e1.keeps hO hF) (.sl e) xs _ (by simp only [RepS]; exact ⟨_, _, rfl, hc, hx⟩)
    simp only [RepS] at hr1
    obtain ⟨a', c', ha', -, hx1⟩ := hr1
    cases ha'
    have hs : Src P ⟨fun b => b < w.heap.size ∧ b ∉ blk [none], F, fun _ => 0, fun _ => none⟩ (w.alloc (.cells #[] (ρ.t 23))) e xs (.slice (some ad) (List.length (α := e.I) xs) c) :=
      Src.of rfl hpos (hx1.imp id fun ⟨b, off, h1, _, h2⟩ => ⟨b, off, h1, h2⟩)
    obtain ⟨ax, c', vs, hv, hvl, hfc, hone, hel⟩ := hs
    cases hv
    have z23 : ∀ w, (Go.sizeOf (ρ.t 23)).run P w = .ok i0.size w := fun w => by simp [Go.sizeOf, typeInfo, hi]
    have hvs : ∀ w' : World, w'.heap = (w.alloc (.cells #[] (ρ.t 23))).heap → (Builtin.firstCells i0.size (List.length (α := e.I) xs) (.slice (some ad) (List.length (α := e.I) xs) c)).run P w' = .ok vs.toArray w' := fun w' h => by
      rw [hz1]; exact hfc w' h
    by_cases h0 : List.length (α := e.I) xs = 0
    · have hvn : vs = [] := List.eq_nil_of_length_eq_zero (by rw [hvl, h0]; simp)
      have hrun := run_app_fit (P := P) (w := w.alloc (.cells #[] (ρ.t 23))) (w' := w.alloc (.cells #[] (ρ.t 23))) (ty := ρ.t 22) (base := some ⟨w.heap.size, 0, none⟩) (n := 0) (cap := 0) (ax := some ad) (m := List.length (α := e.I) xs) (c := c) L.t22 L.t22 hi (ts := #[ρ.t 22, ρ.t 22]) rfl rfl (by omega) (news := vs.toArray) (hvs _ rfl)
        (fun b _ => by subst hvn; simp [Go.storeCells]) (fun h => by cases h)
      refine (clone_walk L _ z23 ad _ c w _ _ hrun).mono fun e2 w2 ⟨he, hw⟩ => ⟨[_], F, [none], he, ?_, ⟨_, _, rfl, rfl, h0, some ⟨w.heap.size, 0, none⟩, ?_⟩, List.nodup_nil, fun b hb => by cases hb⟩
      · subst hw
        exact e1
      · rw [h0]
    · have hrun := run_app_grow (P := P) (w := w.alloc (.cells #[] (ρ.t 23))) (ty := ρ.t 22) (base := some ⟨w.heap.size, 0, none⟩) (n := 0) (cap := 0) (olds := #[]) (ax := some ad) (m := List.length (α := e.I) xs) (c := c) L.t22 L.t22 hi hz0 (ts := #[ρ.t 22, ρ.t 22]) rfl rfl (by omega) (by simp [Builtin.firstCells, Go.loadCells, loadCellsFrom]) (news := vs.toArray) (hvs _ rfl)
        (by omega) (growslice_fits (by omega) (by
          have := Nat.mul_le_mul_right i0.bytes hle
          rw [Nat.zero_add]
          exact Nat.le_trans this hby))
      rw [Nat.zero_add] at hrun
      have hge := grownCap_ge (w.alloc (.cells #[] (ρ.t 23))) (List.length (α := e.I) xs) 0 (ρ.t 23)
      generalize hcap : grownCap (w.alloc (.cells #[] (ρ.t 23))) (List.length (α := e.I) xs) 0 (ρ.t 23) = cap at hrun hge
      have e2 := alloc_evo F (w.alloc (.cells #[] (ρ.t 23))).drew (.cells (#[] ++ vs.toArray ++ Builtin.zeroCells z.cells (cap - List.length (α := e.I) xs)) (ρ.t 23)) hF1
      have e12 : Evo [] F F (w.alloc (.cells #[] (ρ.t 23))) (w.alloc (.cells #[] (ρ.t 23))).drew := ⟨rfl, rfl, Nat.le_succ _, rfl, Nat.le_refl _, fun _ _ _ => rfl, fun _ _ _ => rfl, fun _ => Nat.le_refl _, hF1⟩
      have e3 := (e1.trans e12).trans e2
      have k1 := (e12.trans e2).keeps (O := fun b => b < w.heap.size ∧ b ∉ blk [none]) (fun b h => by simp; have := h.1; omega) hF1
      refine (clone_walk L _ z23 ad _ c w _ _ hrun).mono fun e2 w2 ⟨he, hw⟩ => ⟨[_], F, [some ((w.alloc (.cells #[] (ρ.t 23))).heap.size, cap)], he, ?_, ⟨_, _, rfl, rfl, rfl, hF1 _ (Nat.le_refl _), hge, ?_⟩, by simp [blk], fun b hb => ?_⟩
      · subst hw
        exact e3
      · subst hw
        refine ⟨_, _, alloc_new _ _, ?_, fun i hi => ?_⟩
        · simp only [Array.size_append, List.size_toArray, size_zeroCells, hzs, hvl, Array.size_empty, List.length_nil, Nat.zero_add, ← Nat.add_mul]
          congr 1
          omega
        · refine RepV.noFn e hnf (RepV.mono (fun _ h => h) (fun _ => Nat.le_refl _) k1 e _ _ _ (fun j hj => ?_) (hel i hi))
          have h1 : (i + 1) * e.size ≤ List.length (α := e.I) xs * e.size := Nat.mul_le_mul_right _ hi
          rw [Nat.succ_mul] at h1
          rw [Array.getElem?_append_left (by simp; omega)]
          simp
      · simp [blk] at hb
        left; omega
end Go.PgAM
