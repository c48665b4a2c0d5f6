/-
  Part 4 of the texts that the claim leans on: an abstract machine over the model's code, its soundness, and plain laws.
-/
import Derived.Shelf.SlicesE.Clone
import Derived.KernelRfl
import Derived.Lib.BitFns
import Derived.Shelf.SlSortCmp.NoneTotal
import Derived.Shelf.Small.Bits
import Derived.Test.YtbljidhiecbcfaaProg
import Derived.Test.YtbljidhiecbcfaaMS3
/-
  slices.Clone at elements of any size in cells, as a contract of the abstract machine.
-/
namespace Go.PgAM
open Go Go.RowKit Go.Shelf Go.Proofs Go.Lib
set_option linter.unusedVariables false
set_option linter.unusedSimpArgs false
variable {P : Program} {ρ : Ren}

theorem wpList_append_run {w w' : World} {ops : Array Oper} {rest : List Oper} {o : Oper} {a : Act} {Q : Exit → Act → World → Prop} (hgd : o.guard = none) (s x : Operand) (t : TypeId)
    (ho : o.op = .call { callee := .builtin .append, args := #[s, x], argTypes := #[t, t] }) (v u v' : Value) (hs : a.eval s = v) (hx : a.eval x = u)
    (hrun : (Builtin.append_ #[t, t] o.type #[v, u]).run P w = .ok v' w')
    (h : wpList P ops Q rest (a.put o.dst v') w') : wpList P ops Q (o :: rest) a w := by
  refine wpList_plain hgd fun K hK => ?_
  unfold Oper.wp
  simp [execOp, ho, resolve, invoke, builtin, hs, hx, hrun, Result.andThen]
  exact hK _ _ h

set_option maxHeartbeats 2000000 in
set_option maxRecDepth 100000 in
theorem clone_walk (L : SlLaysE0.n41 P ρ) (size : Nat) (z23 : ∀ w, (Go.sizeOf (ρ.t 23)).run P w = .ok size w) (ad : Addr) (n c : Nat) (w w' : World) (v' : Value)
    (hrun : (Builtin.append_ #[ρ.t 22, ρ.t 22] (ρ.t 22) #[.slice (some ⟨w.heap.size, 0, none⟩) 0 0, .slice (some ad) n c]).run P (w.alloc (.cells #[] (ρ.t 23))) = .ok v' w') :
    Calls P (ρ.f 41) #[.slice (some ad) n c] w fun e w2 => e = .returned v' ∧ w2 = w' := by
  have mixed := L.mixed; have t4 := L.t4; have a4 := L.a4; have z4 := L.z4; have v4 := L.v4; have t22 := L.t22; have a22 := L.a22; have z22 := L.z22; have v22 := L.v22
  have q22 : ∀ (w : World) (a : Option Addr) (n c n' c' : Nat), (binOp .eql (ρ.t 22) (.slice a n c) (.slice none n' c')).run P w = .ok (.bool a.isNone) w := fun w a n c n' c' => Lib.run_eql_slice_nil w _ _ a n c n' c' L.t22
  have u22 : ∀ w, Sem.run P (underlying (ρ.t 22)) w = .ok (TypeDesc.slice (ρ.t 23)) w := run_underlying t22
  have A : Aside ((Builtin.append_ #[ρ.t 22, ρ.t 22] (ρ.t 22) #[.slice (some ⟨w.heap.size, 0, none⟩) 0 0, .slice (some ad) n c]).run P (w.alloc (.cells #[] (ρ.t 23))) = .ok v' w') := hrun
  clear hrun
  obtain ⟨_, _, FG⟩ := L.f41
  go_enter FG, SlBodyN.n41_ntmps ρ
  go_wp2_with (at_builtin; refine wpList_append_run (w' := w') rfl _ _ (ρ.t 22) rfl (.slice (some ⟨w.heap.size, 0, none⟩) 0 0) (.slice (some ad) n c) v' rfl rfl A.out ?_)
  go_ret
  exact ⟨rfl, rfl⟩

/-- A copy, of at most 4096 elements. -/
def cloneCon (e : VT) : Con := ⟨[.d (.sc (.sl e))], [.fresh e], fun z => cond (Nat.ble (List.length (α := e.I) z.1) 4096) (some z.1) none⟩
theorem clone_sound (L : SlLaysE0.n41 P ρ) (i0 : TypeInfo) (z : Value) (e : VT) (hnf : e.noFn = true) (hpos : 1 ≤ e.size) (hi : P.info? (ρ.t 23) = some i0) (hz0 : i0.zero = some z) (hz1 : i0.size = e.size) (hzs : z.cells.size = e.size) (hby1 : 1 ≤ i0.bytes)
    (hby : 4096 * i0.bytes ≤ 140737488355328) : SoundCon P (ρ.f 41) (cloneCon e) := by
  refine ⟨fun args w => L.f41.enters rfl args w, fun zz y hy F w us qs hF hnd hargs => ?_⟩
  obtain ⟨u, us', q, qs', rfl, rfl, ⟨rfl, g, hg, hr⟩, rfl, rfl⟩ := hargs
  obtain ⟨hle, hy⟩ := cond_some hy
  have hle := Nat.le_of_ble_eq_true hle
  obtain ⟨xs, uz⟩ := zz
  cases hy
  simp only [Whole] at hg
  subst hg
  simp only [RepV, RepS] at hr
  obtain ⟨u', hu', hr⟩ := hr
  cases hu'
  obtain ⟨a, c, rfl, hc, hx⟩ := hr
  cases a with
  | none =>
    have h0 : List.length (α := e.I) xs = 0 := by
      rcases hx with h | ⟨_, _, h, _⟩
      · exact h
      · cases h
    refine (AnyE.slices_Clone_nil L _ c w).mono fun e2 w2 ⟨he, hw⟩ => ⟨[.slice none 0 0], F, [none], he, ?_, ⟨_, _, rfl, rfl, h0, _, rfl⟩, List.nodup_nil, fun b hb => by cases hb⟩
    subst hw
    exact Evo.refl [] F _ hF
  | some ad =>
    have hle : List.length (α := e.I) xs ≤ 4096 := hle
    have hO : ∀ b, (b < w.heap.size ∧ b ∉ blk [none]) → b < w.heap.size := fun b h => h.1
    have e1 := alloc_evo F w (.cells #[] (ρ.t 23)) hF
    have hF1 : ∀ b, (w.alloc (.cells #[] (ρ.t 23))).heap.size ≤ b → F b = 0 := fun b hb => hF b (by simp at hb; omega)
    have hr1 : RepS P (.sl e) (fun b => b < w.heap.size ∧ b ∉ blk [none]) F (w.alloc (.cells #[] (ρ.t 23))) xs (.slice (some ad) (List.length (α := e.I) xs) c) :=
      RepS.mono (fun _ h => h) (fun _ => Nat.le_refl _) (e1.keeps hO hF) (.sl e) xs _ (by simp only [RepS]; exact ⟨_, _, rfl, hc, hx⟩)
    simp only [RepS] at hr1
    obtain ⟨a', c', ha', -, hx1⟩ := hr1
    cases ha'
    have hs : Src P ⟨fun b => b < w.heap.size ∧ b ∉ blk [none], F, fun _ => 0, fun _ => none⟩ (w.alloc (.cells #[] (ρ.t 23))) e xs (.slice (some ad) (List.length (α := e.I) xs) c) :=
      Src.of rfl hpos (hx1.imp id fun ⟨b, off, h1, _, h2⟩ => ⟨b, off, h1, h2⟩)
    obtain ⟨ax, c', vs, hv, hvl, hfc, hone, hel⟩ := hs
    cases hv
    have z23 : ∀ w, (Go.sizeOf (ρ.t 23)).run P w = .ok i0.size w := fun w => by simp [Go.sizeOf, typeInfo, hi]
    have hvs : ∀ w' : World, w'.heap = (w.alloc (.cells #[] (ρ.t 23))).heap → (Builtin.firstCells i0.size (List.length (α := e.I) xs) (.slice (some ad) (List.length (α := e.I) xs) c)).run P w' = .ok vs.toArray w' := fun w' h => by
      rw [hz1]; exact hfc w' h
    by_cases h0 : List.length (α := e.I) xs = 0
    · have hvn : vs = [] := List.eq_nil_of_length_eq_zero (by rw [hvl, h0]; simp)
      have hrun := run_app_fit (P := P) (w := w.alloc (.cells #[] (ρ.t 23))) (w' := w.alloc (.cells #[] (ρ.t 23))) (ty := ρ.t 22) (base := some ⟨w.heap.size, 0, none⟩) (n := 0) (cap := 0) (ax := some ad) (m := List.length (α := e.I) xs) (c := c) L.t22 L.t22 hi (ts := #[ρ.t 22, ρ.t 22]) rfl rfl (by omega) (news := vs.toArray) (hvs _ rfl)
        (fun b _ => by subst hvn; simp [Go.storeCells]) (fun h => by cases h)
      refine (clone_walk L _ z23 ad _ c w _ _ hrun).mono fun e2 w2 ⟨he, hw⟩ => ⟨[_], F, [none], he, ?_, ⟨_, _, rfl, rfl, h0, some ⟨w.heap.size, 0, none⟩, ?_⟩, List.nodup_nil, fun b hb => by cases hb⟩
      · subst hw
        exact e1
      · rw [h0]
    · have hrun := run_app_grow (P := P) (w := w.alloc (.cells #[] (ρ.t 23))) (ty := ρ.t 22) (base := some ⟨w.heap.size, 0, none⟩) (n := 0) (cap := 0) (olds := #[]) (ax := some ad) (m := List.length (α := e.I) xs) (c := c) L.t22 L.t22 hi hz0 (ts := #[ρ.t 22, ρ.t 22]) rfl rfl (by omega) (by simp [Builtin.firstCells, Go.loadCells, loadCellsFrom]) (news := vs.toArray) (hvs _ rfl)
        (by omega) (growslice_fits (by omega) (by
          have := Nat.mul_le_mul_right i0.bytes hle
          rw [Nat.zero_add]
          exact Nat.le_trans this hby))
      rw [Nat.zero_add] at hrun
      have hge := grownCap_ge (w.alloc (.cells #[] (ρ.t 23))) (List.length (α := e.I) xs) 0 (ρ.t 23)
      generalize hcap : grownCap (w.alloc (.cells #[] (ρ.t 23))) (List.length (α := e.I) xs) 0 (ρ.t 23) = cap at hrun hge
      have e2 := alloc_evo F (w.alloc (.cells #[] (ρ.t 23))).drew (.cells (#[] ++ vs.toArray ++ Builtin.zeroCells z.cells (cap - List.length (α := e.I) xs)) (ρ.t 23)) hF1
      have e12 : Evo [] F F (w.alloc (.cells #[] (ρ.t 23))) (w.alloc (.cells #[] (ρ.t 23))).drew := ⟨rfl, rfl, Nat.le_succ _, rfl, Nat.le_refl _, fun _ _ _ => rfl, fun _ _ _ => rfl, fun _ => Nat.le_refl _, hF1⟩
      have e3 := (e1.trans e12).trans e2
      have k1 := (e12.trans e2).keeps (O := fun b => b < w.heap.size ∧ b ∉ blk [none]) (fun b h => by simp; have := h.1; omega) hF1
      refine (clone_walk L _ z23 ad _ c w _ _ hrun).mono fun e2 w2 ⟨he, hw⟩ => ⟨[_], F, [some ((w.alloc (.cells #[] (ρ.t 23))).heap.size, cap)], he, ?_, ⟨_, _, rfl, rfl, rfl, hF1 _ (Nat.le_refl _), hge, ?_⟩, by simp [blk], fun b hb => ?_⟩
      · subst hw
        exact e3
      · subst hw
        refine ⟨_, _, alloc_new _ _, ?_, fun i hi => ?_⟩
        · simp only [Array.size_append, List.size_toArray, size_zeroCells, hzs, hvl, Array.size_empty, List.length_nil, Nat.zero_add, ← Nat.add_mul]
          congr 1
          omega
        · refine RepV.noFn e hnf (RepV.mono (fun _ h => h) (fun _ => Nat.le_refl _) k1 e _ _ _ (fun j hj => ?_) (hel i hi))
          have h1 : (i + 1) * e.size ≤ List.length (α := e.I) xs * e.size := Nat.mul_le_mul_right _ hi
          rw [Nat.succ_mul] at h1
          rw [Array.getElem?_append_left (by simp; omega)]
          simp
      · simp [blk] at hb
        left; omega
end Go.PgAM

/-
  The order of a sorted row, in plain Lean: a total order; one sorted permutation.
-/
namespace Go.PgAM
set_option linter.unusedVariables false
/-- How many zero bits a number of 64 bits begins with. -/
def clzF (x : Int) : Option Int := cond (decide (0 ≤ x) && decide (x < 18446744073709551616)) (some (64 - ((Lib.bitLen x.toNat : Nat) : Int))) none
/-- An entry: value, mask, length, action. -/
abbrev Ent := Int × Int × Int × Int × Int × Int
def c1 (a b : Int) : Int := if a < b then -1 else if b < a then 1 else 0
def orI (a b : Int) : Int := if a = 0 then b else a
def cmpE (x y : Ent) : Int :=
  orI (c1 y.2.2.2.2.1 x.2.2.2.2.1) (orI (orI (c1 x.1 y.1) (c1 x.2.1 y.2.1)) (orI (orI (c1 x.2.2.1 y.2.2.1) (c1 x.2.2.2.1 y.2.2.2.1)) (c1 x.2.2.2.2.2 y.2.2.2.2.2)))
def ltE (x y : Ent) : Bool := decide (cmpE x y < 0)
theorem c1_lt {a b : Int} : c1 a b < 0 ↔ a < b := by unfold c1; split <;> (try split) <;> omega
theorem c1_eq {a b : Int} : c1 a b = 0 ↔ a = b := by unfold c1; split <;> (try split) <;> omega
theorem orI_lt {a b : Int} : orI a b < 0 ↔ a < 0 ∨ (a = 0 ∧ b < 0) := by unfold orI; split <;> omega
theorem orI_eq {a b : Int} : orI a b = 0 ↔ a = 0 ∧ b = 0 := by unfold orI; split <;> omega
theorem ltE_iff {x y : Ent} : ltE x y = true ↔ y.2.2.2.2.1 < x.2.2.2.2.1 ∨ (y.2.2.2.2.1 = x.2.2.2.2.1 ∧ (x.1 < y.1 ∨ (x.1 = y.1 ∧ (x.2.1 < y.2.1 ∨ (x.2.1 = y.2.1 ∧
    (x.2.2.1 < y.2.2.1 ∨ (x.2.2.1 = y.2.2.1 ∧ (x.2.2.2.1 < y.2.2.2.1 ∨ (x.2.2.2.1 = y.2.2.2.1 ∧ x.2.2.2.2.2 < y.2.2.2.2.2))))))))) := by
  simp only [ltE, cmpE, decide_eq_true_eq, orI_lt, orI_eq, c1_lt, c1_eq]
  constructor <;> (intro h; omega)
theorem ltE_irrefl (x : Ent) : ltE x x = false := by
  cases h : ltE x x with
  | false => rfl
  | true => rw [ltE_iff] at h; omega
theorem ltE_trans {x y z : Ent} (h1 : ltE x y = true) (h2 : ltE y z = true) : ltE x z = true := by
  rw [ltE_iff] at *; omega
theorem ltE_anti {x y : Ent} (h1 : ltE x y = false) (h2 : ltE y x = false) : x = y := by
  have h1 : ¬ ltE x y = true := by rw [h1]; decide
  have h2 : ¬ ltE y x = true := by rw [h2]; decide
  rw [ltE_iff] at h1 h2
  obtain ⟨x1, x2, x3, x4, x5, x6⟩ := x
  obtain ⟨y1, y2, y3, y4, y5, y6⟩ := y
  simp only [Prod.mk.injEq] at *
  omega
theorem ltE_ntrans {x y z : Ent} (h1 : ltE x y = false) (h2 : ltE y z = false) : ltE x z = false := by
  cases h : ltE x z with
  | false => rfl
  | true =>
    cases h3 : ltE y x with
    | true => rw [ltE_trans h3 h] at h2; cases h2
    | false => rw [ltE_anti h1 h3] at h; rw [h] at h2; cases h2
def insE (x : Ent) : List Ent → List Ent
  | [] => [x]
  | y :: l => bif ltE y x then y :: insE x l else x :: y :: l
def srtE : List Ent → List Ent
  | [] => []
  | x :: l => insE x (srtE l)
theorem insE_perm (x : Ent) : ∀ l, (insE x l).Perm (x :: l)
  | [] => .refl _
  | y :: l => by
    unfold insE
    cases ltE y x with
    | true => exact ((insE_perm x l).cons y).trans (.swap x y l)
    | false => exact .refl _
theorem srtE_perm : ∀ l, (srtE l).Perm l
  | [] => .refl _
  | x :: l => (insE_perm x _).trans ((srtE_perm l).cons x)
theorem srtE_length (l : List Ent) : (srtE l).length = l.length := (srtE_perm l).length_eq
theorem insE_sorted (x : Ent) : ∀ {l : List Ent}, l.Pairwise (fun a b => ltE b a = false) → (insE x l).Pairwise (fun a b => ltE b a = false)
  | [], _ => by simp [insE]
  | y :: l, h => by
    rw [List.pairwise_cons] at h
    unfold insE
    cases e : ltE y x with
    | true =>
      simp only [cond_true, List.pairwise_cons]
      refine ⟨fun b hb => ?_, insE_sorted x h.2⟩
      rcases List.mem_cons.1 ((insE_perm x l).mem_iff.1 hb) with rfl | hb
      · cases e' : ltE b y with
        | false => rfl
        | true => have := ltE_trans e e'; rw [ltE_irrefl] at this; cases this
      · exact h.1 b hb
    | false =>
      simp only [cond_false, List.pairwise_cons]
      refine ⟨fun b hb => ?_, h⟩
      rcases List.mem_cons.1 hb with rfl | hb
      · exact e
      · exact ltE_ntrans (h.1 b hb) e
theorem srtE_sorted : ∀ l, (srtE l).Pairwise (fun a b => ltE b a = false)
  | [] => .nil
  | x :: l => insE_sorted x (srtE_sorted l)
/-- There is one sorted permutation. -/
theorem sorted_one {l l' : List Ent} (hp : l.Perm l') (h : l.Pairwise (fun a b => ltE b a = false)) (h' : l'.Pairwise (fun a b => ltE b a = false)) : l = l' :=
  List.Perm.eq_of_pairwise (le := fun a b => ltE b a = false) (fun a b _ _ h1 h2 => ltE_anti h2 h1) h h' hp
end Go.PgAM

/-
  slices.SortFunc of entries, in a block of the call's own, as a law of the abstract machine's contracts.
-/
namespace Go.PgAM
open Go Go.RowKit Go.Shelf Go.Proofs Go.Lib
set_option linter.unusedVariables false
set_option linter.unusedSimpArgs false
variable {P : Program} {ρ : Ren}

theorem evo_grow {F F' : Nat → Nat} {w w' : World} (e : Evo [] F F' w w') : ∃ q os, w' = Go.Sort.grow (w.drewN q) os := by
  refine ⟨w'.drawn - w.drawn, w'.heap.extract w.heap.size w'.heap.size, ?_⟩
  have hd := e.drawn
  have hh : w'.heap = w.heap ++ w'.heap.extract w.heap.size w'.heap.size := by
    apply Array.ext_getElem?
    intro i
    rw [Array.getElem?_append]
    split
    · rename_i h; exact e.block i h (by simp)
    · rename_i h
      rw [Array.getElem?_extract]
      have := e.size
      by_cases h2 : i < w'.heap.size
      · rw [if_pos (by omega)]; congr 1; omega
      · rw [if_neg (by omega)]; simp; omega
  have hos := e.os
  have htp := e.tape
  have hou := e.output
  cases w'
  cases w
  simp only [Go.Sort.grow, World.drewN] at *
  subst hos htp hou
  congr 1
  omega

abbrev VE : VT := (.ag (.cons (.int .u64) (.cons (.int .u64) (.cons (.int .u64) (.cons (.int .u64) (.cons (.int .i64) (.cons (.int .i64) .nil)))))))
def encE (x : Ent) : List Value := [.int .u64 x.1, .int .u64 x.2.1, .int .u64 x.2.2.1, .int .u64 x.2.2.2.1, .int .i64 x.2.2.2.2.1, .int .i64 x.2.2.2.2.2]
theorem encE_get (x : Ent) {j : Nat} (hj : j < 6) : (encE x)[j]? = some ((encE x)[j]!) := by
  have hl : j < (encE x).length := hj
  rw [List.getElem?_eq_getElem hl, getElem!_pos (encE x) j hl]
theorem repE {O : Nat → Prop} {F : Nat → Nat} {w : World} {x : Ent} {g : Nat → Option Value} : RepV P VE O F w x g ↔ ∀ j, j < 6 → g j = some ((encE x)[j]!) := by
  simp only [RepV, RepCs, RepS]
  constructor
  · rintro ⟨⟨u0, h0, rfl⟩, ⟨u1, h1, rfl⟩, ⟨u2, h2, rfl⟩, ⟨u3, h3, rfl⟩, ⟨u4, h4, rfl⟩, ⟨u5, h5, rfl⟩⟩ j hj
    have : j = 0 ∨ j = 1 ∨ j = 2 ∨ j = 3 ∨ j = 4 ∨ j = 5 := by omega
    rcases this with rfl | rfl | rfl | rfl | rfl | rfl
    · exact h0
    · exact h1
    · exact h2
    · exact h3
    · exact h4
    · exact h5
  · intro h
    exact ⟨⟨_, h 0 (by omega), rfl⟩, ⟨_, h 1 (by omega), rfl⟩, ⟨_, h 2 (by omega), rfl⟩, ⟨_, h 3 (by omega), rfl⟩, ⟨_, h 4 (by omega), rfl⟩, ⟨_, h 5 (by omega), rfl⟩⟩
def cmpCon : Con := ⟨[.d VE, .d VE], [.d (.sc (.int .i64))], fun z => some (cmpE z.1 z.2.1)⟩
theorem cmpLays {cmp : FuncId} (hc : SoundCon P cmp cmpCon) (blk off size : Nat) (w : World) : CmpLays P cmp #[] encE 6 cmpE blk off size w := by
  intro m os dk hdk x y
  have h := hc.2 (x, y, ()) _ rfl (fun _ => 0) (sortWorldK encE 6 w blk off m dk os) [.agg (encE x).toArray, .agg (encE y).toArray] [none, none] (fun _ _ => rfl) List.nodup_nil
    ⟨_, _, _, _, rfl, rfl, ⟨rfl, _, ⟨_, rfl, rfl, rfl⟩, repE.2 fun j hj => ?_⟩, _, _, _, _, rfl, rfl, ⟨rfl, _, ⟨_, rfl, rfl, rfl⟩, repE.2 fun j hj => ?_⟩, rfl, rfl⟩
  · refine h.mono ?_
    rintro e w' ⟨vs, F', ps, rfl, hev, hres, -, -⟩
    obtain ⟨u, q, rfl, rfl, -, g', hg, hr⟩ := hres
    simp only [Whole] at hg
    subst hg
    simp only [RepV, RepS] at hr
    obtain ⟨u', hu, hr⟩ := hr
    cases hu
    subst hr
    exact ⟨rfl, evo_grow hev⟩
  · simp only [List.getElem?_toArray]
    exact encE_get x hj
  · simp only [List.getElem?_toArray]
    exact encE_get y hj
theorem ltOf_eq : ltOf cmpE = ltE := rfl
theorem ltE_swo : Go.Sort.SWO ltE := ⟨ltE_irrefl, fun _ _ _ => ltE_trans, fun _ _ _ => ltE_ntrans⟩
theorem merge_srt (l : List Ent) : (l.mergeSort fun x y => !ltE y x) = srtE l := by
  refine sorted_one ((List.mergeSort_perm _ _).trans (srtE_perm l).symm) ?_ (srtE_sorted l)
  have := List.pairwise_mergeSort (le := fun x y => !ltE y x) (fun a b c h1 h2 => by
    simp only [Bool.not_eq_true'] at h1 h2 ⊢
    exact ltE_ntrans h2 h1) (fun a b => by
    cases h : ltE b a with
    | false => simp
    | true =>
      cases h2 : ltE a b with
      | false => simp
      | true => have := ltE_trans h h2; rw [ltE_irrefl] at this; cases this) l
  simpa using this
theorem flat_get (d : Array Ent) (t : Nat) (ht : t < d.size * 6) : (Go.Sort.flatK encE 6 d)[t]! = (encE d[t / 6]!)[t % 6]! := Go.Sort.get_flatK encE 6 d t ht
set_option maxRecDepth 10000 in
theorem sort_row (L : SlLaysF0.n6 P ρ) (aE : ∀ w, (isAgg (ρ.t 24)).run P w = .ok true w) (zE : ∀ w, (Go.sizeOf (ρ.t 24)).run P w = .ok 6 w) {cmp : FuncId} (hc : SoundCon P cmp cmpCon) {O : Nat → Prop} {F : Nat → Nat} {w : World} {b cap : Nat} {cs : Array Value} {el : TypeId} {xs : List Ent}
    (hh : w.heap[b]? = some (.cells cs el (0, 0))) (hsz : cs.size = cap * 6) (hle : xs.length ≤ cap) (hlen : xs.length ≤ 4096) (hF : ∀ b, w.heap.size ≤ b → F b = 0)
    (hel : ∀ i (h : i < xs.length), RepV P VE O F w (xs.get ⟨i, h⟩) (fun j => cs[i * 6 + j]?)) :
    Calls P (ρ.f 6) #[.slice (some ⟨b, 0, none⟩) xs.length cap, .func (.func cmp) #[] #[]] w fun e w' => e = .returned (.tuple #[]) ∧ Evo [b] F F w w' ∧
      ∃ cs' : Array Value, w'.heap[b]? = some (.cells cs' el (0, 0)) ∧ cs'.size = cap * 6 ∧ ∀ i (h : i < (srtE xs).length), RepV P VE (fun _ => False) F w' ((srtE xs).get ⟨i, h⟩) (fun j => cs'[i * 6 + j]?) := by
  have hb : b < w.heap.size := (Array.getElem?_eq_some_iff.1 hh).1
  have hH : Go.Sort.HoldsK encE 6 w b 0 xs.toArray := by
    intro t ht
    rw [Go.Sort.size_flatK] at ht
    have ht' : t < xs.length * 6 := by simpa using ht
    have hi : t / 6 < xs.length := by omega
    have h1 := repE.1 (hel (t / 6) hi) (t % 6) (Nat.mod_lt _ (by omega))
    rw [show t / 6 * 6 + t % 6 = t by omega] at h1
    refine ⟨?_, ?_⟩
    · rw [flat_get _ _ ht]
      simp only [World.cell?, hh, Nat.zero_add, id]
      rw [if_neg (by simp), h1]
      congr 2
      rw [List.get_eq_getElem]
      simp [hi]
    · simp [World.frozen?, hh]
  have h := AnyQ.slices_SortFunc_total L 6 aE zE encE (fun _ => rfl) (fun x v hv => by simp [encE] at hv; rcases hv with rfl | rfl | rfl | rfl | rfl | rfl <;> rfl) cmpE ltE_swo cmp #[] b 0 cap xs.toArray w hc.1 (cmpLays hc b 0 _ w) hH hb (by simp; omega) (fun x y h1 h2 => ltE_anti h1 h2)
  have h2 : Calls P (ρ.f 6) #[.slice (some ⟨b, 0, none⟩) xs.length cap, .func (.func cmp) #[] #[]] w fun e w' =>
      e = .returned (.tuple #[]) ∧ ∃ n os, w' = sortWorldK encE 6 w b 0 n (srtE xs).toArray os := by
    refine h.mono fun e w' ⟨he, n, os, hw⟩ => ⟨he, n, os, ?_⟩
    rw [hw]
    congr 2
    exact merge_srt xs
  refine h2.mono ?_
  rintro e w' ⟨rfl, n, os, rfl⟩
  have hheap : (sortWorldK encE 6 w b 0 n (srtE xs).toArray os).heap = (w.heap.modify b (Go.Sort.onCells (Go.Sort.putCells id 0 (Go.Sort.flatK encE 6 (srtE xs).toArray)))) ++ os := rfl
  have hold : ∀ k, k < w.heap.size → k ≠ b → (sortWorldK encE 6 w b 0 n (srtE xs).toArray os).heap[k]? = w.heap[k]? := by
    intro k hk hne
    rw [hheap, Array.getElem?_append_left (by simpa using hk), Array.getElem?_modify, if_neg (Ne.symm hne)]
  have hnew : (sortWorldK encE 6 w b 0 n (srtE xs).toArray os).heap[b]? = some (.cells (Go.Sort.putCells id 0 (Go.Sort.flatK encE 6 (srtE xs).toArray) cs) el (0, 0)) := by
    rw [hheap, Array.getElem?_append_left (by simpa using hb), Array.getElem?_modify, if_pos rfl, hh]
    rfl
  refine ⟨rfl, ⟨rfl, rfl, Nat.le_add_right _ _, rfl, ?_, fun k hk hm => hold k hk (by simpa using hm), fun _ _ _ => rfl, fun _ => Nat.le_refl _, fun k hk => hF k ?_⟩, _, hnew, ?_, fun i hi => ?_⟩
  · rw [hheap]; simp
  · rw [hheap] at hk; simp at hk; omega
  · simp [Go.Sort.putCells, hsz]
  · refine repE.2 fun j hj => ?_
    have hl : i < xs.length := by rwa [srtE_length] at hi
    have hi6 : i * 6 + j < cs.size := by rw [hsz]; omega
    have ht : i * 6 + j < (srtE xs).toArray.size * 6 := by simp only [List.size_toArray]; omega
    simp only [Go.Sort.putCells, Array.getElem?_mapIdx, Array.getElem?_eq_getElem hi6, Option.map_some, Go.Sort.size_flatK]
    rw [if_pos ⟨Nat.zero_le _, by omega⟩, Nat.sub_zero, flat_get _ _ ht]
    rw [show (i * 6 + j) / 6 = i by omega, show (i * 6 + j) % 6 = j by omega]
    simp [hi]
theorem sort_val (L : SlLaysF0.n6 P ρ) (aE : ∀ w, (isAgg (ρ.t 24)).run P w = .ok true w) (zE : ∀ w, (Go.sizeOf (ρ.t 24)).run P w = .ok 6 w) {cmp : FuncId} (hc : SoundCon P cmp cmpCon) {F : Nat → Nat} {w : World} {xs : List Ent} {v : Value} {q : Option (Nat × Nat)}
    (hlen : xs.length ≤ 4096) (hF : ∀ b, w.heap.size ≤ b → F b = 0) (hv : BufVal P (fun _ => False) F w VE xs v q) :
    Calls P (ρ.f 6) #[v, .func (.func cmp) #[] #[]] w fun e w' => e = .returned (.tuple #[]) ∧ Evo (blk [q]) F F w w' ∧ BufVal P (fun _ => False) F w' VE (srtE xs) v q := by
  cases q with
  | none =>
    obtain ⟨h0, a, rfl⟩ := hv
    have h0 : xs.length = 0 := h0
    refine (AnyF.slices_SortFunc_none L a 0 _ w).mono fun e w' ⟨he, hw⟩ => ?_
    subst hw
    exact ⟨he, Evo.refl _ _ _ hF, by rw [show (List.length (α := VT.I VE) (srtE xs)) = xs.length from srtE_length xs]; exact h0, a, rfl⟩
  | some bc =>
    obtain ⟨b, cap⟩ := bc
    obtain ⟨rfl, hFb, hle, cs, el, hh, hsz, hel⟩ := hv
    refine (sort_row L aE zE hc hh hsz hle hlen hF hel).mono fun e w' ⟨he, hev, cs', hh', hsz', hel'⟩ => ⟨he, hev, ?_⟩
    have hl : List.length (α := VT.I VE) (srtE xs) = List.length (α := VT.I VE) xs := srtE_length xs
    exact ⟨by rw [hl], hFb, by rw [hl]; exact hle, cs', el, hh', hsz', hel'⟩
/-- The contract of a sorted copy. -/
def srtCon : Con := ⟨[.d (.sc (.sl VE))], [.fresh VE], fun z => cond (Nat.ble (List.length (α := Ent) z.1) 4096) (some (srtE z.1)) none⟩
theorem Evo.two {F F' : Nat → Nat} {w w1 w2 : World} {q : Option (Nat × Nat)} (h : Evo [] F F' w w1) (k : Evo (blk [q]) F' F' w1 w2) (hq : ∀ b, b ∈ blk [q] → w.heap.size ≤ b) : Evo [] F F' w w2 :=
  ⟨k.os.trans h.os, k.tape.trans h.tape, Nat.le_trans h.drawn k.drawn, k.output.trans h.output, Nat.le_trans h.size k.size,
    fun b hb hm => (k.block b (Nat.lt_of_lt_of_le hb h.size) (fun hin => by have := hq b hin; omega)).trans (h.block b hb hm), h.fold, h.fge, k.fnew⟩
end Go.PgAM

/-
  DERIVED: THE SHELF's CONTRACTS AT THIS DUMP, IN PLAIN WORDS (tools/lay-plain.mjs out of 'YtbljidhiecbcfaaShelf.lean', which tools/lay-shelf.mjs wrote): THE SAME DECLARATIONS UNDER THE SAME NAMES: 'import', 'namespace', 'open', 'def', 'theorem' AND NOTHING ELSE: no command of the shelf's: FOR A HAND-IN. Each laying: the table of numbers ('.._ren') and one theorem, a field a fact of the dump's own or the kernel's comparison; each contract: ONE APPLICATION.
-/
namespace Go.Proofs
open Go.Shelf
def Try.cloneEnt_ren : Go.Shelf.Ren := ⟨fun | 41 => 60 | n => n, fun | 22 => 22 | 23 => 45 | 4 => 4 | n => n, fun | n => n⟩
theorem Try.cloneEnt : Go.Proofs.SlLaysE0.n41 Try.prog Try.cloneEnt_ren := {
  mixed := by kernel_rfl
  f41 := ⟨Try.f60.name, by decide, Try.func60.trans (congrArg some (by kernel_rfl))⟩
  t4 := Try.underlying4
  a4 := Try.isAgg4
  z4 := Try.sizeOf4
  v4 := Try.zeroValue4
  t22 := Try.underlying22
  a22 := Try.isAgg22
  z22 := Try.sizeOf22
  v22 := Try.zeroValue22 }
def Try.sortEnt_ren : Go.Shelf.Ren := ⟨fun | 6 => 61 | 15 => 94 | 14 => 93 | 28 => 115 | 29 => 116 | 20 => 107 | 21 => 108 | 22 => 109 | 23 => 110 | 24 => 111 | 25 => 112 | 26 => 113 | 27 => 114 | 46 => 119 | 47 => 120 | 48 => 121 | 49 => 122 | 50 => 123 | 57 => 125 | n => n, fun | 22 => 22 | 24 => 45 | 25 => 83 | 3 => 3 | 39 => 142 | 0 => 0 | 53 => 161 | 55 => 23 | 4 => 4 | 46 => 155 | 45 => 154 | 50 => 69 | 5 => 5 | 9 => 9 | 66 => 162 | 70 => 166 | 76 => 168 | 77 => 47 | n => n, fun | n => n⟩
theorem Try.sortEnt : Go.Proofs.SlLaysF0.n6 Try.prog Try.sortEnt_ren := {
  mixed := by kernel_rfl
  f6 := ⟨Try.f61.name, by decide, Try.func61.trans (congrArg some (by kernel_rfl))⟩
  f14 := ⟨Try.f93.name, by decide, Try.func93.trans (congrArg some (by kernel_rfl))⟩
  f15 := Try.func94.trans (congrArg some (by kernel_rfl))
  f20 := ⟨Try.f107.name, by decide, Try.func107.trans (congrArg some (by kernel_rfl))⟩
  f21 := ⟨Try.f108.name, by decide, Try.func108.trans (congrArg some (by kernel_rfl))⟩
  f22 := ⟨Try.f109.name, by decide, Try.func109.trans (congrArg some (by kernel_rfl))⟩
  f23 := ⟨Try.f110.name, by decide, Try.func110.trans (congrArg some (by kernel_rfl))⟩
  f24 := ⟨Try.f111.name, by decide, Try.func111.trans (congrArg some (by kernel_rfl))⟩
  f25 := ⟨Try.f112.name, by decide, Try.func112.trans (congrArg some (by kernel_rfl))⟩
  f26 := ⟨Try.f113.name, by decide, Try.func113.trans (congrArg some (by kernel_rfl))⟩
  f27 := ⟨Try.f114.name, by decide, Try.func114.trans (congrArg some (by kernel_rfl))⟩
  f28 := Try.func115.trans (congrArg some (by kernel_rfl))
  f29 := Try.func116.trans (congrArg some (by kernel_rfl))
  f46 := ⟨Try.f119.name, by decide, Try.func119.trans (congrArg some (by kernel_rfl))⟩
  f47 := Try.func120.trans (congrArg some (by kernel_rfl))
  f48 := Try.func121.trans (congrArg some (by kernel_rfl))
  f49 := ⟨Try.f122.name, by decide, Try.func122.trans (congrArg some (by kernel_rfl))⟩
  f50 := ⟨Try.f123.name, by decide, Try.func123.trans (congrArg some (by kernel_rfl))⟩
  f57 := ⟨Try.f125.name, by decide, Try.func125.trans (congrArg some (by kernel_rfl))⟩
  t0 := Try.underlying0
  a0 := Try.isAgg0
  z0 := Try.sizeOf0
  v0 := Try.zeroValue0
  t3 := Try.underlying3
  a3 := Try.isAgg3
  z3 := Try.sizeOf3
  v3 := Try.zeroValue3
  t4 := Try.underlying4
  a4 := Try.isAgg4
  z4 := Try.sizeOf4
  v4 := Try.zeroValue4
  t5 := Try.underlying5
  a5 := Try.isAgg5
  z5 := Try.sizeOf5
  v5 := Try.zeroValue5
  t9 := Try.underlying9
  a9 := Try.isAgg9
  z9 := Try.sizeOf9
  v9 := Try.zeroValue9
  t22 := Try.underlying22
  a22 := Try.isAgg22
  z22 := Try.sizeOf22
  v22 := Try.zeroValue22
  t25 := Try.underlying83
  a25 := Try.isAgg83
  z25 := Try.sizeOf83
  v25 := Try.zeroValue83
  t39 := Try.underlying142
  a39 := Try.isAgg142
  z39 := Try.sizeOf142
  v39 := Try.zeroValue142
  t45 := Try.underlying154
  a45 := Try.isAgg154
  z45 := Try.sizeOf154
  v45 := Try.zeroValue154
  t46 := Try.underlying155
  a46 := Try.isAgg155
  z46 := Try.sizeOf155
  v46 := Try.zeroValue155
  t50 := Try.underlying69
  a50 := Try.isAgg69
  z50 := Try.sizeOf69
  v50 := Try.zeroValue69
  t53 := Try.underlying161
  a53 := Try.isAgg161
  z53 := Try.sizeOf161
  v53 := Try.zeroValue161
  t55 := Try.underlying23
  a55 := Try.isAgg23
  z55 := Try.sizeOf23
  v55 := Try.zeroValue23
  t66 := Try.underlying162
  a66 := Try.isAgg162
  z66 := Try.sizeOf162
  v66 := Try.zeroValue162
  t70 := Try.underlying166
  a70 := Try.isAgg166
  z70 := Try.sizeOf166
  v70 := Try.zeroValue166
  t76 := Try.underlying168
  a76 := Try.isAgg168
  z76 := Try.sizeOf168
  v76 := Try.zeroValue168
  t77 := Try.underlying47
  a77 := Try.isAgg47
  z77 := Try.sizeOf47
  v77 := Try.zeroValue47 }
def Try.lays134_ren : Go.Shelf.Ren := ⟨fun | 134 => 124 | 129 => 116 | n => n, fun | 53 => 23 | 3 => 3 | 4 => 4 | 46 => 142 | 5 => 5 | 9 => 9 | n => n, fun | n => n⟩
theorem Try.lays134 : Go.Proofs.Lays.n134 Try.prog Try.lays134_ren := {
  mixed := by kernel_rfl
  f129 := Try.func116.trans (congrArg some (by kernel_rfl))
  f134 := Try.func124.trans (congrArg some (by kernel_rfl))
  t3 := Try.underlying3
  a3 := Try.isAgg3
  z3 := Try.sizeOf3
  v3 := Try.zeroValue3
  t4 := Try.underlying4
  a4 := Try.isAgg4
  z4 := Try.sizeOf4
  v4 := Try.zeroValue4
  t5 := Try.underlying5
  a5 := Try.isAgg5
  z5 := Try.sizeOf5
  v5 := Try.zeroValue5
  t9 := Try.underlying9
  a9 := Try.isAgg9
  z9 := Try.sizeOf9
  v9 := Try.zeroValue9
  t46 := Try.underlying142
  a46 := Try.isAgg142
  z46 := Try.sizeOf142
  v46 := Try.zeroValue142
  t53 := Try.underlying23
  a53 := Try.isAgg23
  z53 := Try.sizeOf23
  v53 := Try.zeroValue23 }
end Go.Proofs

namespace Go.PgAM
open Go Go.Proofs
set_option linter.unusedVariables false
abbrev V_runtime_boundsError : VT := (.ag (.cons (.int .i64) (.cons (.int .i64) (.cons .bool (.cons (.int .u8) .nil)))))
abbrev runtime_boundsError := (Int × Int × Bool × Int)
abbrev V_runtime_errorAddressString : VT := (.ag (.cons .str (.cons (.int .u64) .nil)))
abbrev runtime_errorAddressString := (ByteArray × Int)
abbrev V_addr_Addr : VT := (.ag (.cons (.int .u64) (.cons (.int .u64) .nil)))
abbrev addr_Addr := (Int × Int)
abbrev V_word_Word : VT := (.ag (.cons (.int .u64) (.cons (.int .u64) (.cons (.int .u64) (.cons (.int .u64) .nil)))))
abbrev word_Word := (Int × Int × Int × Int)
abbrev V_entry_Entry : VT := (.ag (.cons (.int .u64) (.cons (.int .u64) (.cons (.int .u64) (.cons (.int .u64) (.cons (.int .i64) (.cons (.int .i64) .nil)))))))
abbrev entry_Entry := (Int × Int × Int × Int × Int × Int)
abbrev V_prefix_Prefix : VT := (.ag (.cons (.int .u64) (.cons (.int .u64) (.cons (.int .i64) .nil))))
abbrev prefix_Prefix := (Int × Int × Int)
abbrev V_rib_Route : VT := (.ag (.cons (.int .u64) (.cons (.int .u64) (.cons (.int .i64) (.cons (.int .i64) .nil)))))
abbrev rib_Route := (Int × Int × Int × Int)
abbrev V_bank_Slot : VT := (.ag (.cons .bool (.cons (.int .u64) (.cons (.int .u64) (.cons (.int .u64) (.cons (.int .u64) (.cons (.int .i64) (.cons (.int .i64) .nil))))))))
abbrev bank_Slot := (Bool × Int × Int × Int × Int × Int × Int)
abbrev V_bank_Write : VT := (.ag (.cons (.int .i64) (.cons .bool (.cons (.int .u64) (.cons (.int .u64) (.cons (.int .u64) (.cons (.int .u64) (.cons (.int .i64) (.cons (.int .i64) .nil)))))))))
abbrev bank_Write := (Int × Bool × Int × Int × Int × Int × Int × Int)
abbrev V_diff_Step : VT := (.ag (.cons (.int .i64) (.cons (.int .u64) (.cons (.int .u64) (.cons (.int .u64) (.cons (.int .u64) (.cons (.int .i64) (.cons (.int .i64) .nil))))))))
abbrev diff_Step := (Int × Int × Int × Int × Int × Int × Int)
def tys : List (TypeId × TI) := [(3, { vt := (.sc (.int .i64)), bytes := 8, flds := [], arr := (0, 0, false), eb := 0 }),
  (4, { vt := (.sc .bool), bytes := 1, flds := [], arr := (0, 0, false), eb := 0 }),
  (22, { vt := (.sc (.sl V_entry_Entry)), bytes := 24, flds := [], arr := (0, 0, false), eb := 48 }),
  (23, { vt := (.sc (.int .u64)), bytes := 8, flds := [], arr := (0, 0, false), eb := 0 }),
  (24, { vt := V_addr_Addr, bytes := 16, flds := [], arr := (2, 1, false), eb := 0 }),
  (25, { vt := V_addr_Addr, bytes := 16, flds := [], arr := (2, 1, false), eb := 0 }),
  (27, { vt := (.sc (.sl V_entry_Entry)), bytes := 24, flds := [], arr := (0, 0, false), eb := 48 }),
  (34, { vt := (.sc (.sl V_rib_Route)), bytes := 24, flds := [], arr := (0, 0, false), eb := 32 }),
  (37, { vt := (.sc (.sl V_rib_Route)), bytes := 24, flds := [], arr := (0, 0, false), eb := 32 }),
  (41, { vt := (.sc (.sl V_bank_Slot)), bytes := 24, flds := [], arr := (0, 0, false), eb := 56 }),
  (43, { vt := V_word_Word, bytes := 32, flds := [(0, 2, true), (2, 2, true)], arr := (0, 0, false), eb := 0 }),
  (45, { vt := V_entry_Entry, bytes := 48, flds := [(0, 4, true), (4, 1, false), (5, 1, false)], arr := (0, 0, false), eb := 0 }),
  (54, { vt := V_word_Word, bytes := 32, flds := [(0, 2, true), (2, 2, true)], arr := (0, 0, false), eb := 0 }),
  (56, { vt := V_entry_Entry, bytes := 48, flds := [(0, 4, true), (4, 1, false), (5, 1, false)], arr := (0, 0, false), eb := 0 }),
  (60, { vt := V_prefix_Prefix, bytes := 24, flds := [(0, 2, true), (2, 1, false)], arr := (0, 0, false), eb := 0 }),
  (63, { vt := V_rib_Route, bytes := 32, flds := [(0, 3, true), (3, 1, false)], arr := (0, 0, false), eb := 0 }),
  (73, { vt := V_prefix_Prefix, bytes := 24, flds := [(0, 2, true), (2, 1, false)], arr := (0, 0, false), eb := 0 }),
  (75, { vt := V_rib_Route, bytes := 32, flds := [(0, 3, true), (3, 1, false)], arr := (0, 0, false), eb := 0 }),
  (87, { vt := V_bank_Slot, bytes := 56, flds := [(0, 1, false), (1, 6, true)], arr := (0, 0, false), eb := 0 }),
  (89, { vt := (.sc (.sl V_bank_Write)), bytes := 24, flds := [], arr := (0, 0, false), eb := 64 }),
  (90, { vt := (.sc (.int .i64)), bytes := 8, flds := [], arr := (0, 0, false), eb := 0 }),
  (94, { vt := V_bank_Write, bytes := 64, flds := [(0, 1, false), (1, 7, true)], arr := (0, 0, false), eb := 0 }),
  (104, { vt := (.sc (.sl (.sc .bool))), bytes := 24, flds := [], arr := (0, 0, false), eb := 1 }),
  (126, { vt := (.sc (.sl (.sc (.int .i64)))), bytes := 24, flds := [], arr := (0, 0, false), eb := 8 })]
def sortE (x : List Ent) : Option (List Ent) := cond (Nat.ble x.length 4096) (some (srtE x)) none
noncomputable def sortE.con (N : Nat) : Con := ⟨[.d (.sc (.sl V_entry_Entry))], [.fresh V_entry_Entry], fun z => sortE z.1⟩
def clz64 : Nat → Int → Option Int
  | 0 => fun _ => none
  | _ + 1 => clzF
noncomputable def clz64.con (N : Nat) : Con := ⟨[.d (.sc (.int .u64))], [.d (.sc (.int .i64))], fun z => clz64 N z.1⟩
-- pigeonhole/pigeonholeref01.Bits
noncomputable def ref01_Bits.l0s (N : Nat) (L1 : addr_Addr → Int → Int → (List Bool) → Option (List Bool)) (S0 : addr_Addr → Int → Int → (List Bool) → Option (List Bool)) : addr_Addr → Int → Int → (List Bool) → Option (List Bool) := fun (x0 : addr_Addr) (p0_t_5_0 : Int) (p0_t_6_0 : Int) (p0_b_7 : (List Bool)) =>
  cond (decide (p0_t_6_0 ≥ 0)) (cond (2 == 0) none ((idx p0_b_7 (w_i64 (0 + p0_t_6_0))).bind fun y1 => cond (2 == 0) none (S0 x0 (w_u64 (Int.tdiv p0_t_5_0 2)) (w_i64 (p0_t_6_0 - 1)) (List.set p0_b_7 (Int.toNat (w_i64 (0 + p0_t_6_0))) ((Int.tmod p0_t_5_0 2) == 1))))) (L1 x0 x0.2 63 p0_b_7)
noncomputable def ref01_Bits.l1s (N : Nat) (S1 : addr_Addr → Int → Int → (List Bool) → Option (List Bool)) : addr_Addr → Int → Int → (List Bool) → Option (List Bool) := fun (x0 : addr_Addr) (p1_t_5_0 : Int) (p1_t_6_0 : Int) (p1_b_7 : (List Bool)) =>
  cond (decide (p1_t_6_0 ≥ 0)) (cond (2 == 0) none ((idx p1_b_7 (w_i64 (64 + p1_t_6_0))).bind fun y2 => cond (2 == 0) none (S1 x0 (w_u64 (Int.tdiv p1_t_5_0 2)) (w_i64 (p1_t_6_0 - 1)) (List.set p1_b_7 (Int.toNat (w_i64 (64 + p1_t_6_0))) ((Int.tmod p1_t_5_0 2) == 1))))) (some p1_b_7)
noncomputable def ref01_Bits.l1 (N : Nat) : Nat → addr_Addr → Int → Int → (List Bool) → Option (List Bool)
  | 0 => fun _ _ _ _ => none
  | n + 1 => ref01_Bits.l1s N (ref01_Bits.l1 N n)
noncomputable def ref01_Bits.l0 (N : Nat) : Nat → addr_Addr → Int → Int → (List Bool) → Option (List Bool)
  | 0 => fun _ _ _ _ => none
  | n + 1 => ref01_Bits.l0s N (ref01_Bits.l1 N N) (ref01_Bits.l0 N n)
noncomputable def ref01_Bits.b (N : Nat) (L0 : addr_Addr → Int → Int → (List Bool) → Option (List Bool)) (x0 : addr_Addr) : Option (List Bool) :=
  grd (decide (0 ≤ 128)) (grd (128 == 128) (grd (decide ((Int.toNat 128) * 1 ≤ room)) (L0 x0 x0.1 63 (List.replicate (Int.toNat 128) false))))
noncomputable def ref01_Bits (N : Nat) (x0 : addr_Addr) : Option (List Bool) := ref01_Bits.b N (ref01_Bits.l0 N N) x0
noncomputable def ref01_Bits.con (N : Nat) : Con := ⟨[.d V_addr_Addr], [.fresh (.sc .bool)], fun z => ref01_Bits N z.1⟩
-- pigeonhole/pigeonholeref04.Meet
noncomputable def ref04_Meet.l0s (N : Nat) (S0 : (List Bool) → (List Bool) → (List Bool) → (List Bool) → Int → Option Bool) : (List Bool) → (List Bool) → (List Bool) → (List Bool) → Int → Option Bool := fun (y1 : (List Bool)) (y2 : (List Bool)) (y3 : (List Bool)) (y4 : (List Bool)) (p0_t_9_0 : Int) =>
  cond (decide (p0_t_9_0 < 128)) ((idx y2 p0_t_9_0).bind fun y5 => (cond y5 ((idx y4 p0_t_9_0).bind fun y6 => some y6) (some false)).bind fun v7 => (cond v7 ((idx y1 p0_t_9_0).bind fun y8 => (idx y3 p0_t_9_0).bind fun y9 => some (!(y8 == y9))) (some false)).bind fun v10 => cond v10 (some false) (S0 y1 y2 y3 y4 (w_i64 (p0_t_9_0 + 1)))) (some true)
noncomputable def ref04_Meet.l0 (N : Nat) : Nat → (List Bool) → (List Bool) → (List Bool) → (List Bool) → Int → Option Bool
  | 0 => fun _ _ _ _ _ => none
  | n + 1 => ref04_Meet.l0s N (ref04_Meet.l0 N n)
noncomputable def ref04_Meet.b (N : Nat) (L0 : (List Bool) → (List Bool) → (List Bool) → (List Bool) → Int → Option Bool) (x0 : word_Word) (x1 : word_Word) : Option Bool :=
  (ref01_Bits N (x0.1, x0.2.1)).bind fun y1 => (ref01_Bits N x0.2.2).bind fun y2 => (ref01_Bits N (x1.1, x1.2.1)).bind fun y3 => (ref01_Bits N x1.2.2).bind fun y4 => L0 y1 y2 y3 y4 0
noncomputable def ref04_Meet (N : Nat) (x0 : word_Word) (x1 : word_Word) : Option Bool := ref04_Meet.b N (ref04_Meet.l0 N N) x0 x1
noncomputable def ref04_Meet.con (N : Nat) : Con := ⟨[.d V_word_Word, .d V_word_Word], [.d (.sc .bool)], fun z => ref04_Meet N z.1 z.2.1⟩
-- pigeonhole/pigeonholeref10.Simple
noncomputable def ref10_Simple.l0s (N : Nat) (L1 : (List entry_Entry) → Int → Int → Option Bool) (S0 : (List entry_Entry) → Int → Option Bool) : (List entry_Entry) → Int → Option Bool := fun (x0 : (List entry_Entry)) (p0_t_3_0 : Int) =>
  cond (decide (p0_t_3_0 < ((List.length x0 : Nat) : Int))) (L1 x0 p0_t_3_0 0) (some true)
noncomputable def ref10_Simple.l1s (N : Nat) (S0 : (List entry_Entry) → Int → Option Bool) (S1 : (List entry_Entry) → Int → Int → Option Bool) : (List entry_Entry) → Int → Int → Option Bool := fun (x0 : (List entry_Entry)) (p0_t_3_0 : Int) (p1_t_4_0 : Int) =>
  cond (decide (p1_t_4_0 < p0_t_3_0)) ((idx x0 p0_t_3_0).bind fun y1 => (idx x0 p1_t_4_0).bind fun y2 => (cond (y1.2.2.2.2.1 == y2.2.2.2.2.1) ((idx x0 p0_t_3_0).bind fun y3 => (idx x0 p1_t_4_0).bind fun y4 => (ref04_Meet N (y3.1, y3.2.1, y3.2.2.1, y3.2.2.2.1) (y4.1, y4.2.1, y4.2.2.1, y4.2.2.2.1)).bind fun y5 => some y5) (some false)).bind fun v6 => cond v6 (some false) (S1 x0 p0_t_3_0 (w_i64 (p1_t_4_0 + 1)))) (S0 x0 (w_i64 (p0_t_3_0 + 1)))
noncomputable def ref10_Simple.l1 (N : Nat) (S0 : (List entry_Entry) → Int → Option Bool) : Nat → (List entry_Entry) → Int → Int → Option Bool
  | 0 => fun _ _ _ => none
  | n + 1 => ref10_Simple.l1s N S0 (ref10_Simple.l1 N S0 n)
noncomputable def ref10_Simple.l0 (N : Nat) : Nat → (List entry_Entry) → Int → Option Bool
  | 0 => fun _ _ => none
  | n + 1 => ref10_Simple.l0s N (ref10_Simple.l1 N (ref10_Simple.l0 N n) N) (ref10_Simple.l0 N n)
noncomputable def ref10_Simple.b (N : Nat) (L0 : (List entry_Entry) → Int → Option Bool) (x0 : (List entry_Entry)) : Option Bool :=
  L0 x0 0
noncomputable def ref10_Simple (N : Nat) (x0 : (List entry_Entry)) : Option Bool := ref10_Simple.b N (ref10_Simple.l0 N N) x0
noncomputable def ref10_Simple.con (N : Nat) : Con := ⟨[.d (.sc (.sl V_entry_Entry))], [.d (.sc .bool)], fun z => ref10_Simple N z.1⟩
-- pigeonhole/pigeonholelaw04.Of
noncomputable def law04_Of.b (N : Nat) (x0 : word_Word) : Option word_Word :=
  some x0
noncomputable def law04_Of (N : Nat) (x0 : word_Word) : Option word_Word := law04_Of.b N x0
noncomputable def law04_Of.con (N : Nat) : Con := ⟨[.d V_word_Word], [.d V_word_Word], fun z => law04_Of N z.1⟩
-- pigeonhole/pigeonholelaw05.One
noncomputable def law05_One.b (N : Nat) (x0 : entry_Entry) : Option entry_Entry :=
  (law04_Of N (x0.1, x0.2.1, x0.2.2.1, x0.2.2.2.1)).bind fun y1 => some (y1.1, y1.2.1, y1.2.2.1, y1.2.2.2, x0.2.2.2.2.1, x0.2.2.2.2.2)
noncomputable def law05_One (N : Nat) (x0 : entry_Entry) : Option entry_Entry := law05_One.b N x0
noncomputable def law05_One.con (N : Nat) : Con := ⟨[.d V_entry_Entry], [.d V_entry_Entry], fun z => law05_One N z.1⟩
-- pigeonhole/pigeonholelaw05.Of
noncomputable def law05_Of.l0s (N : Nat) (S0 : (List entry_Entry) → Int → (List entry_Entry) → Option (List entry_Entry)) : (List entry_Entry) → Int → (List entry_Entry) → Option (List entry_Entry) := fun (x0 : (List entry_Entry)) (p0_t_8_0 : Int) (p0_b_3 : (List entry_Entry)) =>
  cond (decide (p0_t_8_0 < ((List.length x0 : Nat) : Int))) ((idx x0 p0_t_8_0).bind fun y1 => (law05_One N y1).bind fun y2 => grd (decide ((List.length p0_b_3 + List.length ([y2])) * 48 ≤ room)) (S0 x0 (w_i64 (p0_t_8_0 + 1)) (p0_b_3 ++ [y2]))) (some p0_b_3)
noncomputable def law05_Of.l0 (N : Nat) : Nat → (List entry_Entry) → Int → (List entry_Entry) → Option (List entry_Entry)
  | 0 => fun _ _ _ => none
  | n + 1 => law05_Of.l0s N (law05_Of.l0 N n)
noncomputable def law05_Of.b (N : Nat) (L0 : (List entry_Entry) → Int → (List entry_Entry) → Option (List entry_Entry)) (x0 : (List entry_Entry)) : Option (List entry_Entry) :=
  L0 x0 0 ([] : List entry_Entry)
noncomputable def law05_Of (N : Nat) (x0 : (List entry_Entry)) : Option (List entry_Entry) := law05_Of.b N (law05_Of.l0 N N) x0
noncomputable def law05_Of.con (N : Nat) : Con := ⟨[.d (.sc (.sl V_entry_Entry))], [.fresh V_entry_Entry], fun z => law05_Of N z.1⟩
-- cmp.isNaN[int]
noncomputable def cmp_isNaN_int.b (N : Nat) (x0 : Int) : Option Bool :=
  some (x0 != x0)
noncomputable def cmp_isNaN_int (N : Nat) (x0 : Int) : Option Bool := cmp_isNaN_int.b N x0
noncomputable def cmp_isNaN_int.con (N : Nat) : Con := ⟨[.d (.sc (.int .i64))], [.d (.sc .bool)], fun z => cmp_isNaN_int N z.1⟩
-- cmp.Compare[int]
noncomputable def cmp_Compare_int.b (N : Nat) (x0 : Int) (x1 : Int) : Option Int :=
  (cmp_isNaN_int N x0).bind fun y1 => (cmp_isNaN_int N x1).bind fun y2 => cond y1 (cond y2 (some 0) (some (-1))) (cond y2 (some 1) (cond (decide (x0 < x1)) (some (-1)) (cond (decide (x0 > x1)) (some 1) (some 0))))
noncomputable def cmp_Compare_int (N : Nat) (x0 : Int) (x1 : Int) : Option Int := cmp_Compare_int.b N x0 x1
noncomputable def cmp_Compare_int.con (N : Nat) : Con := ⟨[.d (.sc (.int .i64)), .d (.sc (.int .i64))], [.d (.sc (.int .i64))], fun z => cmp_Compare_int N z.1 z.2.1⟩
-- cmp.Or[int]
noncomputable def cmp_Or_int.l0s (N : Nat) (S0 : (List Int) → Int → Option Int) : (List Int) → Int → Option Int := fun (x0 : (List Int)) (p0_t_8_0 : Int) =>
  cond (decide (p0_t_8_0 < ((List.length x0 : Nat) : Int))) ((idx x0 p0_t_8_0).bind fun y1 => cond (y1 != 0) (some y1) (S0 x0 (w_i64 (p0_t_8_0 + 1)))) (some 0)
noncomputable def cmp_Or_int.l0 (N : Nat) : Nat → (List Int) → Int → Option Int
  | 0 => fun _ _ => none
  | n + 1 => cmp_Or_int.l0s N (cmp_Or_int.l0 N n)
noncomputable def cmp_Or_int.b (N : Nat) (L0 : (List Int) → Int → Option Int) (x0 : (List Int)) : Option Int :=
  L0 x0 0
noncomputable def cmp_Or_int (N : Nat) (x0 : (List Int)) : Option Int := cmp_Or_int.b N (cmp_Or_int.l0 N N) x0
noncomputable def cmp_Or_int.con (N : Nat) : Con := ⟨[.d (.sc (.sl (.sc (.int .i64))))], [.d (.sc (.int .i64))], fun z => cmp_Or_int N z.1⟩
-- pigeonhole/addr.Compare
noncomputable def addr_Compare.b (N : Nat) (x0 : addr_Addr) (x1 : addr_Addr) : Option Int :=
  cond (decide (x0.1 < x1.1)) (some (-1)) (cond (decide (x0.1 > x1.1)) (some 1) (cond (decide (x0.2 < x1.2)) (some (-1)) (cond (decide (x0.2 > x1.2)) (some 1) (some 0))))
noncomputable def addr_Compare (N : Nat) (x0 : addr_Addr) (x1 : addr_Addr) : Option Int := addr_Compare.b N x0 x1
noncomputable def addr_Compare.con (N : Nat) : Con := ⟨[.d V_addr_Addr, .d V_addr_Addr], [.d (.sc (.int .i64))], fun z => addr_Compare N z.1 z.2.1⟩
-- pigeonhole/entry.Compare
noncomputable def entry_Compare.b (N : Nat) (x0 : entry_Entry) (x1 : entry_Entry) : Option Int :=
  (cmp_Compare_int N x1.2.2.2.2.1 x0.2.2.2.2.1).bind fun y1 => (addr_Compare N (x0.1, x0.2.1) (x1.1, x1.2.1)).bind fun y2 => (addr_Compare N (x0.2.2.1, x0.2.2.2.1) (x1.2.2.1, x1.2.2.2.1)).bind fun y3 => (cmp_Compare_int N x0.2.2.2.2.2 x1.2.2.2.2.2).bind fun y4 => (cmp_Or_int N ([y1, y2, y3, y4])).bind fun y5 => some y5
noncomputable def entry_Compare (N : Nat) (x0 : entry_Entry) (x1 : entry_Entry) : Option Int := entry_Compare.b N x0 x1
noncomputable def entry_Compare.con (N : Nat) : Con := ⟨[.d V_entry_Entry, .d V_entry_Entry], [.d (.sc (.int .i64))], fun z => entry_Compare N z.1 z.2.1⟩
-- math/bits.OnesCount64
noncomputable def bits_OnesCount64.b (N : Nat) (x0 : Int) : Option Int :=
  grd (decide (0 ≤ 1)) (grd (decide (0 ≤ 2)) (grd (decide (0 ≤ 4)) (grd (decide (0 ≤ 8)) (grd (decide (0 ≤ 16)) (grd (decide (0 ≤ 32)) (some (b_and .i64 (w_i64 (w_u64 ((w_u64 ((w_u64 ((b_and .u64 (w_u64 ((b_shr .u64 (w_u64 ((b_and .u64 (b_shr .u64 (w_u64 ((b_and .u64 (b_shr .u64 x0 1) 6148914691236517205) + (b_and .u64 x0 6148914691236517205))) 2) 3689348814741910323) + (b_and .u64 (w_u64 ((b_and .u64 (b_shr .u64 x0 1) 6148914691236517205) + (b_and .u64 x0 6148914691236517205))) 3689348814741910323))) 4) + (w_u64 ((b_and .u64 (b_shr .u64 (w_u64 ((b_and .u64 (b_shr .u64 x0 1) 6148914691236517205) + (b_and .u64 x0 6148914691236517205))) 2) 3689348814741910323) + (b_and .u64 (w_u64 ((b_and .u64 (b_shr .u64 x0 1) 6148914691236517205) + (b_and .u64 x0 6148914691236517205))) 3689348814741910323))))) 1085102592571150095) + (b_shr .u64 (b_and .u64 (w_u64 ((b_shr .u64 (w_u64 ((b_and .u64 (b_shr .u64 (w_u64 ((b_and .u64 (b_shr .u64 x0 1) 6148914691236517205) + (b_and .u64 x0 6148914691236517205))) 2) 3689348814741910323) + (b_and .u64 (w_u64 ((b_and .u64 (b_shr .u64 x0 1) 6148914691236517205) + (b_and .u64 x0 6148914691236517205))) 3689348814741910323))) 4) + (w_u64 ((b_and .u64 (b_shr .u64 (w_u64 ((b_and .u64 (b_shr .u64 x0 1) 6148914691236517205) + (b_and .u64 x0 6148914691236517205))) 2) 3689348814741910323) + (b_and .u64 (w_u64 ((b_and .u64 (b_shr .u64 x0 1) 6148914691236517205) + (b_and .u64 x0 6148914691236517205))) 3689348814741910323))))) 1085102592571150095) 8))) + (b_shr .u64 (w_u64 ((b_and .u64 (w_u64 ((b_shr .u64 (w_u64 ((b_and .u64 (b_shr .u64 (w_u64 ((b_and .u64 (b_shr .u64 x0 1) 6148914691236517205) + (b_and .u64 x0 6148914691236517205))) 2) 3689348814741910323) + (b_and .u64 (w_u64 ((b_and .u64 (b_shr .u64 x0 1) 6148914691236517205) + (b_and .u64 x0 6148914691236517205))) 3689348814741910323))) 4) + (w_u64 ((b_and .u64 (b_shr .u64 (w_u64 ((b_and .u64 (b_shr .u64 x0 1) 6148914691236517205) + (b_and .u64 x0 6148914691236517205))) 2) 3689348814741910323) + (b_and .u64 (w_u64 ((b_and .u64 (b_shr .u64 x0 1) 6148914691236517205) + (b_and .u64 x0 6148914691236517205))) 3689348814741910323))))) 1085102592571150095) + (b_shr .u64 (b_and .u64 (w_u64 ((b_shr .u64 (w_u64 ((b_and .u64 (b_shr .u64 (w_u64 ((b_and .u64 (b_shr .u64 x0 1) 6148914691236517205) + (b_and .u64 x0 6148914691236517205))) 2) 3689348814741910323) + (b_and .u64 (w_u64 ((b_and .u64 (b_shr .u64 x0 1) 6148914691236517205) + (b_and .u64 x0 6148914691236517205))) 3689348814741910323))) 4) + (w_u64 ((b_and .u64 (b_shr .u64 (w_u64 ((b_and .u64 (b_shr .u64 x0 1) 6148914691236517205) + (b_and .u64 x0 6148914691236517205))) 2) 3689348814741910323) + (b_and .u64 (w_u64 ((b_and .u64 (b_shr .u64 x0 1) 6148914691236517205) + (b_and .u64 x0 6148914691236517205))) 3689348814741910323))))) 1085102592571150095) 8))) 16))) + (b_shr .u64 (w_u64 ((w_u64 ((b_and .u64 (w_u64 ((b_shr .u64 (w_u64 ((b_and .u64 (b_shr .u64 (w_u64 ((b_and .u64 (b_shr .u64 x0 1) 6148914691236517205) + (b_and .u64 x0 6148914691236517205))) 2) 3689348814741910323) + (b_and .u64 (w_u64 ((b_and .u64 (b_shr .u64 x0 1) 6148914691236517205) + (b_and .u64 x0 6148914691236517205))) 3689348814741910323))) 4) + (w_u64 ((b_and .u64 (b_shr .u64 (w_u64 ((b_and .u64 (b_shr .u64 x0 1) 6148914691236517205) + (b_and .u64 x0 6148914691236517205))) 2) 3689348814741910323) + (b_and .u64 (w_u64 ((b_and .u64 (b_shr .u64 x0 1) 6148914691236517205) + (b_and .u64 x0 6148914691236517205))) 3689348814741910323))))) 1085102592571150095) + (b_shr .u64 (b_and .u64 (w_u64 ((b_shr .u64 (w_u64 ((b_and .u64 (b_shr .u64 (w_u64 ((b_and .u64 (b_shr .u64 x0 1) 6148914691236517205) + (b_and .u64 x0 6148914691236517205))) 2) 3689348814741910323) + (b_and .u64 (w_u64 ((b_and .u64 (b_shr .u64 x0 1) 6148914691236517205) + (b_and .u64 x0 6148914691236517205))) 3689348814741910323))) 4) + (w_u64 ((b_and .u64 (b_shr .u64 (w_u64 ((b_and .u64 (b_shr .u64 x0 1) 6148914691236517205) + (b_and .u64 x0 6148914691236517205))) 2) 3689348814741910323) + (b_and .u64 (w_u64 ((b_and .u64 (b_shr .u64 x0 1) 6148914691236517205) + (b_and .u64 x0 6148914691236517205))) 3689348814741910323))))) 1085102592571150095) 8))) + (b_shr .u64 (w_u64 ((b_and .u64 (w_u64 ((b_shr .u64 (w_u64 ((b_and .u64 (b_shr .u64 (w_u64 ((b_and .u64 (b_shr .u64 x0 1) 6148914691236517205) + (b_and .u64 x0 6148914691236517205))) 2) 3689348814741910323) + (b_and .u64 (w_u64 ((b_and .u64 (b_shr .u64 x0 1) 6148914691236517205) + (b_and .u64 x0 6148914691236517205))) 3689348814741910323))) 4) + (w_u64 ((b_and .u64 (b_shr .u64 (w_u64 ((b_and .u64 (b_shr .u64 x0 1) 6148914691236517205) + (b_and .u64 x0 6148914691236517205))) 2) 3689348814741910323) + (b_and .u64 (w_u64 ((b_and .u64 (b_shr .u64 x0 1) 6148914691236517205) + (b_and .u64 x0 6148914691236517205))) 3689348814741910323))))) 1085102592571150095) + (b_shr .u64 (b_and .u64 (w_u64 ((b_shr .u64 (w_u64 ((b_and .u64 (b_shr .u64 (w_u64 ((b_and .u64 (b_shr .u64 x0 1) 6148914691236517205) + (b_and .u64 x0 6148914691236517205))) 2) 3689348814741910323) + (b_and .u64 (w_u64 ((b_and .u64 (b_shr .u64 x0 1) 6148914691236517205) + (b_and .u64 x0 6148914691236517205))) 3689348814741910323))) 4) + (w_u64 ((b_and .u64 (b_shr .u64 (w_u64 ((b_and .u64 (b_shr .u64 x0 1) 6148914691236517205) + (b_and .u64 x0 6148914691236517205))) 2) 3689348814741910323) + (b_and .u64 (w_u64 ((b_and .u64 (b_shr .u64 x0 1) 6148914691236517205) + (b_and .u64 x0 6148914691236517205))) 3689348814741910323))))) 1085102592571150095) 8))) 16))) 32)))) 127)))))))
noncomputable def bits_OnesCount64 (N : Nat) (x0 : Int) : Option Int := bits_OnesCount64.b N x0
noncomputable def bits_OnesCount64.con (N : Nat) : Con := ⟨[.d (.sc (.int .u64))], [.d (.sc (.int .i64))], fun z => bits_OnesCount64 N z.1⟩
-- pigeonhole/addr.Ones
noncomputable def addr_Ones.b (N : Nat) (x0 : addr_Addr) : Option Int :=
  (bits_OnesCount64 N x0.1).bind fun y1 => (bits_OnesCount64 N x0.2).bind fun y2 => some (w_i64 (y1 + y2))
noncomputable def addr_Ones (N : Nat) (x0 : addr_Addr) : Option Int := addr_Ones.b N x0
noncomputable def addr_Ones.con (N : Nat) : Con := ⟨[.d V_addr_Addr], [.d (.sc (.int .i64))], fun z => addr_Ones N z.1⟩
-- pigeonhole/addr.And
noncomputable def addr_And.b (N : Nat) (x0 : addr_Addr) (x1 : addr_Addr) : Option addr_Addr :=
  some ((b_and .u64 x0.1 x1.1), (b_and .u64 x0.2 x1.2))
noncomputable def addr_And (N : Nat) (x0 : addr_Addr) (x1 : addr_Addr) : Option addr_Addr := addr_And.b N x0 x1
noncomputable def addr_And.con (N : Nat) : Con := ⟨[.d V_addr_Addr, .d V_addr_Addr], [.d V_addr_Addr], fun z => addr_And N z.1 z.2.1⟩
-- pigeonhole/addr.Xor
noncomputable def addr_Xor.b (N : Nat) (x0 : addr_Addr) (x1 : addr_Addr) : Option addr_Addr :=
  some ((b_xor .u64 x0.1 x1.1), (b_xor .u64 x0.2 x1.2))
noncomputable def addr_Xor (N : Nat) (x0 : addr_Addr) (x1 : addr_Addr) : Option addr_Addr := addr_Xor.b N x0 x1
noncomputable def addr_Xor.con (N : Nat) : Con := ⟨[.d V_addr_Addr, .d V_addr_Addr], [.d V_addr_Addr], fun z => addr_Xor N z.1 z.2.1⟩
-- pigeonhole/word.differ
noncomputable def word_differ.b (N : Nat) (x0 : addr_Addr) (x1 : addr_Addr) (x2 : addr_Addr) : Option addr_Addr :=
  (addr_Xor N x0 x1).bind fun y1 => (addr_And N y1 x2).bind fun y2 => some y2
noncomputable def word_differ (N : Nat) (x0 : addr_Addr) (x1 : addr_Addr) (x2 : addr_Addr) : Option addr_Addr := word_differ.b N x0 x1 x2
noncomputable def word_differ.con (N : Nat) : Con := ⟨[.d V_addr_Addr, .d V_addr_Addr, .d V_addr_Addr], [.d V_addr_Addr], fun z => word_differ N z.1 z.2.1 z.2.2.1⟩
-- pigeonhole/word.clean
noncomputable def word_clean.b (N : Nat) (x0 : word_Word) : Option word_Word :=
  (addr_And N (x0.1, x0.2.1) x0.2.2).bind fun y1 => some (y1.1, y1.2, x0.2.2.1, x0.2.2.2)
noncomputable def word_clean (N : Nat) (x0 : word_Word) : Option word_Word := word_clean.b N x0
noncomputable def word_clean.con (N : Nat) : Con := ⟨[.d V_word_Word], [.d V_word_Word], fun z => word_clean N z.1⟩
-- pigeonhole/word.Merge
noncomputable def word_Merge.b (N : Nat) (x0 : word_Word) (x1 : word_Word) : Option (word_Word × Bool) :=
  (word_differ N (x0.1, x0.2.1) (x1.1, x1.2.1) x0.2.2).bind fun y1 => (cond (!(eqI x0.2.2.1 x1.2.2.1 (eqI x0.2.2.2 x1.2.2.2 true))) (some true) ((addr_Ones N y1).bind fun y2 => some (y2 != 1))).bind fun v3 => cond v3 (some ((0, 0, 0, 0), false)) ((addr_Xor N x0.2.2 y1).bind fun y4 => (word_clean N (x0.1, x0.2.1, y4.1, y4.2)).bind fun y5 => some (y5, true))
noncomputable def word_Merge (N : Nat) (x0 : word_Word) (x1 : word_Word) : Option (word_Word × Bool) := word_Merge.b N x0 x1
noncomputable def word_Merge.con (N : Nat) : Con := ⟨[.d V_word_Word, .d V_word_Word], [.d V_word_Word, .d (.sc .bool)], fun z => word_Merge N z.1 z.2.1⟩
-- pigeonhole/merge.two
noncomputable def merge_two.l0s (N : Nat) (L1 : (List entry_Entry) → Int → entry_Entry → Int → Option (Int × Int × word_Word × Bool)) (S0 : (List entry_Entry) → Int → Option (Int × Int × word_Word × Bool)) : (List entry_Entry) → Int → Option (Int × Int × word_Word × Bool) := fun (x0 : (List entry_Entry)) (p0_t_13_0 : Int) =>
  cond (decide (p0_t_13_0 < ((List.length x0 : Nat) : Int))) ((idx x0 p0_t_13_0).bind fun y1 => L1 x0 p0_t_13_0 y1 (w_i64 (p0_t_13_0 + 1))) (some (0, 0, (0, 0, 0, 0), false))
noncomputable def merge_two.l1s (N : Nat) (S0 : (List entry_Entry) → Int → Option (Int × Int × word_Word × Bool)) (S1 : (List entry_Entry) → Int → entry_Entry → Int → Option (Int × Int × word_Word × Bool)) : (List entry_Entry) → Int → entry_Entry → Int → Option (Int × Int × word_Word × Bool) := fun (x0 : (List entry_Entry)) (p0_t_13_0 : Int) (y1 : entry_Entry) (p1_t_8_0 : Int) =>
  (cond (decide (p1_t_8_0 < ((List.length x0 : Nat) : Int))) ((idx x0 p1_t_8_0).bind fun y2 => some (y2.2.2.2.2.1 == y1.2.2.2.2.1)) (some false)).bind fun v3 => cond v3 ((idx x0 p1_t_8_0).bind fun y4 => cond (y4.2.2.2.2.2 != y1.2.2.2.2.2) (S1 x0 p0_t_13_0 y1 (w_i64 (p1_t_8_0 + 1))) ((idx x0 p1_t_8_0).bind fun y5 => (word_Merge N (y1.1, y1.2.1, y1.2.2.1, y1.2.2.2.1) (y5.1, y5.2.1, y5.2.2.1, y5.2.2.2.1)).bind fun y6 => cond y6.2 (some (p0_t_13_0, p1_t_8_0, y6.1, true)) (S1 x0 p0_t_13_0 y1 (w_i64 (p1_t_8_0 + 1))))) (S0 x0 (w_i64 (p0_t_13_0 + 1)))
noncomputable def merge_two.l1 (N : Nat) (S0 : (List entry_Entry) → Int → Option (Int × Int × word_Word × Bool)) : Nat → (List entry_Entry) → Int → entry_Entry → Int → Option (Int × Int × word_Word × Bool)
  | 0 => fun _ _ _ _ => none
  | n + 1 => merge_two.l1s N S0 (merge_two.l1 N S0 n)
noncomputable def merge_two.l0 (N : Nat) : Nat → (List entry_Entry) → Int → Option (Int × Int × word_Word × Bool)
  | 0 => fun _ _ => none
  | n + 1 => merge_two.l0s N (merge_two.l1 N (merge_two.l0 N n) N) (merge_two.l0 N n)
noncomputable def merge_two.b (N : Nat) (L0 : (List entry_Entry) → Int → Option (Int × Int × word_Word × Bool)) (x0 : (List entry_Entry)) : Option (Int × Int × word_Word × Bool) :=
  L0 x0 0
noncomputable def merge_two (N : Nat) (x0 : (List entry_Entry)) : Option (Int × Int × word_Word × Bool) := merge_two.b N (merge_two.l0 N N) x0
noncomputable def merge_two.con (N : Nat) : Con := ⟨[.d (.sc (.sl V_entry_Entry))], [.d (.sc (.int .i64)), .d (.sc (.int .i64)), .d V_word_Word, .d (.sc .bool)], fun z => merge_two N z.1⟩
-- pigeonhole/merge.Merge
noncomputable def merge_Merge.l0s (N : Nat) (L1 : (List entry_Entry) → (Int × Int × word_Word × Bool) → Int → (List entry_Entry) → Option (List entry_Entry)) (S0 : (List entry_Entry) → Option (List entry_Entry)) : (List entry_Entry) → Option (List entry_Entry) := fun (p0_b_500003 : (List entry_Entry)) =>
  (merge_two N p0_b_500003).bind fun y2 => cond y2.2.2.2 (L1 p0_b_500003 y2 0 ([] : List entry_Entry)) (some p0_b_500003)
noncomputable def merge_Merge.l1s (N : Nat) (S0 : (List entry_Entry) → Option (List entry_Entry)) (S1 : (List entry_Entry) → (Int × Int × word_Word × Bool) → Int → (List entry_Entry) → Option (List entry_Entry)) : (List entry_Entry) → (Int × Int × word_Word × Bool) → Int → (List entry_Entry) → Option (List entry_Entry) := fun (p0_b_500003 : (List entry_Entry)) (y2 : (Int × Int × word_Word × Bool)) (p1_t_23_0 : Int) (p1_b_8 : (List entry_Entry)) =>
  cond (decide (p1_t_23_0 < ((List.length p0_b_500003 : Nat) : Int))) ((idx p0_b_500003 p1_t_23_0).bind fun y3 => (cond (p1_t_23_0 != y2.1) (some (p1_t_23_0 != y2.2.1)) (some false)).bind fun v4 => cond v4 (grd (decide ((List.length p1_b_8 + List.length ([y3])) * 48 ≤ room)) (S1 p0_b_500003 y2 (w_i64 (p1_t_23_0 + 1)) (p1_b_8 ++ [y3]))) (S1 p0_b_500003 y2 (w_i64 (p1_t_23_0 + 1)) p1_b_8)) ((idx p0_b_500003 y2.1).bind fun y5 => (idx p0_b_500003 y2.1).bind fun y6 => grd (decide ((List.length p1_b_8 + List.length ([(y2.2.2.1.1, y2.2.2.1.2.1, y2.2.2.1.2.2.1, y2.2.2.1.2.2.2, y5.2.2.2.2.1, y6.2.2.2.2.2)])) * 48 ≤ room)) ((sortE (p1_b_8 ++ [(y2.2.2.1.1, y2.2.2.1.2.1, y2.2.2.1.2.2.1, y2.2.2.1.2.2.2, y5.2.2.2.2.1, y6.2.2.2.2.2)])).bind fun y7 => S0 y7))
noncomputable def merge_Merge.l1 (N : Nat) (S0 : (List entry_Entry) → Option (List entry_Entry)) : Nat → (List entry_Entry) → (Int × Int × word_Word × Bool) → Int → (List entry_Entry) → Option (List entry_Entry)
  | 0 => fun _ _ _ _ => none
  | n + 1 => merge_Merge.l1s N S0 (merge_Merge.l1 N S0 n)
noncomputable def merge_Merge.l0 (N : Nat) : Nat → (List entry_Entry) → Option (List entry_Entry)
  | 0 => fun _ => none
  | n + 1 => merge_Merge.l0s N (merge_Merge.l1 N (merge_Merge.l0 N n) N) (merge_Merge.l0 N n)
noncomputable def merge_Merge.b (N : Nat) (L0 : (List entry_Entry) → Option (List entry_Entry)) (x0 : (List entry_Entry)) : Option (List entry_Entry) :=
  (sortE x0).bind fun y1 => L0 y1
noncomputable def merge_Merge (N : Nat) (x0 : (List entry_Entry)) : Option (List entry_Entry) := merge_Merge.b N (merge_Merge.l0 N N) x0
noncomputable def merge_Merge.con (N : Nat) : Con := ⟨[.d (.sc (.sl V_entry_Entry))], [.fresh V_entry_Entry], fun z => merge_Merge N z.1⟩
-- pigeonhole/merge.Mode
noncomputable def merge_Mode.b (N : Nat) (x0 : Int) : Option Bool :=
  (cond (decide (x0 ≥ 0)) (some (decide (x0 ≤ 2))) (some false)).bind fun v1 => some v1
noncomputable def merge_Mode (N : Nat) (x0 : Int) : Option Bool := merge_Mode.b N x0
noncomputable def merge_Mode.con (N : Nat) : Con := ⟨[.d (.sc (.int .i64))], [.d (.sc .bool)], fun z => merge_Mode N z.1⟩
-- pigeonhole/addr.Common
noncomputable def addr_Common.b (N : Nat) (x0 : addr_Addr) (x1 : addr_Addr) : Option Int :=
  (addr_Xor N x0 x1).bind fun y1 => cond (y1.1 != 0) ((clz64 N y1.1).bind fun y2 => some y2) ((clz64 N y1.2).bind fun y3 => some (w_i64 (64 + y3)))
noncomputable def addr_Common (N : Nat) (x0 : addr_Addr) (x1 : addr_Addr) : Option Int := addr_Common.b N x0 x1
noncomputable def addr_Common.con (N : Nat) : Con := ⟨[.d V_addr_Addr, .d V_addr_Addr], [.d (.sc (.int .i64))], fun z => addr_Common N z.1 z.2.1⟩
-- pigeonhole/prefix.Match
noncomputable def prefix_Match.b (N : Nat) (x0 : prefix_Prefix) (x1 : addr_Addr) : Option Bool :=
  (addr_Common N (x0.1, x0.2.1) x1).bind fun y1 => some (decide (y1 ≥ (minI (maxI x0.2.2 0) 128)))
noncomputable def prefix_Match (N : Nat) (x0 : prefix_Prefix) (x1 : addr_Addr) : Option Bool := prefix_Match.b N x0 x1
noncomputable def prefix_Match.con (N : Nat) : Con := ⟨[.d V_prefix_Prefix, .d V_addr_Addr], [.d (.sc .bool)], fun z => prefix_Match N z.1 z.2.1⟩
-- pigeonhole/prefix.Covers
noncomputable def prefix_Covers.b (N : Nat) (x0 : prefix_Prefix) (x1 : prefix_Prefix) : Option Bool :=
  (cond (decide (x1.2.2 ≥ x0.2.2)) ((prefix_Match N x0 (x1.1, x1.2.1)).bind fun y1 => some y1) (some false)).bind fun v2 => some v2
noncomputable def prefix_Covers (N : Nat) (x0 : prefix_Prefix) (x1 : prefix_Prefix) : Option Bool := prefix_Covers.b N x0 x1
noncomputable def prefix_Covers.con (N : Nat) : Con := ⟨[.d V_prefix_Prefix, .d V_prefix_Prefix], [.d (.sc .bool)], fun z => prefix_Covers N z.1 z.2.1⟩
-- pigeonhole/prune.Keep$1
noncomputable def prune_Keep_1.b (N : Nat) (x0 : rib_Route) (x1 : (Int × Int × Int × Int)) : Option Bool :=
  (prefix_Covers N (x0.1, x0.2.1, x0.2.2.1) (x1.1, x1.2.1, x1.2.2.1)).bind fun y1 => some y1
noncomputable def prune_Keep_1 (N : Nat) (x0 : rib_Route) (x1 : (Int × Int × Int × Int)) : Option Bool := prune_Keep_1.b N x0 x1
noncomputable def prune_Keep_1.con (N : Nat) : Con := ⟨[.d V_rib_Route, .ref (.cons (.int .u64) (.cons (.int .u64) (.cons (.int .i64) (.cons (.int .i64) .nil))))], [.d (.sc .bool)], fun z => prune_Keep_1 N z.1 z.2.1⟩
-- pigeonhole/prune.Keep
noncomputable def prune_Keep.l0s (N : Nat) (L1 : (List rib_Route) → Int → (List rib_Route) → rib_Route → (List rib_Route) → Option (List rib_Route)) (S0 : (List rib_Route) → Int → (List rib_Route) → (List rib_Route) → Option (List rib_Route)) : (List rib_Route) → Int → (List rib_Route) → (List rib_Route) → Option (List rib_Route) := fun (x0 : (List rib_Route)) (p0_t_10_0 : Int) (p0_b_3 : (List rib_Route)) (p0_b_4 : (List rib_Route)) =>
  cond (decide (p0_t_10_0 < ((List.length x0 : Nat) : Int))) ((idx x0 p0_t_10_0).bind fun y1 => L1 x0 p0_t_10_0 p0_b_3 y1 p0_b_4) (some p0_b_3)
noncomputable def prune_Keep.l1s (N : Nat) (S0 : (List rib_Route) → Int → (List rib_Route) → (List rib_Route) → Option (List rib_Route)) (S1 : (List rib_Route) → Int → (List rib_Route) → rib_Route → (List rib_Route) → Option (List rib_Route)) : (List rib_Route) → Int → (List rib_Route) → rib_Route → (List rib_Route) → Option (List rib_Route) := fun (x0 : (List rib_Route)) (p0_t_10_0 : Int) (p0_b_3 : (List rib_Route)) (y1 : rib_Route) (p1_b_4 : (List rib_Route)) =>
  (cond (decide (((List.length p1_b_4 : Nat) : Int) > 0)) ((idx p1_b_4 (w_i64 (((List.length p1_b_4 : Nat) : Int) - 1))).bind fun y2 => (prune_Keep_1 N y2 y1).bind fun y3 => some (!y3)) (some false)).bind fun v4 => cond v4 (grd (decide (0 ≤ 0)) (grd (decide (0 ≤ (w_i64 (((List.length p1_b_4 : Nat) : Int) - 1)))) (grd (decide ((w_i64 (((List.length p1_b_4 : Nat) : Int) - 1)) ≤ ((List.length p1_b_4 : Nat) : Int))) (S1 x0 p0_t_10_0 p0_b_3 y1 (List.take (Int.toNat (w_i64 (((List.length p1_b_4 : Nat) : Int) - 1))) p1_b_4))))) ((cond (decide (((List.length p1_b_4 : Nat) : Int) > 0)) ((idx p1_b_4 (w_i64 (((List.length p1_b_4 : Nat) : Int) - 1))).bind fun y5 => some (y5.2.2.2 == y1.2.2.2)) (some false)).bind fun v6 => cond v6 (S0 x0 (w_i64 (p0_t_10_0 + 1)) p0_b_3 p1_b_4) (grd (decide ((List.length p1_b_4 + List.length ([y1])) * 32 ≤ room)) (grd (decide ((List.length p0_b_3 + List.length ([y1])) * 32 ≤ room)) (S0 x0 (w_i64 (p0_t_10_0 + 1)) (p0_b_3 ++ [y1]) (p1_b_4 ++ [y1])))))
noncomputable def prune_Keep.l1 (N : Nat) (S0 : (List rib_Route) → Int → (List rib_Route) → (List rib_Route) → Option (List rib_Route)) : Nat → (List rib_Route) → Int → (List rib_Route) → rib_Route → (List rib_Route) → Option (List rib_Route)
  | 0 => fun _ _ _ _ _ => none
  | n + 1 => prune_Keep.l1s N S0 (prune_Keep.l1 N S0 n)
noncomputable def prune_Keep.l0 (N : Nat) : Nat → (List rib_Route) → Int → (List rib_Route) → (List rib_Route) → Option (List rib_Route)
  | 0 => fun _ _ _ _ => none
  | n + 1 => prune_Keep.l0s N (prune_Keep.l1 N (prune_Keep.l0 N n) N) (prune_Keep.l0 N n)
noncomputable def prune_Keep.b (N : Nat) (L0 : (List rib_Route) → Int → (List rib_Route) → (List rib_Route) → Option (List rib_Route)) (x0 : (List rib_Route)) : Option (List rib_Route) :=
  L0 x0 0 ([] : List rib_Route) ([] : List rib_Route)
noncomputable def prune_Keep (N : Nat) (x0 : (List rib_Route)) : Option (List rib_Route) := prune_Keep.b N (prune_Keep.l0 N N) x0
noncomputable def prune_Keep.con (N : Nat) : Con := ⟨[.d (.sc (.sl V_rib_Route))], [.fresh V_rib_Route], fun z => prune_Keep N z.1⟩
-- pigeonhole/addr.Mask
noncomputable def addr_Mask.b (N : Nat) (x0 : Int) : Option addr_Addr :=
  grd (decide (0 ≤ (minI (maxI (w_i64 ((minI (maxI x0 0) 128) - 0)) 0) 64))) (grd (decide (0 ≤ (minI (maxI (w_i64 ((minI (maxI x0 0) 128) - 64)) 0) 64))) (some ((b_not .u64 (b_shr .u64 18446744073709551615 (minI (maxI (w_i64 ((minI (maxI x0 0) 128) - 0)) 0) 64))), (b_not .u64 (b_shr .u64 18446744073709551615 (minI (maxI (w_i64 ((minI (maxI x0 0) 128) - 64)) 0) 64))))))
noncomputable def addr_Mask (N : Nat) (x0 : Int) : Option addr_Addr := addr_Mask.b N x0
noncomputable def addr_Mask.con (N : Nat) : Con := ⟨[.d (.sc (.int .i64))], [.d V_addr_Addr], fun z => addr_Mask N z.1⟩
-- pigeonhole/addr.Cut
noncomputable def addr_Cut.b (N : Nat) (x0 : addr_Addr) (x1 : Int) : Option addr_Addr :=
  (addr_Mask N x1).bind fun y1 => (addr_And N x0 y1).bind fun y2 => some y2
noncomputable def addr_Cut (N : Nat) (x0 : addr_Addr) (x1 : Int) : Option addr_Addr := addr_Cut.b N x0 x1
noncomputable def addr_Cut.con (N : Nat) : Con := ⟨[.d V_addr_Addr, .d (.sc (.int .i64))], [.d V_addr_Addr], fun z => addr_Cut N z.1 z.2.1⟩
-- pigeonhole/prefix.Make
noncomputable def prefix_Make.b (N : Nat) (x0 : addr_Addr) (x1 : Int) : Option prefix_Prefix :=
  (addr_Cut N x0 (minI (maxI x1 0) 128)).bind fun y1 => some (y1.1, y1.2, (minI (maxI x1 0) 128))
noncomputable def prefix_Make (N : Nat) (x0 : addr_Addr) (x1 : Int) : Option prefix_Prefix := prefix_Make.b N x0 x1
noncomputable def prefix_Make.con (N : Nat) : Con := ⟨[.d V_addr_Addr, .d (.sc (.int .i64))], [.d V_prefix_Prefix], fun z => prefix_Make N z.1 z.2.1⟩
-- pigeonhole/word.Of
noncomputable def word_Of.b (N : Nat) (x0 : prefix_Prefix) : Option word_Word :=
  (prefix_Make N (x0.1, x0.2.1) x0.2.2).bind fun y1 => (addr_Mask N y1.2.2).bind fun y2 => some (y1.1, y1.2.1, y2.1, y2.2)
noncomputable def word_Of (N : Nat) (x0 : prefix_Prefix) : Option word_Word := word_Of.b N x0
noncomputable def word_Of.con (N : Nat) : Con := ⟨[.d V_prefix_Prefix], [.d V_word_Word], fun z => word_Of N z.1⟩
-- pigeonhole/entry.Of
noncomputable def entry_Of.b (N : Nat) (x0 : prefix_Prefix) (x1 : Int) : Option entry_Entry :=
  (word_Of N x0).bind fun y1 => (prefix_Make N (x0.1, x0.2.1) x0.2.2).bind fun y2 => some (y1.1, y1.2.1, y1.2.2.1, y1.2.2.2, y2.2.2, x1)
noncomputable def entry_Of (N : Nat) (x0 : prefix_Prefix) (x1 : Int) : Option entry_Entry := entry_Of.b N x0 x1
noncomputable def entry_Of.con (N : Nat) : Con := ⟨[.d V_prefix_Prefix, .d (.sc (.int .i64))], [.d V_entry_Entry], fun z => entry_Of N z.1 z.2.1⟩
-- pigeonhole/merge.Build
noncomputable def merge_Build.l0s (N : Nat) (S0 : Int → (List rib_Route) → Int → Int → (List entry_Entry) → Option (List entry_Entry)) : Int → (List rib_Route) → Int → Int → (List entry_Entry) → Option (List entry_Entry) := fun (x1 : Int) (p0_t_15_0 : (List rib_Route)) (p0_t_16_0 : Int) (p0_t_17_0 : Int) (p0_b_5 : (List entry_Entry)) =>
  cond (decide (p0_t_17_0 < p0_t_16_0)) ((idx p0_t_15_0 p0_t_17_0).bind fun y3 => (entry_Of N (y3.1, y3.2.1, y3.2.2.1) y3.2.2.2).bind fun y4 => grd (decide ((List.length p0_b_5 + List.length ([y4])) * 48 ≤ room)) (S0 x1 p0_t_15_0 p0_t_16_0 (w_i64 (p0_t_17_0 + 1)) (p0_b_5 ++ [y4]))) (cond (x1 == 2) ((merge_Merge N p0_b_5).bind fun y5 => some y5) ((sortE p0_b_5).bind fun y6 => some y6))
noncomputable def merge_Build.l0 (N : Nat) : Nat → Int → (List rib_Route) → Int → Int → (List entry_Entry) → Option (List entry_Entry)
  | 0 => fun _ _ _ _ _ => none
  | n + 1 => merge_Build.l0s N (merge_Build.l0 N n)
noncomputable def merge_Build.b (N : Nat) (L0 : Int → (List rib_Route) → Int → Int → (List entry_Entry) → Option (List entry_Entry)) (x0 : (List rib_Route)) (x1 : Int) : Option (List entry_Entry) :=
  (merge_Mode N x1).bind fun y1 => cond (!y1) (some ([] : List entry_Entry)) (cond (x1 != 0) ((prune_Keep N x0).bind fun y2 => L0 x1 y2 ((List.length y2 : Nat) : Int) 0 ([] : List entry_Entry)) (L0 x1 x0 ((List.length x0 : Nat) : Int) 0 ([] : List entry_Entry)))
noncomputable def merge_Build (N : Nat) (x0 : (List rib_Route)) (x1 : Int) : Option (List entry_Entry) := merge_Build.b N (merge_Build.l0 N N) x0 x1
noncomputable def merge_Build.con (N : Nat) : Con := ⟨[.d (.sc (.sl V_rib_Route)), .d (.sc (.int .i64))], [.fresh V_entry_Entry], fun z => merge_Build N z.1 z.2.1⟩
-- pigeonhole/addr.Not
noncomputable def addr_Not.b (N : Nat) (x0 : addr_Addr) : Option addr_Addr :=
  some ((b_not .u64 x0.1), (b_not .u64 x0.2))
noncomputable def addr_Not (N : Nat) (x0 : addr_Addr) : Option addr_Addr := addr_Not.b N x0
noncomputable def addr_Not.con (N : Nat) : Con := ⟨[.d V_addr_Addr], [.d V_addr_Addr], fun z => addr_Not N z.1⟩
-- pigeonhole/word.Free
noncomputable def word_Free.b (N : Nat) (x0 : word_Word) : Option Int :=
  (addr_Not N x0.2.2).bind fun y1 => (addr_Ones N y1).bind fun y2 => some y2
noncomputable def word_Free (N : Nat) (x0 : word_Word) : Option Int := word_Free.b N x0
noncomputable def word_Free.con (N : Nat) : Con := ⟨[.d V_word_Word], [.d (.sc (.int .i64))], fun z => word_Free N z.1⟩
-- pigeonhole/word.Meet
noncomputable def word_Meet.b (N : Nat) (x0 : word_Word) (x1 : word_Word) : Option Bool :=
  (addr_And N x0.2.2 x1.2.2).bind fun y1 => (word_differ N (x0.1, x0.2.1) (x1.1, x1.2.1) y1).bind fun y2 => some (eqI y2.1 0 (eqI y2.2 0 true))
noncomputable def word_Meet (N : Nat) (x0 : word_Word) (x1 : word_Word) : Option Bool := word_Meet.b N x0 x1
noncomputable def word_Meet.con (N : Nat) : Con := ⟨[.d V_word_Word, .d V_word_Word], [.d (.sc .bool)], fun z => word_Meet N z.1 z.2.1⟩
-- pigeonhole/merge.Simple
noncomputable def merge_Simple.l0s (N : Nat) (L1 : (List entry_Entry) → Int → entry_Entry → Int → Option Bool) (S0 : (List entry_Entry) → Int → Option Bool) : (List entry_Entry) → Int → Option Bool := fun (x0 : (List entry_Entry)) (p0_t_9_0 : Int) =>
  cond (decide (p0_t_9_0 < ((List.length x0 : Nat) : Int))) ((idx x0 p0_t_9_0).bind fun y1 => grd (decide (0 ≤ 0)) (grd (decide (0 ≤ p0_t_9_0)) (grd (decide (p0_t_9_0 ≤ ((List.length x0 : Nat) : Int))) (L1 x0 p0_t_9_0 y1 0)))) (some true)
noncomputable def merge_Simple.l1s (N : Nat) (S0 : (List entry_Entry) → Int → Option Bool) (S1 : (List entry_Entry) → Int → entry_Entry → Int → Option Bool) : (List entry_Entry) → Int → entry_Entry → Int → Option Bool := fun (x0 : (List entry_Entry)) (p0_t_9_0 : Int) (y1 : entry_Entry) (p1_t_18_0 : Int) =>
  cond (decide (p1_t_18_0 < ((List.length (List.drop (Int.toNat 0) (List.take (Int.toNat p0_t_9_0) x0)) : Nat) : Int))) ((idx (List.drop (Int.toNat 0) (List.take (Int.toNat p0_t_9_0) x0)) p1_t_18_0).bind fun y2 => (cond (y1.2.2.2.2.1 == y2.2.2.2.2.1) ((word_Meet N (y1.1, y1.2.1, y1.2.2.1, y1.2.2.2.1) (y2.1, y2.2.1, y2.2.2.1, y2.2.2.2.1)).bind fun y3 => some y3) (some false)).bind fun v4 => cond v4 (some false) (S1 x0 p0_t_9_0 y1 (w_i64 (p1_t_18_0 + 1)))) (S0 x0 (w_i64 (p0_t_9_0 + 1)))
noncomputable def merge_Simple.l1 (N : Nat) (S0 : (List entry_Entry) → Int → Option Bool) : Nat → (List entry_Entry) → Int → entry_Entry → Int → Option Bool
  | 0 => fun _ _ _ _ => none
  | n + 1 => merge_Simple.l1s N S0 (merge_Simple.l1 N S0 n)
noncomputable def merge_Simple.l0 (N : Nat) : Nat → (List entry_Entry) → Int → Option Bool
  | 0 => fun _ _ => none
  | n + 1 => merge_Simple.l0s N (merge_Simple.l1 N (merge_Simple.l0 N n) N) (merge_Simple.l0 N n)
noncomputable def merge_Simple.b (N : Nat) (L0 : (List entry_Entry) → Int → Option Bool) (x0 : (List entry_Entry)) : Option Bool :=
  L0 x0 0
noncomputable def merge_Simple (N : Nat) (x0 : (List entry_Entry)) : Option Bool := merge_Simple.b N (merge_Simple.l0 N N) x0
noncomputable def merge_Simple.con (N : Nat) : Con := ⟨[.d (.sc (.sl V_entry_Entry))], [.d (.sc .bool)], fun z => merge_Simple N z.1⟩
-- pigeonhole/pigeonholelaw10.awake
noncomputable def law10_awake.b (N : Nat) : Option Bool :=
  (prefix_Make N (720575940379279360, 0) 9).bind fun y1 => (prefix_Make N (756604737398243328, 0) 9).bind fun y2 => (merge_Build N ([(y1.1, y1.2.1, y1.2.2, 1), (y2.1, y2.2.1, y2.2.2, 1)]) 2).bind fun y3 => (cond (((List.length y3 : Nat) : Int) == 1) ((idx y3 0).bind fun y4 => some (y4.2.2.2.2.1 == 9)) (some false)).bind fun v5 => (cond v5 ((idx y3 0).bind fun y6 => (word_Free N (y6.1, y6.2.1, y6.2.2.1, y6.2.2.2.1)).bind fun y7 => some (y7 == 120)) (some false)).bind fun v8 => (cond v8 ((merge_Build N ([(y1.1, y1.2.1, y1.2.2, 1), (y2.1, y2.2.1, y2.2.2, 1)]) 0).bind fun y9 => some (((List.length y9 : Nat) : Int) == 2)) (some false)).bind fun v10 => (cond v10 ((merge_Simple N y3).bind fun y11 => some y11) (some false)).bind fun v12 => (cond v12 ((merge_Mode N 2).bind fun y13 => some y13) (some false)).bind fun v14 => some v14
noncomputable def law10_awake (N : Nat) : Option Bool := law10_awake.b N
noncomputable def law10_awake.con (N : Nat) : Con := ⟨[], [.d (.sc .bool)], fun z => law10_awake N⟩
-- pigeonhole/word.Match
noncomputable def word_Match.b (N : Nat) (x0 : word_Word) (x1 : addr_Addr) : Option Bool :=
  (word_differ N (x0.1, x0.2.1) x1 x0.2.2).bind fun y1 => some (eqI y1.1 0 (eqI y1.2 0 true))
noncomputable def word_Match (N : Nat) (x0 : word_Word) (x1 : addr_Addr) : Option Bool := word_Match.b N x0 x1
noncomputable def word_Match.con (N : Nat) : Con := ⟨[.d V_word_Word, .d V_addr_Addr], [.d (.sc .bool)], fun z => word_Match N z.1 z.2.1⟩
-- pigeonhole/entry.Best
noncomputable def entry_Best.l0s (N : Nat) (S0 : (List entry_Entry) → addr_Addr → Int → Bool → Int → Option (Int × Bool)) : (List entry_Entry) → addr_Addr → Int → Bool → Int → Option (Int × Bool) := fun (x0 : (List entry_Entry)) (x1 : addr_Addr) (p0_t_6_0 : Int) (p0_t_7_0 : Bool) (p0_t_12_0 : Int) =>
  cond (decide (p0_t_12_0 < ((List.length x0 : Nat) : Int))) ((idx x0 p0_t_12_0).bind fun y1 => (word_Match N (y1.1, y1.2.1, y1.2.2.1, y1.2.2.2.1) x1).bind fun y2 => (cond y2 ((cond (!p0_t_7_0) (some true) ((idx x0 p0_t_6_0).bind fun y3 => some (decide (y1.2.2.2.2.1 > y3.2.2.2.2.1)))).bind fun v4 => some v4) (some false)).bind fun v5 => cond v5 (S0 x0 x1 p0_t_12_0 true (w_i64 (p0_t_12_0 + 1))) (S0 x0 x1 p0_t_6_0 p0_t_7_0 (w_i64 (p0_t_12_0 + 1)))) (some (p0_t_6_0, p0_t_7_0))
noncomputable def entry_Best.l0 (N : Nat) : Nat → (List entry_Entry) → addr_Addr → Int → Bool → Int → Option (Int × Bool)
  | 0 => fun _ _ _ _ _ => none
  | n + 1 => entry_Best.l0s N (entry_Best.l0 N n)
noncomputable def entry_Best.b (N : Nat) (L0 : (List entry_Entry) → addr_Addr → Int → Bool → Int → Option (Int × Bool)) (x0 : (List entry_Entry)) (x1 : addr_Addr) : Option (Int × Bool) :=
  L0 x0 x1 0 false 0
noncomputable def entry_Best (N : Nat) (x0 : (List entry_Entry)) (x1 : addr_Addr) : Option (Int × Bool) := entry_Best.b N (entry_Best.l0 N N) x0 x1
noncomputable def entry_Best.con (N : Nat) : Con := ⟨[.d (.sc (.sl V_entry_Entry)), .d V_addr_Addr], [.d (.sc (.int .i64)), .d (.sc .bool)], fun z => entry_Best N z.1 z.2.1⟩
-- pigeonhole/entry.Tell
noncomputable def entry_Tell.b (N : Nat) (x0 : (List entry_Entry)) (x1 : addr_Addr) : Option Int :=
  (entry_Best N x0 x1).bind fun y1 => cond (!y1.2) (some 0) ((idx x0 y1.1).bind fun y2 => some y2.2.2.2.2.2)
noncomputable def entry_Tell (N : Nat) (x0 : (List entry_Entry)) (x1 : addr_Addr) : Option Int := entry_Tell.b N x0 x1
noncomputable def entry_Tell.con (N : Nat) : Con := ⟨[.d (.sc (.sl V_entry_Entry)), .d V_addr_Addr], [.d (.sc (.int .i64))], fun z => entry_Tell N z.1 z.2.1⟩
-- pigeonhole/pigeonholeref04.Match
noncomputable def ref04_Match.l0s (N : Nat) (S0 : (List Bool) → (List Bool) → (List Bool) → Int → Option Bool) : (List Bool) → (List Bool) → (List Bool) → Int → Option Bool := fun (y1 : (List Bool)) (y2 : (List Bool)) (y3 : (List Bool)) (p0_t_8_0 : Int) =>
  cond (decide (p0_t_8_0 < 128)) ((idx y2 p0_t_8_0).bind fun y4 => (cond y4 ((idx y1 p0_t_8_0).bind fun y5 => (idx y3 p0_t_8_0).bind fun y6 => some (!(y5 == y6))) (some false)).bind fun v7 => cond v7 (some false) (S0 y1 y2 y3 (w_i64 (p0_t_8_0 + 1)))) (some true)
noncomputable def ref04_Match.l0 (N : Nat) : Nat → (List Bool) → (List Bool) → (List Bool) → Int → Option Bool
  | 0 => fun _ _ _ _ => none
  | n + 1 => ref04_Match.l0s N (ref04_Match.l0 N n)
noncomputable def ref04_Match.b (N : Nat) (L0 : (List Bool) → (List Bool) → (List Bool) → Int → Option Bool) (x0 : word_Word) (x1 : addr_Addr) : Option Bool :=
  (ref01_Bits N (x0.1, x0.2.1)).bind fun y1 => (ref01_Bits N x0.2.2).bind fun y2 => (ref01_Bits N x1).bind fun y3 => L0 y1 y2 y3 0
noncomputable def ref04_Match (N : Nat) (x0 : word_Word) (x1 : addr_Addr) : Option Bool := ref04_Match.b N (ref04_Match.l0 N N) x0 x1
noncomputable def ref04_Match.con (N : Nat) : Con := ⟨[.d V_word_Word, .d V_addr_Addr], [.d (.sc .bool)], fun z => ref04_Match N z.1 z.2.1⟩
-- pigeonhole/pigeonholeref05.Best
noncomputable def ref05_Best.l0s (N : Nat) (S0 : (List entry_Entry) → addr_Addr → Int → Int → Option Int) : (List entry_Entry) → addr_Addr → Int → Int → Option Int := fun (x0 : (List entry_Entry)) (x1 : addr_Addr) (p0_t_5_0 : Int) (p0_t_6_0 : Int) =>
  cond (decide (p0_t_6_0 ≥ 0)) ((idx x0 p0_t_6_0).bind fun y1 => (ref04_Match N (y1.1, y1.2.1, y1.2.2.1, y1.2.2.2.1) x1).bind fun y2 => (cond y2 ((cond (decide (p0_t_5_0 < 0)) (some true) ((idx x0 p0_t_6_0).bind fun y3 => (idx x0 p0_t_5_0).bind fun y4 => some (decide (y3.2.2.2.2.1 ≥ y4.2.2.2.2.1)))).bind fun v5 => some v5) (some false)).bind fun v6 => cond v6 (S0 x0 x1 p0_t_6_0 (w_i64 (p0_t_6_0 - 1))) (S0 x0 x1 p0_t_5_0 (w_i64 (p0_t_6_0 - 1)))) (some p0_t_5_0)
noncomputable def ref05_Best.l0 (N : Nat) : Nat → (List entry_Entry) → addr_Addr → Int → Int → Option Int
  | 0 => fun _ _ _ _ => none
  | n + 1 => ref05_Best.l0s N (ref05_Best.l0 N n)
noncomputable def ref05_Best.b (N : Nat) (L0 : (List entry_Entry) → addr_Addr → Int → Int → Option Int) (x0 : (List entry_Entry)) (x1 : addr_Addr) : Option Int :=
  L0 x0 x1 (-1) (w_i64 (((List.length x0 : Nat) : Int) - 1))
noncomputable def ref05_Best (N : Nat) (x0 : (List entry_Entry)) (x1 : addr_Addr) : Option Int := ref05_Best.b N (ref05_Best.l0 N N) x0 x1
noncomputable def ref05_Best.con (N : Nat) : Con := ⟨[.d (.sc (.sl V_entry_Entry)), .d V_addr_Addr], [.d (.sc (.int .i64))], fun z => ref05_Best N z.1 z.2.1⟩
-- pigeonhole/pigeonholeref05.Tell
noncomputable def ref05_Tell.b (N : Nat) (x0 : (List entry_Entry)) (x1 : addr_Addr) : Option Int :=
  (ref05_Best N x0 x1).bind fun y1 => cond (decide (y1 < 0)) (some 0) ((idx x0 y1).bind fun y2 => some y2.2.2.2.2.2)
noncomputable def ref05_Tell (N : Nat) (x0 : (List entry_Entry)) (x1 : addr_Addr) : Option Int := ref05_Tell.b N x0 x1
noncomputable def ref05_Tell.con (N : Nat) : Con := ⟨[.d (.sc (.sl V_entry_Entry)), .d V_addr_Addr], [.d (.sc (.int .i64))], fun z => ref05_Tell N z.1 z.2.1⟩
-- pigeonhole/pigeonholelaw10.MergeTells
noncomputable def law10_MergeTells.b (N : Nat) (x0 : (List entry_Entry)) (x1 : addr_Addr) : Option Bool :=
  (cond (decide (((List.length x0 : Nat) : Int) > 12)) (some true) ((law05_Of N x0).bind fun y1 => (ref10_Simple N y1).bind fun y2 => some (!y2))).bind fun v3 => cond v3 ((law10_awake N).bind fun y4 => some y4) ((merge_Merge N x0).bind fun y5 => (entry_Tell N y5 x1).bind fun y6 => (law05_Of N x0).bind fun y7 => (ref05_Tell N y7 x1).bind fun y8 => (cond (y6 == y8) ((law05_Of N y5).bind fun y9 => (ref10_Simple N y9).bind fun y10 => some y10) (some false)).bind fun v11 => (cond v11 (some (decide (((List.length y5 : Nat) : Int) ≤ ((List.length x0 : Nat) : Int)))) (some false)).bind fun v12 => (cond v12 ((cond (((List.length x0 : Nat) : Int) == 0) (some true) (some (decide (((List.length y5 : Nat) : Int) > 0)))).bind fun v13 => some v13) (some false)).bind fun v14 => (cond v14 ((law10_awake N).bind fun y15 => some y15) (some false)).bind fun v16 => some v16)
noncomputable def law10_MergeTells (N : Nat) (x0 : (List entry_Entry)) (x1 : addr_Addr) : Option Bool := law10_MergeTells.b N x0 x1
noncomputable def law10_MergeTells.con (N : Nat) : Con := ⟨[.d (.sc (.sl V_entry_Entry)), .d V_addr_Addr], [.d (.sc .bool)], fun z => law10_MergeTells N z.1 z.2.1⟩
-- pigeonhole/pigeonholelaw02.Of
noncomputable def law02_Of.b (N : Nat) (x0 : prefix_Prefix) : Option prefix_Prefix :=
  some x0
noncomputable def law02_Of (N : Nat) (x0 : prefix_Prefix) : Option prefix_Prefix := law02_Of.b N x0
noncomputable def law02_Of.con (N : Nat) : Con := ⟨[.d V_prefix_Prefix], [.d V_prefix_Prefix], fun z => law02_Of N z.1⟩
-- pigeonhole/pigeonholelaw06.One
noncomputable def law06_One.b (N : Nat) (x0 : rib_Route) : Option rib_Route :=
  (law02_Of N (x0.1, x0.2.1, x0.2.2.1)).bind fun y1 => some (y1.1, y1.2.1, y1.2.2, x0.2.2.2)
noncomputable def law06_One (N : Nat) (x0 : rib_Route) : Option rib_Route := law06_One.b N x0
noncomputable def law06_One.con (N : Nat) : Con := ⟨[.d V_rib_Route], [.d V_rib_Route], fun z => law06_One N z.1⟩
-- pigeonhole/pigeonholelaw06.Of
noncomputable def law06_Of.l0s (N : Nat) (S0 : (List rib_Route) → Int → (List rib_Route) → Option (List rib_Route)) : (List rib_Route) → Int → (List rib_Route) → Option (List rib_Route) := fun (x0 : (List rib_Route)) (p0_t_8_0 : Int) (p0_b_3 : (List rib_Route)) =>
  cond (decide (p0_t_8_0 < ((List.length x0 : Nat) : Int))) ((idx x0 p0_t_8_0).bind fun y1 => (law06_One N y1).bind fun y2 => grd (decide ((List.length p0_b_3 + List.length ([y2])) * 32 ≤ room)) (S0 x0 (w_i64 (p0_t_8_0 + 1)) (p0_b_3 ++ [y2]))) (some p0_b_3)
noncomputable def law06_Of.l0 (N : Nat) : Nat → (List rib_Route) → Int → (List rib_Route) → Option (List rib_Route)
  | 0 => fun _ _ _ => none
  | n + 1 => law06_Of.l0s N (law06_Of.l0 N n)
noncomputable def law06_Of.b (N : Nat) (L0 : (List rib_Route) → Int → (List rib_Route) → Option (List rib_Route)) (x0 : (List rib_Route)) : Option (List rib_Route) :=
  L0 x0 0 ([] : List rib_Route)
noncomputable def law06_Of (N : Nat) (x0 : (List rib_Route)) : Option (List rib_Route) := law06_Of.b N (law06_Of.l0 N N) x0
noncomputable def law06_Of.con (N : Nat) : Con := ⟨[.d (.sc (.sl V_rib_Route))], [.fresh V_rib_Route], fun z => law06_Of N z.1⟩
-- pigeonhole/pigeonholeref02.Right
noncomputable def ref02_Right.l0s (N : Nat) (S0 : (List Bool) → Int → Option Bool) : (List Bool) → Int → Option Bool := fun (y4 : (List Bool)) (p0_t_6_0 : Int) =>
  cond (decide (p0_t_6_0 < 128)) ((idx y4 p0_t_6_0).bind fun y5 => cond y5 (some false) (S0 y4 (w_i64 (p0_t_6_0 + 1)))) (some true)
noncomputable def ref02_Right.l0 (N : Nat) : Nat → (List Bool) → Int → Option Bool
  | 0 => fun _ _ => none
  | n + 1 => ref02_Right.l0s N (ref02_Right.l0 N n)
noncomputable def ref02_Right.b (N : Nat) (L0 : (List Bool) → Int → Option Bool) (x0 : Int) (x1 : prefix_Prefix) : Option Bool :=
  (cond (x0 != 32) (some (x0 != 128)) (some false)).bind fun v1 => (cond v1 (some true) (some (decide (x1.2.2 < 0)))).bind fun v2 => (cond v2 (some true) (some (decide (x1.2.2 > x0)))).bind fun v3 => cond v3 (some false) ((ref01_Bits N (x1.1, x1.2.1)).bind fun y4 => L0 y4 x1.2.2)
noncomputable def ref02_Right (N : Nat) (x0 : Int) (x1 : prefix_Prefix) : Option Bool := ref02_Right.b N (ref02_Right.l0 N N) x0 x1
noncomputable def ref02_Right.con (N : Nat) : Con := ⟨[.d (.sc (.int .i64)), .d V_prefix_Prefix], [.d (.sc .bool)], fun z => ref02_Right N z.1 z.2.1⟩
-- pigeonhole/pigeonholeref06.Right
noncomputable def ref06_Right.b (N : Nat) (x0 : Int) (x1 : rib_Route) : Option Bool :=
  (ref02_Right N x0 (x1.1, x1.2.1, x1.2.2.1)).bind fun y1 => (cond y1 (some (decide (x1.2.2.2 ≥ 1))) (some false)).bind fun v2 => (cond v2 (some (decide (x1.2.2.2 ≤ 255))) (some false)).bind fun v3 => some v3
noncomputable def ref06_Right (N : Nat) (x0 : Int) (x1 : rib_Route) : Option Bool := ref06_Right.b N x0 x1
noncomputable def ref06_Right.con (N : Nat) : Con := ⟨[.d (.sc (.int .i64)), .d V_rib_Route], [.d (.sc .bool)], fun z => ref06_Right N z.1 z.2.1⟩
-- pigeonhole/pigeonholeref01.Common
noncomputable def ref01_Common.l0s (N : Nat) (S0 : (List Bool) → (List Bool) → Int → Option Int) : (List Bool) → (List Bool) → Int → Option Int := fun (y1 : (List Bool)) (y2 : (List Bool)) (p0_t_7_0 : Int) =>
  (cond (decide (p0_t_7_0 < 128)) ((idx y1 p0_t_7_0).bind fun y3 => (idx y2 p0_t_7_0).bind fun y4 => some (y3 == y4)) (some false)).bind fun v5 => cond v5 (S0 y1 y2 (w_i64 (p0_t_7_0 + 1))) (some p0_t_7_0)
noncomputable def ref01_Common.l0 (N : Nat) : Nat → (List Bool) → (List Bool) → Int → Option Int
  | 0 => fun _ _ _ => none
  | n + 1 => ref01_Common.l0s N (ref01_Common.l0 N n)
noncomputable def ref01_Common.b (N : Nat) (L0 : (List Bool) → (List Bool) → Int → Option Int) (x0 : addr_Addr) (x1 : addr_Addr) : Option Int :=
  (ref01_Bits N x0).bind fun y1 => (ref01_Bits N x1).bind fun y2 => L0 y1 y2 0
noncomputable def ref01_Common (N : Nat) (x0 : addr_Addr) (x1 : addr_Addr) : Option Int := ref01_Common.b N (ref01_Common.l0 N N) x0 x1
noncomputable def ref01_Common.con (N : Nat) : Con := ⟨[.d V_addr_Addr, .d V_addr_Addr], [.d (.sc (.int .i64))], fun z => ref01_Common N z.1 z.2.1⟩
-- pigeonhole/pigeonholeref01.Compare
noncomputable def ref01_Compare.b (N : Nat) (x0 : addr_Addr) (x1 : addr_Addr) : Option Int :=
  (ref01_Common N x0 x1).bind fun y1 => cond (y1 == 128) (some 0) ((ref01_Bits N x1).bind fun y2 => (idx y2 y1).bind fun y3 => cond y3 (some (-1)) (some 1))
noncomputable def ref01_Compare (N : Nat) (x0 : addr_Addr) (x1 : addr_Addr) : Option Int := ref01_Compare.b N x0 x1
noncomputable def ref01_Compare.con (N : Nat) : Con := ⟨[.d V_addr_Addr, .d V_addr_Addr], [.d (.sc (.int .i64))], fun z => ref01_Compare N z.1 z.2.1⟩
-- pigeonhole/pigeonholeref02.Compare
noncomputable def ref02_Compare.b (N : Nat) (x0 : prefix_Prefix) (x1 : prefix_Prefix) : Option Int :=
  (ref01_Compare N (x0.1, x0.2.1) (x1.1, x1.2.1)).bind fun y1 => (cond (y1 == 0) (some (decide (x0.2.2 < x1.2.2))) (some false)).bind fun v2 => cond v2 (some (-1)) ((cond (y1 == 0) (some (decide (x0.2.2 > x1.2.2))) (some false)).bind fun v3 => cond v3 (some 1) (some y1))
noncomputable def ref02_Compare (N : Nat) (x0 : prefix_Prefix) (x1 : prefix_Prefix) : Option Int := ref02_Compare.b N x0 x1
noncomputable def ref02_Compare.con (N : Nat) : Con := ⟨[.d V_prefix_Prefix, .d V_prefix_Prefix], [.d (.sc (.int .i64))], fun z => ref02_Compare N z.1 z.2.1⟩
-- pigeonhole/pigeonholeref06.Table
noncomputable def ref06_Table.l0s (N : Nat) (S0 : Int → (List rib_Route) → Int → Option Bool) : Int → (List rib_Route) → Int → Option Bool := fun (x0 : Int) (x1 : (List rib_Route)) (p0_t_5_0 : Int) =>
  cond (decide (p0_t_5_0 < ((List.length x1 : Nat) : Int))) ((idx x1 p0_t_5_0).bind fun y1 => (ref06_Right N x0 y1).bind fun y2 => (cond (!y2) (some true) ((cond (decide (p0_t_5_0 > 0)) ((idx x1 (w_i64 (p0_t_5_0 - 1))).bind fun y3 => (idx x1 p0_t_5_0).bind fun y4 => (ref02_Compare N (y3.1, y3.2.1, y3.2.2.1) (y4.1, y4.2.1, y4.2.2.1)).bind fun y5 => some (decide (y5 ≥ 0))) (some false)).bind fun v6 => some v6)).bind fun v7 => cond v7 (some false) (S0 x0 x1 (w_i64 (p0_t_5_0 + 1)))) ((cond (x0 == 32) (some true) (some (x0 == 128))).bind fun v8 => (cond v8 (some (decide (((List.length x1 : Nat) : Int) ≤ 256))) (some false)).bind fun v9 => some v9)
noncomputable def ref06_Table.l0 (N : Nat) : Nat → Int → (List rib_Route) → Int → Option Bool
  | 0 => fun _ _ _ => none
  | n + 1 => ref06_Table.l0s N (ref06_Table.l0 N n)
noncomputable def ref06_Table.b (N : Nat) (L0 : Int → (List rib_Route) → Int → Option Bool) (x0 : Int) (x1 : (List rib_Route)) : Option Bool :=
  L0 x0 x1 0
noncomputable def ref06_Table (N : Nat) (x0 : Int) (x1 : (List rib_Route)) : Option Bool := ref06_Table.b N (ref06_Table.l0 N N) x0 x1
noncomputable def ref06_Table.con (N : Nat) : Con := ⟨[.d (.sc (.int .i64)), .d (.sc (.sl V_rib_Route))], [.d (.sc .bool)], fun z => ref06_Table N z.1 z.2.1⟩
-- pigeonhole/pigeonholelaw09.Table
noncomputable def law09_Table.b (N : Nat) (x0 : (List rib_Route)) : Option Bool :=
  (cond (decide (((List.length x0 : Nat) : Int) ≤ 24)) ((law06_Of N x0).bind fun y1 => (ref06_Table N 128 y1).bind fun y2 => some y2) (some false)).bind fun v3 => some v3
noncomputable def law09_Table (N : Nat) (x0 : (List rib_Route)) : Option Bool := law09_Table.b N x0
noncomputable def law09_Table.con (N : Nat) : Con := ⟨[.d (.sc (.sl V_rib_Route))], [.d (.sc .bool)], fun z => law09_Table N z.1⟩
-- pigeonhole/pigeonholeref02.near
noncomputable def ref02_near.b (N : Nat) (x0 : Int) : Option Int :=
  cond (decide (x0 < 0)) (some 0) (cond (decide (x0 > 128)) (some 128) (some x0))
noncomputable def ref02_near (N : Nat) (x0 : Int) : Option Int := ref02_near.b N x0
noncomputable def ref02_near.con (N : Nat) : Con := ⟨[.d (.sc (.int .i64))], [.d (.sc (.int .i64))], fun z => ref02_near N z.1⟩
-- pigeonhole/pigeonholeref02.Match
noncomputable def ref02_Match.l0s (N : Nat) (S0 : prefix_Prefix → (List Bool) → (List Bool) → Int → Option Bool) : prefix_Prefix → (List Bool) → (List Bool) → Int → Option Bool := fun (x0 : prefix_Prefix) (y1 : (List Bool)) (y2 : (List Bool)) (p0_t_7_0 : Int) =>
  (ref02_near N x0.2.2).bind fun y4 => cond (decide (p0_t_7_0 < y4)) ((idx y1 p0_t_7_0).bind fun y5 => (idx y2 p0_t_7_0).bind fun y6 => cond (!(y5 == y6)) (some false) (S0 x0 y1 y2 (w_i64 (p0_t_7_0 + 1)))) (some true)
noncomputable def ref02_Match.l0 (N : Nat) : Nat → prefix_Prefix → (List Bool) → (List Bool) → Int → Option Bool
  | 0 => fun _ _ _ _ => none
  | n + 1 => ref02_Match.l0s N (ref02_Match.l0 N n)
noncomputable def ref02_Match.b (N : Nat) (L0 : prefix_Prefix → (List Bool) → (List Bool) → Int → Option Bool) (x0 : prefix_Prefix) (x1 : addr_Addr) : Option Bool :=
  (ref01_Bits N (x0.1, x0.2.1)).bind fun y1 => (ref01_Bits N x1).bind fun y2 => L0 x0 y1 y2 0
noncomputable def ref02_Match (N : Nat) (x0 : prefix_Prefix) (x1 : addr_Addr) : Option Bool := ref02_Match.b N (ref02_Match.l0 N N) x0 x1
noncomputable def ref02_Match.con (N : Nat) : Con := ⟨[.d V_prefix_Prefix, .d V_addr_Addr], [.d (.sc .bool)], fun z => ref02_Match N z.1 z.2.1⟩
-- pigeonhole/pigeonholeref06.Best
noncomputable def ref06_Best.l0s (N : Nat) (L1 : (List rib_Route) → addr_Addr → Int → Int → Option (rib_Route × Bool)) (S0 : (List rib_Route) → addr_Addr → Int → Option (rib_Route × Bool)) : (List rib_Route) → addr_Addr → Int → Option (rib_Route × Bool) := fun (x0 : (List rib_Route)) (x1 : addr_Addr) (p0_t_6_0 : Int) =>
  cond (decide (p0_t_6_0 ≥ 0)) (L1 x0 x1 p0_t_6_0 0) (some ((0, 0, 0, 0), false))
noncomputable def ref06_Best.l1s (N : Nat) (S0 : (List rib_Route) → addr_Addr → Int → Option (rib_Route × Bool)) (S1 : (List rib_Route) → addr_Addr → Int → Int → Option (rib_Route × Bool)) : (List rib_Route) → addr_Addr → Int → Int → Option (rib_Route × Bool) := fun (x0 : (List rib_Route)) (x1 : addr_Addr) (p0_t_6_0 : Int) (p1_t_7_0 : Int) =>
  cond (decide (p1_t_7_0 < ((List.length x0 : Nat) : Int))) ((idx x0 p1_t_7_0).bind fun y1 => (cond (y1.2.2.1 == p0_t_6_0) ((idx x0 p1_t_7_0).bind fun y2 => (ref02_Match N (y2.1, y2.2.1, y2.2.2.1) x1).bind fun y3 => some y3) (some false)).bind fun v4 => cond v4 ((idx x0 p1_t_7_0).bind fun y5 => some (y5, true)) (S1 x0 x1 p0_t_6_0 (w_i64 (p1_t_7_0 + 1)))) (S0 x0 x1 (w_i64 (p0_t_6_0 - 1)))
noncomputable def ref06_Best.l1 (N : Nat) (S0 : (List rib_Route) → addr_Addr → Int → Option (rib_Route × Bool)) : Nat → (List rib_Route) → addr_Addr → Int → Int → Option (rib_Route × Bool)
  | 0 => fun _ _ _ _ => none
  | n + 1 => ref06_Best.l1s N S0 (ref06_Best.l1 N S0 n)
noncomputable def ref06_Best.l0 (N : Nat) : Nat → (List rib_Route) → addr_Addr → Int → Option (rib_Route × Bool)
  | 0 => fun _ _ _ => none
  | n + 1 => ref06_Best.l0s N (ref06_Best.l1 N (ref06_Best.l0 N n) N) (ref06_Best.l0 N n)
noncomputable def ref06_Best.b (N : Nat) (L0 : (List rib_Route) → addr_Addr → Int → Option (rib_Route × Bool)) (x0 : (List rib_Route)) (x1 : addr_Addr) : Option (rib_Route × Bool) :=
  L0 x0 x1 128
noncomputable def ref06_Best (N : Nat) (x0 : (List rib_Route)) (x1 : addr_Addr) : Option (rib_Route × Bool) := ref06_Best.b N (ref06_Best.l0 N N) x0 x1
noncomputable def ref06_Best.con (N : Nat) : Con := ⟨[.d (.sc (.sl V_rib_Route)), .d V_addr_Addr], [.d V_rib_Route, .d (.sc .bool)], fun z => ref06_Best N z.1 z.2.1⟩
-- pigeonhole/pigeonholeref06.Tell
noncomputable def ref06_Tell.b (N : Nat) (x0 : (List rib_Route)) (x1 : addr_Addr) : Option Int :=
  (ref06_Best N x0 x1).bind fun y1 => cond (!y1.2) (some 0) (some y1.1.2.2.2)
noncomputable def ref06_Tell (N : Nat) (x0 : (List rib_Route)) (x1 : addr_Addr) : Option Int := ref06_Tell.b N x0 x1
noncomputable def ref06_Tell.con (N : Nat) : Con := ⟨[.d (.sc (.sl V_rib_Route)), .d V_addr_Addr], [.d (.sc (.int .i64))], fun z => ref06_Tell N z.1 z.2.1⟩
-- pigeonhole/pigeonholeref05.Above
noncomputable def ref05_Above.b (N : Nat) (x0 : entry_Entry) (x1 : entry_Entry) : Option Bool :=
  (cond (decide (x0.2.2.2.2.1 > x1.2.2.2.2.1)) ((ref04_Meet N (x0.1, x0.2.1, x0.2.2.1, x0.2.2.2.1) (x1.1, x1.2.1, x1.2.2.1, x1.2.2.2.1)).bind fun y1 => some y1) (some false)).bind fun v2 => some v2
noncomputable def ref05_Above (N : Nat) (x0 : entry_Entry) (x1 : entry_Entry) : Option Bool := ref05_Above.b N x0 x1
noncomputable def ref05_Above.con (N : Nat) : Con := ⟨[.d V_entry_Entry, .d V_entry_Entry], [.d (.sc .bool)], fun z => ref05_Above N z.1 z.2.1⟩
-- pigeonhole/pigeonholeref05.Ordered
noncomputable def ref05_Ordered.l0s (N : Nat) (L1 : (List entry_Entry) → Int → Int → Option Bool) (S0 : (List entry_Entry) → Int → Option Bool) : (List entry_Entry) → Int → Option Bool := fun (x0 : (List entry_Entry)) (p0_t_3_0 : Int) =>
  cond (decide (p0_t_3_0 < ((List.length x0 : Nat) : Int))) (L1 x0 p0_t_3_0 (w_i64 (p0_t_3_0 + 1))) (some true)
noncomputable def ref05_Ordered.l1s (N : Nat) (S0 : (List entry_Entry) → Int → Option Bool) (S1 : (List entry_Entry) → Int → Int → Option Bool) : (List entry_Entry) → Int → Int → Option Bool := fun (x0 : (List entry_Entry)) (p0_t_3_0 : Int) (p1_t_4_0 : Int) =>
  cond (decide (p1_t_4_0 < ((List.length x0 : Nat) : Int))) ((idx x0 p1_t_4_0).bind fun y1 => (idx x0 p0_t_3_0).bind fun y2 => (ref05_Above N y1 y2).bind fun y3 => cond y3 (some false) (S1 x0 p0_t_3_0 (w_i64 (p1_t_4_0 + 1)))) (S0 x0 (w_i64 (p0_t_3_0 + 1)))
noncomputable def ref05_Ordered.l1 (N : Nat) (S0 : (List entry_Entry) → Int → Option Bool) : Nat → (List entry_Entry) → Int → Int → Option Bool
  | 0 => fun _ _ _ => none
  | n + 1 => ref05_Ordered.l1s N S0 (ref05_Ordered.l1 N S0 n)
noncomputable def ref05_Ordered.l0 (N : Nat) : Nat → (List entry_Entry) → Int → Option Bool
  | 0 => fun _ _ => none
  | n + 1 => ref05_Ordered.l0s N (ref05_Ordered.l1 N (ref05_Ordered.l0 N n) N) (ref05_Ordered.l0 N n)
noncomputable def ref05_Ordered.b (N : Nat) (L0 : (List entry_Entry) → Int → Option Bool) (x0 : (List entry_Entry)) : Option Bool :=
  L0 x0 0
noncomputable def ref05_Ordered (N : Nat) (x0 : (List entry_Entry)) : Option Bool := ref05_Ordered.b N (ref05_Ordered.l0 N N) x0
noncomputable def ref05_Ordered.con (N : Nat) : Con := ⟨[.d (.sc (.sl V_entry_Entry))], [.d (.sc .bool)], fun z => ref05_Ordered N z.1⟩
-- pigeonhole/pigeonholelaw10.MergeSays
noncomputable def law10_MergeSays.b (N : Nat) (x0 : (List rib_Route)) (x1 : addr_Addr) : Option Bool :=
  (law09_Table N x0).bind fun y1 => (cond (!y1) (some true) (some (decide (((List.length x0 : Nat) : Int) > 12)))).bind fun v2 => cond v2 ((law10_awake N).bind fun y3 => some y3) ((law06_Of N x0).bind fun y4 => (ref06_Tell N y4 x1).bind fun y5 => (merge_Build N x0 0).bind fun y6 => (law05_Of N y6).bind fun y7 => (ref10_Simple N y7).bind fun y8 => (cond (!y8) (some true) ((law05_Of N y6).bind fun y9 => (ref05_Ordered N y9).bind fun y10 => some (!y10))).bind fun v11 => (cond v11 (some true) ((entry_Tell N y6 x1).bind fun y12 => some (y12 != y5))).bind fun v13 => (cond v13 (some true) (some (decide (((List.length y6 : Nat) : Int) > ((List.length x0 : Nat) : Int))))).bind fun v14 => cond v14 (some false) ((merge_Build N x0 1).bind fun y15 => (law05_Of N y15).bind fun y16 => (ref10_Simple N y16).bind fun y17 => (cond (!y17) (some true) ((law05_Of N y15).bind fun y18 => (ref05_Ordered N y18).bind fun y19 => some (!y19))).bind fun v20 => (cond v20 (some true) ((entry_Tell N y15 x1).bind fun y21 => some (y21 != y5))).bind fun v22 => (cond v22 (some true) (some (decide (((List.length y15 : Nat) : Int) > ((List.length y6 : Nat) : Int))))).bind fun v23 => cond v23 (some false) ((merge_Build N x0 2).bind fun y24 => (law05_Of N y24).bind fun y25 => (ref10_Simple N y25).bind fun y26 => (cond (!y26) (some true) ((law05_Of N y24).bind fun y27 => (ref05_Ordered N y27).bind fun y28 => some (!y28))).bind fun v29 => (cond v29 (some true) ((entry_Tell N y24 x1).bind fun y30 => some (y30 != y5))).bind fun v31 => (cond v31 (some true) (some (decide (((List.length y24 : Nat) : Int) > ((List.length y15 : Nat) : Int))))).bind fun v32 => cond v32 (some false) ((law10_awake N).bind fun y33 => some y33))))
noncomputable def law10_MergeSays (N : Nat) (x0 : (List rib_Route)) (x1 : addr_Addr) : Option Bool := law10_MergeSays.b N x0 x1
noncomputable def law10_MergeSays.con (N : Nat) : Con := ⟨[.d (.sc (.sl V_rib_Route)), .d V_addr_Addr], [.d (.sc .bool)], fun z => law10_MergeSays N z.1 z.2.1⟩
-- pigeonhole/plo.Kept$1
noncomputable def plo_Kept_1.b (N : Nat) (x0 : entry_Entry) (x1 : entry_Entry) : Option Int :=
  (cmp_Compare_int N x1.2.2.2.2.1 x0.2.2.2.2.1).bind fun y1 => some y1
noncomputable def plo_Kept_1 (N : Nat) (x0 : entry_Entry) (x1 : entry_Entry) : Option Int := plo_Kept_1.b N x0 x1
noncomputable def plo_Kept_1.con (N : Nat) : Con := ⟨[.d V_entry_Entry, .d V_entry_Entry], [.d (.sc (.int .i64))], fun z => plo_Kept_1 N z.1 z.2.1⟩
-- slices.IsSortedFunc[[]pigeonhole/entry.Entry,pigeonhole/entry.Entry]
noncomputable def slices_IsSortedFunc_entry_Entry.l0s (N : Nat) (S0 : (List entry_Entry) → ((entry_Entry × entry_Entry) → Option Int) → Int → Option Bool) : (List entry_Entry) → ((entry_Entry × entry_Entry) → Option Int) → Int → Option Bool := fun (x0 : (List entry_Entry)) (x1 : ((entry_Entry × entry_Entry) → Option Int)) (p0_t_5_0 : Int) =>
  cond (decide (p0_t_5_0 > 0)) ((idx x0 p0_t_5_0).bind fun y1 => (idx x0 (w_i64 (p0_t_5_0 - 1))).bind fun y2 => (x1 (y1, y2)).bind fun y3 => cond (decide (y3 < 0)) (some false) (S0 x0 x1 (w_i64 (p0_t_5_0 - 1)))) (some true)
noncomputable def slices_IsSortedFunc_entry_Entry.l0 (N : Nat) : Nat → (List entry_Entry) → ((entry_Entry × entry_Entry) → Option Int) → Int → Option Bool
  | 0 => fun _ _ _ => none
  | n + 1 => slices_IsSortedFunc_entry_Entry.l0s N (slices_IsSortedFunc_entry_Entry.l0 N n)
noncomputable def slices_IsSortedFunc_entry_Entry.b (N : Nat) (L0 : (List entry_Entry) → ((entry_Entry × entry_Entry) → Option Int) → Int → Option Bool) (x0 : (List entry_Entry)) (x1 : ((entry_Entry × entry_Entry) → Option Int)) : Option Bool :=
  L0 x0 x1 (w_i64 (((List.length x0 : Nat) : Int) - 1))
noncomputable def slices_IsSortedFunc_entry_Entry (N : Nat) (x0 : (List entry_Entry)) (x1 : ((entry_Entry × entry_Entry) → Option Int)) : Option Bool := slices_IsSortedFunc_entry_Entry.b N (slices_IsSortedFunc_entry_Entry.l0 N N) x0 x1
noncomputable def slices_IsSortedFunc_entry_Entry.con (N : Nat) : Con := ⟨[.d (.sc (.sl V_entry_Entry)), .d (.sc (.fn (.cons V_entry_Entry (.cons V_entry_Entry .nil)) (.cons (.sc (.int .i64)) .nil)))], [.d (.sc .bool)], fun z => slices_IsSortedFunc_entry_Entry N z.1 z.2.1⟩
-- pigeonhole/bank.Entries
noncomputable def bank_Entries.l0s (N : Nat) (S0 : (List bank_Slot) → Int → (List entry_Entry) → Option (List entry_Entry)) : (List bank_Slot) → Int → (List entry_Entry) → Option (List entry_Entry) := fun (x0 : (List bank_Slot)) (p0_t_8_0 : Int) (p0_b_3 : (List entry_Entry)) =>
  cond (decide (p0_t_8_0 < ((List.length x0 : Nat) : Int))) ((idx x0 p0_t_8_0).bind fun y1 => cond y1.1 (grd (decide ((List.length p0_b_3 + List.length ([y1.2])) * 48 ≤ room)) (S0 x0 (w_i64 (p0_t_8_0 + 1)) (p0_b_3 ++ [y1.2]))) (S0 x0 (w_i64 (p0_t_8_0 + 1)) p0_b_3)) (some p0_b_3)
noncomputable def bank_Entries.l0 (N : Nat) : Nat → (List bank_Slot) → Int → (List entry_Entry) → Option (List entry_Entry)
  | 0 => fun _ _ _ => none
  | n + 1 => bank_Entries.l0s N (bank_Entries.l0 N n)
noncomputable def bank_Entries.b (N : Nat) (L0 : (List bank_Slot) → Int → (List entry_Entry) → Option (List entry_Entry)) (x0 : (List bank_Slot)) : Option (List entry_Entry) :=
  L0 x0 0 ([] : List entry_Entry)
noncomputable def bank_Entries (N : Nat) (x0 : (List bank_Slot)) : Option (List entry_Entry) := bank_Entries.b N (bank_Entries.l0 N N) x0
noncomputable def bank_Entries.con (N : Nat) : Con := ⟨[.d (.sc (.sl V_bank_Slot))], [.fresh V_entry_Entry], fun z => bank_Entries N z.1⟩
-- pigeonhole/plo.Kept
noncomputable def plo_Kept.b (N : Nat) (x0 : (List bank_Slot)) : Option Bool :=
  (bank_Entries N x0).bind fun y1 => (slices_IsSortedFunc_entry_Entry N y1 (fun a2 => (plo_Kept_1 N a2.1 a2.2).bind fun c3 => some c3)).bind fun y4 => some y4
noncomputable def plo_Kept (N : Nat) (x0 : (List bank_Slot)) : Option Bool := plo_Kept.b N x0
noncomputable def plo_Kept.con (N : Nat) : Con := ⟨[.d (.sc (.sl V_bank_Slot))], [.d (.sc .bool)], fun z => plo_Kept N z.1⟩
-- slices.IndexFunc[[]pigeonhole/entry.Entry,pigeonhole/entry.Entry]
noncomputable def slices_IndexFunc_entry_Entry.l0s (N : Nat) (S0 : (List entry_Entry) → (entry_Entry → Option Bool) → Int → Option Int) : (List entry_Entry) → (entry_Entry → Option Bool) → Int → Option Int := fun (x0 : (List entry_Entry)) (x1 : (entry_Entry → Option Bool)) (p0_t_8_0 : Int) =>
  cond (decide (p0_t_8_0 < ((List.length x0 : Nat) : Int))) ((idx x0 p0_t_8_0).bind fun y1 => (x1 y1).bind fun y2 => cond y2 (some p0_t_8_0) (S0 x0 x1 (w_i64 (p0_t_8_0 + 1)))) (some (-1))
noncomputable def slices_IndexFunc_entry_Entry.l0 (N : Nat) : Nat → (List entry_Entry) → (entry_Entry → Option Bool) → Int → Option Int
  | 0 => fun _ _ _ => none
  | n + 1 => slices_IndexFunc_entry_Entry.l0s N (slices_IndexFunc_entry_Entry.l0 N n)
noncomputable def slices_IndexFunc_entry_Entry.b (N : Nat) (L0 : (List entry_Entry) → (entry_Entry → Option Bool) → Int → Option Int) (x0 : (List entry_Entry)) (x1 : (entry_Entry → Option Bool)) : Option Int :=
  L0 x0 x1 0
noncomputable def slices_IndexFunc_entry_Entry (N : Nat) (x0 : (List entry_Entry)) (x1 : (entry_Entry → Option Bool)) : Option Int := slices_IndexFunc_entry_Entry.b N (slices_IndexFunc_entry_Entry.l0 N N) x0 x1
noncomputable def slices_IndexFunc_entry_Entry.con (N : Nat) : Con := ⟨[.d (.sc (.sl V_entry_Entry)), .d (.sc (.fn (.cons V_entry_Entry .nil) (.cons (.sc .bool) .nil)))], [.d (.sc (.int .i64))], fun z => slices_IndexFunc_entry_Entry N z.1 z.2.1⟩
-- slices.ContainsFunc[[]pigeonhole/entry.Entry,pigeonhole/entry.Entry]
noncomputable def slices_ContainsFunc_entry_Entry.b (N : Nat) (x0 : (List entry_Entry)) (x1 : (entry_Entry → Option Bool)) : Option Bool :=
  (slices_IndexFunc_entry_Entry N x0 x1).bind fun y1 => some (decide (y1 ≥ 0))
noncomputable def slices_ContainsFunc_entry_Entry (N : Nat) (x0 : (List entry_Entry)) (x1 : (entry_Entry → Option Bool)) : Option Bool := slices_ContainsFunc_entry_Entry.b N x0 x1
noncomputable def slices_ContainsFunc_entry_Entry.con (N : Nat) : Con := ⟨[.d (.sc (.sl V_entry_Entry)), .d (.sc (.fn (.cons V_entry_Entry .nil) (.cons (.sc .bool) .nil)))], [.d (.sc .bool)], fun z => slices_ContainsFunc_entry_Entry N z.1 z.2.1⟩
-- pigeonhole/entry.Above
noncomputable def entry_Above.b (N : Nat) (x0 : entry_Entry) (x1 : entry_Entry) : Option Bool :=
  (cond (decide (x0.2.2.2.2.1 > x1.2.2.2.2.1)) ((word_Meet N (x0.1, x0.2.1, x0.2.2.1, x0.2.2.2.1) (x1.1, x1.2.1, x1.2.2.1, x1.2.2.2.1)).bind fun y1 => some y1) (some false)).bind fun v2 => some v2
noncomputable def entry_Above (N : Nat) (x0 : entry_Entry) (x1 : entry_Entry) : Option Bool := entry_Above.b N x0 x1
noncomputable def entry_Above.con (N : Nat) : Con := ⟨[.d V_entry_Entry, .d V_entry_Entry], [.d (.sc .bool)], fun z => entry_Above N z.1 z.2.1⟩
-- pigeonhole/entry.Ordered$1
noncomputable def entry_Ordered_1.b (N : Nat) (x0 : entry_Entry) (x1 : (Int × Int × Int × Int × Int × Int)) : Option Bool :=
  (entry_Above N x1 x0).bind fun y1 => some y1
noncomputable def entry_Ordered_1 (N : Nat) (x0 : entry_Entry) (x1 : (Int × Int × Int × Int × Int × Int)) : Option Bool := entry_Ordered_1.b N x0 x1
noncomputable def entry_Ordered_1.con (N : Nat) : Con := ⟨[.d V_entry_Entry, .ref (.cons (.int .u64) (.cons (.int .u64) (.cons (.int .u64) (.cons (.int .u64) (.cons (.int .i64) (.cons (.int .i64) .nil))))))], [.d (.sc .bool)], fun z => entry_Ordered_1 N z.1 z.2.1⟩
-- pigeonhole/entry.Ordered
noncomputable def entry_Ordered.l0s (N : Nat) (S0 : (List entry_Entry) → Int → Option Bool) : (List entry_Entry) → Int → Option Bool := fun (x0 : (List entry_Entry)) (p0_t_7_0 : Int) =>
  cond (decide (p0_t_7_0 < ((List.length x0 : Nat) : Int))) ((idx x0 p0_t_7_0).bind fun y1 => grd (decide (0 ≤ 0)) (grd (decide (0 ≤ p0_t_7_0)) (grd (decide (p0_t_7_0 ≤ ((List.length x0 : Nat) : Int))) ((slices_ContainsFunc_entry_Entry N (List.drop (Int.toNat 0) (List.take (Int.toNat p0_t_7_0) x0)) (fun a2 => (entry_Ordered_1 N a2 y1).bind fun c3 => some c3)).bind fun y4 => cond y4 (some false) (S0 x0 (w_i64 (p0_t_7_0 + 1))))))) (some true)
noncomputable def entry_Ordered.l0 (N : Nat) : Nat → (List entry_Entry) → Int → Option Bool
  | 0 => fun _ _ => none
  | n + 1 => entry_Ordered.l0s N (entry_Ordered.l0 N n)
noncomputable def entry_Ordered.b (N : Nat) (L0 : (List entry_Entry) → Int → Option Bool) (x0 : (List entry_Entry)) : Option Bool :=
  L0 x0 0
noncomputable def entry_Ordered (N : Nat) (x0 : (List entry_Entry)) : Option Bool := entry_Ordered.b N (entry_Ordered.l0 N N) x0
noncomputable def entry_Ordered.con (N : Nat) : Con := ⟨[.d (.sc (.sl V_entry_Entry))], [.d (.sc .bool)], fun z => entry_Ordered N z.1⟩
-- pigeonhole/cao.Kept
noncomputable def cao_Kept.b (N : Nat) (x0 : (List bank_Slot)) : Option Bool :=
  (bank_Entries N x0).bind fun y1 => (entry_Ordered N y1).bind fun y2 => some y2
noncomputable def cao_Kept (N : Nat) (x0 : (List bank_Slot)) : Option Bool := cao_Kept.b N x0
noncomputable def cao_Kept.con (N : Nat) : Con := ⟨[.d (.sc (.sl V_bank_Slot))], [.d (.sc .bool)], fun z => cao_Kept N z.1⟩
-- pigeonhole/pigeonholelaw13.slot
noncomputable def law13_slot.b (N : Nat) (x0 : Int) : Option bank_Slot :=
  (prefix_Make N (720857415355990016, 0) x0).bind fun y1 => (entry_Of N y1 1).bind fun y2 => some (true, y2.1, y2.2.1, y2.2.2.1, y2.2.2.2.1, y2.2.2.2.2.1, y2.2.2.2.2.2)
noncomputable def law13_slot (N : Nat) (x0 : Int) : Option bank_Slot := law13_slot.b N x0
noncomputable def law13_slot.con (N : Nat) : Con := ⟨[.d (.sc (.int .i64))], [.d V_bank_Slot], fun z => law13_slot N z.1⟩
-- pigeonhole/cao.highest
noncomputable def cao_highest.l0s (N : Nat) (S0 : (List bank_Slot) → entry_Entry → Int → Option Int) : (List bank_Slot) → entry_Entry → Int → Option Int := fun (x0 : (List bank_Slot)) (x2 : entry_Entry) (p0_t_7_0 : Int) =>
  cond (decide (p0_t_7_0 ≥ 0)) ((idx x0 p0_t_7_0).bind fun y1 => (cond y1.1 ((idx x0 p0_t_7_0).bind fun y2 => (entry_Above N y2.2 x2).bind fun y3 => some y3) (some false)).bind fun v4 => cond v4 (some p0_t_7_0) (S0 x0 x2 (w_i64 (p0_t_7_0 - 1)))) (some (-1))
noncomputable def cao_highest.l0 (N : Nat) : Nat → (List bank_Slot) → entry_Entry → Int → Option Int
  | 0 => fun _ _ _ => none
  | n + 1 => cao_highest.l0s N (cao_highest.l0 N n)
noncomputable def cao_highest.b (N : Nat) (L0 : (List bank_Slot) → entry_Entry → Int → Option Int) (x0 : (List bank_Slot)) (x1 : Int) (x2 : entry_Entry) : Option Int :=
  L0 x0 x2 (w_i64 (x1 - 1))
noncomputable def cao_highest (N : Nat) (x0 : (List bank_Slot)) (x1 : Int) (x2 : entry_Entry) : Option Int := cao_highest.b N (cao_highest.l0 N N) x0 x1 x2
noncomputable def cao_highest.con (N : Nat) : Con := ⟨[.d (.sc (.sl V_bank_Slot)), .d (.sc (.int .i64)), .d V_entry_Entry], [.d (.sc (.int .i64))], fun z => cao_highest N z.1 z.2.1 z.2.2.1⟩
-- pigeonhole/cao.lowest
noncomputable def cao_lowest.l0s (N : Nat) (S0 : (List bank_Slot) → entry_Entry → Int → Option Int) : (List bank_Slot) → entry_Entry → Int → Option Int := fun (x0 : (List bank_Slot)) (x2 : entry_Entry) (p0_t_7_0 : Int) =>
  cond (decide (p0_t_7_0 < ((List.length x0 : Nat) : Int))) ((idx x0 p0_t_7_0).bind fun y1 => (cond y1.1 ((idx x0 p0_t_7_0).bind fun y2 => (entry_Above N x2 y2.2).bind fun y3 => some y3) (some false)).bind fun v4 => cond v4 (some p0_t_7_0) (S0 x0 x2 (w_i64 (p0_t_7_0 + 1)))) (some ((List.length x0 : Nat) : Int))
noncomputable def cao_lowest.l0 (N : Nat) : Nat → (List bank_Slot) → entry_Entry → Int → Option Int
  | 0 => fun _ _ _ => none
  | n + 1 => cao_lowest.l0s N (cao_lowest.l0 N n)
noncomputable def cao_lowest.b (N : Nat) (L0 : (List bank_Slot) → entry_Entry → Int → Option Int) (x0 : (List bank_Slot)) (x1 : Int) (x2 : entry_Entry) : Option Int :=
  L0 x0 x2 x1
noncomputable def cao_lowest (N : Nat) (x0 : (List bank_Slot)) (x1 : Int) (x2 : entry_Entry) : Option Int := cao_lowest.b N (cao_lowest.l0 N N) x0 x1 x2
noncomputable def cao_lowest.con (N : Nat) : Con := ⟨[.d (.sc (.sl V_bank_Slot)), .d (.sc (.int .i64)), .d V_entry_Entry], [.d (.sc (.int .i64))], fun z => cao_lowest N z.1 z.2.1 z.2.2.1⟩
-- pigeonhole/cao.Gap
noncomputable def cao_Gap.b (N : Nat) (x0 : (List bank_Slot)) (x1 : entry_Entry) : Option (Int × Int) :=
  (cao_highest N x0 ((List.length x0 : Nat) : Int) x1).bind fun y1 => (cao_lowest N x0 0 x1).bind fun y2 => some ((w_i64 (y1 + 1)), y2)
noncomputable def cao_Gap (N : Nat) (x0 : (List bank_Slot)) (x1 : entry_Entry) : Option (Int × Int) := cao_Gap.b N x0 x1
noncomputable def cao_Gap.con (N : Nat) : Con := ⟨[.d (.sc (.sl V_bank_Slot)), .d V_entry_Entry], [.d (.sc (.int .i64)), .d (.sc (.int .i64))], fun z => cao_Gap N z.1 z.2.1⟩
-- pigeonhole/word.Right
noncomputable def word_Right.b (N : Nat) (x0 : word_Word) : Option Bool :=
  (word_clean N x0).bind fun y1 => some (eqI x0.1 y1.1 (eqI x0.2.1 y1.2.1 (eqI x0.2.2.1 y1.2.2.1 (eqI x0.2.2.2 y1.2.2.2 true))))
noncomputable def word_Right (N : Nat) (x0 : word_Word) : Option Bool := word_Right.b N x0
noncomputable def word_Right.con (N : Nat) : Con := ⟨[.d V_word_Word], [.d (.sc .bool)], fun z => word_Right N z.1⟩
-- pigeonhole/entry.Right
noncomputable def entry_Right.b (N : Nat) (x0 : entry_Entry) : Option Bool :=
  (word_Right N (x0.1, x0.2.1, x0.2.2.1, x0.2.2.2.1)).bind fun y1 => (cond y1 (some (decide (x0.2.2.2.2.1 ≥ 0))) (some false)).bind fun v2 => (cond v2 (some (decide (x0.2.2.2.2.1 ≤ 128))) (some false)).bind fun v3 => (cond v3 (some (decide (x0.2.2.2.2.2 ≥ 1))) (some false)).bind fun v4 => (cond v4 (some (decide (x0.2.2.2.2.2 ≤ 255))) (some false)).bind fun v5 => some v5
noncomputable def entry_Right (N : Nat) (x0 : entry_Entry) : Option Bool := entry_Right.b N x0
noncomputable def entry_Right.con (N : Nat) : Con := ⟨[.d V_entry_Entry], [.d (.sc .bool)], fun z => entry_Right N z.1⟩
-- pigeonhole/cao.empty
noncomputable def cao_empty.l0s (N : Nat) (S0 : (List bank_Slot) → Int → Bool → Int → Int → Option Int) : (List bank_Slot) → Int → Bool → Int → Int → Option Int := fun (x0 : (List bank_Slot)) (x2 : Int) (x3 : Bool) (p0_t_9_0 : Int) (p0_t_10_0 : Int) =>
  cond (decide (p0_t_10_0 < x2)) ((idx x0 p0_t_10_0).bind fun y1 => (cond (!y1.1) ((cond (decide (p0_t_9_0 < 0)) (some true) (some x3)).bind fun v2 => some v2) (some false)).bind fun v3 => cond v3 (S0 x0 x2 x3 p0_t_10_0 (w_i64 (p0_t_10_0 + 1))) (S0 x0 x2 x3 p0_t_9_0 (w_i64 (p0_t_10_0 + 1)))) (some p0_t_9_0)
noncomputable def cao_empty.l0 (N : Nat) : Nat → (List bank_Slot) → Int → Bool → Int → Int → Option Int
  | 0 => fun _ _ _ _ _ => none
  | n + 1 => cao_empty.l0s N (cao_empty.l0 N n)
noncomputable def cao_empty.b (N : Nat) (L0 : (List bank_Slot) → Int → Bool → Int → Int → Option Int) (x0 : (List bank_Slot)) (x1 : Int) (x2 : Int) (x3 : Bool) : Option Int :=
  L0 x0 x2 x3 (-1) x1
noncomputable def cao_empty (N : Nat) (x0 : (List bank_Slot)) (x1 : Int) (x2 : Int) (x3 : Bool) : Option Int := cao_empty.b N (cao_empty.l0 N N) x0 x1 x2 x3
noncomputable def cao_empty.con (N : Nat) : Con := ⟨[.d (.sc (.sl V_bank_Slot)), .d (.sc (.int .i64)), .d (.sc (.int .i64)), .d (.sc .bool)], [.d (.sc (.int .i64))], fun z => cao_empty N z.1 z.2.1 z.2.2.1 z.2.2.2.1⟩
-- pigeonhole/cao.writes
noncomputable def cao_writes.l0s (N : Nat) (S0 : (List bank_Slot) → (List Int) → entry_Entry → Int → (List bank_Write) → Option (List bank_Write)) : (List bank_Slot) → (List Int) → entry_Entry → Int → (List bank_Write) → Option (List bank_Write) := fun (x0 : (List bank_Slot)) (x1 : (List Int)) (x2 : entry_Entry) (p0_t_8_0 : Int) (p0_b_7 : (List bank_Write)) =>
  cond (decide (p0_t_8_0 > 0)) ((idx x1 p0_t_8_0).bind fun y1 => (idx x1 (w_i64 (p0_t_8_0 - 1))).bind fun y2 => (idx x0 y2).bind fun y3 => grd (decide ((List.length p0_b_7 + List.length ([(y1, y3.1, y3.2.1, y3.2.2.1, y3.2.2.2.1, y3.2.2.2.2.1, y3.2.2.2.2.2.1, y3.2.2.2.2.2.2)])) * 64 ≤ room)) (S0 x0 x1 x2 (w_i64 (p0_t_8_0 - 1)) (p0_b_7 ++ [(y1, y3.1, y3.2.1, y3.2.2.1, y3.2.2.2.1, y3.2.2.2.2.1, y3.2.2.2.2.2.1, y3.2.2.2.2.2.2)]))) ((idx x1 0).bind fun y4 => grd (decide ((List.length p0_b_7 + List.length ([(y4, true, x2.1, x2.2.1, x2.2.2.1, x2.2.2.2.1, x2.2.2.2.2.1, x2.2.2.2.2.2)])) * 64 ≤ room)) (some (p0_b_7 ++ [(y4, true, x2.1, x2.2.1, x2.2.2.1, x2.2.2.2.1, x2.2.2.2.2.1, x2.2.2.2.2.2)])))
noncomputable def cao_writes.l0 (N : Nat) : Nat → (List bank_Slot) → (List Int) → entry_Entry → Int → (List bank_Write) → Option (List bank_Write)
  | 0 => fun _ _ _ _ _ => none
  | n + 1 => cao_writes.l0s N (cao_writes.l0 N n)
noncomputable def cao_writes.b (N : Nat) (L0 : (List bank_Slot) → (List Int) → entry_Entry → Int → (List bank_Write) → Option (List bank_Write)) (x0 : (List bank_Slot)) (x1 : (List Int)) (x2 : entry_Entry) : Option (List bank_Write) :=
  L0 x0 x1 x2 (w_i64 (((List.length x1 : Nat) : Int) - 1)) ([] : List bank_Write)
noncomputable def cao_writes (N : Nat) (x0 : (List bank_Slot)) (x1 : (List Int)) (x2 : entry_Entry) : Option (List bank_Write) := cao_writes.b N (cao_writes.l0 N N) x0 x1 x2
noncomputable def cao_writes.con (N : Nat) : Con := ⟨[.d (.sc (.sl V_bank_Slot)), .d (.sc (.sl (.sc (.int .i64)))), .d V_entry_Entry], [.fresh V_bank_Write], fun z => cao_writes N z.1 z.2.1 z.2.2.1⟩
-- pigeonhole/cao.walk
noncomputable def cao_walk.l0s (N : Nat) (S0 : (List bank_Slot) → (Int → Option (Int × Int)) → Int → (List Int) → Option (List Int)) : (List bank_Slot) → (Int → Option (Int × Int)) → Int → (List Int) → Option (List Int) := fun (x0 : (List bank_Slot)) (x2 : (Int → Option (Int × Int))) (p0_t_1_0 : Int) (p0_b_7 : (List Int)) =>
  (cond (decide (p0_t_1_0 ≥ 0)) (some (decide (p0_t_1_0 < ((List.length x0 : Nat) : Int)))) (some false)).bind fun v1 => cond v1 (grd (decide ((List.length p0_b_7 + List.length ([p0_t_1_0])) * 8 ≤ room)) ((x2 p0_t_1_0).bind fun y2 => cond (decide (y2.2 ≥ 0)) (grd (decide ((List.length (p0_b_7 ++ [p0_t_1_0]) + List.length ([y2.2])) * 8 ≤ room)) (some ((p0_b_7 ++ [p0_t_1_0]) ++ [y2.2]))) (S0 x0 x2 y2.1 (p0_b_7 ++ [p0_t_1_0])))) (some ([] : List Int))
noncomputable def cao_walk.l0 (N : Nat) : Nat → (List bank_Slot) → (Int → Option (Int × Int)) → Int → (List Int) → Option (List Int)
  | 0 => fun _ _ _ _ => none
  | n + 1 => cao_walk.l0s N (cao_walk.l0 N n)
noncomputable def cao_walk.b (N : Nat) (L0 : (List bank_Slot) → (Int → Option (Int × Int)) → Int → (List Int) → Option (List Int)) (x0 : (List bank_Slot)) (x1 : Int) (x2 : (Int → Option (Int × Int))) : Option (List Int) :=
  L0 x0 x2 x1 ([] : List Int)
noncomputable def cao_walk (N : Nat) (x0 : (List bank_Slot)) (x1 : Int) (x2 : (Int → Option (Int × Int))) : Option (List Int) := cao_walk.b N (cao_walk.l0 N N) x0 x1 x2
noncomputable def cao_walk.con (N : Nat) : Con := ⟨[.d (.sc (.sl V_bank_Slot)), .d (.sc (.int .i64)), .d (.sc (.fn (.cons (.sc (.int .i64)) .nil) (.cons (.sc (.int .i64)) (.cons (.sc (.int .i64)) .nil))))], [.fresh (.sc (.int .i64))], fun z => cao_walk N z.1 z.2.1 z.2.2.1⟩
-- pigeonhole/cao.Insert$1
noncomputable def cao_Insert_1.b (N : Nat) (x0 : Int) (x1 : (List bank_Slot)) : Option (Int × Int) :=
  (idx x1 x0).bind fun y1 => (cao_lowest N x1 (w_i64 (x0 + 1)) y1.2).bind fun y2 => (cao_empty N x1 (w_i64 (x0 + 1)) y2 false).bind fun y3 => some (y2, y3)
noncomputable def cao_Insert_1 (N : Nat) (x0 : Int) (x1 : (List bank_Slot)) : Option (Int × Int) := cao_Insert_1.b N x0 x1
noncomputable def cao_Insert_1.con (N : Nat) : Con := ⟨[.d (.sc (.int .i64)), .ref (.cons (.sl V_bank_Slot) .nil)], [.d (.sc (.int .i64)), .d (.sc (.int .i64))], fun z => cao_Insert_1 N z.1 z.2.1⟩
-- pigeonhole/cao.Insert$2
noncomputable def cao_Insert_2.b (N : Nat) (x0 : Int) (x1 : (List bank_Slot)) : Option (Int × Int) :=
  (idx x1 x0).bind fun y1 => (cao_highest N x1 x0 y1.2).bind fun y2 => (cao_empty N x1 (w_i64 (y2 + 1)) x0 true).bind fun y3 => some (y2, y3)
noncomputable def cao_Insert_2 (N : Nat) (x0 : Int) (x1 : (List bank_Slot)) : Option (Int × Int) := cao_Insert_2.b N x0 x1
noncomputable def cao_Insert_2.con (N : Nat) : Con := ⟨[.d (.sc (.int .i64)), .ref (.cons (.sl V_bank_Slot) .nil)], [.d (.sc (.int .i64)), .d (.sc (.int .i64))], fun z => cao_Insert_2 N z.1 z.2.1⟩
-- pigeonhole/cao.Insert
noncomputable def cao_Insert.b (N : Nat) (x0 : (List bank_Slot)) (x1 : entry_Entry) : Option ((List bank_Write) × Int) :=
  (cao_Gap N x0 x1).bind fun y1 => (entry_Right N x1).bind fun y2 => cond (!y2) (some (([] : List bank_Write), 1)) ((cao_Kept N x0).bind fun y3 => (cond (!y3) (some true) (some (decide (y1.2 < y1.1)))).bind fun v4 => cond v4 (some (([] : List bank_Write), 7)) ((cao_empty N x0 y1.1 y1.2 false).bind fun y5 => cond (decide (y5 ≥ 0)) ((cao_writes N x0 ([y5]) x1).bind fun y6 => some (y6, 0)) ((cao_walk N x0 y1.2 (fun a7 => (cao_Insert_1 N a7 x0).bind fun c8 => some c8)).bind fun y9 => (cao_walk N x0 (w_i64 (y1.1 - 1)) (fun a10 => (cao_Insert_2 N a10 x0).bind fun c11 => some c11)).bind fun y12 => cond ((w_i64 (((List.length y9 : Nat) : Int) + ((List.length y12 : Nat) : Int))) == 0) (some (([] : List bank_Write), 3)) ((cond (((List.length y9 : Nat) : Int) == 0) (some true) ((cond (decide (((List.length y12 : Nat) : Int) > 0)) (some (decide (((List.length y12 : Nat) : Int) < ((List.length y9 : Nat) : Int)))) (some false)).bind fun v13 => some v13)).bind fun v14 => cond v14 ((cao_writes N x0 y12 x1).bind fun y15 => some (y15, 0)) ((cao_writes N x0 y9 x1).bind fun y16 => some (y16, 0))))))
noncomputable def cao_Insert (N : Nat) (x0 : (List bank_Slot)) (x1 : entry_Entry) : Option ((List bank_Write) × Int) := cao_Insert.b N x0 x1
noncomputable def cao_Insert.con (N : Nat) : Con := ⟨[.d (.sc (.sl V_bank_Slot)), .d V_entry_Entry], [.fresh V_bank_Write, .d (.sc (.int .i64))], fun z => cao_Insert N z.1 z.2.1⟩
-- pigeonhole/cao.Chain
noncomputable def cao_Chain.l0s (N : Nat) (L1 : (List entry_Entry) → Int → Int → entry_Entry → Int → (List Int) → Option Int) (S0 : (List entry_Entry) → Int → Int → (List Int) → Option Int) : (List entry_Entry) → Int → Int → (List Int) → Option Int := fun (y1 : (List entry_Entry)) (p0_t_5_0 : Int) (p0_t_17_0 : Int) (p0_b_14 : (List Int)) =>
  cond (decide (p0_t_17_0 < ((List.length y1 : Nat) : Int))) ((idx y1 p0_t_17_0).bind fun y2 => (idx p0_b_14 p0_t_17_0).bind fun y3 => grd (decide (0 ≤ 0)) (grd (decide (0 ≤ p0_t_17_0)) (grd (decide (p0_t_17_0 ≤ ((List.length y1 : Nat) : Int))) (L1 y1 p0_t_5_0 p0_t_17_0 y2 0 (List.set p0_b_14 (Int.toNat p0_t_17_0) 1))))) (some p0_t_5_0)
noncomputable def cao_Chain.l1s (N : Nat) (S0 : (List entry_Entry) → Int → Int → (List Int) → Option Int) (S1 : (List entry_Entry) → Int → Int → entry_Entry → Int → (List Int) → Option Int) : (List entry_Entry) → Int → Int → entry_Entry → Int → (List Int) → Option Int := fun (y1 : (List entry_Entry)) (p0_t_5_0 : Int) (p0_t_17_0 : Int) (y2 : entry_Entry) (p1_t_29_0 : Int) (p1_b_14 : (List Int)) =>
  cond (decide (p1_t_29_0 < ((List.length (List.drop (Int.toNat 0) (List.take (Int.toNat p0_t_17_0) y1)) : Nat) : Int))) ((idx (List.drop (Int.toNat 0) (List.take (Int.toNat p0_t_17_0) y1)) p1_t_29_0).bind fun y4 => (entry_Above N y4 y2).bind fun y5 => cond y5 ((idx p1_b_14 p0_t_17_0).bind fun y6 => (idx p1_b_14 p1_t_29_0).bind fun y7 => (idx p1_b_14 p0_t_17_0).bind fun y8 => S1 y1 p0_t_5_0 p0_t_17_0 y2 (w_i64 (p1_t_29_0 + 1)) (List.set p1_b_14 (Int.toNat p0_t_17_0) (maxI y6 (w_i64 (y7 + 1))))) (S1 y1 p0_t_5_0 p0_t_17_0 y2 (w_i64 (p1_t_29_0 + 1)) p1_b_14)) ((idx p1_b_14 p0_t_17_0).bind fun y9 => S0 y1 (maxI p0_t_5_0 y9) (w_i64 (p0_t_17_0 + 1)) p1_b_14)
noncomputable def cao_Chain.l1 (N : Nat) (S0 : (List entry_Entry) → Int → Int → (List Int) → Option Int) : Nat → (List entry_Entry) → Int → Int → entry_Entry → Int → (List Int) → Option Int
  | 0 => fun _ _ _ _ _ _ => none
  | n + 1 => cao_Chain.l1s N S0 (cao_Chain.l1 N S0 n)
noncomputable def cao_Chain.l0 (N : Nat) : Nat → (List entry_Entry) → Int → Int → (List Int) → Option Int
  | 0 => fun _ _ _ _ => none
  | n + 1 => cao_Chain.l0s N (cao_Chain.l1 N (cao_Chain.l0 N n) N) (cao_Chain.l0 N n)
noncomputable def cao_Chain.b (N : Nat) (L0 : (List entry_Entry) → Int → Int → (List Int) → Option Int) (x0 : (List entry_Entry)) : Option Int :=
  (sortE x0).bind fun y1 => grd (decide (0 ≤ ((List.length y1 : Nat) : Int))) (grd (((List.length y1 : Nat) : Int) == ((List.length y1 : Nat) : Int)) (grd (decide ((Int.toNat ((List.length y1 : Nat) : Int)) * 8 ≤ room)) (L0 y1 0 0 (List.replicate (Int.toNat ((List.length y1 : Nat) : Int)) 0))))
noncomputable def cao_Chain (N : Nat) (x0 : (List entry_Entry)) : Option Int := cao_Chain.b N (cao_Chain.l0 N N) x0
noncomputable def cao_Chain.con (N : Nat) : Con := ⟨[.d (.sc (.sl V_entry_Entry))], [.d (.sc (.int .i64))], fun z => cao_Chain N z.1⟩
-- pigeonhole/pigeonholelaw13.awake
noncomputable def law13_awake.b (N : Nat) : Option Bool :=
  (law13_slot N 8).bind fun y1 => (law13_slot N 0).bind fun y2 => (law13_slot N 16).bind fun y3 => (cao_Insert N ([y1, y2, (false, 0, 0, 0, 0, 0, 0)]) y3.2).bind fun y4 => (cond (y4.2 == 0) (some (((List.length y4.1 : Nat) : Int) == 3)) (some false)).bind fun v5 => (cond v5 ((idx y4.1 0).bind fun y6 => (law13_slot N 0).bind fun y7 => some (eqI y6.1 2 (eqB y6.2.1 y7.1 (eqI y6.2.2.1 y7.2.1 (eqI y6.2.2.2.1 y7.2.2.1 (eqI y6.2.2.2.2.1 y7.2.2.2.1 (eqI y6.2.2.2.2.2.1 y7.2.2.2.2.1 (eqI y6.2.2.2.2.2.2.1 y7.2.2.2.2.2.1 (eqI y6.2.2.2.2.2.2.2 y7.2.2.2.2.2.2 true))))))))) (some false)).bind fun v8 => (cond v8 ((idx y4.1 1).bind fun y9 => (law13_slot N 8).bind fun y10 => some (eqI y9.1 1 (eqB y9.2.1 y10.1 (eqI y9.2.2.1 y10.2.1 (eqI y9.2.2.2.1 y10.2.2.1 (eqI y9.2.2.2.2.1 y10.2.2.2.1 (eqI y9.2.2.2.2.2.1 y10.2.2.2.2.1 (eqI y9.2.2.2.2.2.2.1 y10.2.2.2.2.2.1 (eqI y9.2.2.2.2.2.2.2 y10.2.2.2.2.2.2 true))))))))) (some false)).bind fun v11 => (cond v11 ((idx y4.1 2).bind fun y12 => (law13_slot N 16).bind fun y13 => some (eqI y12.1 0 (eqB y12.2.1 y13.1 (eqI y12.2.2.1 y13.2.1 (eqI y12.2.2.2.1 y13.2.2.1 (eqI y12.2.2.2.2.1 y13.2.2.2.1 (eqI y12.2.2.2.2.2.1 y13.2.2.2.2.1 (eqI y12.2.2.2.2.2.2.1 y13.2.2.2.2.2.1 (eqI y12.2.2.2.2.2.2.2 y13.2.2.2.2.2.2 true))))))))) (some false)).bind fun v14 => (cond v14 ((cao_Kept N ([y1, y2, (false, 0, 0, 0, 0, 0, 0)])).bind fun y15 => some y15) (some false)).bind fun v16 => (cond v16 ((bank_Entries N ([y1, y2, (false, 0, 0, 0, 0, 0, 0)])).bind fun y17 => (cao_Chain N y17).bind fun y18 => some (y18 == 2)) (some false)).bind fun v19 => some v19
noncomputable def law13_awake (N : Nat) : Option Bool := law13_awake.b N
noncomputable def law13_awake.con (N : Nat) : Con := ⟨[], [.d (.sc .bool)], fun z => law13_awake N⟩
-- pigeonhole/plo.Gap
noncomputable def plo_Gap.l0s (N : Nat) (S0 : (List bank_Slot) → Int → Int → Int → Int → Option (Int × Int)) : (List bank_Slot) → Int → Int → Int → Int → Option (Int × Int) := fun (x0 : (List bank_Slot)) (x1 : Int) (p0_t_6_0 : Int) (p0_t_7_0 : Int) (p0_t_17_0 : Int) =>
  cond (decide (p0_t_17_0 < ((List.length x0 : Nat) : Int))) ((idx x0 p0_t_17_0).bind fun y2 => (cond y2.1 (some (decide (y2.2.2.2.2.2.1 > x1))) (some false)).bind fun v3 => cond v3 ((cond y2.1 (some (decide (y2.2.2.2.2.2.1 < x1))) (some false)).bind fun v4 => cond v4 (S0 x0 x1 (w_i64 (p0_t_17_0 + 1)) (minI p0_t_7_0 p0_t_17_0) (w_i64 (p0_t_17_0 + 1))) (S0 x0 x1 (w_i64 (p0_t_17_0 + 1)) p0_t_7_0 (w_i64 (p0_t_17_0 + 1)))) ((cond y2.1 (some (decide (y2.2.2.2.2.2.1 < x1))) (some false)).bind fun v5 => cond v5 (S0 x0 x1 p0_t_6_0 (minI p0_t_7_0 p0_t_17_0) (w_i64 (p0_t_17_0 + 1))) (S0 x0 x1 p0_t_6_0 p0_t_7_0 (w_i64 (p0_t_17_0 + 1))))) (some (p0_t_6_0, p0_t_7_0))
noncomputable def plo_Gap.l0 (N : Nat) : Nat → (List bank_Slot) → Int → Int → Int → Int → Option (Int × Int)
  | 0 => fun _ _ _ _ _ => none
  | n + 1 => plo_Gap.l0s N (plo_Gap.l0 N n)
noncomputable def plo_Gap.b (N : Nat) (L0 : (List bank_Slot) → Int → Int → Int → Int → Option (Int × Int)) (x0 : (List bank_Slot)) (x1 : Int) : Option (Int × Int) :=
  (plo_Kept N x0).bind fun y1 => cond (!y1) (some (0, 0)) (L0 x0 x1 0 ((List.length x0 : Nat) : Int) 0)
noncomputable def plo_Gap (N : Nat) (x0 : (List bank_Slot)) (x1 : Int) : Option (Int × Int) := plo_Gap.b N (plo_Gap.l0 N N) x0 x1
noncomputable def plo_Gap.con (N : Nat) : Con := ⟨[.d (.sc (.sl V_bank_Slot)), .d (.sc (.int .i64))], [.d (.sc (.int .i64)), .d (.sc (.int .i64))], fun z => plo_Gap N z.1 z.2.1⟩
-- pigeonhole/pigeonholelaw13.CaoLengths
noncomputable def law13_CaoLengths.b (N : Nat) (x0 : (List bank_Slot)) (x1 : entry_Entry) : Option Bool :=
  (cond (decide (((List.length x0 : Nat) : Int) > 20)) (some true) ((plo_Kept N x0).bind fun y1 => some (!y1))).bind fun v2 => cond v2 ((law13_awake N).bind fun y3 => some y3) ((plo_Gap N x0 x1.2.2.2.2.1).bind fun y4 => (cao_Gap N x0 x1).bind fun y5 => (cao_Kept N x0).bind fun y6 => (cond y6 (some (decide (y5.1 ≤ y4.1))) (some false)).bind fun v7 => (cond v7 (some (decide (y5.2 ≥ y4.2))) (some false)).bind fun v8 => (cond v8 ((law13_awake N).bind fun y9 => some y9) (some false)).bind fun v10 => some v10)
noncomputable def law13_CaoLengths (N : Nat) (x0 : (List bank_Slot)) (x1 : entry_Entry) : Option Bool := law13_CaoLengths.b N x0 x1
noncomputable def law13_CaoLengths.con (N : Nat) : Con := ⟨[.d (.sc (.sl V_bank_Slot)), .d V_entry_Entry], [.d (.sc .bool)], fun z => law13_CaoLengths N z.1 z.2.1⟩
end Go.PgAM

/-
  bits.LeadingZeros64, as a contract of the abstract machine.
-/
namespace Go.PgAM
open Go Go.RowKit Go.Shelf Go.Proofs Go.Lib
set_option linter.unusedVariables false
variable {P : Program} {ρ : Ren}
theorem clz_sound (L : Lays.n134 P ρ) (he : Enters P (ρ.f 134)) : SoundCon P (ρ.f 134) ⟨[.d (.sc (.int .u64))], [.d (.sc (.int .i64))], fun z => clzF z.1⟩ := by
  refine ⟨he, fun z y hy F w us qs hF hnd hargs => ?_⟩
  obtain ⟨x, uz⟩ := z
  change Int at x
  have hy : cond (decide (0 ≤ x) && decide (x < 18446744073709551616)) (some (64 - ((Lib.bitLen x.toNat : Nat) : Int))) none = some y := hy
  obtain ⟨hr, hy⟩ := cond_some hy
  rw [Bool.and_eq_true, decide_eq_true_eq, decide_eq_true_eq] at hr
  obtain ⟨u, us', q, qs', rfl, rfl, ⟨rfl, g, hg, hv⟩, rfl, rfl⟩ := hargs
  simp only [Whole] at hg
  subst hg
  simp only [RepV, RepS] at hv
  obtain ⟨u', hu, rfl⟩ := hv
  cases hu
  cases hy
  refine (Any.bits_LeadingZeros64 L x w hr.1 (by have := hr.2; omega)).mono ?_
  rintro e w' ⟨rfl, rfl⟩
  refine ⟨[_], F, [none], rfl, Evo.refl _ _ _ hF, ⟨_, _, rfl, rfl, rfl, _, rfl, ?_⟩, List.nodup_nil, fun b hb => by cases hb⟩
  simp only [RepV, RepS]
  exact ⟨_, rfl, rfl⟩
end Go.PgAM

namespace Go.PgAM
open Go Go.Proofs
set_option linter.unusedVariables false
theorem Try.mixed : Try.prog.follows .mixedOrders = true := by kernel_rfl
theorem tys_ok : tysB Try.prog tys = true := by kernel_rfl
set_option maxRecDepth 100000 in
theorem clz64.sound : (N : Nat) → SoundCon Try.prog 124 (clz64.con N)
  | 0 => ⟨enters_go Try.func124 (by kernel_rfl) (by kernel_rfl), fun z y h => by cases h⟩
  | N + 1 => clz_sound Try.lays134 (enters_go Try.func124 (by kernel_rfl) (by kernel_rfl))

-- pigeonhole/pigeonholeref01.Bits
noncomputable def ref01_Bits.E (N : Nat) : Env := { nt := 31, ty := tys, C := fun g => none, N := N, keep := [(7, ⟨[1, 3, 4, 5, 6], [1], [7], [], [], [], 0⟩), (7, ⟨[1, 3, 4, 5, 6], [1], [7], [], [], [], 0⟩), (3, ⟨[1, 3, 4], [0, 1, 2, 3, 4, 5, 6, 7, 8, 9, 10, 11, 12, 13, 14, 15, 16, 17, 18, 19, 20, 21, 22, 23, 24, 25, 26, 27, 28, 29, 30], [0, 1, 2, 3, 4, 5, 6, 7, 8, 9, 10, 11, 12, 13, 14, 15, 16, 17, 18, 19, 20, 21, 22, 23, 24, 25, 26, 27, 28, 29, 30], [], [], [], 12⟩)], shrink := [], shr := [], eqs := [] }
noncomputable def ref01_Bits.code : Code := (Try.f54.body).getD .skip
noncomputable def ref01_Bits.K (N : Nat) : AX → St → Option (RSs.I [.fresh (.sc .bool)]) := finish (ref01_Bits.E N) Try.f54.results.toList [.fresh (.sc .bool)]
noncomputable def ref01_Bits.st0 (x0 : addr_Addr) (p0_t_5_0 : Int) (p0_t_6_0 : Int) (p0_b_7 : (List Bool)) : St := ⟨[(1, .s (.loc 1 0)), (3, .s (.own 7)), (4, .s (.d ⟨(.int .i64), (0 : Int)⟩)), (5, .s (.d ⟨(.int .u64), p0_t_5_0⟩)), (6, .s (.d ⟨(.int .i64), p0_t_6_0⟩))], [(1, some [.d ⟨(.int .u64), x0.1⟩, .d ⟨(.int .u64), x0.2⟩])], [(7, ⟨true, (.sc .bool), p0_b_7⟩)]⟩
noncomputable def ref01_Bits.L0 (N : Nat) (n : Nat) : addr_Addr → Int → Int → (List Bool) → Option (RSs.I [.fresh (.sc .bool)]) := fun x0 p0_t_5_0 p0_t_6_0 p0_b_7 => loopN (aexec (ref01_Bits.E N) (subAt [.b, .b, .a, .b, .i, .l, .b, .a, .i, .b, .b, .i, .l] ref01_Bits.code)) ((ref01_Bits.E N).keepOf 7) n (ref01_Bits.st0 x0 p0_t_5_0 p0_t_6_0 p0_b_7) (kontAt (ref01_Bits.E N) [.b, .b, .a, .b, .i, .l, .b, .a, .i, .b, .b, .i] ref01_Bits.code [11] (ref01_Bits.K N))
noncomputable def ref01_Bits.st1 (x0 : addr_Addr) (p1_t_5_0 : Int) (p1_t_6_0 : Int) (p1_b_7 : (List Bool)) : St := ⟨[(1, .s (.loc 1 0)), (3, .s (.own 7)), (4, .s (.d ⟨(.int .i64), (1 : Int)⟩)), (5, .s (.d ⟨(.int .u64), p1_t_5_0⟩)), (6, .s (.d ⟨(.int .i64), p1_t_6_0⟩))], [(1, some [.d ⟨(.int .u64), x0.1⟩, .d ⟨(.int .u64), x0.2⟩])], [(7, ⟨true, (.sc .bool), p1_b_7⟩)]⟩
noncomputable def ref01_Bits.L1 (N : Nat) (n : Nat) : addr_Addr → Int → Int → (List Bool) → Option (RSs.I [.fresh (.sc .bool)]) := fun x0 p1_t_5_0 p1_t_6_0 p1_b_7 => loopN (aexec (ref01_Bits.E N) (subAt [.b, .b, .a, .b, .i, .l, .b, .a, .i, .b, .b, .i, .l] ref01_Bits.code)) ((ref01_Bits.E N).keepOf 7) n (ref01_Bits.st1 x0 p1_t_5_0 p1_t_6_0 p1_b_7) (kontAt (ref01_Bits.E N) [.b, .b, .a, .b, .i, .l, .b, .a, .i, .b, .b, .i] ref01_Bits.code [10] (ref01_Bits.K N))
theorem ref01_Bits.L1_step (N : Nat) (n : Nat) : ref01_Bits.L1 N (n + 1) = ref01_Bits.l1s N (ref01_Bits.L1 N n) := by kernel_rfl
theorem ref01_Bits.L1_eq (N : Nat) (n : Nat) : ref01_Bits.L1 N n = ref01_Bits.l1 N n := by
  induction n with
  | zero => rfl
  | succ n ih =>
    refine (ref01_Bits.L1_step N n).trans ?_
    rw [ih]
    rfl
theorem ref01_Bits.L0_step (N : Nat) (n : Nat) : ref01_Bits.L0 N (n + 1) = ref01_Bits.l0s N (ref01_Bits.L1 N N) (ref01_Bits.L0 N n) := by kernel_rfl
theorem ref01_Bits.L0_eq (N : Nat) (n : Nat) : ref01_Bits.L0 N n = ref01_Bits.l0 N n := by
  induction n with
  | zero => rfl
  | succ n ih =>
    refine (ref01_Bits.L0_step N n).trans ?_
    rw [ref01_Bits.L1_eq]
    rw [ih]
    rfl
theorem ref01_Bits.run_b (N : Nat) (x0 : addr_Addr) : arun (ref01_Bits.E N) Try.f54 [.d V_addr_Addr] [.fresh (.sc .bool)] (x0, ()) = ref01_Bits.b N (ref01_Bits.L0 N N) x0 := by kernel_rfl
theorem ref01_Bits.run (N : Nat) (x0 : addr_Addr) : arun (ref01_Bits.E N) Try.f54 [.d V_addr_Addr] [.fresh (.sc .bool)] (x0, ()) = ref01_Bits N x0 := by
  rw [ref01_Bits.run_b, ref01_Bits.L0_eq]
  rfl
theorem ref01_Bits.sound (N : Nat) : SoundCon Try.prog 54 (ref01_Bits.con N) := sound_go (E := ref01_Bits.E N) 10 Try.func54 (by kernel_rfl) (by kernel_rfl) Try.mixed (by kernel_rfl) tys_ok (by kernel_rfl) _ (by kernel_rfl) soundTab_nil fun z y h => (ref01_Bits.run N z.1).trans h
-- pigeonhole/pigeonholeref04.Meet
noncomputable def ref04_Meet.E (N : Nat) : Env := { nt := 47, ty := tys, C := fun g => cond (Nat.beq g 54) (some (ref01_Bits.con N)) (none), N := N, keep := [(6, ⟨[5, 6, 7, 8, 9, 31, 32, 33, 34, 37, 38, 39, 40, 41, 42, 43, 44, 45], [], [12, 15, 18, 21], [], [], [], 0⟩)], shrink := [], shr := [], eqs := [] }
noncomputable def ref04_Meet.code : Code := (Try.f25.body).getD .skip
noncomputable def ref04_Meet.K (N : Nat) : AX → St → Option (RSs.I [.d (.sc .bool)]) := finish (ref04_Meet.E N) Try.f25.results.toList [.d (.sc .bool)]
noncomputable def ref04_Meet.st0 (y1 : (List Bool)) (y2 : (List Bool)) (y3 : (List Bool)) (y4 : (List Bool)) (p0_t_9_0 : Int) : St := ⟨[(5, .s (.own 12)), (6, .s (.own 15)), (7, .s (.own 18)), (8, .s (.own 21)), (9, .s (.d ⟨(.int .i64), p0_t_9_0⟩)), (31, .s .dead), (32, .s .dead), (33, .s .dead), (34, .s .dead), (37, .s .dead), (38, .s .dead), (39, .s .dead), (40, .s .dead), (41, .s .dead), (42, .s .dead), (43, .s .dead), (44, .s .dead), (45, .s .dead)], [], [(12, ⟨true, (.sc .bool), y1⟩), (15, ⟨true, (.sc .bool), y2⟩), (18, ⟨true, (.sc .bool), y3⟩), (21, ⟨true, (.sc .bool), y4⟩)]⟩
noncomputable def ref04_Meet.L0 (N : Nat) (n : Nat) : (List Bool) → (List Bool) → (List Bool) → (List Bool) → Int → Option (RSs.I [.d (.sc .bool)]) := fun y1 y2 y3 y4 p0_t_9_0 => loopN (aexec (ref04_Meet.E N) (subAt [.b, .b, .b, .b, .b, .a, .b, .i, .l] ref04_Meet.code)) ((ref04_Meet.E N).keepOf 6) n (ref04_Meet.st0 y1 y2 y3 y4 p0_t_9_0) (kontAt (ref04_Meet.E N) [.b, .b, .b, .b, .b, .a, .b, .i] ref04_Meet.code [] (ref04_Meet.K N))
theorem ref04_Meet.L0_step (N : Nat) (n : Nat) : ref04_Meet.L0 N (n + 1) = ref04_Meet.l0s N (ref04_Meet.L0 N n) := by kernel_rfl
theorem ref04_Meet.L0_eq (N : Nat) (n : Nat) : ref04_Meet.L0 N n = ref04_Meet.l0 N n := by
  induction n with
  | zero => rfl
  | succ n ih =>
    refine (ref04_Meet.L0_step N n).trans ?_
    rw [ih]
    rfl
theorem ref04_Meet.run_b (N : Nat) (x0 : word_Word) (x1 : word_Word) : arun (ref04_Meet.E N) Try.f25 [.d V_word_Word, .d V_word_Word] [.d (.sc .bool)] (x0, (x1, ())) = ref04_Meet.b N (ref04_Meet.L0 N N) x0 x1 := by kernel_rfl
theorem ref04_Meet.run (N : Nat) (x0 : word_Word) (x1 : word_Word) : arun (ref04_Meet.E N) Try.f25 [.d V_word_Word, .d V_word_Word] [.d (.sc .bool)] (x0, (x1, ())) = ref04_Meet N x0 x1 := by
  rw [ref04_Meet.run_b, ref04_Meet.L0_eq]
  rfl
theorem ref04_Meet.sound (N : Nat) : SoundCon Try.prog 25 (ref04_Meet.con N) := sound_go (E := ref04_Meet.E N) 10 Try.func25 (by kernel_rfl) (by kernel_rfl) Try.mixed (by kernel_rfl) tys_ok (by kernel_rfl) _ (by kernel_rfl) (soundTab_cons (ref01_Bits.sound N) soundTab_nil) fun z y h => (ref04_Meet.run N z.1 z.2.1).trans h
-- pigeonhole/pigeonholeref10.Simple
noncomputable def ref10_Simple.E (N : Nat) : Env := { nt := 40, ty := tys, C := fun g => cond (Nat.beq g 25) (some (ref04_Meet.con N)) (none), N := N, keep := [(2, ⟨[0, 3, 28, 29, 30, 31, 32, 33, 34, 35, 36, 37, 38], [], [], [], [], [], 0⟩), (5, ⟨[0, 3, 4, 28, 29, 30, 31, 32, 33, 34, 35, 36, 37, 38], [], [], [], [], [], 0⟩)], shrink := [], shr := [], eqs := [] }
noncomputable def ref10_Simple.code : Code := (Try.f7.body).getD .skip
noncomputable def ref10_Simple.K (N : Nat) : AX → St → Option (RSs.I [.d (.sc .bool)]) := finish (ref10_Simple.E N) Try.f7.results.toList [.d (.sc .bool)]
noncomputable def ref10_Simple.st0 (x0 : (List entry_Entry)) (p0_t_3_0 : Int) : St := ⟨[(0, .s (.d ⟨(.sl V_entry_Entry), x0⟩)), (3, .s (.d ⟨(.int .i64), p0_t_3_0⟩)), (28, .s .dead), (29, .s .dead), (30, .s .dead), (31, .s .dead), (32, .s .dead), (33, .s .dead), (34, .s .dead), (35, .s .dead), (36, .s .dead), (37, .s .dead), (38, .s .dead)], [], []⟩
noncomputable def ref10_Simple.L0 (N : Nat) (n : Nat) : (List entry_Entry) → Int → Option (RSs.I [.d (.sc .bool)]) := fun x0 p0_t_3_0 => loopN (aexec (ref10_Simple.E N) (subAt [.b, .a, .b, .i, .l] ref10_Simple.code)) ((ref10_Simple.E N).keepOf 2) n (ref10_Simple.st0 x0 p0_t_3_0) (kontAt (ref10_Simple.E N) [.b, .a, .b, .i] ref10_Simple.code [] (ref10_Simple.K N))
noncomputable def ref10_Simple.st1 (x0 : (List entry_Entry)) (p0_t_3_0 : Int) (p1_t_4_0 : Int) : St := ⟨[(0, .s (.d ⟨(.sl V_entry_Entry), x0⟩)), (3, .s (.d ⟨(.int .i64), p0_t_3_0⟩)), (4, .s (.d ⟨(.int .i64), p1_t_4_0⟩)), (28, .s .dead), (29, .s .dead), (30, .s .dead), (31, .s .dead), (32, .s .dead), (33, .s .dead), (34, .s .dead), (35, .s .dead), (36, .s .dead), (37, .s .dead), (38, .s .dead)], [], []⟩
noncomputable def ref10_Simple.L1 (N : Nat) (n0 : Nat) (n : Nat) : (List entry_Entry) → Int → Int → Option (RSs.I [.d (.sc .bool)]) := fun x0 p0_t_3_0 p1_t_4_0 => loopN (aexec (ref10_Simple.E N) (subAt [.b, .a, .b, .i, .l, .b, .a, .i, .b, .i, .l] ref10_Simple.code)) ((ref10_Simple.E N).keepOf 5) n (ref10_Simple.st1 x0 p0_t_3_0 p1_t_4_0) (kontAt (ref10_Simple.E N) [.b, .a, .b, .i, .l, .b, .a, .i, .b, .i] ref10_Simple.code [n0] (ref10_Simple.K N))
theorem ref10_Simple.L1_step (N : Nat) (n0 : Nat) (n : Nat) : ref10_Simple.L1 N n0 (n + 1) = ref10_Simple.l1s N (ref10_Simple.L0 N n0) (ref10_Simple.L1 N n0 n) := by kernel_rfl
theorem ref10_Simple.L1_eq (N : Nat) (n0 : Nat) (n : Nat) : ref10_Simple.L1 N n0 n = ref10_Simple.l1 N (ref10_Simple.L0 N n0) n := by
  induction n with
  | zero => rfl
  | succ n ih =>
    refine (ref10_Simple.L1_step N n0 n).trans ?_
    rw [ih]
    rfl
theorem ref10_Simple.L0_step (N : Nat) (n : Nat) : ref10_Simple.L0 N (n + 1) = ref10_Simple.l0s N (ref10_Simple.L1 N n N) (ref10_Simple.L0 N n) := by kernel_rfl
theorem ref10_Simple.L0_eq (N : Nat) (n : Nat) : ref10_Simple.L0 N n = ref10_Simple.l0 N n := by
  induction n with
  | zero => rfl
  | succ n ih =>
    refine (ref10_Simple.L0_step N n).trans ?_
    rw [ref10_Simple.L1_eq]
    rw [ih]
    rfl
theorem ref10_Simple.run_b (N : Nat) (x0 : (List entry_Entry)) : arun (ref10_Simple.E N) Try.f7 [.d (.sc (.sl V_entry_Entry))] [.d (.sc .bool)] (x0, ()) = ref10_Simple.b N (ref10_Simple.L0 N N) x0 := by kernel_rfl
theorem ref10_Simple.run (N : Nat) (x0 : (List entry_Entry)) : arun (ref10_Simple.E N) Try.f7 [.d (.sc (.sl V_entry_Entry))] [.d (.sc .bool)] (x0, ()) = ref10_Simple N x0 := by
  rw [ref10_Simple.run_b, ref10_Simple.L0_eq]
  rfl
theorem ref10_Simple.sound (N : Nat) : SoundCon Try.prog 7 (ref10_Simple.con N) := sound_go (E := ref10_Simple.E N) 10 Try.func7 (by kernel_rfl) (by kernel_rfl) Try.mixed (by kernel_rfl) tys_ok (by kernel_rfl) _ (by kernel_rfl) (soundTab_cons (ref04_Meet.sound N) soundTab_nil) fun z y h => (ref10_Simple.run N z.1).trans h
-- pigeonhole/pigeonholelaw04.Of
noncomputable def law04_Of.E (N : Nat) : Env := { nt := 8, ty := tys, C := fun g => none, N := N, keep := [], shrink := [], shr := [], eqs := [] }
theorem law04_Of.run_b (N : Nat) (x0 : word_Word) : arun (law04_Of.E N) Try.f55 [.d V_word_Word] [.d V_word_Word] (x0, ()) = law04_Of.b N x0 := by kernel_rfl
theorem law04_Of.run (N : Nat) (x0 : word_Word) : arun (law04_Of.E N) Try.f55 [.d V_word_Word] [.d V_word_Word] (x0, ()) = law04_Of N x0 := by
  rw [law04_Of.run_b]
  rfl
theorem law04_Of.sound (N : Nat) : SoundCon Try.prog 55 (law04_Of.con N) := sound_go (E := law04_Of.E N) 10 Try.func55 (by kernel_rfl) (by kernel_rfl) Try.mixed (by kernel_rfl) tys_ok (by kernel_rfl) _ (by kernel_rfl) soundTab_nil fun z y h => (law04_Of.run N z.1).trans h
-- pigeonhole/pigeonholelaw05.One
noncomputable def law05_One.E (N : Nat) : Env := { nt := 11, ty := tys, C := fun g => cond (Nat.beq g 55) (some (law04_Of.con N)) (none), N := N, keep := [], shrink := [], shr := [], eqs := [] }
theorem law05_One.run_b (N : Nat) (x0 : entry_Entry) : arun (law05_One.E N) Try.f26 [.d V_entry_Entry] [.d V_entry_Entry] (x0, ()) = law05_One.b N x0 := by kernel_rfl
theorem law05_One.run (N : Nat) (x0 : entry_Entry) : arun (law05_One.E N) Try.f26 [.d V_entry_Entry] [.d V_entry_Entry] (x0, ()) = law05_One N x0 := by
  rw [law05_One.run_b]
  rfl
theorem law05_One.sound (N : Nat) : SoundCon Try.prog 26 (law05_One.con N) := sound_go (E := law05_One.E N) 10 Try.func26 (by kernel_rfl) (by kernel_rfl) Try.mixed (by kernel_rfl) tys_ok (by kernel_rfl) _ (by kernel_rfl) (soundTab_cons (law04_Of.sound N) soundTab_nil) fun z y h => (law05_One.run N z.1).trans h
-- pigeonhole/pigeonholelaw05.Of
noncomputable def law05_Of.E (N : Nat) : Env := { nt := 19, ty := tys, C := fun g => cond (Nat.beq g 26) (some (law05_One.con N)) (none), N := N, keep := [(3, ⟨[3, 6, 7, 8], [], [3], [], [], [], 0⟩)], shrink := [], shr := [], eqs := [] }
noncomputable def law05_Of.code : Code := (Try.f8.body).getD .skip
noncomputable def law05_Of.K (N : Nat) : AX → St → Option (RSs.I [.fresh V_entry_Entry]) := finish (law05_Of.E N) Try.f8.results.toList [.fresh V_entry_Entry]
noncomputable def law05_Of.st0 (x0 : (List entry_Entry)) (p0_t_8_0 : Int) (p0_b_3 : (List entry_Entry)) : St := ⟨[(3, .s (.own 3)), (6, .s (.d ⟨(.sl V_entry_Entry), x0⟩)), (7, .s (.d ⟨(.int .i64), ((List.length x0 : Nat) : Int)⟩)), (8, .s (.d ⟨(.int .i64), p0_t_8_0⟩))], [], [(3, ⟨true, V_entry_Entry, p0_b_3⟩)]⟩
noncomputable def law05_Of.L0 (N : Nat) (n : Nat) : (List entry_Entry) → Int → (List entry_Entry) → Option (RSs.I [.fresh V_entry_Entry]) := fun x0 p0_t_8_0 p0_b_3 => loopN (aexec (law05_Of.E N) (subAt [.b, .b, .a, .b, .i, .l] law05_Of.code)) ((law05_Of.E N).keepOf 3) n (law05_Of.st0 x0 p0_t_8_0 p0_b_3) (kontAt (law05_Of.E N) [.b, .b, .a, .b, .i] law05_Of.code [] (law05_Of.K N))
theorem law05_Of.L0_step (N : Nat) (n : Nat) : law05_Of.L0 N (n + 1) = law05_Of.l0s N (law05_Of.L0 N n) := by kernel_rfl
theorem law05_Of.L0_eq (N : Nat) (n : Nat) : law05_Of.L0 N n = law05_Of.l0 N n := by
  induction n with
  | zero => rfl
  | succ n ih =>
    refine (law05_Of.L0_step N n).trans ?_
    rw [ih]
    rfl
theorem law05_Of.run_b (N : Nat) (x0 : (List entry_Entry)) : arun (law05_Of.E N) Try.f8 [.d (.sc (.sl V_entry_Entry))] [.fresh V_entry_Entry] (x0, ()) = law05_Of.b N (law05_Of.L0 N N) x0 := by kernel_rfl
theorem law05_Of.run (N : Nat) (x0 : (List entry_Entry)) : arun (law05_Of.E N) Try.f8 [.d (.sc (.sl V_entry_Entry))] [.fresh V_entry_Entry] (x0, ()) = law05_Of N x0 := by
  rw [law05_Of.run_b, law05_Of.L0_eq]
  rfl
theorem law05_Of.sound (N : Nat) : SoundCon Try.prog 8 (law05_Of.con N) := sound_go (E := law05_Of.E N) 10 Try.func8 (by kernel_rfl) (by kernel_rfl) Try.mixed (by kernel_rfl) tys_ok (by kernel_rfl) _ (by kernel_rfl) (soundTab_cons (law05_One.sound N) soundTab_nil) fun z y h => (law05_Of.run N z.1).trans h
-- cmp.isNaN[int]
noncomputable def cmp_isNaN_int.E (N : Nat) : Env := { nt := 6, ty := tys, C := fun g => none, N := N, keep := [], shrink := [], shr := [], eqs := [] }
theorem cmp_isNaN_int.run_b (N : Nat) (x0 : Int) : arun (cmp_isNaN_int.E N) Try.f73 [.d (.sc (.int .i64))] [.d (.sc .bool)] (x0, ()) = cmp_isNaN_int.b N x0 := by kernel_rfl
theorem cmp_isNaN_int.run (N : Nat) (x0 : Int) : arun (cmp_isNaN_int.E N) Try.f73 [.d (.sc (.int .i64))] [.d (.sc .bool)] (x0, ()) = cmp_isNaN_int N x0 := by
  rw [cmp_isNaN_int.run_b]
  rfl
theorem cmp_isNaN_int.sound (N : Nat) : SoundCon Try.prog 73 (cmp_isNaN_int.con N) := sound_go (E := cmp_isNaN_int.E N) 10 Try.func73 (by kernel_rfl) (by kernel_rfl) Try.mixed (by kernel_rfl) tys_ok (by kernel_rfl) _ (by kernel_rfl) soundTab_nil fun z y h => (cmp_isNaN_int.run N z.1).trans h
-- cmp.Compare[int]
noncomputable def cmp_Compare_int.E (N : Nat) : Env := { nt := 20, ty := tys, C := fun g => cond (Nat.beq g 73) (some (cmp_isNaN_int.con N)) (none), N := N, keep := [], shrink := [], shr := [], eqs := [] }
theorem cmp_Compare_int.run_b (N : Nat) (x0 : Int) (x1 : Int) : arun (cmp_Compare_int.E N) Try.f42 [.d (.sc (.int .i64)), .d (.sc (.int .i64))] [.d (.sc (.int .i64))] (x0, (x1, ())) = cmp_Compare_int.b N x0 x1 := by kernel_rfl
theorem cmp_Compare_int.run (N : Nat) (x0 : Int) (x1 : Int) : arun (cmp_Compare_int.E N) Try.f42 [.d (.sc (.int .i64)), .d (.sc (.int .i64))] [.d (.sc (.int .i64))] (x0, (x1, ())) = cmp_Compare_int N x0 x1 := by
  rw [cmp_Compare_int.run_b]
  rfl
theorem cmp_Compare_int.sound (N : Nat) : SoundCon Try.prog 42 (cmp_Compare_int.con N) := sound_go (E := cmp_Compare_int.E N) 10 Try.func42 (by kernel_rfl) (by kernel_rfl) Try.mixed (by kernel_rfl) tys_ok (by kernel_rfl) _ (by kernel_rfl) (soundTab_cons (cmp_isNaN_int.sound N) soundTab_nil) fun z y h => (cmp_Compare_int.run N z.1 z.2.1).trans h
-- cmp.Or[int]
noncomputable def cmp_Or_int.E (N : Nat) : Env := { nt := 18, ty := tys, C := fun g => none, N := N, keep := [(3, ⟨[3, 6, 7, 8], [], [], [], [], [], 0⟩)], shrink := [], shr := [], eqs := [] }
noncomputable def cmp_Or_int.code : Code := (Try.f95.body).getD .skip
noncomputable def cmp_Or_int.K (N : Nat) : AX → St → Option (RSs.I [.d (.sc (.int .i64))]) := finish (cmp_Or_int.E N) Try.f95.results.toList [.d (.sc (.int .i64))]
noncomputable def cmp_Or_int.st0 (x0 : (List Int)) (p0_t_8_0 : Int) : St := ⟨[(3, .s (.d ⟨(.int .i64), (0 : Int)⟩)), (6, .s (.d ⟨(.sl (.sc (.int .i64))), x0⟩)), (7, .s (.d ⟨(.int .i64), ((List.length x0 : Nat) : Int)⟩)), (8, .s (.d ⟨(.int .i64), p0_t_8_0⟩))], [], []⟩
noncomputable def cmp_Or_int.L0 (N : Nat) (n : Nat) : (List Int) → Int → Option (RSs.I [.d (.sc (.int .i64))]) := fun x0 p0_t_8_0 => loopN (aexec (cmp_Or_int.E N) (subAt [.b, .b, .a, .b, .i, .l] cmp_Or_int.code)) ((cmp_Or_int.E N).keepOf 3) n (cmp_Or_int.st0 x0 p0_t_8_0) (kontAt (cmp_Or_int.E N) [.b, .b, .a, .b, .i] cmp_Or_int.code [] (cmp_Or_int.K N))
theorem cmp_Or_int.L0_step (N : Nat) (n : Nat) : cmp_Or_int.L0 N (n + 1) = cmp_Or_int.l0s N (cmp_Or_int.L0 N n) := by kernel_rfl
theorem cmp_Or_int.L0_eq (N : Nat) (n : Nat) : cmp_Or_int.L0 N n = cmp_Or_int.l0 N n := by
  induction n with
  | zero => rfl
  | succ n ih =>
    refine (cmp_Or_int.L0_step N n).trans ?_
    rw [ih]
    rfl
theorem cmp_Or_int.run_b (N : Nat) (x0 : (List Int)) : arun (cmp_Or_int.E N) Try.f95 [.d (.sc (.sl (.sc (.int .i64))))] [.d (.sc (.int .i64))] (x0, ()) = cmp_Or_int.b N (cmp_Or_int.L0 N N) x0 := by kernel_rfl
theorem cmp_Or_int.run (N : Nat) (x0 : (List Int)) : arun (cmp_Or_int.E N) Try.f95 [.d (.sc (.sl (.sc (.int .i64))))] [.d (.sc (.int .i64))] (x0, ()) = cmp_Or_int N x0 := by
  rw [cmp_Or_int.run_b, cmp_Or_int.L0_eq]
  rfl
theorem cmp_Or_int.sound (N : Nat) : SoundCon Try.prog 95 (cmp_Or_int.con N) := sound_go (E := cmp_Or_int.E N) 10 Try.func95 (by kernel_rfl) (by kernel_rfl) Try.mixed (by kernel_rfl) tys_ok (by kernel_rfl) _ (by kernel_rfl) soundTab_nil fun z y h => (cmp_Or_int.run N z.1).trans h
-- pigeonhole/addr.Compare
noncomputable def addr_Compare.E (N : Nat) : Env := { nt := 26, ty := tys, C := fun g => none, N := N, keep := [(2, ⟨[2, 3, 6], [0, 1, 2, 3, 4, 5, 6, 7, 8, 9, 10, 11, 12, 13, 14, 15, 16, 17, 18, 19, 20, 21, 22, 23, 24, 25], [0, 1, 2, 3, 4, 5, 6, 7, 8, 9, 10, 11, 12, 13, 14, 15, 16, 17, 18, 19, 20, 21, 22, 23, 24, 25], [], [], [], 12⟩)], shrink := [], shr := [], eqs := [] }
theorem addr_Compare.run_b (N : Nat) (x0 : addr_Addr) (x1 : addr_Addr) : arun (addr_Compare.E N) Try.f96 [.d V_addr_Addr, .d V_addr_Addr] [.d (.sc (.int .i64))] (x0, (x1, ())) = addr_Compare.b N x0 x1 := by kernel_rfl
theorem addr_Compare.run (N : Nat) (x0 : addr_Addr) (x1 : addr_Addr) : arun (addr_Compare.E N) Try.f96 [.d V_addr_Addr, .d V_addr_Addr] [.d (.sc (.int .i64))] (x0, (x1, ())) = addr_Compare N x0 x1 := by
  rw [addr_Compare.run_b]
  rfl
theorem addr_Compare.sound (N : Nat) : SoundCon Try.prog 96 (addr_Compare.con N) := sound_go (E := addr_Compare.E N) 10 Try.func96 (by kernel_rfl) (by kernel_rfl) Try.mixed (by kernel_rfl) tys_ok (by kernel_rfl) _ (by kernel_rfl) soundTab_nil fun z y h => (addr_Compare.run N z.1 z.2.1).trans h
-- pigeonhole/entry.Compare
noncomputable def entry_Compare.E (N : Nat) : Env := { nt := 31, ty := tys, C := fun g => cond (Nat.beq g 42) (some (cmp_Compare_int.con N)) (cond (Nat.beq g 95) (some (cmp_Or_int.con N)) (cond (Nat.beq g 96) (some (addr_Compare.con N)) (none))), N := N, keep := [], shrink := [], shr := [], eqs := [] }
theorem entry_Compare.run_b (N : Nat) (x0 : entry_Entry) (x1 : entry_Entry) : arun (entry_Compare.E N) Try.f62 [.d V_entry_Entry, .d V_entry_Entry] [.d (.sc (.int .i64))] (x0, (x1, ())) = entry_Compare.b N x0 x1 := by kernel_rfl
theorem entry_Compare.run (N : Nat) (x0 : entry_Entry) (x1 : entry_Entry) : arun (entry_Compare.E N) Try.f62 [.d V_entry_Entry, .d V_entry_Entry] [.d (.sc (.int .i64))] (x0, (x1, ())) = entry_Compare N x0 x1 := by
  rw [entry_Compare.run_b]
  rfl
theorem entry_Compare.sound (N : Nat) : SoundCon Try.prog 62 (entry_Compare.con N) := sound_go (E := entry_Compare.E N) 10 Try.func62 (by kernel_rfl) (by kernel_rfl) Try.mixed (by kernel_rfl) tys_ok (by kernel_rfl) _ (by kernel_rfl) (soundTab_cons (cmp_Compare_int.sound N) (soundTab_cons (cmp_Or_int.sound N) (soundTab_cons (addr_Compare.sound N) soundTab_nil))) fun z y h => (entry_Compare.run N z.1 z.2.1).trans h
end Go.PgAM

/-
  The library's functions that the program calls, by their contracts.
-/
namespace Go.PgAM
open Go Go.RowKit Go.Shelf Go.Proofs
theorem cloneEnt_sound : SoundCon Try.prog 60 (cloneCon VE) := by
  have h := clone_sound (P := Try.prog) Try.cloneEnt (i0 := (Try.prog.info? 45).getD default) (z := ((Try.prog.info? 45).getD default).zero.getD Go.undef) VE rfl (by decide) (by kernel_rfl) (by kernel_rfl) (by kernel_rfl) (by kernel_rfl) (of_decide_eq_true (by kernel_rfl)) (of_decide_eq_true (by kernel_rfl))
  exact h
theorem c1_eqn (N : Nat) (a b : Int) : cmp_Compare_int N a b = some (c1 a b) := by
  simp only [cmp_Compare_int, cmp_Compare_int.b, cmp_isNaN_int, cmp_isNaN_int.b, Option.bind_some, bne_self_eq_false, cond_false]
  unfold c1
  by_cases h1 : a < b
  · simp [h1]
  · by_cases h2 : b < a
    · simp [h1, h2]
    · simp [h1, h2]
theorem c2_eqn (N : Nat) (a b : addr_Addr) : addr_Compare N a b = some (orI (c1 a.1 b.1) (c1 a.2 b.2)) := by
  show cond (decide (a.1 < b.1)) (some (-1)) (cond (decide (a.1 > b.1)) (some 1) (cond (decide (a.2 < b.2)) (some (-1)) (cond (decide (a.2 > b.2)) (some 1) (some 0)))) = _
  unfold c1 orI
  by_cases h1 : a.1 < b.1
  · simp [h1]
  · by_cases h2 : b.1 < a.1
    · simp [h1, h2]
    · by_cases h3 : a.2 < b.2
      · simp [h1, h2, h3]
      · by_cases h4 : b.2 < a.2
        · simp [h1, h2, h3, h4]
        · simp [h1, h2, h3, h4]
theorem or_eqn (a b c d : Int) : cmp_Or_int 8 [a, b, c, d] = some (orI a (orI b (orI c d))) := by
  show cond (a != 0) (some a) (cond (b != 0) (some b) (cond (c != 0) (some c) (cond (d != 0) (some d) (some 0)))) = _
  unfold orI
  have hb : ∀ x : Int, ¬ x = 0 → (x != 0) = true := fun x h => bne_iff_ne.2 h
  by_cases h1 : a = 0
  · by_cases h2 : b = 0
    · by_cases h3 : c = 0
      · by_cases h4 : d = 0
        · simp [h1, h2, h3, h4]
        · rw [hb d h4]; simp [h1, h2, h3]
      · rw [hb c h3]; simp [h1, h2, h3]
    · rw [hb b h2]; simp [h1, h2]
  · rw [hb a h1]; simp [h1]
theorem cmp_eqn (x y : Ent) : entry_Compare 8 x y = some (cmpE x y) := by
  show ((cmp_Compare_int 8 y.2.2.2.2.1 x.2.2.2.2.1).bind fun y1 => (addr_Compare 8 (x.1, x.2.1) (y.1, y.2.1)).bind fun y2 => (addr_Compare 8 (x.2.2.1, x.2.2.2.1) (y.2.2.1, y.2.2.2.1)).bind fun y3 => (cmp_Compare_int 8 x.2.2.2.2.2 y.2.2.2.2.2).bind fun y4 => (cmp_Or_int 8 [y1, y2, y3, y4]).bind fun y5 => some y5) = _
  rw [c1_eqn, c2_eqn, c2_eqn, c1_eqn]
  simp only [Option.bind_some]
  rw [or_eqn]
  rfl
theorem cmp_sound (h : SoundCon Try.prog 62 (entry_Compare.con 8)) : SoundCon Try.prog 62 cmpCon :=
  ⟨h.1, fun z y hy => h.2 z y ((cmp_eqn z.1 z.2.1).trans hy)⟩
set_option maxHeartbeats 1000000 in
theorem sort_sound (hcmp : SoundCon Try.prog 62 (entry_Compare.con 8)) : SoundCon Try.prog 31 srtCon := by
  refine ⟨enters_of Try.func31 rfl rfl, fun z y hy F w us qs hF hnd hargs => ?_⟩
  obtain ⟨hle, hy⟩ := cond_some hy
  have hle' := Nat.le_of_ble_eq_true hle
  obtain ⟨xs, uz⟩ := z
  cases hy
  have h1 := cloneEnt_sound.2 (xs, ()) xs (by show cond _ _ _ = _; rw [show Nat.ble (List.length (α := VT.I VE) (xs, ()).1) 4096 = true from hle]; rfl) F w us qs hF hnd hargs
  obtain ⟨u, us', q, qs', rfl, rfl, ⟨rfl, -⟩, rfl, rfl⟩ := hargs
  have hsort := fun F1 w1 v q1 => sort_val (P := Try.prog) (F := F1) (w := w1) (v := v) (q := q1) Try.sortEnt Try.isAgg45 Try.sizeOf45 (cmp_sound hcmp) (xs := xs) hle'
  change ∀ F1 w1 v q1, _ → _ → Calls Try.prog 61 _ _ _ at hsort
  go_enter Try.func31, Try.ntmps31
  go_wp2_with (go_at_call 60; refine h1.mono ?_; rintro e w1 ⟨vs, F1, ps, rfl, hev, ⟨v, q1, rfl, rfl, hres⟩, hnd1, hnew⟩; dsimp only [packV])
  go_wp2_with (go_at_call 61; refine (hsort F1 _ v q1 hev.fnew hres).mono ?_; rintro e w2 ⟨rfl, hev2, hbuf⟩)
  go_ret
  exact ⟨[v], F1, [q1], rfl, Evo.two hev hev2 (fun b hb => (hnew b hb).resolve_right (by simp [blk])), ⟨_, _, rfl, rfl, hbuf⟩, hnd1, hnew⟩
theorem sortE.sound (N : Nat) : SoundCon Try.prog 31 (sortE.con N) := sort_sound (entry_Compare.sound 8)
end Go.PgAM
