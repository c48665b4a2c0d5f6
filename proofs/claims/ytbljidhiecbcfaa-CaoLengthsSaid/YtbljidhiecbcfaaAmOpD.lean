/-
  Operations, one by one: what is appended.
-/
import Derived.Test.YtbljidhiecbcfaaAmOpC
import Derived.Laws.AppendOwn
namespace Go.PgAM
open Go Go.RowKit
set_option linter.unusedVariables false
set_option linter.unusedSimpArgs false
variable {P : Program} {E : Env} {Z : At0} {X : Cx} {st st' : St} {a : Act} {w w' : World} {o : Oper} {next : Act → World → Prop} {Q : Exit → Act → World → Prop}

theorem run_app_fit {T T2 T' T2' ty : TypeId} {i : TypeInfo} (hu : P.underlying T = some (.slice T')) (hu2 : P.underlying T2 = some (.slice T2')) (hi : P.info? T' = some i) {ts : Array TypeId} (h0 : ts[0]? = some T) (h1 : ts[1]? = some T2)
    {base ax : Option Addr} {n cap m c : Nat} {news : Array Value} (hroom : n + m ≤ cap) (hnew : (Builtin.firstCells i.size m (.slice ax m c)).run P w = .ok news w)
    (hst : ∀ b, base = some b → (storeCells (b.add (n * i.size)) news.toList).run P w = .ok () w') (hno : base = none → w' = w) :
    (Builtin.append_ ts ty #[.slice base n cap, .slice ax m c]).run P w = .ok (.slice base (n + m) cap) w' := by
  cases base with
  | none =>
    have := hno rfl
    subst this
    simp [Builtin.append_, run_underlying hu, run_underlying hu2, sizeOf, typeInfo, hi, Builtin.lenOf, hroom, h0, h1, hnew]
  | some b =>
    have := hst b rfl
    simp [Builtin.append_, run_underlying hu, run_underlying hu2, sizeOf, typeInfo, hi, Builtin.lenOf, hroom, h0, h1, hnew, this]
theorem run_app_grow {T T2 T' T2' ty : TypeId} {i : TypeInfo} {z : Value} (hu : P.underlying T = some (.slice T')) (hu2 : P.underlying T2 = some (.slice T2')) (hi : P.info? T' = some i) (hz : i.zero = some z) {ts : Array TypeId} (h0 : ts[0]? = some T) (h1 : ts[1]? = some T2)
    {base ax : Option Addr} {n cap m c : Nat} {olds news : Array Value} (hroom : cap < n + m) (hold : (Builtin.firstCells i.size n (.slice base n cap)).run P w.drew = .ok olds w.drew) (hnew : (Builtin.firstCells i.size m (.slice ax m c)).run P w.drew = .ok news w.drew)
    (h63 : ((n + m : Nat) : Int) ≤ 9223372036854775807) (hfit : Builtin.nextslicecap (n + m) cap * i.bytes ≤ 281474976710656) :
    (Builtin.append_ ts ty #[.slice base n cap, .slice ax m c]).run P w =
      .ok (.slice (some ⟨w.heap.size, 0, none⟩) (n + m) (grownCap w (n + m) cap T')) (w.drew.alloc (.cells (olds ++ news ++ Builtin.zeroCells z.cells (grownCap w (n + m) cap T' - (n + m))) T')) := by
  have hn : ¬ (n + m ≤ cap) := by omega
  have h63' : ¬ (9223372036854775807 < ((n : Int) + (m : Int))) := by omega
  have h48' : ¬ (281474976710656 < Builtin.nextslicecap (n + m) cap * i.bytes) := by omega
  simp [Builtin.append_, run_underlying hu, run_underlying hu2, sizeOf, typeInfo, zeroValue, hi, hz, Builtin.lenOf, hn, h63', h48', Question.forced, hnew, hold, newRow, grownCap, h0, h1]

/-- A list in memory, as its cells. -/
def Src (P : Program) (X : Cx) (w : World) (e : VT) (ys : List e.I) (u : Value) : Prop :=
  ∃ (ax : Option Addr) (c : Nat) (us : List Value), u = .slice ax ys.length c ∧ us.length = ys.length * e.size ∧ (∀ w' : World, w'.heap = w.heap → (Builtin.firstCells e.size ys.length u).run P w' = .ok us.toArray w') ∧
    (∀ v ∈ us, v.oneCell' = true) ∧ ∀ i (h : i < ys.length), RepV P e X.O X.F w (List.get ys ⟨i, h⟩) (fun j => us[i * e.size + j]?)
theorem Src.of {e : VT} {ys : List e.I} {u : Value} {ax : Option Addr} {c : Nat} (hu : u = .slice ax ys.length c) (hpos : 1 ≤ e.size)
    (hx : ys.length = 0 ∨ ∃ b off, ax = some ⟨b, off, none⟩ ∧ ∀ i (h : i < ys.length), RepV P e X.O X.F w (List.get ys ⟨i, h⟩) (fun j => w.cell? ⟨b, off + i * e.size + j, none⟩)) : Src P X w e ys u := by
  rcases hx with h0 | ⟨b, off, rfl, hel⟩
  · refine ⟨ax, c, [], hu, by simp [h0], fun w' _ => ?_, by simp, fun i h => by omega⟩
    subst hu
    cases ax with
    | none => simp [Builtin.firstCells]
    | some a => simp [Builtin.firstCells, h0, Go.loadCells, loadCellsFrom]
  · have hcell : ∀ k, k < ys.length * e.size → ∃ v, w.cell? ⟨b, off + k, none⟩ = some v ∧ v.oneCell' = true := by
      intro k hk
      have hlt : k / e.size < ys.length := Nat.div_lt_of_lt_mul (by rw [Nat.mul_comm]; exact hk)
      have hm : k % e.size < e.size := Nat.mod_lt _ (by omega)
      have hr := hel (k / e.size) hlt
      have hl : k % e.size < (e.cells (List.get ys ⟨k / e.size, hlt⟩)).length := by rw [vcells_length]; exact hm
      obtain ⟨v, hv, hs⟩ := RepV.cells hr _ _ (List.getElem?_eq_getElem hl)
      refine ⟨v, ?_, hs.one⟩
      have : off + k / e.size * e.size + k % e.size = off + k := by
        have := Nat.div_add_mod k e.size
        rw [Nat.mul_comm] at this; omega
      rw [this] at hv; exact hv
    let us := (List.range (ys.length * e.size)).map fun k => (w.cell? ⟨b, off + k, none⟩).getD Go.undef
    have hus : ∀ k v, us[k]? = some v → k < ys.length * e.size ∧ w.cell? ⟨b, off + k, none⟩ = some v := by
      intro k v hk
      simp only [us, List.getElem?_map, Option.map_eq_some_iff] at hk
      obtain ⟨k', hk', rfl⟩ := hk
      obtain ⟨hlt, hk'⟩ := List.getElem?_eq_some_iff.1 hk'
      simp at hlt hk'
      subst hk'
      obtain ⟨v, hv, _⟩ := hcell k hlt
      exact ⟨hlt, by rw [hv]; rfl⟩
    have hus' : ∀ k, k < ys.length * e.size → us[k]? = w.cell? ⟨b, off + k, none⟩ := by
      intro k hk
      obtain ⟨v, hv, _⟩ := hcell k hk
      simp [us, hk, hv]
    have hlen : us.length = ys.length * e.size := by simp [us]
    refine ⟨_, c, us, hu, hlen, fun w' hw => ?_, fun v hv => ?_, fun i hi => ?_⟩
    · subst hu
      refine run_firstCells_some (P := P) w' e.size ys.length ⟨b, off, none⟩ ys.length c us hlen fun j v hj => ?_
      rw [add_at]
      have := (hus j v hj).2
      simpa only [World.cell?, hw] using this
    · obtain ⟨k, hk⟩ := List.mem_iff_getElem?.1 hv
      obtain ⟨h1, h2⟩ := hus k v hk
      obtain ⟨v', hv', ho⟩ := hcell k h1
      rw [h2] at hv'; cases hv'; exact ho
    · refine RepV.mono (fun _ h => h) (fun _ => Nat.le_refl _) (Keeps.refl _ _ _) e _ _ _ (fun j hj => ?_) (hel i hi)
      have h1 : (i + 1) * e.size ≤ ys.length * e.size := Nat.mul_le_mul_right _ hi
      rw [Nat.succ_mul] at h1
      show _ = us[i * e.size + j]?
      rw [hus' (i * e.size + j) (by omega), Nat.add_assoc]
/-- A buffer's elements. -/
theorem Rel.elems (h : Rel P Z X st a w) {tok b cap : Nat} {B : Buf} (hB : look st.b tok = some B) (hβ : X.β tok = some (b, cap)) :
    ∀ i (hi : i < B.xs.length), RepV P B.e X.O X.F w (List.get B.xs ⟨i, hi⟩) (fun j => w.cell? ⟨b, i * B.e.size + j, none⟩) := by
  have hok := h.b tok B hB
  simp only [BufOk, hβ] at hok
  obtain ⟨_, _, _, cs, el, hh, _, hel⟩ := hok
  intro i hi
  have : (fun j => w.cell? ⟨b, i * B.e.size + j, none⟩) = fun j => cs[i * B.e.size + j]? := by
    funext j; simp [World.cell?, hh]
  rw [this]; exact hel i hi
theorem appSrc_ok (h : Rel P Z X st a w) {tok : Nat} {e : VT} {pv : PV} {ys : List e.I} {u : Value} (hpos : 1 ≤ e.size) (hs : appSrc st tok e pv = some ys) (hv : RelP P X st.b w pv u) : Src P X w e ys u := by
  unfold appSrc at hs
  split at hs
  · rename_i c
    have := DC.as_some hs
    subst this
    simp only [RelP, RelC, RepS] at hv
    obtain ⟨ax, cap, hu, _, hx⟩ := hv
    exact Src.of (show u = .slice ax ys.length cap from hu) hpos (hx.imp id fun ⟨b, off, h1, _, h3⟩ => ⟨b, off, h1, h3⟩)
  · rename_i t
    obtain ⟨_, hs⟩ := cond_none hs
    split at hs
    · rename_i B hB
      obtain ⟨p, hp⟩ := castL_some hs
      obtain ⟨B', hB', hsl⟩ := hv
      rw [hB] at hB'; cases hB'
      obtain ⟨x, e', xs⟩ := B
      simp only at p hp hsl
      subst p; simp only at hp; subst hp
      unfold SlAt at hsl
      split at hsl
      · rename_i b cap hβ
        exact Src.of hsl hpos (.inr ⟨b, 0, rfl, fun i hi => by simpa using h.elems hB hβ i hi⟩)
      · obtain ⟨h0, a', hu⟩ := hsl
        refine Src.of (ax := a') (c := 0) (by rw [hu, h0]) hpos (.inl h0)
    · cases hs
  · rename_i t lo
    obtain ⟨_, hs⟩ := cond_none hs
    split at hs
    · rename_i B hB
      split at hs
      · rename_i xs hc
        obtain ⟨p, hp⟩ := castL_some hc
        have hs := Option.some.inj hs
        obtain ⟨B', hB', hle, hsl⟩ := hv
        rw [hB] at hB'; cases hB'
        obtain ⟨x, e', xs'⟩ := B
        simp only at p hp hsl hle
        subst p; simp only at hp; subst hp; subst hs
        have hlen : (xs'.drop lo).length = xs'.length - lo := by simp
        split at hsl
        · rename_i b cap hβ
          obtain ⟨a', hu, ha⟩ := hsl
          refine Src.of (ax := some a') (c := cap - lo) (by rw [hu, hlen]) hpos ?_
          have hok := h.b t _ hB
          simp only [BufOk, hβ] at hok
          have hcap := hok.2.2.1
          rcases Nat.lt_or_ge lo cap with hlt | hge
          · refine .inr ⟨b, lo * e'.size, by rw [ha hlt], fun i hi => ?_⟩
            have hi' : lo + i < xs'.length := by rw [hlen] at hi; omega
            have hg : List.get (xs'.drop lo) ⟨i, hi⟩ = List.get xs' ⟨lo + i, hi'⟩ := by simp
            rw [hg]
            have := h.elems hB hβ (lo + i) hi'
            have e1 : (fun j => w.cell? ⟨b, lo * e'.size + i * e'.size + j, none⟩) = fun j => w.cell? ⟨b, (lo + i) * e'.size + j, none⟩ := by
              funext j; rw [Nat.add_mul]
            rw [e1]; exact this
          · left; rw [hlen]; omega
        · rename_i hβ
          obtain ⟨a', hu⟩ := hsl
          have hok := h.b t _ hB
          simp only [BufOk, hβ] at hok
          have h0 : (xs'.drop lo).length = 0 := by rw [hlen, hok]; simp
          exact Src.of (ax := a') (c := 0) (by rw [hu, h0]) hpos (.inl h0)
      · cases hs
    · cases hs
  · rename_i t hi
    obtain ⟨_, hs⟩ := cond_none hs
    split at hs
    · rename_i B hB
      split at hs
      · rename_i xs hc
        obtain ⟨p, hp⟩ := castL_some hc
        have hs := Option.some.inj hs
        obtain ⟨B', hB', hle, hsl⟩ := hv
        rw [hB] at hB'; cases hB'
        obtain ⟨x, e', xs'⟩ := B
        simp only at p hp hsl hle
        subst p; simp only at hp; subst hp; subst hs
        have hlen : (xs'.take hi).length = hi := by simp only [List.length_take]; exact Nat.min_eq_left hle
        unfold SlAt at hsl
        split at hsl
        · rename_i b cap hβ
          refine Src.of (by rw [hlen]; exact hsl) hpos (.inr ⟨b, 0, rfl, fun i hi' => ?_⟩)
          have hi2 : i < xs'.length := by rw [hlen] at hi'; omega
          have hg : List.get (xs'.take hi) ⟨i, hi'⟩ = List.get xs' ⟨i, hi2⟩ := by simp
          rw [hg]
          simpa using h.elems hB hβ i hi2
        · obtain ⟨h0, a', hu⟩ := hsl
          exact Src.of (ax := a') (c := 0) (by rw [hu, hlen, h0]) hpos (.inl (by rw [hlen]; exact h0))
      · cases hs
    · cases hs
  · rename_i n1 n2 n3 n4
    exfalso
    cases pv with
    | s p =>
      cases p with
      | d c => exact n1 c rfl
      | own t => exact n2 t rfl
      | osuf t lo => exact n3 t lo rfl
      | opre t hi => exact n4 t hi rfl
      | _ => cases hs
    | _ => cases hs
end Go.PgAM
