/-
  slices.SortFunc of entries, in a block of the call's own, as a law of the abstract machine's contracts.
-/
import Derived.Test.YtbljidhiecbcfaaAmCl
import Derived.Test.YtbljidhiecbcfaaAmPs
import Derived.Shelf.SlSortCmp.NoneTotal
namespace Go.PgAM
open Go Go.RowKit Go.Shelf Go.Proofs Go.Lib
set_option linter.unusedVariables false
set_option linter.unusedSimpArgs false
variable {P : Program} {ρ : Ren}

theorem evo_grow {F F' : Nat → Nat} {w w' : World} (e : Evo [] F F' w w') : ∃ q os, w' = Go.Sort.grow (w.drewN q) os := by
  refine ⟨w'.drawn - w.drawn, w'.heap.extract w.heap.size w'.heap.size, ?_⟩
  have hd := e.drawn
  have hh : w'.heap = w.heap ++ w'.heap.extract w.heap.size w'.heap.size := by
    apply Array.ext_getElem?
    intro i
    rw [Array.getElem?_append]
    split
    · rename_i h; exact e.block i h (by simp)
    · rename_i h
      rw [Array.getElem?_extract]
      have := e.size
      by_cases h2 : i < w'.heap.size
      · rw [if_pos (by omega)]; congr 1; omega
      · rw [if_neg (by omega)]; simp; omega
  have hos := e.os
  have htp := e.tape
  have hou := e.output
  cases w'
  cases w
  simp only [Go.Sort.grow, World.drewN] at *
  subst hos htp hou
  congr 1
  omega

abbrev VE : VT := (.ag (.cons (.int .u64) (.cons (.int .u64) (.cons (.int .u64) (.cons (.int .u64) (.cons (.int .i64) (.cons (.int .i64) .nil)))))))
def encE (x : Ent) : List Value := [.int .u64 x.1, .int .u64 x.2.1, .int .u64 x.2.2.1, .int .u64 x.2.2.2.1, .int .i64 x.2.2.2.2.1, .int .i64 x.2.2.2.2.2]
theorem encE_get (x : Ent) {j : Nat} (hj : j < 6) : (encE x)[j]? = some ((encE x)[j]!) := by
  have hl : j < (encE x).length := hj
  rw [List.getElem?_eq_getElem hl, getElem!_pos (encE x) j hl]
theorem repE {O : Nat → Prop} {F : Nat → Nat} {w : World} {x : Ent} {g : Nat → Option Value} : RepV P VE O F w x g ↔ ∀ j, j < 6 → g j = some ((encE x)[j]!) := by
  simp only [RepV, RepCs, RepS]
  constructor
  · rintro ⟨⟨u0, h0, rfl⟩, ⟨u1, h1, rfl⟩, ⟨u2, h2, rfl⟩, ⟨u3, h3, rfl⟩, ⟨u4, h4, rfl⟩, ⟨u5, h5, rfl⟩⟩ j hj
    have : j = 0 ∨ j = 1 ∨ j = 2 ∨ j = 3 ∨ j = 4 ∨ j = 5 := by omega
    rcases this with rfl | rfl | rfl | rfl | rfl | rfl
    · exact h0
    · exact h1
    · exact h2
    · exact h3
    · exact h4
    · exact h5
  · intro h
    exact ⟨⟨_, h 0 (by omega), rfl⟩, ⟨_, h 1 (by omega), rfl⟩, ⟨_, h 2 (by omega), rfl⟩, ⟨_, h 3 (by omega), rfl⟩, ⟨_, h 4 (by omega), rfl⟩, ⟨_, h 5 (by omega), rfl⟩⟩
def cmpCon : Con := ⟨[.d VE, .d VE], [.d (.sc (.int .i64))], fun z => some (cmpE z.1 z.2.1)⟩
theorem cmpLays {cmp : FuncId} (hc : SoundCon P cmp cmpCon) (blk off size : Nat) (w : World) : CmpLays P cmp #[] encE 6 cmpE blk off size w := by
  intro m os dk hdk x y
  have h := hc.2 (x, y, ()) _ rfl (fun _ => 0) (sortWorldK encE 6 w blk off m dk os) [.agg (encE x).toArray, .agg (encE y).toArray] [none, none] (fun _ _ => rfl) List.nodup_nil
    ⟨_, _, _, _, rfl, rfl, ⟨rfl, _, ⟨_, rfl, rfl, rfl⟩, repE.2 fun j hj => ?_⟩, _, _, _, _, rfl, rfl, ⟨rfl, _, ⟨_, rfl, rfl, rfl⟩, repE.2 fun j hj => ?_⟩, rfl, rfl⟩
  · refine h.mono ?_
    rintro e w' ⟨vs, F', ps, rfl, hev, hres, -, -⟩
    obtain ⟨u, q, rfl, rfl, -, g', hg, hr⟩ := hres
    simp only [Whole] at hg
    subst hg
    simp only [RepV, RepS] at hr
    obtain ⟨u', hu, hr⟩ := hr
    cases hu
    subst hr
    exact ⟨rfl, evo_grow hev⟩
  · simp only [List.getElem?_toArray]
    exact encE_get x hj
  · simp only [List.getElem?_toArray]
    exact encE_get y hj
theorem ltOf_eq : ltOf cmpE = ltE := rfl
theorem ltE_swo : Go.Sort.SWO ltE := ⟨ltE_irrefl, fun _ _ _ => ltE_trans, fun _ _ _ => ltE_ntrans⟩
theorem merge_srt (l : List Ent) : (l.mergeSort fun x y => !ltE y x) = srtE l := by
  refine sorted_one ((List.mergeSort_perm _ _).trans (srtE_perm l).symm) ?_ (srtE_sorted l)
  have := List.pairwise_mergeSort (le := fun x y => !ltE y x) (fun a b c h1 h2 => by
    simp only [Bool.not_eq_true'] at h1 h2 ⊢
    exact ltE_ntrans h2 h1) (fun a b => by
    cases h : ltE b a with
    | false => simp
    | true =>
      cases h2 : ltE a b with
      | false => simp
      | true => have := ltE_trans h h2; rw [ltE_irrefl] at this; cases this) l
  simpa using this
theorem flat_get (d : Array Ent) (t : Nat) (ht : t < d.size * 6) : (Go.Sort.flatK encE 6 d)[t]! = (encE d[t / 6]!)[t % 6]! := Go.Sort.get_flatK encE 6 d t ht
set_option maxRecDepth 10000 in
theorem sort_row (L : SlLaysF0.n6 P ρ) (aE : ∀ w, (isAgg (ρ.t 24)).run P w = .ok true w) (zE : ∀ w, (Go.sizeOf (ρ.t 24)).run P w = .ok 6 w) {cmp : FuncId} (hc : SoundCon P cmp cmpCon) {O : Nat → Prop} {F : Nat → Nat} {w : World} {b cap : Nat} {cs : Array Value} {el : TypeId} {xs : List Ent}
    (hh : w.heap[b]? = some (.cells cs el (0, 0))) (hsz : cs.size = cap * 6) (hle : xs.length ≤ cap) (hlen : xs.length ≤ 4096) (hF : ∀ b, w.heap.size ≤ b → F b = 0)
    (hel : ∀ i (h : i < xs.length), RepV P VE O F w (xs.get ⟨i, h⟩) (fun j => cs[i * 6 + j]?)) :
    Calls P (ρ.f 6) #[.slice (some ⟨b, 0, none⟩) xs.length cap, .func (.func cmp) #[] #[]] w fun e w' => e = .returned (.tuple #[]) ∧ Evo [b] F F w w' ∧
      ∃ cs' : Array Value, w'.heap[b]? = some (.cells cs' el (0, 0)) ∧ cs'.size = cap * 6 ∧ ∀ i (h : i < (srtE xs).length), RepV P VE (fun _ => False) F w' ((srtE xs).get ⟨i, h⟩) (fun j => cs'[i * 6 + j]?) := by
  have hb : b < w.heap.size := (Array.getElem?_eq_some_iff.1 hh).1
  have hH : Go.Sort.HoldsK encE 6 w b 0 xs.toArray := by
    intro t ht
    rw [Go.Sort.size_flatK] at ht
    have ht' : t < xs.length * 6 := by simpa using ht
    have hi : t / 6 < xs.length := by omega
    have h1 := repE.1 (hel (t / 6) hi) (t % 6) (Nat.mod_lt _ (by omega))
    rw [show t / 6 * 6 + t % 6 = t by omega] at h1
    refine ⟨?_, ?_⟩
    · rw [flat_get _ _ ht]
      simp only [World.cell?, hh, Nat.zero_add, id]
      rw [if_neg (by simp), h1]
      congr 2
      rw [List.get_eq_getElem]
      simp [hi]
    · simp [World.frozen?, hh]
  have h := AnyQ.slices_SortFunc_total L 6 aE zE encE (fun _ => rfl) (fun x v hv => by simp [encE] at hv; rcases hv with rfl | rfl | rfl | rfl | rfl | rfl <;> rfl) cmpE ltE_swo cmp #[] b 0 cap xs.toArray w hc.1 (cmpLays hc b 0 _ w) hH hb (by simp; omega) (fun x y h1 h2 => ltE_anti h1 h2)
  have h2 : Calls P (ρ.f 6) #[.slice (some ⟨b, 0, none⟩) xs.length cap, .func (.func cmp) #[] #[]] w fun e w' =>
      e = .returned (.tuple #[]) ∧ ∃ n os, w' = sortWorldK encE 6 w b 0 n (srtE xs).toArray os := by
    refine h.mono fun e w' ⟨he, n, os, hw⟩ => ⟨he, n, os, ?_⟩
    rw [hw]
    congr 2
    exact merge_srt xs
  refine h2.mono ?_
  rintro e w' ⟨rfl, n, os, rfl⟩
  have hheap : (sortWorldK encE 6 w b 0 n (srtE xs).toArray os).heap = (w.heap.modify b (Go.Sort.onCells (Go.Sort.putCells id 0 (Go.Sort.flatK encE 6 (srtE xs).toArray)))) ++ os := rfl
  have hold : ∀ k, k < w.heap.size → k ≠ b → (sortWorldK encE 6 w b 0 n (srtE xs).toArray os).heap[k]? = w.heap[k]? := by
    intro k hk hne
    rw [hheap, Array.getElem?_append_left (by simpa using hk), Array.getElem?_modify, if_neg (Ne.symm hne)]
  have hnew : (sortWorldK encE 6 w b 0 n (srtE xs).toArray os).heap[b]? = some (.cells (Go.Sort.putCells id 0 (Go.Sort.flatK encE 6 (srtE xs).toArray) cs) el (0, 0)) := by
    rw [hheap, Array.getElem?_append_left (by simpa using hb), Array.getElem?_modify, if_pos rfl, hh]
    rfl
  refine ⟨rfl, ⟨rfl, rfl, Nat.le_add_right _ _, rfl, ?_, fun k hk hm => hold k hk (by simpa using hm), fun _ _ _ => rfl, fun _ => Nat.le_refl _, fun k hk => hF k ?_⟩, _, hnew, ?_, fun i hi => ?_⟩
  · rw [hheap]; simp
  · rw [hheap] at hk; simp at hk; omega
  · simp [Go.Sort.putCells, hsz]
  · refine repE.2 fun j hj => ?_
    have hl : i < xs.length := by rwa [srtE_length] at hi
    have hi6 : i * 6 + j < cs.size := by rw [hsz]; omega
    have ht : i * 6 + j < (srtE xs).toArray.size * 6 := by simp only [List.size_toArray]; omega
    simp only [Go.Sort.putCells, Array.getElem?_mapIdx, Array.getElem?_eq_getElem hi6, Option.map_some, Go.Sort.size_flatK]
    rw [if_pos ⟨Nat.zero_le _, by omega⟩, Nat.sub_zero, flat_get _ _ ht]
    rw [show (i * 6 + j) / 6 = i by omega, show (i * 6 + j) % 6 = j by omega]
    simp [hi]
theorem sort_val (L : SlLaysF0.n6 P ρ) (aE : ∀ w, (isAgg (ρ.t 24)).run P w = .ok true w) (zE : ∀ w, (Go.sizeOf (ρ.t 24)).run P w = .ok 6 w) {cmp : FuncId} (hc : SoundCon P cmp cmpCon) {F : Nat → Nat} {w : World} {xs : List Ent} {v : Value} {q : Option (Nat × Nat)}
    (hlen : xs.length ≤ 4096) (hF : ∀ b, w.heap.size ≤ b → F b = 0) (hv : BufVal P (fun _ => False) F w VE xs v q) :
    Calls P (ρ.f 6) #[v, .func (.func cmp) #[] #[]] w fun e w' => e = .returned (.tuple #[]) ∧ Evo (blk [q]) F F w w' ∧ BufVal P (fun _ => False) F w' VE (srtE xs) v q := by
  cases q with
  | none =>
    obtain ⟨h0, a, rfl⟩ := hv
    have h0 : xs.length = 0 := h0
    refine (AnyF.slices_SortFunc_none L a 0 _ w).mono fun e w' ⟨he, hw⟩ => ?_
    subst hw
    exact ⟨he, Evo.refl _ _ _ hF, by rw [show (List.length (α := VT.I VE) (srtE xs)) = xs.length from srtE_length xs]; exact h0, a, rfl⟩
  | some bc =>
    obtain ⟨b, cap⟩ := bc
    obtain ⟨rfl, hFb, hle, cs, el, hh, hsz, hel⟩ := hv
    refine (sort_row L aE zE hc hh hsz hle hlen hF hel).mono fun e w' ⟨he, hev, cs', hh', hsz', hel'⟩ => ⟨he, hev, ?_⟩
    have hl : List.length (α := VT.I VE) (srtE xs) = List.length (α := VT.I VE) xs := srtE_length xs
    exact ⟨by rw [hl], hFb, by rw [hl]; exact hle, cs', el, hh', hsz', hel'⟩
/-- The contract of a sorted copy. -/
def srtCon : Con := ⟨[.d (.sc (.sl VE))], [.fresh VE], fun z => cond (Nat.ble (List.length (α := Ent) z.1) 4096) (some (srtE z.1)) none⟩
theorem Evo.two {F F' : Nat → Nat} {w w1 w2 : World} {q : Option (Nat × Nat)} (h : Evo [] F F' w w1) (k : Evo (blk [q]) F' F' w1 w2) (hq : ∀ b, b ∈ blk [q] → w.heap.size ≤ b) : Evo [] F F' w w2 :=
  ⟨k.os.trans h.os, k.tape.trans h.tape, Nat.le_trans h.drawn k.drawn, k.output.trans h.output, Nat.le_trans h.size k.size,
    fun b hb hm => (k.block b (Nat.lt_of_lt_of_le hb h.size) (fun hin => by have := hq b hin; omega)).trans (h.block b hb hm), h.fold, h.fge, k.fnew⟩
end Go.PgAM
