/-
  Part 6 of the texts that the claim leans on: an abstract machine over the model's code, its soundness, and plain laws.
-/
import Derived.Lib.BitFns
import Derived.KernelRfl
import Derived.Test.YtbljidhiecbcfaaMS5
/-
  How many first bits are the same, by the library's leading zeros; what covers what.
-/
namespace Go.PgAM
open Go
set_option linter.unusedVariables false
set_option linter.unusedSimpArgs false
theorem bitLen_iff {x k : Nat} (hx : x < 2 ^ 64) (hk : k ≤ 64) : Lib.bitLen x ≤ k ↔ x < 2 ^ k := by
  constructor
  · intro h
    by_cases c : x < 2 ^ k
    · exact c
    · have h1 := Lib.bitLen_shift k x (by omega) hx
      have h2 : 1 ≤ x / 2 ^ k := (Nat.one_le_div_iff (Nat.pow_pos (by decide))).2 (by omega)
      have h3 := Lib.bitLen_half (x / 2 ^ k) (by omega) (Nat.lt_of_le_of_lt (Nat.div_le_self _ _) hx)
      omega
  · exact Lib.bitLen_le x k hk
theorem bw_msb {x : Int} (hx : okI x) {k : Nat} (hk : k < 64) : (bw x).getMsbD k = x.toNat.testBit (63 - k) := by
  rw [BitVec.getMsbD_eq_getLsbD, decide_eq_true hk, Bool.true_and]
  unfold bw
  rw [BitVec.getLsbD, BitVec.toNat_ofInt, show (x % ((2 ^ 64 : Nat) : Int)) = x from Int.emod_eq_of_lt hx.1 hx.2]
theorem clz_eq {N : Nat} {x : Int} (hx : okI x) : ∃ c : Nat, clz64 (N + 1) x = some (c : Int) ∧ c ≤ 64 ∧ ∀ n, n ≤ 64 → (n ≤ c ↔ ∀ k, k < n → (bw x).getMsbD k = false) := by
  have hlt : x.toNat < 2 ^ 64 := by have := hx.1; have := hx.2; omega
  have hle : Lib.bitLen x.toNat ≤ 64 := (bitLen_iff hlt (by omega)).2 hlt
  refine ⟨64 - Lib.bitLen x.toNat, ?_, by omega, fun n hn => ?_⟩
  · show cond (decide (0 ≤ x) && decide (x < 18446744073709551616)) (some (64 - ((Lib.bitLen x.toNat : Nat) : Int))) none = _
    rw [decide_eq_true hx.1, decide_eq_true hx.2]
    simp only [Bool.and_self, cond_true]
    congr 1
    omega
  · have : n ≤ 64 - Lib.bitLen x.toNat ↔ Lib.bitLen x.toNat ≤ 64 - n := by omega
    rw [this, bitLen_iff hlt (by omega)]
    constructor
    · intro h k hk
      rw [bw_msb hx (by omega)]
      exact Nat.testBit_lt_two_pow (Nat.lt_of_lt_of_le h (Nat.pow_le_pow_right (by decide) (by omega)))
    · intro h
      refine Nat.lt_pow_two_of_testBit _ fun i hi => ?_
      by_cases c : i < 64
      · have := h (63 - i) (by omega)
        rw [bw_msb hx (by omega), show 63 - (63 - i) = i by omega] at this
        exact this
      · exact Nat.testBit_lt_two_pow (Nat.lt_of_lt_of_le hlt (Nat.pow_le_pow_right (by decide) (by omega)))
theorem bv_msb (a : Adr) (k : Nat) : (bv a).getMsbD k = if 64 ≤ k then (bw a.2).getMsbD (k - 64) else (bw a.1).getMsbD k := by
  unfold bv
  rw [BitVec.getMsbD_append]
theorem comm_eq {N : Nat} (a b : Adr) : ∃ c : Nat, addr_Common (N + 1) a b = some (c : Int) ∧ ∀ n, n ≤ 128 → (n ≤ c ↔ ∀ k, k < n → (bv a).getMsbD k = (bv b).getMsbD k) := by
  have hy := ok_xor a b
  have hx : ∀ k, ((bv a).getMsbD k = (bv b).getMsbD k) ↔ (bv (xorA a b)).getMsbD k = false := by
    intro k
    rw [bv_xor]
    simp only [BitVec.getMsbD_xor]
    cases (bv a).getMsbD k <;> cases (bv b).getMsbD k <;> simp
  simp only [hx]
  generalize hyy : xorA a b = y at hy ⊢
  have e : addr_Common (N + 1) a b = cond (y.1 != 0) ((clz64 (N + 1) y.1).bind fun y2 => some y2) ((clz64 (N + 1) y.2).bind fun y3 => some (w_i64 (64 + y3))) := by rw [← hyy]; rfl
  rw [e]
  obtain ⟨c1, h1, h2, h3⟩ := clz_eq (N := N) hy.1
  obtain ⟨c2, h4, h5, h6⟩ := clz_eq (N := N) hy.2
  by_cases h0 : y.1 = 0
  · rw [show (y.1 != 0) = false by rw [h0]; rfl, h4]
    simp only [cond_false, Option.bind_some]
    refine ⟨64 + c2, by rw [wrap_id (by omega) (by omega)]; rfl, fun n hn => ?_⟩
    have hz : ∀ k, k < 64 → (bw y.1).getMsbD k = false := fun k hk => by rw [h0]; simp [bw]
    constructor
    · intro h k hk
      rw [bv_msb]
      by_cases c : 64 ≤ k
      · rw [if_pos c]; exact (h6 (n - 64) (by omega)).1 (by omega) _ (by omega)
      · rw [if_neg c]; exact hz k (by omega)
    · intro h
      by_cases c : n ≤ 64
      · omega
      · have := (h6 (n - 64) (by omega)).2 (fun k hk => by
          have := h (k + 64) (by omega)
          rw [bv_msb, if_pos (by omega), show k + 64 - 64 = k by omega] at this
          exact this)
        omega
  · rw [show (y.1 != 0) = true from bne_iff_ne.2 h0, h1]
    refine ⟨c1, rfl, fun n hn => ?_⟩
    have hnz : ¬ ∀ k, k < 64 → (bw y.1).getMsbD k = false := fun h => h0 (by
      have e0 : bw y.1 = bw 0 := BitVec.eq_of_getMsbD_eq fun i hi => by rw [h i hi]; simp [bw]
      exact bw_inj hy.1 ⟨by decide, by decide⟩ e0)
    constructor
    · intro h k hk
      have hn64 : n ≤ 64 := by omega
      rw [bv_msb, if_neg (by omega)]
      exact (h3 n hn64).1 h k hk
    · intro h
      by_cases c : n ≤ 64
      · exact (h3 n c).2 fun k hk => by
          have := h k hk
          rw [bv_msb, if_neg (by omega)] at this
          exact this
      · exact absurd (fun k hk => by
          have := h k (by omega)
          rw [bv_msb, if_neg (by omega)] at this
          exact this) hnz
theorem pmatch_eq {N : Nat} {p : Rt} (hp : OkR p) (a : Adr) : prefix_Match (N + 1) (p.1, p.2.1, p.2.2.1) a = some (mat (E_ p) a) := by
  obtain ⟨c, h1, h2⟩ := comm_eq (N := N) (pa p) a
  have e : prefix_Match (N + 1) (p.1, p.2.1, p.2.2.1) a = (addr_Common (N + 1) (pa p) a).bind fun y1 => some (decide (y1 ≥ (minI (maxI (Ln p) 0) 128))) := rfl
  obtain ⟨j, hj⟩ : ∃ j : Nat, Ln p = (j : Int) := ⟨(Ln p).toNat, by have := hp.lo; omega⟩
  have hj8 : j ≤ 128 := by have := hp.hi; omega
  rw [e, h1, hj, clamp_nat j hj8]
  simp only [Option.bind_some]
  congr 1
  rw [Bool.eq_iff_iff, decide_eq_true_eq, E_mat hp]
  have : ((c : Int) ≥ (j : Int)) ↔ j ≤ c := by omega
  rw [this, h2 j hj8]
  unfold pre
  rw [hj]
  exact ⟨fun h k hk hkj => h k (by omega), fun h k hk => h k (by omega) (by omega)⟩
/-- One prefix covers another one. -/
def cov (p q : Rt) : Prop := Ln p ≤ Ln q ∧ mat (E_ p) (pa q) = true
theorem covers_eq {N : Nat} {p q : Rt} (hp : OkR p) : ∃ b, prune_Keep_1 (N + 1) p q = some b ∧ (b = true ↔ cov p q) := by
  have e : prune_Keep_1 (N + 1) p q = ((cond (decide (Ln q ≥ Ln p)) ((prefix_Match (N + 1) (p.1, p.2.1, p.2.2.1) (pa q)).bind fun y1 => some y1) (some false)).bind fun v2 => some v2).bind fun y1 => some y1 := rfl
  rw [e, pmatch_eq hp]
  unfold cov
  by_cases c : Ln p ≤ Ln q
  · rw [decide_eq_true (show Ln q ≥ Ln p from c)]
    exact ⟨_, rfl, fun h => ⟨c, h⟩, fun h => h.2⟩
  · rw [decide_eq_false (show ¬ Ln q ≥ Ln p from c)]
    exact ⟨false, rfl, fun h => (by cases h), fun h => absurd h.1 c⟩
end Go.PgAM

/-
  Routes that say nothing new are left out: what is told stays.
-/
namespace Go.PgAM
open Go
set_option linter.unusedVariables false
set_option linter.unusedSimpArgs false
theorem cov_pre {p q : Rt} (hp : OkR p) : cov p q ↔ Ln p ≤ Ln q ∧ pre (Ln p) (pa p) (pa q) := by
  unfold cov
  rw [E_mat hp]
theorem cov_trans {p q r : Rt} (hp : OkR p) (hq : OkR q) (h : cov p q) (h' : cov q r) : cov p r := by
  rw [cov_pre hp] at *
  rw [cov_pre hq] at h'
  exact ⟨Int.le_trans h.1 h'.1, fun k hk hk2 => (h.2 k hk hk2).trans (h'.2 k hk (by have := h.1; omega))⟩
theorem cov_mat {p q : Rt} {a : Adr} (hp : OkR p) (hq : OkR q) (h : cov p q) (hm : mat (E_ q) a = true) : mat (E_ p) a = true := by
  rw [cov_pre hp] at h
  rw [E_mat hq] at hm
  rw [E_mat hp]
  exact fun k hk hk2 => (h.2 k hk hk2).trans (hm k hk (by have := h.1; omega))
/-- Of two that match an address the earlier one covers the later one. -/
theorem both_cov {p r : Rt} {a : Adr} (hp : OkR p) (hr : OkR r) (hlt : ltR p r) (h1 : mat (E_ p) a = true) (h2 : mat (E_ r) a = true) : cov p r := by
  rw [E_mat hp] at h1
  rw [E_mat hr] at h2
  rw [cov_pre hp]
  have hle : Ln p ≤ Ln r := by
    by_cases c : Ln r < Ln p
    · rcases hlt with ⟨n, hn, h3, h4, h5⟩ | ⟨_, h3⟩
      · have hnr : (n : Int) < Ln r := by
          by_cases c2 : (n : Int) < Ln r
          · exact c2
          · have := hr.rest n hn (by omega)
            rw [h5] at this; cases this
        have := (h1 n hn (by omega)).trans (h2 n hn hnr).symm
        rw [h4, h5] at this; cases this
      · omega
    · omega
  exact ⟨hle, fun k hk hk2 => (h1 k hk hk2).trans (h2 k hk (by omega)).symm⟩
/-- What covers a later one covers all between. -/
theorem mid_cov {p r s : Rt} (hp : OkR p) (hr : OkR r) (h1 : ltR p r) (h2 : ltR r s) (h : cov p s) : cov p r := by
  rw [cov_pre hp] at *
  have hpre : pre (Ln p) (pa p) (pa r) := by
    rcases h1 with ⟨n, hn, h3, h4, h5⟩ | ⟨h3, _⟩
    · by_cases c : (n : Int) < Ln p
      · have hs : (bv (pa s)).getMsbD n = false := by rw [← h.2 n hn c]; exact h4
        have heq : ∀ k, k < n → (bv (pa s)).getMsbD k = (bv (pa r)).getMsbD k := fun k hk => (h.2 k (by omega) (by omega)).symm.trans (h3 k hk)
        rcases h2 with ⟨m, hm, h6, h7, h8⟩ | ⟨h6, _⟩
        · rcases Nat.lt_trichotomy m n with e | e | e
          · have := heq m e; rw [h7, h8] at this; cases this
          · subst e; rw [h5] at h7; cases h7
          · have := h6 n e; rw [h5, hs] at this; cases this
        · rw [h6] at h5; rw [h5] at hs; cases hs
      · exact fun k hk hk2 => h3 k (by omega)
    · exact fun k hk hk2 => by rw [h3]
  refine ⟨?_, hpre⟩
  by_cases c : Ln r < Ln p
  · have e : pa p = pa r := bv_inj hp.adr hr.adr (BitVec.eq_of_getMsbD_eq fun k hk => by
      by_cases c2 : (k : Int) < Ln p
      · exact hpre k hk c2
      · rw [hp.rest k hk (by omega), hr.rest k hk (by omega)])
    rcases h1 with h1 | ⟨_, h1⟩
    · rw [e] at h1; exact (ahead_irrefl h1).elim
    · omega
  · omega
theorem Tells.skip {l : List Ent} {a : Adr} {t : Int} {e : Ent} (hm : mat e a = false) : Tells (l ++ [e]) a t ↔ Tells l a t := by
  constructor
  · rintro (⟨h1, h2⟩ | ⟨f, h1, h2, h3, h4⟩)
    · exact .inl ⟨h1, fun f hf => h2 f (List.mem_append_left _ hf)⟩
    · rcases List.mem_append.1 h1 with h1 | h1
      · exact .inr ⟨f, h1, h2, h3, fun g hg => h4 g (List.mem_append_left _ hg)⟩
      · rw [List.mem_singleton.1 h1, hm] at h2; cases h2
  · rintro (⟨h1, h2⟩ | ⟨f, h1, h2, h3, h4⟩)
    · refine .inl ⟨h1, fun f hf => ?_⟩
      rcases List.mem_append.1 hf with hf | hf
      · exact h2 f hf
      · rw [List.mem_singleton.1 hf]; exact hm
    · refine .inr ⟨f, List.mem_append_left _ h1, h2, h3, fun g hg hmg => ?_⟩
      rcases List.mem_append.1 hg with hg | hg
      · exact h4 g hg hmg
      · rw [List.mem_singleton.1 hg, hm] at hmg; cases hmg
/-- The stack is cut back to what covers a route. -/
theorem keep_in (N : Nat) (l : List Rt) (k : Nat) (hk : k < 1000) (K : List Rt) (hK : K.length ≤ 1000) (r : Rt) (S0 : List Rt → Int → List Rt → List Rt → Option (List Rt)) : ∀ (n : Nat) (O : List Rt), O.length < n → O.length ≤ 1000 → (∀ p, p ∈ O → OkR p) →
    ∃ O', (∃ D, O = O' ++ D) ∧ (∀ p, p ∈ O → cov p r → p ∈ O') ∧
      ((∃ O1 t, O' = O1 ++ [t] ∧ cov t r ∧ Ac t = Ac r ∧ prune_Keep.l1 (N + 1) S0 n l (k : Int) K r O = S0 l ((k + 1 : Nat) : Int) K O') ∨
        ((∀ O1 t, O' = O1 ++ [t] → cov t r) ∧ prune_Keep.l1 (N + 1) S0 n l (k : Int) K r O = S0 l ((k + 1 : Nat) : Int) (K ++ [r]) (O' ++ [r])))
  | 0, O, h, _, _ => by omega
  | n + 1, O, h, hO, hok => by
    have e : prune_Keep.l1 (N + 1) S0 (n + 1) l (k : Int) K r O = prune_Keep.l1s (N + 1) S0 (prune_Keep.l1 (N + 1) S0 n) l (k : Int) K r O := rfl
    rw [e]
    unfold prune_Keep.l1s
    rw [w_succ (k := k) (by omega)]
    have g1 : decide ((List.length O + List.length [r]) * 32 ≤ room) = true := decide_eq_true (by simp only [List.length_singleton, room]; omega)
    have g2 : decide ((List.length K + List.length [r]) * 32 ≤ room) = true := decide_eq_true (by simp only [List.length_singleton, room]; omega)
    rcases List.eq_nil_or_concat O with rfl | ⟨O1, t, rfl⟩
    · refine ⟨[], ⟨[], rfl⟩, fun p hp _ => hp, .inr ⟨fun O1 t h => ?_, ?_⟩⟩
      · exact absurd h (by simp)
      · rw [g1, g2]
        rfl
    · simp only [List.concat_eq_append] at *
      have hl : (O1 ++ [t]).length = O1.length + 1 := by simp
      have hidx : idx (O1 ++ [t]) (w_i64 (((List.length (O1 ++ [t]) : Nat) : Int) - 1)) = some t := by
        rw [hl, w_pred (by omega), idx_nat (by rw [hl]; omega)]
        simp
      obtain ⟨b, h1, h2⟩ := covers_eq (N := N) (p := t) (q := r) (hok t (by simp))
      rw [hidx, show decide (((List.length (O1 ++ [t]) : Nat) : Int) > 0) = true from decide_eq_true (by rw [hl]; omega)]
      simp only [cond_true, Option.bind_some]
      rw [h1]
      simp only [Option.bind_some]
      cases b with
      | false =>
        simp only [Bool.not_false, cond_true]
        obtain ⟨O', ⟨D, h3⟩, h4, h5⟩ := keep_in N l k hk K hK r S0 n O1 (by omega) (by omega) (fun p hp => hok p (by simp [hp]))
        refine ⟨O', ⟨D ++ [t], by rw [h3, List.append_assoc]⟩, fun p hp hc => ?_, ?_⟩
        · rcases List.mem_append.1 hp with hp | hp
          · exact h4 p hp hc
          · rw [List.mem_singleton.1 hp] at hc
            have := h2.2 hc
            cases this
        · rw [hl, w_pred (by omega)]
          unfold grd
          rw [decide_eq_true (show (0 : Int) ≤ (O1.length : Int) by omega), decide_eq_true (show (O1.length : Int) ≤ ((O1.length + 1 : Nat) : Int) by omega), Int.toNat_natCast]
          simp only [cond_true, decide_true, Int.le_refl]
          rw [show (O1 ++ [t]).take O1.length = O1 by simp]
          exact h5
      | true =>
        have hc := h2.1 rfl
        refine ⟨O1 ++ [t], ⟨[], by simp⟩, fun p hp _ => hp, ?_⟩
        simp only [Bool.not_true, cond_false]
        by_cases ea : Ac t = Ac r
        · refine .inl ⟨O1, t, rfl, hc, ea, ?_⟩
          rw [show (t.2.2.2 == r.2.2.2) = true from beq_iff_eq.2 ea]
          rfl
        · refine .inr ⟨fun O2 t2 h => ?_, ?_⟩
          · have := List.append_inj_right' h rfl
            rw [List.cons.injEq] at this
            rw [← this.1]; exact hc
          · rw [show (t.2.2.2 == r.2.2.2) = false from beq_false_of_ne ea, g1, g2]
            rfl
/-- What is so of the stack and of what is kept, behind so many routes. -/
structure Stk (l : List Rt) (k : Nat) (K O : List Rt) : Prop where
  sub : K.Sublist (l.take k)
  mem : ∀ p, p ∈ O → p ∈ K
  chain : O.Pairwise cov
  all : ∀ s, s ∈ l.drop k → ∀ p, p ∈ K → cov p s → p ∈ O
  tells : ∀ a t, Tells ((l.take k).map E_) a t → Tells (K.map E_) a t
theorem last_le {O1 : List Rt} {t f : Rt} (h : (O1 ++ [t]).Pairwise cov) (hf : f ∈ O1 ++ [t]) : Ln f ≤ Ln t := by
  rw [List.pairwise_append] at h
  rcases List.mem_append.1 hf with hf | hf
  · exact (h.2.2 f hf t (by simp)).1
  · rw [List.mem_singleton.1 hf]; exact Int.le_refl _
theorem take_ok {l : List Rt} (h : Tab9 l) (k : Nat) : Tab9 (l.take k) := ⟨fun r hr => h.ok r (List.mem_of_mem_take hr), h.inc.sublist (List.take_sublist k l)⟩
/-- A route that matches is the best one of all up to it. -/
theorem last_best {l : List Rt} (h : Tab9 l) {k : Nat} (hk : k < l.length) {a : Adr} {t : Int} (hm : mat (E_ l[k]) a = true) (ht : Tells ((l.take (k + 1)).map E_) a t) :
    t = Ac l[k] ∧ ∀ p, p ∈ l.take k → mat (E_ p) a = true → cov p l[k] := by
  have hr := h.ok _ (List.getElem_mem hk)
  have e : l.take (k + 1) = l.take k ++ [l[k]] := by rw [List.take_add_one, List.getElem?_eq_getElem hk]; rfl
  have hlt : ∀ p, p ∈ l.take k → ltR p l[k] := by
    have := (take_ok h (k + 1)).inc
    rw [e, List.pairwise_append] at this
    exact fun p hp => this.2.2 p hp _ (by simp)
  have hc : ∀ p, p ∈ l.take k → mat (E_ p) a = true → cov p l[k] := fun p hp hmp => both_cov (h.ok p (List.mem_of_mem_take hp)) hr (hlt p hp) hmp hm
  refine ⟨Tells.one (take_ok h (k + 1)).simple ht (.inr ⟨E_ l[k], List.mem_map_of_mem (by rw [e]; exact List.mem_append_right _ (List.mem_singleton.2 rfl)), hm, rfl, fun f hf hmf => ?_⟩), hc⟩
  obtain ⟨p, hp, rfl⟩ := List.mem_map.1 hf
  rw [e] at hp
  rcases List.mem_append.1 hp with hp | hp
  · exact (hc p hp hmf).1
  · rw [List.mem_singleton.1 hp]; exact Int.le_refl _
theorem keep_loop (N : Nat) (l : List Rt) (hl : l.length ≤ 500) (hN : l.length < N + 1) (h : Tab9 l) : ∀ (n k : Nat) (K O : List Rt), k ≤ l.length → l.length < n + k → Stk l k K O → O.length ≤ k → K.length ≤ k →
    ∃ K', prune_Keep.l0 (N + 1) n l (k : Int) K O = some K' ∧ K'.Sublist l ∧ ∀ a t, Tells (l.map E_) a t → Tells (K'.map E_) a t
  | 0, k, K, O, hk, hn, _, _, _ => by omega
  | n + 1, k, K, O, hk, hn, hs, hO, hK => by
    have e : prune_Keep.l0 (N + 1) (n + 1) l (k : Int) K O = prune_Keep.l0s (N + 1) (prune_Keep.l1 (N + 1) (prune_Keep.l0 (N + 1) n) (N + 1)) (prune_Keep.l0 (N + 1) n) l (k : Int) K O := rfl
    rw [e]
    unfold prune_Keep.l0s
    by_cases hlt : k < l.length
    · rw [lt_true hlt, idx_nat hlt]
      simp only [cond_true, Option.bind_some]
      have hr := h.ok _ (List.getElem_mem hlt)
      have hKl : ∀ p, p ∈ K → p ∈ l.take k := fun p hp => hs.sub.subset hp
      have hKok : ∀ p, p ∈ K → OkR p := fun p hp => h.ok p (List.mem_of_mem_take (hKl p hp))
      have hdrop : l.drop k = l[k] :: l.drop (k + 1) := List.drop_eq_getElem_cons hlt
      have htake : l.take (k + 1) = l.take k ++ [l[k]] := by rw [List.take_add_one, List.getElem?_eq_getElem hlt]; rfl
      have hinc : ∀ p, p ∈ l.take k → ltR p l[k] := by
        have := (take_ok h (k + 1)).inc
        rw [htake, List.pairwise_append] at this
        exact fun p hp => this.2.2 p hp _ (by simp)
      have hinc2 : ∀ s, s ∈ l.drop (k + 1) → ltR l[k] s := by
        have := h.inc.sublist (List.drop_sublist k l)
        rw [hdrop, List.pairwise_cons] at this
        exact this.1
      obtain ⟨O', ⟨D, h1⟩, h2, h3⟩ := keep_in N l k (by omega) K (by omega) l[k] (prune_Keep.l0 (N + 1) n) (N + 1) O (by omega) (by omega) (fun p hp => hKok p (hs.mem p hp))
      have hO'O : ∀ p, p ∈ O' → p ∈ O := fun p hp => by rw [h1]; exact List.mem_append_left _ hp
      have hchain : O'.Pairwise cov := by
        have := hs.chain
        rw [h1, List.pairwise_append] at this
        exact this.1
      have hO'len : O'.length ≤ O.length := by rw [h1]; simp
      have hall : ∀ s, s ∈ l.drop (k + 1) → ∀ p, p ∈ K → cov p s → p ∈ O' := by
        intro s hsd p hp hc
        have h4 := mid_cov (hKok p hp) hr (hinc p (hKl p hp)) (hinc2 s hsd) hc
        exact h2 p (hs.all l[k] (by rw [hdrop]; exact List.mem_cons_self ..) p hp h4) h4
      have hin : ∀ p, p ∈ K → cov p l[k] → p ∈ O' := fun p hp hc => h2 p (hs.all l[k] (by rw [hdrop]; exact List.mem_cons_self ..) p hp hc) hc
      rcases h3 with ⟨O1, t, h4, h5, h6, h7⟩ | ⟨h4, h5⟩
      · rw [h7]
        refine keep_loop N l hl hN h n (k + 1) K O' hlt (by omega) ⟨by rw [htake]; exact hs.sub.trans (List.sublist_append_left _ _), fun p hp => hs.mem p (hO'O p hp), hchain, hall, fun a t' ht => ?_⟩ (by omega) (by omega)
        have htK : t ∈ K := hs.mem t (hO'O t (by rw [h4]; simp))
        cases hm : mat (E_ l[k]) a with
        | false =>
          rw [htake, List.map_append] at ht
          exact hs.tells a t' ((Tells.skip hm).1 ht)
        | true =>
          obtain ⟨h8, h9⟩ := last_best h hlt hm ht
          refine .inr ⟨E_ t, List.mem_map_of_mem htK, cov_mat (hKok t htK) hr h5 hm, by rw [h8, ← h6]; rfl, fun f hf hmf => ?_⟩
          obtain ⟨p, hp, rfl⟩ := List.mem_map.1 hf
          have hp2 := hin p hp (h9 p (hKl p hp) hmf)
          rw [h4] at hp2 hchain
          show Ln p ≤ Ln t
          exact last_le hchain hp2
      · rw [h5]
        refine keep_loop N l hl hN h n (k + 1) (K ++ [l[k]]) (O' ++ [l[k]]) hlt (by omega) ⟨by rw [htake]; exact hs.sub.append (List.Sublist.refl _), fun p hp => ?_, ?_, fun s hsd p hp hc => ?_, fun a t' ht => ?_⟩ (by simp; omega) (by simp; omega)
        · rcases List.mem_append.1 hp with hp | hp
          · exact List.mem_append_left _ (hs.mem p (hO'O p hp))
          · exact List.mem_append_right _ hp
        · rw [List.pairwise_append]
          refine ⟨hchain, List.pairwise_singleton _ _, fun p hp q hq => ?_⟩
          rw [List.mem_singleton.1 hq]
          rcases List.eq_nil_or_concat O' with rfl | ⟨O1, t, rfl⟩
          · cases hp
          · simp only [List.concat_eq_append] at *
            have hct := h4 O1 t rfl
            rw [List.pairwise_append] at hchain
            rcases List.mem_append.1 hp with hp' | hp'
            · exact cov_trans (hKok p (hs.mem p (hO'O p hp))) (hKok t (hs.mem t (hO'O t (by simp)))) (hchain.2.2 p hp' t (by simp)) hct
            · rw [List.mem_singleton.1 hp']; exact hct
        · rcases List.mem_append.1 hp with hp | hp
          · exact List.mem_append_left _ (hall s hsd p hp hc)
          · exact List.mem_append_right _ hp
        · rw [List.map_append]
          cases hm : mat (E_ l[k]) a with
          | false =>
            rw [htake, List.map_append] at ht
            exact (Tells.skip hm).2 (hs.tells a t' ((Tells.skip hm).1 ht))
          | true =>
            obtain ⟨h8, h9⟩ := last_best h hlt hm ht
            refine .inr ⟨E_ l[k], by simp, hm, h8, fun f hf hmf => ?_⟩
            rcases List.mem_append.1 hf with hf | hf
            · obtain ⟨p, hp, rfl⟩ := List.mem_map.1 hf
              exact (h9 p (hKl p hp) hmf).1
            · simp only [List.map_cons, List.map_nil, List.mem_singleton] at hf
              rw [hf]; exact Int.le_refl _
    · rw [lt_false (by omega)]
      have hkl : l.take k = l := List.take_of_length_le (by omega)
      have h1 := hs.sub
      have h2 := hs.tells
      rw [hkl] at h1 h2
      exact ⟨K, rfl, h1, h2⟩
theorem keep_eq {N : Nat} {l : List Rt} (hl : l.length ≤ 500) (hN : l.length < N + 1) (h : Tab9 l) : ∃ K, prune_Keep (N + 1) l = some K ∧ K.Sublist l ∧ ∀ a t, Tells (l.map E_) a t → Tells (K.map E_) a t :=
  keep_loop N l hl hN h (N + 1) 0 [] [] (by omega) (by omega) ⟨by simp, fun p hp => hp, List.Pairwise.nil, fun s _ p hp => (by cases hp), fun a t ht => ht⟩ (by simp) (by simp)
end Go.PgAM

/-
  A table's entries, in any mode, are simple, in order, and tell of any address what its best route says; no mode has more of them than the one ahead of it.
-/
namespace Go.PgAM
open Go
set_option linter.unusedVariables false
set_option linter.unusedSimpArgs false
theorem law10_awake_300 : law10_awake 300 = some true := by kernel_rfl
theorem build_loop (N : Nat) (mode : Int) (l : List Rt) (hl : l.length ≤ 500) (hok : ∀ r, r ∈ l → OkR r) : ∀ (n k : Nat), k ≤ l.length → l.length < n + k →
    merge_Build.l0 N n mode l ((List.length l : Nat) : Int) (k : Int) ((l.take k).map E_) = cond (mode == 2) ((merge_Merge N (l.map E_)).bind fun y5 => some y5) ((sortE (l.map E_)).bind fun y6 => some y6)
  | 0, k, hk, hn => by omega
  | n + 1, k, hk, hn => by
    show merge_Build.l0s N (merge_Build.l0 N n) mode l ((List.length l : Nat) : Int) (k : Int) ((l.take k).map E_) = _
    unfold merge_Build.l0s
    by_cases hlt : k < l.length
    · rw [lt_true hlt, idx_nat hlt, w_succ (by omega)]
      simp only [cond_true, Option.bind_some]
      rw [entryOf_eq N (hok _ (List.getElem_mem hlt))]
      simp only [Option.bind_some, grd]
      rw [show decide ((List.length ((l.take k).map E_) + List.length [E_ l[k]]) * 48 ≤ room) = true from decide_eq_true (by simp only [List.length_map, List.length_take, List.length_singleton, room]; omega)]
      simp only [cond_true]
      rw [show (l.take k).map E_ ++ [E_ l[k]] = (l.take (k + 1)).map E_ by rw [List.take_add_one, List.getElem?_eq_getElem hlt, List.map_append]; rfl]
      exact build_loop N mode l hl hok n (k + 1) hlt (by omega)
    · rw [lt_false (by omega), List.take_of_length_le (by omega)]
      rfl
/-- What is asked of a table's entries. -/
structure GoodT (m : List Ent) (a : Adr) (t : Int) : Prop where
  len : m.length ≤ 100
  ok : ∀ e, e ∈ m → okE e
  simple : Simple m
  srt : Srt m
  tells : Tells m a t
theorem GoodT.all {N : Nat} (hN : 128 < N) {m : List Ent} {a : Adr} {t : Int} (h : GoodT m a t) : law05_Of N m = some m ∧ ref10_Simple N m = some true ∧ ref05_Ordered N m = some true ∧ entry_Tell N m a = some t := by
  have hl := h.len
  obtain ⟨r, h1, h2⟩ := simple_eq hN (l := m) (by omega) (by omega) h.ok
  obtain ⟨t', h3, h4⟩ := tell_eq (N := N) (l := m) (by omega) (by omega) a
  rw [h2.2 h.simple] at h1
  rw [Tells.one h.simple h4 h.tells] at h3
  exact ⟨of_eq (by omega) (by omega), h1, ordered_eq (by omega) (by omega) h.srt, h3⟩
theorem good_srt {l : List Rt} (h : Tab9 l) (hl : l.length ≤ 100) {a : Adr} {t : Int} (ht : Tells (l.map E_) a t) : GoodT (srtE (l.map E_)) a t ∧ (srtE (l.map E_)).length = l.length := by
  have hp := (srtE_perm (l.map E_)).symm
  have hlen : (srtE (l.map E_)).length = l.length := by rw [srtE_length]; simp
  refine ⟨⟨by omega, fun e he => ?_, h.simple.perm hp, srtE_sorted _, ht.perm hp⟩, hlen⟩
  obtain ⟨r, hr, rfl⟩ := List.mem_map.1 (hp.mem_iff.2 he)
  exact E_ok (h.ok r hr)
theorem build_zero {N : Nat} {l : List Rt} (hl : l.length ≤ 100) (hN : 100 < N) (h : Tab9 l) : merge_Build N l 0 = some (srtE (l.map E_)) := by
  have e : merge_Build N l 0 = merge_Build.l0 N N 0 l ((List.length l : Nat) : Int) ((0 : Nat) : Int) ((l.take 0).map E_) := rfl
  rw [e, build_loop N 0 l (by omega) h.ok N 0 (by omega) (by omega)]
  unfold sortE
  rw [show Nat.ble (l.map E_).length 4096 = true from Nat.ble_eq_true_of_le (by simp; omega)]
  rfl
theorem build_one {N : Nat} {l K : List Rt} (hl : K.length ≤ 100) (hN : 100 < N) (h : Tab9 K) (hk : prune_Keep N l = some K) : merge_Build N l 1 = some (srtE (K.map E_)) := by
  have e : merge_Build N l 1 = (prune_Keep N l).bind fun y2 => merge_Build.l0 N N 1 y2 ((List.length y2 : Nat) : Int) ((0 : Nat) : Int) [] := rfl
  rw [e, hk]
  simp only [Option.bind_some]
  rw [show ([] : List Ent) = (K.take 0).map E_ by simp, build_loop N 1 K (by omega) h.ok N 0 (by omega) (by omega)]
  unfold sortE
  rw [show Nat.ble (K.map E_).length 4096 = true from Nat.ble_eq_true_of_le (by simp; omega)]
  rfl
theorem build_two {N : Nat} {l K : List Rt} (hl : K.length ≤ 100) (hN : 100 < N) (h : Tab9 K) (hk : prune_Keep N l = some K) : merge_Build N l 2 = merge_Merge N (K.map E_) := by
  have e : merge_Build N l 2 = (prune_Keep N l).bind fun y2 => merge_Build.l0 N N 2 y2 ((List.length y2 : Nat) : Int) ((0 : Nat) : Int) [] := rfl
  rw [e, hk]
  simp only [Option.bind_some]
  rw [show ([] : List Ent) = (K.take 0).map E_ by simp, build_loop N 2 K (by omega) h.ok N 0 (by omega) (by omega)]
  show ((merge_Merge N (K.map E_)).bind fun y5 => some y5) = _
  cases merge_Merge N (K.map E_) <;> rfl
/-- THE LAW. -/
theorem mergeSays_true (l : List Rt) (a : Adr) (hok : ∀ r, r ∈ l → okA (pa r)) (ha : okA a) : law10_MergeSays 300 l a = some true := by
  have e : law10_MergeSays 300 l a = (law09_Table 300 l).bind fun y1 => (cond (!y1) (some true) (some (decide (((List.length l : Nat) : Int) > 12)))).bind fun v2 => cond v2 ((law10_awake 300).bind fun y3 => some y3) ((law06_Of 300 l).bind fun y4 => (ref06_Tell 300 y4 a).bind fun y5 => (merge_Build 300 l 0).bind fun y6 => (law05_Of 300 y6).bind fun y7 => (ref10_Simple 300 y7).bind fun y8 => (cond (!y8) (some true) ((law05_Of 300 y6).bind fun y9 => (ref05_Ordered 300 y9).bind fun y10 => some (!y10))).bind fun v11 => (cond v11 (some true) ((entry_Tell 300 y6 a).bind fun y12 => some (y12 != y5))).bind fun v13 => (cond v13 (some true) (some (decide (((List.length y6 : Nat) : Int) > ((List.length l : Nat) : Int))))).bind fun v14 => cond v14 (some false) ((merge_Build 300 l 1).bind fun y15 => (law05_Of 300 y15).bind fun y16 => (ref10_Simple 300 y16).bind fun y17 => (cond (!y17) (some true) ((law05_Of 300 y15).bind fun y18 => (ref05_Ordered 300 y18).bind fun y19 => some (!y19))).bind fun v20 => (cond v20 (some true) ((entry_Tell 300 y15 a).bind fun y21 => some (y21 != y5))).bind fun v22 => (cond v22 (some true) (some (decide (((List.length y15 : Nat) : Int) > ((List.length y6 : Nat) : Int))))).bind fun v23 => cond v23 (some false) ((merge_Build 300 l 2).bind fun y24 => (law05_Of 300 y24).bind fun y25 => (ref10_Simple 300 y25).bind fun y26 => (cond (!y26) (some true) ((law05_Of 300 y24).bind fun y27 => (ref05_Ordered 300 y27).bind fun y28 => some (!y28))).bind fun v29 => (cond v29 (some true) ((entry_Tell 300 y24 a).bind fun y30 => some (y30 != y5))).bind fun v31 => (cond v31 (some true) (some (decide (((List.length y24 : Nat) : Int) > ((List.length y15 : Nat) : Int))))).bind fun v32 => cond v32 (some false) ((law10_awake 300).bind fun y33 => some y33)))) := rfl
  rw [e, law10_awake_300]
  obtain ⟨b, hb, htab⟩ := table_eq (N := 300) (by omega) hok
  rw [hb]
  cases b with
  | false => rfl
  | true =>
    obtain ⟨h24, h9⟩ := htab rfl
    simp only [Option.bind_some, Bool.not_true, cond_false]
    by_cases h12 : l.length > 12
    · rw [show decide (((List.length l : Nat) : Int) > 12) = true from decide_eq_true (by omega)]
      rfl
    · rw [show decide (((List.length l : Nat) : Int) > 12) = false from decide_eq_false (by omega), of6_eq (l := l) (by omega) (by omega)]
      simp only [cond_false, Option.bind_some]
      obtain ⟨t, h1, h2⟩ := tell6_eq (N := 300) (by omega) (l := l) (by omega) (by omega) h9.ok ha
      obtain ⟨K, h3, h4, h5⟩ := keep_eq (N := 299) (l := l) (by omega) (by omega) h9
      have hKl := h4.length_le
      have h9K : Tab9 K := ⟨fun r hr => h9.ok r (h4.subset hr), h9.inc.sublist h4⟩
      obtain ⟨g0, l0⟩ := good_srt h9 (by omega) h2
      obtain ⟨g1, l1⟩ := good_srt h9K (by omega) (h5 a t h2)
      have hokK : ∀ e, e ∈ K.map E_ → okE e := fun e he => by
        obtain ⟨r, hr, rfl⟩ := List.mem_map.1 he
        exact E_ok (h9K.ok r hr)
      obtain ⟨m, h6, h7, h8⟩ := merge_eq (N := 300) (l := K.map E_) (by simp; omega) (by simp; omega) hokK
      have hml := h7.len
      rw [List.length_map] at hml
      have g2 : GoodT m a t := ⟨by omega, h7.ok hokK, h7.simple h9K.simple, h8, h7.tells a t (h5 a t h2)⟩
      obtain ⟨a1, a2, a3, a4⟩ := g0.all (N := 300) (by omega)
      obtain ⟨b1, b2, b3, b4⟩ := g1.all (N := 300) (by omega)
      obtain ⟨c1, c2, c3, c4⟩ := g2.all (N := 300) (by omega)
      have hne : (t != t) = false := by simp
      rw [h1, build_zero (by omega) (by omega) h9]
      simp only [Option.bind_some]
      rw [a1]
      simp only [Option.bind_some]
      rw [a2]
      simp only [Option.bind_some, Bool.not_true, cond_false]
      rw [a3]
      simp only [Option.bind_some, Bool.not_true, cond_false]
      rw [a4]
      simp only [Option.bind_some, hne, cond_false]
      rw [show decide (((List.length (srtE (l.map E_)) : Nat) : Int) > ((List.length l : Nat) : Int)) = false from decide_eq_false (by omega)]
      simp only [cond_false]
      rw [build_one (by omega) (by omega) h9K h3]
      simp only [Option.bind_some]
      rw [b1]
      simp only [Option.bind_some]
      rw [b2]
      simp only [Option.bind_some, Bool.not_true, cond_false]
      rw [b3]
      simp only [Option.bind_some, Bool.not_true, cond_false]
      rw [b4]
      simp only [Option.bind_some, hne, cond_false]
      rw [show decide (((List.length (srtE (K.map E_)) : Nat) : Int) > ((List.length (srtE (l.map E_)) : Nat) : Int)) = false from decide_eq_false (by omega)]
      simp only [cond_false]
      rw [build_two (by omega) (by omega) h9K h3, h6]
      simp only [Option.bind_some]
      rw [c1]
      simp only [Option.bind_some]
      rw [c2]
      simp only [Option.bind_some, Bool.not_true, cond_false]
      rw [c3]
      simp only [Option.bind_some, Bool.not_true, cond_false]
      rw [c4]
      simp only [Option.bind_some, hne, cond_false]
      rw [show decide (((List.length m : Nat) : Int) > ((List.length (srtE (K.map E_)) : Nat) : Int)) = false from decide_eq_false (by omega)]
      rfl
end Go.PgAM
