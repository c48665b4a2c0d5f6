/-
  A region's operations in whatever order they come: what the state is.
-/
import Derived.Test.YtbljidhiecbcfaaAmMask
namespace Go.PgAM
open Go Go.RowKit
set_option linter.unusedVariables false
set_option linter.unusedSimpArgs false

def sig : List (Nat × Del) → St → St
  | [], st0 => st0
  | p :: L, st0 => p.2.put (sig L st0)
/-- An order in which operations may have come, the last one first. -/
def Chain (ms : List Nat) : List (Nat × Del) → Prop
  | [] => True
  | (j, D) :: L => Chain ms L ∧ (∀ D', (j, D') ∉ L) ∧ ∀ b, Nat.testBit (mkm ms j) b = true → ∃ D', (b, D') ∈ L

section
variable {E : Env} {all : List Oper} {ms : List Nat} {dl : List (Nat × Nat)} {st0 : St} {T ds L : List (Nat × Del)} {m : Nat}

theorem chain_closed : ∀ {L : List (Nat × Del)}, Chain ms L → ∀ {j : Nat} {D : Del} {b : Nat}, (j, D) ∈ L → Nat.testBit (mkm ms j) b = true → ∃ D', (b, D') ∈ L
  | [], _, j, D, b, h, _ => by simp at h
  | (j0, D0) :: L, hc, j, D, b, h, hb => by
    rcases List.mem_cons.1 h with e | h
    · cases e
      obtain ⟨D', h'⟩ := hc.2.2 b hb
      exact ⟨D', by simp [h']⟩
    · obtain ⟨D', h'⟩ := chain_closed hc.1 h hb
      exact ⟨D', by simp [h']⟩
theorem sig_t {j n : Nat} {D : Del} : ∀ {L : List (Nat × Del)}, (j, D) ∈ L → D.d = some n → (∀ j' D', (j', D') ∈ L → D'.d = some n → D' = D) → look (sig L st0).t n = some D.v
  | [], h, _, _ => by simp at h
  | (j0, D0) :: L, h, hd, hu => by
    simp only [sig, put_t]
    by_cases e : D0.d = some n
    · rw [if_pos e, hu j0 D0 (by simp) e]
    · rw [if_neg e]
      rcases List.mem_cons.1 h with e2 | h
      · cases e2; exact absurd hd e
      · exact sig_t h hd fun j' D' h' => hu j' D' (by simp [h'])
theorem sig_t0 {n : Nat} : ∀ {L : List (Nat × Del)}, (∀ j D, (j, D) ∈ L → D.d ≠ some n) → look (sig L st0).t n = look st0.t n
  | [], _ => rfl
  | (j0, D0) :: L, h => by
    simp only [sig, put_t]
    rw [if_neg (h j0 D0 (by simp))]
    exact sig_t0 fun j D hj => h j D (by simp [hj])
theorem sig_t' {n : Nat} {pv : PV} : ∀ {L : List (Nat × Del)}, look (sig L st0).t n = some pv → (∃ j D, (j, D) ∈ L ∧ D.d = some n ∧ D.v = pv) ∨ look st0.t n = some pv
  | [], h => .inr h
  | (j0, D0) :: L, h => by
    simp only [sig, put_t] at h
    by_cases e : D0.d = some n
    · rw [if_pos e] at h; cases h
      exact .inl ⟨j0, D0, by simp, e, rfl⟩
    · rw [if_neg e] at h
      exact (sig_t' h).imp (fun ⟨j, D, h1, h2⟩ => ⟨j, D, by simp [h1], h2⟩) id
theorem sig_r' {r : Nat} {c : List PC} : ∀ {L : List (Nat × Del)}, (sig L st0).row r = some c → (∃ j D, (j, D) ∈ L ∧ D.row = some (r, c)) ∨ st0.row r = some c
  | [], h => .inr h
  | (j0, D0) :: L, h => by
    simp only [sig] at h
    rw [put_row] at h
    have tl : (sig L st0).row r = some c → (∃ j D, (j, D) ∈ (j0, D0) :: L ∧ D.row = some (r, c)) ∨ st0.row r = some c := fun h =>
      (sig_r' h).imp (fun ⟨j, D, h1, h2⟩ => ⟨j, D, by simp [h1], h2⟩) id
    split at h
    · rename_i r' cs e
      by_cases e2 : r' = r
      · subst e2; rw [if_pos rfl] at h; cases h
        exact .inl ⟨j0, D0, by simp, e⟩
      · rw [if_neg e2] at h; exact tl h
    · exact tl h
theorem sig_r0 {r : Nat} : ∀ {L : List (Nat × Del)}, (∀ j D c, (j, D) ∈ L → D.row ≠ some (r, c)) → (sig L st0).row r = st0.row r
  | [], _ => rfl
  | (j0, D0) :: L, h => by
    simp only [sig]
    rw [put_row]
    have ih : (sig L st0).row r = st0.row r := sig_r0 fun j D c hj => h j D c (by simp [hj])
    split
    · rename_i r' cs e
      by_cases e2 : r' = r
      · subst e2; exact absurd e (h j0 D0 cs (by simp))
      · rw [if_neg e2]; exact ih
    · exact ih
theorem sig_r {j r : Nat} {D : Del} {c : List PC} : ∀ {L : List (Nat × Del)}, Chain ms L → (j, D) ∈ L → D.row = some (r, c) → (∀ j' D' c', (j', D') ∈ L → D'.row = some (r, c') → D' = D ∨ (j' ≠ j ∧ Nat.testBit (mkm ms j) j' = true)) → (sig L st0).row r = some c
  | [], _, h, _, _ => by simp at h
  | (j0, D0) :: L, hc, h, hd, hu => by
    simp only [sig]
    rw [put_row]
    have tl : (∀ c', D0.row ≠ some (r, c')) → (sig L st0).row r = some c := by
      intro hne
      rcases List.mem_cons.1 h with e2 | h
      · cases e2; exact absurd hd (hne c)
      · exact sig_r hc.1 h hd fun j' D' c' h' => hu j' D' c' (by simp [h'])
    split
    · rename_i r' cs e
      by_cases e2 : r' = r
      · subst e2
        rw [if_pos rfl]
        rcases hu j0 D0 cs (by simp) e with e3 | ⟨e3, e4⟩
        · subst e3; rw [hd] at e; cases e; rfl
        · exfalso
          rcases List.mem_cons.1 h with e5 | h
          · cases e5; exact e3 rfl
          · obtain ⟨D', h'⟩ := chain_closed hc.1 h e4
            exact hc.2.1 D' h'
      · rw [if_neg e2]
        exact tl fun c' e3 => by rw [e] at e3; cases e3; exact e2 rfl
    · rename_i e
      exact tl fun c' e3 => by rw [e] at e3; cases e3
theorem sig_b' {t : Nat} {B : Buf} : ∀ {L : List (Nat × Del)}, look (sig L st0).b t = some B → (∃ j D, (j, D) ∈ L ∧ look D.bs t = some B) ∨ look st0.b t = some B
  | [], h => .inr h
  | (j0, D0) :: L, h => by
    simp only [sig] at h
    rw [put_b] at h
    split at h
    · rename_i x e; cases h; exact .inl ⟨j0, D0, by simp, e⟩
    · exact (sig_b' h).imp (fun ⟨j, D, h1, h2⟩ => ⟨j, D, by simp [h1], h2⟩) id
theorem sig_b0 {t : Nat} : ∀ {L : List (Nat × Del)}, (∀ j D, (j, D) ∈ L → look D.bs t = none) → look (sig L st0).b t = look st0.b t
  | [], _ => rfl
  | (j0, D0) :: L, h => by
    simp only [sig]
    rw [put_b, h j0 D0 (by simp)]
    exact sig_b0 fun j D hj => h j D (by simp [hj])
theorem sig_b {j t : Nat} {D : Del} {B : Buf} : ∀ {L : List (Nat × Del)}, (j, D) ∈ L → look D.bs t = some B → (∀ j' D' B', (j', D') ∈ L → look D'.bs t = some B' → D' = D) → look (sig L st0).b t = some B
  | [], h, _, _ => by simp at h
  | (j0, D0) :: L, h, hd, hu => by
    simp only [sig]
    rw [put_b]
    split
    · rename_i x e
      have := hu j0 D0 x (by simp) e
      subst this
      rw [hd] at e; cases e; rfl
    · rename_i e
      rcases List.mem_cons.1 h with e2 | h
      · cases e2; rw [hd] at e; cases e
      · exact sig_b h hd fun j' D' B' h' => hu j' D' B' (by simp [h'])

theorem putDels_b {mask t : Nat} {B : Buf} : ∀ {ds : List (Nat × Del)}, look (putDels mask ds st0).b t = some B → (∃ j D, (j, D) ∈ ds ∧ Nat.testBit mask j = true ∧ look D.bs t = some B) ∨ look st0.b t = some B
  | [], h => .inr h
  | (j, D) :: ds, h => by
    simp only [putDels] at h
    have tl : look (putDels mask ds st0).b t = some B → (∃ j' D', (j', D') ∈ (j, D) :: ds ∧ Nat.testBit mask j' = true ∧ look D'.bs t = some B) ∨ look st0.b t = some B := fun h =>
      (putDels_b h).imp (fun ⟨j', D', h1, h2⟩ => ⟨j', D', by simp [h1], h2⟩) id
    cases e : Nat.testBit mask j with
    | false => rw [e] at h; exact tl h
    | true =>
      rw [e] at h
      simp only [cond_true] at h
      rw [put_b] at h
      split at h
      · rename_i x e2; cases h; exact .inl ⟨j, D, by simp, e, e2⟩
      · exact tl h
theorem putDels_dom {mask mask' t : Nat} (hs : ∀ b, Nat.testBit mask' b = true → Nat.testBit mask b = true) : ∀ {ds : List (Nat × Del)}, (look (putDels mask' ds st0).b t).isSome = true → (look (putDels mask ds st0).b t).isSome = true
  | [], h => h
  | (j, D) :: ds, h => by
    simp only [putDels] at h ⊢
    have ih : (look (putDels mask' ds st0).b t).isSome = true → (look (putDels mask ds st0).b t).isSome = true := putDels_dom hs
    cases e : Nat.testBit mask' j with
    | true =>
      rw [e] at h
      rw [hs j e]
      simp only [cond_true] at h ⊢
      rw [put_b] at h ⊢
      split
      · rfl
      · rename_i e2; rw [e2] at h; exact ih h
    | false =>
      rw [e] at h
      simp only [cond_false] at h
      have := ih h
      cases Nat.testBit mask j with
      | false => exact this
      | true =>
        simp only [cond_true]
        rw [put_b]
        split
        · rfl
        · exact this
theorem putDels_dom1 {mask t j : Nat} {D : Del} (h : (look (putDels mask ds st0).b t).isSome = true) : (look (putDels mask ((j, D) :: ds) st0).b t).isSome = true := by
  simp only [putDels]
  cases Nat.testBit mask j with
  | false => exact h
  | true =>
    simp only [cond_true]
    rw [put_b]
    split
    · rfl
    · exact h
theorem st0_dom {mask t : Nat} : ∀ {ds : List (Nat × Del)}, (look st0.b t).isSome = true → (look (putDels mask ds st0).b t).isSome = true
  | [], h => h
  | (j, D) :: ds, h => putDels_dom1 (st0_dom h)
theorem okTok_mono {bs bs' : List (Nat × Buf)} (h : ∀ t, (look bs t).isSome = true → (look bs' t).isSome = true) (p : PC) (hp : PC.okTok bs p = true) : PC.okTok bs' p = true := by
  unfold PC.okTok at hp ⊢
  cases e : p.tk with
  | none => rfl
  | some t => rw [e] at hp; exact h t hp
theorem closed_ok {mask : Nat} (hcl : ∀ j b, Nat.testBit mask j = true → Nat.testBit (mkm ms j) b = true → Nat.testBit mask b = true) : ∀ {ds : List (Nat × Del)}, Closed ms st0 ds → ∀ j D, (j, D) ∈ ds → Nat.testBit mask j = true →
    PV.allC (PC.okTok (putDels mask ds st0).b) D.v = true ∧ ∀ r cs, D.row = some (r, cs) → cs.all (PC.okTok (putDels mask ds st0).b) = true
  | [], _, j, D, h, _ => by simp at h
  | (j0, D0) :: ds, hc, j, D, h, hb => by
    rcases List.mem_cons.1 h with e | h
    · have e1 : j = j0 := congrArg Prod.fst e
      have e2 : D = D0 := congrArg Prod.snd e
      subst e1; subst e2
      have key : ∀ t, (look (D.bs ++ (putDels ((nth ms j).getD 0) ds st0).b) t).isSome = true → (look (putDels mask ((j, D) :: ds) st0).b t).isSome = true := by
        intro t ht
        simp only [putDels, hb, cond_true]
        rw [put_b]
        rw [look_app] at ht
        split
        · rfl
        · rename_i e
          rw [e] at ht
          exact putDels_dom (fun b hbb => hcl j b hb hbb) ht
      refine ⟨PV.allC_imp (okTok_mono key) hc.2.1, fun r cs e => List.all_eq_true.2 fun p hp => okTok_mono key p (List.all_eq_true.1 (hc.2.2 r cs e) p hp)⟩
    · obtain ⟨h1, h2⟩ := closed_ok hcl hc.1 j D h hb
      have key : ∀ t, (look (putDels mask ds st0).b t).isSome = true → (look (putDels mask ((j0, D0) :: ds) st0).b t).isSome = true := fun t => putDels_dom1
      exact ⟨PV.allC_imp (okTok_mono key) h1, fun r cs e => List.all_eq_true.2 fun p hp => okTok_mono key p (List.all_eq_true.1 (h2 r cs e) p hp)⟩
theorem putDels_r {mask r : Nat} {c : List PC} : ∀ {ds : List (Nat × Del)}, (ds.map (·.1)).Pairwise (· > ·) → (putDels mask ds st0).row r = some c →
    (∃ j D, (j, D) ∈ ds ∧ Nat.testBit mask j = true ∧ D.row = some (r, c) ∧ ∀ j' D' c', (j', D') ∈ ds → Nat.testBit mask j' = true → D'.row = some (r, c') → j' ≤ j) ∨
      (st0.row r = some c)
  | [], _, h => .inr h
  | (j, D) :: ds, hp, h => by
    simp only [putDels] at h
    simp only [List.map_cons, List.pairwise_cons] at hp
    have tl : (putDels mask ds st0).row r = some c → (Nat.testBit mask j = true → ∀ c', D.row ≠ some (r, c')) → (∃ j' D', (j', D') ∈ (j, D) :: ds ∧ Nat.testBit mask j' = true ∧ D'.row = some (r, c) ∧ ∀ j2 D2 c', (j2, D2) ∈ (j, D) :: ds → Nat.testBit mask j2 = true → D2.row = some (r, c') → j2 ≤ j') ∨ (st0.row r = some c) := fun h hne =>
      (putDels_r hp.2 h).imp (fun ⟨j', D', h1, h2, h3, h4⟩ => ⟨j', D', by simp [h1], h2, h3, fun j2 D2 c' q1 q2 q3 => by
        rcases List.mem_cons.1 q1 with e | q1
        · cases e; exact absurd q3 (hne q2 c')
        · exact h4 j2 D2 c' q1 q2 q3⟩) id
    cases e : Nat.testBit mask j with
    | false => rw [e] at h; exact tl h fun e2 => by rw [e] at e2; cases e2
    | true =>
      rw [e] at h
      simp only [cond_true] at h
      rw [put_row] at h
      split at h
      · rename_i r' cs e2
        by_cases e3 : r' = r
        · subst e3
          rw [if_pos rfl] at h; cases h
          refine .inl ⟨j, D, by simp, e, e2, fun j2 D2 c' q1 q2 q3 => ?_⟩
          rcases List.mem_cons.1 q1 with e4 | q1
          · cases e4; exact Nat.le_refl _
          · exact Nat.le_of_lt (hp.1 j2 (List.mem_map.2 ⟨_, q1, rfl⟩))
        · rw [if_neg e3] at h
          exact tl h fun _ c' e4 => by rw [e2] at e4; cases e4; exact e3 rfl
      · rename_i e2
        exact tl h fun _ c' e4 => by rw [e2] at e4; cases e4
theorem TOk.desc {n : Nat} (h : TOk all ds n) : (ds.map (·.1)).Pairwise (· > ·) := by
  rw [h.ix]
  exact List.pairwise_reverse.2 (List.pairwise_lt_range.imp fun h => h)

/-- All that is known of a region. -/
structure Ctx (E : Env) (all : List Oper) (dl : List (Nat × Nat)) (st0 : St) (m : Nat) (T : List (Nat × Del)) : Prop where
  mle : m ≤ all.length
  low : msLow 0 (masks [] all) = true
  reg : Reg all st0 m
  tok : TOk all T m
  spec : ∀ i o, i < m → all[i]? = some o → ∃ D, (i, D) ∈ T ∧ Spec E all (masks [] all) dl st0 T i o D
  clean : ∀ j d, j < m → (nth all j).bind (·.dst) = some d → Clean d st0
  ct : ∀ n pv, look st0.t n = some pv → PV.allC (PC.okTok st0.b) pv = true
  cr : ∀ r c, st0.row r = some c → c.all (PC.okTok st0.b) = true
  dl : ∀ j o d, j < m → all[j]? = some o → o.dst = some d → (j, d) ∈ dl
  store : ∀ i o T t v, i < m → all[i]? = some o → o.op = .store T (.tmp t) v → o.guard = none ∧ ∃ a, a < m ∧ (nth all a).bind (·.dst) = some t ∧ Nat.testBit (mkm (masks [] all) i) a = true ∧
    ∀ i', i' < m → Nat.testBit (mkm (masks [] all) i') a = true → i' = i ∨ Nat.testBit (mkm (masks [] all) i') i = true ∨ Nat.testBit (mkm (masks [] all) i) i' = true
  isE : ∀ i o, i < m → all[i]? = some o → isE o = true
  guard : ∀ i o j v, all[i]? = some o → o.guard = some (j, v) → Nat.testBit (mkm (masks [] all) i) j = true

variable (C : Ctx E all dl st0 m T)
include C
theorem Ctx.ent {j : Nat} {D : Del} (hj : (j, D) ∈ T) : ∃ o, all[j]? = some o ∧ j < m ∧ Spec E all (masks [] all) dl st0 T j o D := by
  have hlt := C.tok.lt hj
  have hlt2 : j < all.length := by have := C.mle; omega
  obtain ⟨D', h1, h2⟩ := C.spec j _ hlt (List.getElem?_eq_getElem hlt2)
  have := nodup_fst C.tok.nodup h1 hj
  subst this
  exact ⟨_, List.getElem?_eq_getElem hlt2, hlt, h2⟩
theorem Ctx.uniq {j j' n : Nat} {D D' : Del} (h : (j, D) ∈ T) (h' : (j', D') ∈ T) (hd : D.d = some n) (hd' : D'.d = some n) : j = j' ∧ D = D' := by
  have h1 := C.tok.d j D h
  have h2 := C.tok.d j' D' h'
  have : j = j' := C.reg.dst j j' n (C.tok.lt h) (C.tok.lt h') (by rw [← h1]; exact hd) (by rw [← h2]; exact hd')
  subst this
  exact ⟨rfl, nodup_fst C.tok.nodup h h'⟩
theorem Ctx.bs {j t : Nat} {D : Del} {B : Buf} (hj : (j, D) ∈ T) (hB : look D.bs t = some B) : ∃ d, (nth all j).bind (·.dst) = some d ∧ tokOf d t = true ∧ ∀ q ∈ dl, q.1 = j ∨ tokOf q.2 t = false := by
  obtain ⟨o, h1, h2, h3⟩ := C.ent hj
  have hmem : ∀ {l : List (Nat × Buf)} {B : Buf}, look l t = some B → ∃ B', (t, B') ∈ l := by
    intro l
    induction l with
    | nil => intro B h; cases h
    | cons x l ih =>
      intro B h
      obtain ⟨n, y⟩ := x
      rw [look_cons] at h
      by_cases e : n = t
      · subst e; exact ⟨y, by simp⟩
      · rw [if_neg e] at h
        obtain ⟨B', h'⟩ := ih h
        exact ⟨B', by simp [h']⟩
  cases h3 with
  | exec ds st' hb hcl hk hg hs hx hD hsf =>
    simp only [Del.safe, Bool.and_eq_true] at hsf
    obtain ⟨⟨⟨_, _⟩, h4⟩, _⟩ := hsf
    cases hds : o.dst with
    | none =>
      rw [hds] at h4
      have : D.bs = [] := List.isEmpty_iff.1 h4
      rw [this] at hB; cases hB
    | some d =>
      rw [hds] at h4
      obtain ⟨B', hm⟩ := hmem hB
      have := List.all_eq_true.1 h4 _ hm
      simp only [Bool.and_eq_true] at this
      refine ⟨d, by rw [nth_eq, h1]; exact hds, this.1, fun q hq => ?_⟩
      have := List.all_eq_true.1 this.2 q hq
      simp only [Bool.or_eq_true, Bool.not_eq_true'] at this
      exact this.imp (fun h => Nat.eq_of_beq_eq_true h) id
  | skip j want hg ho hD => subst hD; cases hB
  | pick c j k x y b v ds ho hb hcl hki hk hg hj hc hm hv hD => subst hD; cases hB
theorem Ctx.row {j r : Nat} {D : Del} {c : List PC} (hj : (j, D) ∈ T) (hr : D.row = some (r, c)) : ∃ o, all[j]? = some o ∧ (o.dst = some r ∧ isQ o = true ∨ ∃ t v, o.op = .store t (.tmp r) v) := by
  obtain ⟨o, h1, h2, h3⟩ := C.ent hj
  refine ⟨o, h1, ?_⟩
  cases h3 with
  | exec ds st' hb hcl hk hg hs hx hD hsf =>
    have hE := C.isE j o h2 h1
    subst hD
    simp only [delOf] at hr
    obtain ⟨r2, e1, e2⟩ := Option.bind_eq_some_iff.1 hr
    obtain ⟨c2, e3, e4⟩ := Option.map_eq_some_iff.1 e2
    cases e4
    cases hq : isQ o with
    | true => exact .inl ⟨rowOf_quiet hq e1, rfl⟩
    | false =>
      right
      unfold PgAM.isE at hE
      split at hE
      · rename_i t u v ho
        have hrow : (delOf o (putDels ((nth (masks [] all) j).getD 0) ds st0) st').row = some (r, c) := hr
        simp only [Del.safe, Bool.and_eq_true] at hsf
        have h5 := hsf.2
        rw [ho, hrow] at h5
        simp only at h5
        have := Nat.eq_of_beq_eq_true h5
        subst this
        exact ⟨t, v, ho⟩
      · rw [hq] at hE; cases hE
  | skip j want hg ho hD => subst hD; cases hr
  | pick c j k x y b v ds ho hb hcl hki hk hg hj hc hm hv hD => subst hD; cases hr
theorem Ctx.away {j i d : Nat} {D : Del} (hj : (j, D) ∈ T) (hd : (i, d) ∈ dl) (hne : i ≠ j) (hb : Nat.testBit (mkm (masks [] all) j) i = false) :
    PV.allC (fun p => !PC.names d p) D.v = true ∧ ∀ r cs, D.row = some (r, cs) → cs.all (fun p => !PC.names d p) = true := by
  obtain ⟨o, h1, h2, h3⟩ := C.ent hj
  cases h3 with
  | exec ds st' hbw hcl hk hg hs hx hD hsf =>
    simp only [Del.safe, Bool.and_eq_true] at hsf
    obtain ⟨⟨⟨h4, h5⟩, _⟩, _⟩ := hsf
    have key : ∀ p, PC.away ((nth (masks [] all) j).getD 0) j dl p = true → (!PC.names d p) = true := by
      intro p hp
      have := List.all_eq_true.1 hp _ hd
      simp only [Bool.or_eq_true] at this
      rcases this with (h6 | h6) | h6
      · unfold mkm at hb; rw [hb] at h6; cases h6
      · exact absurd (Nat.eq_of_beq_eq_true h6) hne
      · exact h6
    refine ⟨PV.allC_imp key (PV.allC_and h4).2, fun r cs e => ?_⟩
    rw [e] at h5
    simp only at h5
    exact List.all_eq_true.2 fun p hp => key p (by
      have := List.all_eq_true.1 h5 p hp
      simp only [Bool.and_eq_true] at this
      exact this.2)
  | skip j want hg ho hD => subst hD; exact ⟨rfl, fun r cs e => by cases e⟩
  | pick c j k x y b v ds ho hbw hcl hki hk hg hj hc hm hv hD => subst hD; exact ⟨rfl, fun r cs e => by cases e⟩
theorem Ctx.rowDst {j r : Nat} {D : Del} {c : List PC} (hj : (j, D) ∈ T) (hr : D.row = some (r, c)) : ∃ a, a < m ∧ (nth all a).bind (·.dst) = some r ∧ (a = j ∨ Nat.testBit (mkm (masks [] all) j) a = true) := by
  obtain ⟨o, h1, h2⟩ := C.row hj hr
  have hlt := C.tok.lt hj
  rcases h2 with ⟨h2, _⟩ | ⟨t, v, h2⟩
  · exact ⟨j, hlt, by rw [nth_eq, h1]; exact h2, .inl rfl⟩
  · obtain ⟨_, a, a1, a2, a3, _⟩ := C.store j o t r v hlt h1 h2
    exact ⟨a, a1, a2, .inr a3⟩
/-- Two that write a variable are in one order. -/
theorem Ctx.cmp {j j' r : Nat} {D D' : Del} {c c' : List PC} (hj : (j, D) ∈ T) (hr : D.row = some (r, c)) (hj' : (j', D') ∈ T) (hr' : D'.row = some (r, c')) (hne : j' ≠ j) :
    Nat.testBit (mkm (masks [] all) j) j' = true ∨ (Nat.testBit (mkm (masks [] all) j') j = true ∧ ∃ o, all[j']? = some o ∧ isQ o = false) := by
  obtain ⟨o, h1, h2⟩ := C.row hj hr
  obtain ⟨o', h1', h2'⟩ := C.row hj' hr'
  have hlt := C.tok.lt hj
  have hlt' := C.tok.lt hj'
  have nq : ∀ {o : Oper} {t v}, o.op = .store t (.tmp r) v → isQ o = false := fun h => by simp [isQ, h]
  rcases h2 with ⟨h2, _⟩ | ⟨t, v, h2⟩
  · rcases h2' with ⟨h2', _⟩ | ⟨t', v', h2'⟩
    · exact absurd (C.reg.dst j' j r hlt' hlt (by rw [nth_eq, h1']; exact h2') (by rw [nth_eq, h1]; exact h2)) hne
    · obtain ⟨_, a, a1, a2, a3, _⟩ := C.store j' o' t' r v' hlt' h1' h2'
      have : a = j := C.reg.dst a j r a1 hlt a2 (by rw [nth_eq, h1]; exact h2)
      subst this
      exact .inr ⟨a3, o', h1', nq h2'⟩
  · obtain ⟨_, a, a1, a2, a3, a4⟩ := C.store j o t r v hlt h1 h2
    rcases h2' with ⟨h2', _⟩ | ⟨t', v', h2'⟩
    · have : a = j' := C.reg.dst a j' r a1 hlt' a2 (by rw [nth_eq, h1']; exact h2')
      subst this
      exact .inl a3
    · obtain ⟨_, b, b1, b2, b3, _⟩ := C.store j' o' t' r v' hlt' h1' h2'
      have : b = a := C.reg.dst b a r b1 a1 b2 a2
      subst this
      rcases a4 j' hlt' b3 with e | e | e
      · exact absurd e hne
      · exact .inr ⟨e, o', h1', nq h2'⟩
      · exact .inl e
theorem Ctx.sigClean (hL : ∀ p, p ∈ L → p ∈ T) (hc : Chain (masks [] all) L) {i d : Nat} (hi : i < m) (hd : (nth all i).bind (·.dst) = some d) (hn : ∀ D, (i, D) ∉ L) : Clean d (sig L st0) := by
  have hcl := C.clean i d hi hd
  obtain ⟨o, ho1, ho2⟩ := Option.bind_eq_some_iff.1 hd
  rw [nth_eq] at ho1
  have hdl := C.dl i o d hi ho1 ho2
  have hj : ∀ j D, (j, D) ∈ L → i ≠ j ∧ Nat.testBit (mkm (masks [] all) j) i = false := by
    intro j D hj
    refine ⟨fun e => by subst e; exact hn D hj, ?_⟩
    cases e : Nat.testBit (mkm (masks [] all) j) i with
    | false => rfl
    | true =>
      obtain ⟨D', h'⟩ := chain_closed hc hj e
      exact absurd h' (hn D')
  refine ⟨fun n pv h => ?_, fun r c h => ?_, ?_, fun t ht => ?_⟩
  · rcases sig_t' h with ⟨j, D, h1, h2, rfl⟩ | h
    · exact (C.away (hL _ h1) hdl (hj j D h1).1 (hj j D h1).2).1
    · exact hcl.t n pv h
  · rcases sig_r' h with ⟨j, D, h1, h2⟩ | h
    · exact (C.away (hL _ h1) hdl (hj j D h1).1 (hj j D h1).2).2 r c h2
    · exact hcl.r r c h
  · rw [sig_r0]
    · exact hcl.row
    · intro j D c h1 h2
      obtain ⟨a, a1, a2, a3⟩ := C.rowDst (hL _ h1) h2
      have : a = i := C.reg.dst a i d a1 hi a2 hd
      subst this
      rcases a3 with a3 | a3
      · exact (hj j D h1).1 a3
      · rw [(hj j D h1).2] at a3; cases a3
  · rw [sig_b0]
    · exact hcl.b t ht
    · intro j D h1
      cases e : look D.bs t with
      | none => rfl
      | some B =>
        obtain ⟨d', _, _, q3⟩ := C.bs (hL _ h1) e
        rcases q3 _ hdl with q4 | q4
        · exact absurd q4 (hj j D h1).1
        · rw [ht] at q4; cases q4
/-- What an operation sees is a part of what there is. -/
theorem Ctx.sub (hL : ∀ p, p ∈ L → p ∈ T) (hc : Chain (masks [] all) L) {k mask : Nat} (hb : Below all T ds) (hcl : Closed (masks [] all) st0 ds) (hk : TOk all ds k) (hkm : k ≤ m) (hlt : ∀ b, Nat.testBit mask b = true → b < k)
    (hmL : ∀ b, Nat.testBit mask b = true → ∃ D, (b, D) ∈ L) (hmc : ∀ j b, Nat.testBit mask j = true → Nat.testBit (mkm (masks [] all) j) b = true → Nat.testBit mask b = true)
    (hrow : ∀ j1 D1 c1 j2 D2 c2 r, (j1, D1) ∈ T → D1.row = some (r, c1) → Nat.testBit mask j1 = true → (j2, D2) ∈ L → D2.row = some (r, c2) → Nat.testBit mask j2 = true) : Sub (putDels mask ds st0) (sig L st0) := by
  have inL : ∀ j D, (j, D) ∈ T → Nat.testBit mask j = true → (j, D) ∈ L := by
    intro j D hj hm
    obtain ⟨D', h'⟩ := hmL j hm
    have := nodup_fst C.tok.nodup (hL _ h') hj
    subst this; exact h'
  have noDst : ∀ n, (∀ j, j < m → (nth all j).bind (·.dst) ≠ some n) → ∀ j D, (j, D) ∈ L → D.d ≠ some n := by
    intro n hn j D hj e
    exact hn j (C.tok.lt (hL _ hj)) (by rw [← C.tok.d j D (hL _ hj)]; exact e)
  refine ⟨fun n pv h => ?_, fun r c h => ?_, fun t B h => ?_⟩
  · rcases putDels_t h with ⟨j, D, h1, h2, h3, rfl⟩ | h
    · rcases hb j D h1 with h4 | ⟨⟨d, rfl⟩, _⟩
      · refine .inr ⟨sig_t (inL j D h4 h2) h3 (fun j' D' h5 h6 => (C.uniq (hL _ h5) h4 h6 h3).2), (closed_ok hmc hcl j D h1 h2).1⟩
      · exact .inl rfl
    · rcases Classical.em (∃ j, j < m ∧ (nth all j).bind (·.dst) = some n) with ⟨j, h1, h2⟩ | hne
      · rw [C.reg.dead j n h1 h2] at h
        cases h; exact .inl rfl
      · refine .inr ⟨?_, PV.allC_imp (okTok_mono fun t => st0_dom) (C.ct n pv h)⟩
        rw [sig_t0 (noDst n fun j h1 h2 => hne ⟨j, h1, h2⟩)]; exact h
  · rcases putDels_r hk.desc h with ⟨j, D, h1, h2, h3, h4⟩ | h
    · rcases hb j D h1 with h5 | ⟨⟨d, rfl⟩, _⟩
      · refine ⟨sig_r hc (inL j D h5 h2) h3 fun j' D' c' q1 q2 => ?_, (closed_ok hmc hcl j D h1 h2).2 r c h3⟩
        by_cases e : j' = j
        · subst e; exact .inl (nodup_fst C.tok.nodup (hL _ q1) h5)
        · refine .inr ⟨e, ?_⟩
          rcases C.cmp h5 h3 (hL _ q1) q2 e with q3 | ⟨q3, o', q4, q5⟩
          · exact q3
          · exfalso
            have q6 := hrow j D c j' D' c' r h5 h3 h2 q1 q2
            have q7 : j' ∈ ds.map (·.1) := by rw [hk.ix]; simpa using hlt j' q6
            obtain ⟨⟨j2, D2⟩, q8, q9⟩ := List.mem_map.1 q7
            simp only at q9; subst q9
            rcases hb j2 D2 q8 with q10 | ⟨_, o2, q10, q11⟩
            · have := nodup_fst C.tok.nodup q10 (hL _ q1)
              subst this
              have := h4 j2 D2 c' q8 q6 q2
              have := mk_low C.low j2 j q3
              omega
            · rw [nth_eq, q4] at q10; cases q10
              rw [q5] at q11; cases q11
      · cases h3
    · have hne : ∀ j, j < m → (nth all j).bind (·.dst) ≠ some r := fun j h1 h2 => by
        rw [(C.clean j r h1 h2).row] at h; cases h
      refine ⟨?_, List.all_eq_true.2 fun p hp => okTok_mono (fun t => st0_dom) p (List.all_eq_true.1 (C.cr r c h) p hp)⟩
      rw [sig_r0]
      · exact h
      · intro j D c' h1 h2
        obtain ⟨a, a1, a2, _⟩ := C.rowDst (hL _ h1) h2
        exact hne a a1 a2
  · rcases putDels_b h with ⟨j, D, h1, h2, h3⟩ | h
    · rcases hb j D h1 with h4 | ⟨⟨d, rfl⟩, _⟩
      · refine sig_b (inL j D h4 h2) h3 fun j' D' B' h5 h6 => ?_
        obtain ⟨d, q1, q2, q3⟩ := C.bs h4 h3
        obtain ⟨d', q1', q2', q3'⟩ := C.bs (hL _ h5) h6
        obtain ⟨o, q4, q5⟩ := Option.bind_eq_some_iff.1 q1
        rw [nth_eq] at q4
        rcases q3' _ (C.dl j o d (C.tok.lt h4) q4 q5) with q6 | q6
        · simp only at q6; subst q6; exact nodup_fst C.tok.nodup (hL _ h5) h4
        · rw [q2] at q6; cases q6
      · cases h3
    · rw [sig_b0]
      · exact h
      · intro j D h1
        cases e : look D.bs t with
        | none => rfl
        | some B' =>
          obtain ⟨d, q1, q2, _⟩ := C.bs (hL _ h1) e
          rw [(C.clean j d (C.tok.lt (hL _ h1)) q1).b t q2] at h; cases h
/-- A part of a row's writers that is seen by one that comes. -/
theorem Ctx.rowMask (hL : ∀ p, p ∈ L → p ∈ T) (hc : Chain (masks [] all) L) {i : Nat} (hi : i < m) (hn : ∀ D, (i, D) ∉ L) :
    ∀ j1 D1 c1 j2 D2 c2 r, (j1, D1) ∈ T → D1.row = some (r, c1) → Nat.testBit (mkm (masks [] all) i) j1 = true → (j2, D2) ∈ L → D2.row = some (r, c2) → Nat.testBit (mkm (masks [] all) i) j2 = true := by
  intro j1 D1 c1 j2 D2 c2 r h1 h2 h3 h4 h5
  obtain ⟨a, a1, a2, a3⟩ := C.rowDst h1 h2
  have ha : Nat.testBit (mkm (masks [] all) i) a = true := by
    rcases a3 with rfl | a3
    · exact h3
    · exact mk_trans C.low (i + 1) i j1 a (by omega) h3 a3
  obtain ⟨o, o1, o2⟩ := C.row (hL _ h4) h5
  have hlt := C.tok.lt (hL _ h4)
  rcases o2 with ⟨o2, _⟩ | ⟨t, v, o2⟩
  · have : a = j2 := C.reg.dst a j2 r a1 hlt a2 (by rw [nth_eq, o1]; exact o2)
    subst this; exact ha
  · obtain ⟨_, b, b1, b2, b3, b4⟩ := C.store j2 o t r v hlt o1 o2
    have : b = a := C.reg.dst b a r b1 a1 b2 a2
    subst this
    rcases b4 i hi ha with e | e | e
    · subst e; exact absurd h4 (hn D2)
    · exact e
    · obtain ⟨D', h'⟩ := chain_closed hc h4 e
      exact absurd h' (hn D')
end
end Go.PgAM
