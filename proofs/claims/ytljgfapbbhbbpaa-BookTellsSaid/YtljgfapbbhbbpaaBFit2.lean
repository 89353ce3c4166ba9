/- Acts and ops that are handed in, with bounds; a user's entry behind a writing. -/
import Derived.Test.YtljgfapbbhbbpaaBLaw
import Derived.Test.YtljgfapbbhbbpaaBFit
namespace Go.Proofs.Ytljgfapbbhbbpaa
open Go Go.Proofs.Ytljgfapbbhbbpaa.Sym
set_option maxRecDepth 100000
set_option linter.unusedSimpArgs false
set_option linter.unusedVariables false

theorem lit_u64 {a : Int} (h : (Lit.int .u64 a).wf = true) : 0 ≤ a ∧ a ≤ 18446744073709551615 := by
  simpa [Lit.wf, IntKind.min, IntKind.max, IntKind.signed, IntKind.bits] using h
theorem fits_op2 {zs : List AV} (h : fitsAll [.int .i64, .str, .int .i64, .int .i64, .int .i64, .int .u64, .sl 1 false [.str]] zs) : ∃ o : Opb, AV.agg zs = o.av ∧ 0 ≤ o.ttl ∧ o.ttl ≤ 18446744073709551615 := by
  obtain ⟨_, _, rfl, ⟨a, rfl, _⟩, _, _, rfl, ⟨u, rfl, _⟩, _, _, rfl, ⟨b, rfl, _⟩, _, _, rfl, ⟨c, rfl, _⟩, _, _, rfl, ⟨d, rfl, _⟩, _, _, rfl, ⟨t, rfl, ht⟩, _, _, rfl, ⟨ys, rfl, _, hys⟩, rfl⟩ := h
  obtain ⟨us, rfl⟩ := fits_strs hys
  exact ⟨⟨a, u, b, c, d, t, us⟩, rfl, lit_u64 ht⟩
theorem fits_bacts2 {ys : List AV} (h : ∀ y ∈ ys, ∃ zs, fitsAll [.bool, .int .i64, .str, .int .i64, .int .i64, .int .i64, .int .u64, .sl 1 false [.str], .int .u64] zs ∧ y = pack true zs) : ∃ l : List ActB, ys = bacts l ∧ ∀ a ∈ l, 0 ≤ a.by_ ∧ a.by_ ≤ 18446744073709551615 := by
  induction ys with
  | nil => exact ⟨[], rfl, fun a ha => by cases ha⟩
  | cons y ys ih =>
    obtain ⟨l, rfl, hl⟩ := ih (fun z hz => h z (List.mem_cons_of_mem _ hz))
    obtain ⟨zs, ⟨_, _, rfl, ⟨w, rfl⟩, _, _, rfl, ⟨a, rfl, _⟩, _, _, rfl, ⟨u, rfl, _⟩, _, _, rfl, ⟨b, rfl, _⟩, _, _, rfl, ⟨c, rfl, _⟩, _, _, rfl, ⟨d, rfl, _⟩, _, _, rfl, ⟨t, rfl, _⟩, _, _, rfl, ⟨vs, rfl, _, hvs⟩, _, _, rfl, ⟨y, rfl, hy⟩, rfl⟩, rfl⟩ := h y List.mem_cons_self
    obtain ⟨us, rfl⟩ := fits_strs hvs
    refine ⟨⟨w, ⟨a, u, b, c, d, t, us⟩, y⟩ :: l, rfl, fun x hx => ?_⟩
    rcases List.mem_cons.1 hx with rfl | hx
    · exact lit_u64 hy
    · exact hl x hx
theorem addW_bd {a b : Int} : 0 ≤ addW a b ∧ addW a b ≤ 18446744073709551615 := by
  unfold addW
  split
  · omega
  · rw [IntKind.wrap_u64]; omega
theorem made_now (l : List ActB) (most : Int) (h : ∀ a ∈ l, 0 ≤ a.by_ ∧ a.by_ ≤ 18446744073709551615) : 0 ≤ (madeF l most).2 ∧ (madeF l most).2 ≤ 18446744073709551615 := by
  refine snoc_ind (p := fun l => 0 ≤ (madeF l most).2 ∧ (madeF l most).2 ≤ 18446744073709551615) (show 0 ≤ (0 : Int) ∧ (0 : Int) ≤ 18446744073709551615 by decide) ?_ l
  intro l a ih
  have e : madeF (l ++ [a]) most = madeStep most (madeF l most) a := by rw [madeF, List.foldl_append]; rfl
  rw [e, madeStep]
  exact addW_bd
section
variable {α β : Type} {lt eq : α → α → Bool}
theorem get_same (O : StrictOrd lt) (he : ∀ a b, eq a b = true ↔ a = b) {m m' : List (α × β)} (hr : RisesM lt m) (hr' : RisesM lt m') {k : α} (none : β) (h : ∀ v, (k, v) ∈ m ↔ (k, v) ∈ m') : getG lt eq none m k = getG lt eq none m' k := by
  by_cases hk : k ∈ m.map Prod.fst
  · obtain ⟨⟨k', v⟩, hp, rfl⟩ := List.mem_map.1 hk
    rw [get_mem O he hr hp, get_mem O he hr' ((h v).1 hp)]
  · have hk' : k ∉ m'.map Prod.fst := fun hc => by
      obtain ⟨⟨k', v⟩, hp, rfl⟩ := List.mem_map.1 hc
      exact hk (List.mem_map.2 ⟨_, (h v).2 hp, rfl⟩)
    rw [get_none O he hr hk, get_none O he hr' hk']
end
theorem settle_other {m : Bk} (hr : rises_se m) {u k : ByteArray} (hne : ¬ k = u) (l : List Ses) (now : Int) : wasOf (settleB m u l now) k = wasOf m k := by
  have hs := (settleB_rises hr u l now).1
  have : getG ltS eqS nilEn (settleB m u l now) k = getG ltS eqS nilEn m k := by
    refine get_same ordS eqS_iff hs hr nilEn fun v => ?_
    unfold settleB
    split
    · rw [without_eq ordS eqS_iff hr, List.mem_filter]
      have : eqS k u = false := by
        cases hc : eqS k u with
        | false => rfl
        | true => exact absurd ((eqS_iff _ _).1 hc) hne
      simp [this]
    · rw [mem_with ordS eqS_iff hr]
      constructor
      · rintro (h | h)
        · exact absurd (Prod.mk.inj h).1 hne
        · exact h.1
      · exact fun h => .inr ⟨h, hne⟩
  rw [wasOf, this, wasOf]
theorem was_other {m : Bk} (hr : rises_se m) {o : Opb} {k : ByteArray} {now most : Int} (hne : ¬ k = o.u) : wasOf (writeB m o now most) k = wasOf m k := settle_other hr hne _ _
theorem was_settle {m : Bk} (hr : rises_se m) {u : ByteArray} {l : List Ses} {now : Int} : (wasOf (settleB m u l now) u).l = l := by
  have hs := (settleB_rises hr u l now).1
  unfold wasOf
  by_cases hl : l.length = 0
  · have hnil : l = [] := List.eq_nil_of_length_eq_zero hl
    rw [get_none ordS eqS_iff hs, hnil]
    · rfl
    · intro hc
      obtain ⟨p, hp, hpk⟩ := List.mem_map.1 hc
      rw [settleB, if_pos hl, without_eq ordS eqS_iff hr] at hp
      have := (List.mem_filter.1 hp).2
      rw [hpk, (eqS_iff _ _).2 rfl] at this
      cases this
  · have hm : (u, (⟨l, ofP l now⟩ : En)) ∈ settleB m u l now := by
      rw [settleB, if_neg hl]
      exact (mem_with ordS eqS_iff hr).2 (.inl rfl)
    rw [get_mem ordS eqS_iff hs hm]
theorem presence_call (n : Nat) (m : Bk) (u : ByteArray) (now : Int) (h : bookOk n m) (hn : n ≤ 700000) :
    PCall P 38 [map_se m, str u, u64 now] (fun x => x = .agg [i64 (ofP (wasOf m u).l now).st, i64 (ofP (wasOf m u).l now).pr, i64 (ofP (wasOf m u).l now).n]) := by
  refine pcall_go tyOk Try.func38 rfl rfl ?_
  intro K hK
  simp only [Try.ntmps38, List.length_cons, List.length_nil, Nat.reduceAdd, Nat.reduceSub, List.replicate, List.cons_append, List.nil_append]
  have hml := h.2.1
  have hw := (was_ok h u).2
  try simp (maxSteps := 1000000) only [go_region, go_seq, go_ops_nil, go_op, opK_none, opK_some, contK_some, callOf, callK_eq, callJ_nil, callD_fn, fstep, fpre, fstep0, fload, fcell, evs, T, TI.isAgg, St.ev, St.put, AV.cells, AV.known, AV.owners, ownersAll, List.getD_cons_zero, List.getD_cons_succ, List.set, List.map_cons, List.map_nil, List.length_cons, List.length_nil, List.drop_zero, List.take_succ_cons, List.take_zero, List.cons_append, List.nil_append, List.append_nil, List.getElem?_cons_zero, true_and, Bool.true_and, ↓reduceIte, Nat.reduceAdd, Nat.le_refl, Nat.zero_add, map_se]
  (refine callG_use (get_open m u h.1 (by omega)) rfl ?_; rintro _ rfl)
  try simp (maxSteps := 1000000) only [go_region, go_seq, go_ops_nil, go_op, opK_none, opK_some, contK_some, callOf, callK_eq, callJ_nil, callD_fn, fstep, fpre, fstep0, fload, fcell, fstore, ffieldAddr, evs, T, TI.isAgg, St.ev, St.put, splice, AV.cells, AV.known, AV.flat, AV.owners, ownersAll, Value.oneCell', List.getD_cons_zero, List.getD_cons_succ, List.set, List.map_cons, List.map_nil, List.length_cons, List.length_nil, List.all_cons, List.all_nil, List.drop_succ_cons, List.drop_zero, List.take_zero, List.headD_cons, List.cons_append, List.nil_append, List.append_nil, List.getElem?_cons_zero, List.getElem?_cons_succ, List.getElem?_toArray, true_and, and_true, Bool.and_true, Bool.true_and, Bool.and_self, Bool.false_eq_true, ↓reduceIte, reduceCtorEq, ne_eq, not_false_eq_true, Nat.reduceAdd, Nat.reduceLT, Nat.le_refl, Nat.add_zero, Nat.zero_add]
  (refine callG_use (of_call (wasOf m u).l now (by omega)) rfl ?_; rintro _ rfl)
  try simp (maxSteps := 1000000) only [go_ret, go_ops_nil, go_op, opK_none, contK_some, callOf, fstep, fpre, fstep0, fstore, T, St.ev, St.put, splice, AV.cells, AV.known, AV.flat, Value.oneCell', List.getD_cons_zero, List.getD_cons_succ, List.set, List.length_cons, List.length_nil, List.all_cons, List.all_nil, List.drop_succ_cons, List.drop_zero, List.take_zero, List.nil_append, List.append_nil, List.getElem?_cons_zero, List.getElem?_cons_succ, true_and, and_true, Bool.and_true, Bool.true_and, Bool.and_self, Nat.reduceAdd, Nat.le_refl, Nat.zero_add]
  apply hK
  simp only [Try.results38, retK, ares, List.take_nil, Bool.and_true, Bool.true_and, AV.ofResults, St.trunc, truncVs, truncV, aload, acell, T, TI.isAgg, List.getD_cons_zero, List.getD_cons_succ, List.take_zero, List.take_succ_cons, List.drop_zero, List.map_nil, List.getElem?_cons_zero, List.getElem?_cons_succ, List.length_cons, List.length_nil, Nat.reduceAdd, Nat.le_refl, true_and, and_true, ↓reduceIte, List.cons.injEq, exists_eq_left']
  try rfl
end Go.Proofs.Ytljgfapbbhbbpaa
