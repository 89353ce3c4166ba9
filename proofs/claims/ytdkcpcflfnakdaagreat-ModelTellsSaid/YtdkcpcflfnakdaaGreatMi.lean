/- The base of the laws of this seat: texts of this session, joined by a program. -/
import Derived.Test.YtdkcpcflfnakdaaGreatMh
import Derived.Test.YtdkcpcflfnakdaaGreatMe
import Derived.Test.YtdkcpcflfnakdaaGreatMd
namespace Go.Proofs.YtdkcpcflfnakdaaGreat
open Go Go.Proofs.YtdkcpcflfnakdaaGreat.Sym
attribute [-sevalprocAttr] Int.reduceToNat Int.reduceNatCast Int.reduceNatCast' Nat.reduceSubDiff
set_option maxRecDepth 100000
set_option maxHeartbeats 1000000
set_option maxHeartbeats 2000000
set_option linter.unusedSimpArgs false
set_option linter.unusedVariables false

def sm : Cf := ⟨3, 2, 16, 4, 1, 100, 0⟩
theorem law_Small : PCall P 18 [] (fun x => x = sm.av) := by
  refine q0r tyOk Tryz.func18 rfl rfl ?_
  intro K hK
  simp only [Tryz.ntmps18, List.length_nil, Nat.reduceSub, List.replicate, List.nil_append]
  try simp (maxSteps := 1000000) only [seval]
  apply hK
  simp only [Tryz.results18, retK, ares, List.take_nil, Bool.and_true, Bool.true_and, AV.ofResults, St.trunc, q00, q01, aload, acell, T, TI.isAgg, List.getD_cons_zero, List.take_zero, List.take_succ_cons, List.drop_zero, List.map_nil, List.getElem?_cons_zero, List.length_cons, List.length_nil, Nat.reduceAdd, Nat.le_refl, true_and, and_true, ↓reduceIte, List.cons.injEq, exists_eq_left']
  try rfl
abbrev annU : ByteArray := ⟨#[97, 110, 110]⟩
def opW : Opb := ⟨6, annU, 0, 0, 0, 0, []⟩
def opS : Opb := ⟨1, annU, 0, 2, 0, 9, []⟩
def opP : Opb := ⟨8, ⟨#[]⟩, 0, 0, 0, 0, []⟩
theorem nameB_iff (u : ByteArray) : nameB u = true ↔ (u.size ≠ 0 ∧ u.size ≤ 16) := by
  unfold nameB
  rw [Bool.and_eq_true, decide_eq_true_eq]
  have h1 : (!(u.toList == ByteArray.toList ⟨#[]⟩)) = true ↔ u.size ≠ 0 := by
    have := q0x u ⟨#[]⟩
    have e : (u.toList == ByteArray.toList ⟨#[]⟩) = eqS u ⟨#[]⟩ := rfl
    rw [e]
    constructor
    · intro h h0
      have hu : u = ⟨#[]⟩ := by
        cases u with
        | mk d => have : d.size = 0 := h0; rw [Array.eq_empty_of_size_eq_zero this]
      rw [this.2 hu] at h; cases h
    · intro h
      cases he : eqS u ⟨#[]⟩ with
      | false => rfl
      | true => exact absurd (by rw [this.1 he]; rfl) h
  rw [h1]
  constructor
  · rintro ⟨a, b⟩; exact ⟨a, by omega⟩
  · rintro ⟨a, b⟩; exact ⟨a, by omega⟩
theorem nameB_ann : nameB annU = true := (nameB_iff annU).2 ⟨by decide, by decide⟩
theorem badW : badO opW = false := by simp [badO, opW, nameB_ann]
theorem badS : badO opS = false := by simp [badO, opS, nameB_ann]
theorem badP : badO opP = false := by simp [badO, opP]
def kA : Nat := stN 3 annU
theorem kA_lt : kA < 3 := (stN_lt (n := 3) (by decide) (by decide) annU).1
def annM1 : Md := (fresh sm).watchF kA 1 annU
theorem awake1 : doM 3 (fresh sm) 1 opW = annM1 := by
  have hf : fullW 3 (fresh sm) 1 annU = false := by
    unfold fullW
    have h1 : countM (fresh sm) 1 3 = 0 := by rfl
    rw [h1]
    simp [fresh, sm]
  have hi : inB 1 0 7 = true := by decide
  unfold doM
  rw [badW, hi]
  simp only [opW, hf]
  rfl
def annC : Chg := ⟨annU, ⟨0, 0, 0⟩, ⟨2, 0, 1⟩⟩
theorem annB : writeC [] opS 0 2 = [annC] := by rfl
def annM2 : Md := (annM1.take.setB kA (writeB [] opS 0 2)).tell kA [annC] 1
theorem awake2 : doM 3 annM1 0 opS = annM2 := by
  have hi : inB 0 0 7 = true := by decide
  unfold doM
  rw [badS, hi]
  have : annM1.write 3 opS = annM2 := by
    unfold Md.write
    have h1 : annM1.t.cl = false := rfl
    rw [h1, if_neg (by decide)]
    have h2 : addW annM1.t.seq 1 = 1 := by decide
    rw [h2]
    show (annM1.take.setB kA (writeB [] opS 0 2)).tell kA (writeC [] opS 0 2) 1 = _
    rw [annB]; rfl
  simp only [opS] at this ⊢
  rw [this]; rfl
def annE : Ev := ⟨annU, ⟨0, 0, 0⟩, ⟨2, 0, 1⟩, 1⟩
theorem annQ (j : Nat) : ((annM2.f j).q 1) = if j = kA then ([annE], false) else ([], false) := by
  unfold annM2 Md.tell Md.setF
  simp only
  by_cases h : j = kA
  · rw [if_pos h, if_pos h]
    have hw : watF ((annM1.take.setB kA (writeB [] opS 0 2)).f kA).m 1 annC.u = true := by
      show watF (watchM [] 1 annU) 1 annU = true
      have h2 : ((annM1.take.setB kA (writeB [] opS 0 2)).f kA).m = watchM [] 1 annU := by
        simp [annM1, Md.take, Md.setB, Md.watchF, Md.setF, fresh, freshF]
      rw [wat_watch msk_nil]
      simp [cli]
    rw [tell_one, tell1_qy (by decide) (by
      have h2 : ((annM1.take.setB kA (writeB [] opS 0 2)).f kA).m = watchM [] 1 annU := by
        simp [annM1, Md.take, Md.setB, Md.watchF, Md.setF, fresh, freshF]
      rw [h2, Int.natCast_one]
      show watF (watchM [] 1 annU) 1 annU = true
      rw [wat_watch msk_nil]
      simp [cli])]
    have hq : ((annM1.take.setB kA (writeB [] opS 0 2)).f kA).q 1 = ([], false) := by
      simp [annM1, Md.take, Md.setB, Md.watchF, Md.setF, fresh, freshF]
    have hr : ((annM1.take.setB kA (writeB [] opS 0 2)).f kA).room = 16 := by
      simp [annM1, Md.take, Md.setB, Md.watchF, Md.setF, fresh, freshF, sm]
      decide
    rw [hq, hr]
    rfl
  · rw [if_neg h, if_neg h]
    simp [annM1, Md.take, Md.setB, Md.watchF, Md.setF, fresh, freshF, h]
theorem awake3 : doR 3 annM2 1 opP = ⟨0, none, some [annE], false⟩ := by
  have hi : inB 1 0 7 = true := by decide
  unfold doR
  rw [badP, hi]
  have h1 : rowsW annM2 1 3 = (List.range 3).map fun j => if j = kA then [annE] else [] := by
    unfold rowsW
    apply List.map_congr_left
    intro j _
    rw [show (1 : Int).toNat = 1 from rfl, annQ]
    split <;> rfl
  have h2 : lostW annM2 1 3 = false := by
    unfold lostW
    rw [List.any_eq_false]
    intro j _
    rw [show (1 : Int).toNat = 1 from rfl, annQ]
    split <;> simp
  have h3 : mergeF (rowsW annM2 1 3) = [annE] := by
    rw [h1]
    have hk := kA_lt
    generalize kA = k at *
    rcases (show k = 0 ∨ k = 1 ∨ k = 2 by omega) with rfl | rfl | rfl <;> rfl
  rw [h2, h3]
  rfl

structure WOk (n B : Nat) (M : Md) : Prop where
  ok : MOk n B M
  room : ∀ j, (M.f j).room ≤ 100
  msk : ∀ j, mskOk (M.f j).m
theorem tell_q {F : Fd} (hq : ∀ k, (F.q k).1.length ≤ 100) (hr : F.room ≤ 100) (seq : Int) : ∀ (l : List Chg) k, ((tellF F l seq).q k).1.length ≤ 100 := by
  intro l
  induction l generalizing F with
  | nil => exact hq
  | cons c l ih =>
    refine ih (F := tell1 F c seq 8) (fun k => ?_) hr
    unfold tell1
    simp only
    split
    · unfold putR
      split
      · exact hq k
      · rename_i h
        simp only [List.length_append, List.length_singleton]
        omega
    · exact hq k
theorem WOk.mono {n B B' : Nat} {M : Md} (h : WOk n B M) (hB : B ≤ B') (h9 : B' ≤ 900) : WOk n B' M :=
  ⟨⟨h.ok.n1, h.ok.n8, h.ok.s, fun j => (h.ok.b j).mono hB, h.ok.m, fun j => Nat.le_trans (h.ok.ml j) hB, h.ok.q, h9⟩, h.room, h.msk⟩
theorem wok_t {n B : Nat} {M : Md} (h : WOk n B M) (t : Tm) : WOk n B { M with t := t } := ⟨⟨h.ok.n1, h.ok.n8, h.ok.s, h.ok.b, h.ok.m, h.ok.ml, h.ok.q, h.ok.B⟩, h.room, h.msk⟩
theorem wok_setB {n B : Nat} {M : Md} (h : WOk n B M) (s : Nat) {b : Bk} (hb : bookOk B b) : WOk n B (M.setB s b) :=
  ⟨⟨h.ok.n1, h.ok.n8, h.ok.s, fun j => by
    simp only [Md.setB]
    split
    · exact hb
    · exact h.ok.b j, h.ok.m, h.ok.ml, h.ok.q, h.ok.B⟩, h.room, h.msk⟩
theorem wok_setF {n B : Nat} {M : Md} (h : WOk n B M) (s : Nat) {F : Fd} (hm : mskOk F.m) (hl : F.m.length ≤ B) (hq : ∀ k, (F.q k).1.length ≤ 100) (hr : F.room ≤ 100) : WOk n B (M.setF s F) :=
  ⟨⟨h.ok.n1, h.ok.n8, h.ok.s, h.ok.b, fun j => by
    simp only [Md.setF]
    split
    · exact hm.1
    · exact h.ok.m j, fun j => by
    simp only [Md.setF]
    split
    · exact hl
    · exact h.ok.ml j, fun j => by
    simp only [Md.setF]
    split
    · exact hq
    · exact h.ok.q j, h.ok.B⟩, fun j => by
    simp only [Md.setF]
    split
    · exact hr
    · exact h.room j, fun j => by
    simp only [Md.setF]
    split
    · exact hm
    · exact h.msk j⟩
theorem wok_tell {n B : Nat} {M : Md} (h : WOk n B M) (s : Nat) (l : List Chg) (seq : Int) : WOk n B (M.tell s l seq) := by
  obtain ⟨h1, h2, _⟩ := tellF_ok (M.f s) l seq
  exact wok_setF h s (by rw [h1]; exact h.msk s) (by rw [h1]; exact h.ok.ml s) (tell_q (h.ok.q s) (h.room s) seq l) (by rw [h2]; exact h.room s)
theorem wok_fresh {c : Cf} {n : Nat} (hn : c.s = n) (h1 : 1 ≤ n) (h8 : n ≤ 8) (hq : c.q ≤ 100) : WOk n 0 (fresh c) :=
  ⟨⟨h1, h8, hn, fun j => ⟨List.Pairwise.nil, Nat.le_refl _, fun p hp => by cases hp⟩, fun j => msk_nil.1, fun j => Nat.le_refl _, fun j k => Nat.zero_le _, by omega⟩, fun j => by show max c.q 0 ≤ 100; omega, fun j => msk_nil⟩
theorem wok_sweep {n B : Nat} {M : Md} (h : WOk n B M) (s : Int) : WOk n B (M.sweep n s) := by
  unfold Md.sweep
  split
  · exact h
  · exact wok_tell (wok_setB (wok_t h _) _ (book_sweep (h.ok.b _) _)) _ _ _
theorem wok_tick {n B : Nat} {M : Md} (h : WOk n B M) (by_ : Int) : WOk n B (M.tick by_) := wok_t h _
theorem wok_do {n B : Nat} {M : Md} (h : WOk n B M) (hB : B + 1 ≤ 900) (who : Int) (o : Opb) : WOk n (B + 1) (doM n M who o) := by
  have hm := h.mono (Nat.le_succ B) hB
  unfold doM
  split
  · exact hm
  split
  · unfold Md.write
    split
    · exact wok_t hm _
    · exact wok_tell (wok_setB (wok_t hm _) _ (book_write (h.ok.b _) o _ _)) _ _ _
  split
  · refine ⟨?_, fun j => ?_, fun j => ?_⟩
    · have := mok_drains h.ok who n
      exact ⟨this.n1, this.n8, this.s, fun j => (this.b j).mono (Nat.le_succ _), this.m, fun j => Nat.le_succ_of_le (this.ml j), this.q, hB⟩
    · simp only [Md.drains]
      split
      · unfold Fd.drain; split <;> exact h.room j
      · exact h.room j
    · simp only [Md.drains]
      split
      · unfold Fd.drain; split <;> exact h.msk j
      · exact h.msk j
  split
  · exact hm
  split
  · split
    · exact hm
    · exact wok_setF hm _ (watch_ok (h.msk _) who o.u) (by have := watch_len (M.f (stN n o.u)).m who o.u; have := h.ok.ml (stN n o.u); simp only; omega) (h.ok.q _) (h.room _)
  split
  · exact wok_setF hm _ (unwatch_ok (h.msk _) who o.u) (by have := unwatch_len (M.f (stN n o.u)).m who o.u; have := h.ok.ml (stN n o.u); simp only; omega) (h.ok.q _) (h.room _)
  split
  · exact wok_t hm _
  · exact hm

def opNil (o : Opb) : AV := .agg [i64 o.kind, str o.u, i64 o.id, i64 o.st, i64 o.pr, u64 o.ttl, .v (.slice none 0 0)]
theorem Do_in {n pad B : Nat} {M : Md} (h : WOk n B M) (hB : B + 1 ≤ 900) (who : Int) (o : Opb) (ho : OpOk o) (r : List AB) (hr : r.all (AB.calm n) = true) : q17 P (kpX n) 19 (modM n pad M ++ r) [.ptr 0 0, i64 who, o.av]
    (fun x m' => x = (doR n M who o).av ∧ m' = modM n pad (doM n M who o) ++ r) :=
  mod_inX (model_Do h.ok hB who o ho) (by rfl) hr (by rintro x m' ⟨rfl, rfl⟩; exact ⟨by
    generalize doR n M who o = R
    cases R with
    | mk e v ev l => cases v <;> cases ev <;> rfl, _, rfl, rfl, rfl⟩)
theorem Do_nil {n pad B : Nat} {M : Md} (h : WOk n B M) (hB : B + 1 ≤ 900) (who : Int) (o : Opb) (ho : OpOk o) (hu : o.us = []) (r : List AB) (hr : r.all (AB.calm n) = true) : q17 P (kpX n) 19 (modM n pad M ++ r) [.ptr 0 0, i64 who, opNil o]
    (fun x m' => x = (doR n M who o).av ∧ m' = modM n pad (doM n M who o) ++ r) := by
  refine mod_inX (K0 := fun x m' => x = (doR n M who o).av ∧ m' = modM n pad (doM n M who o)) ?_ (by rfl) hr (by rintro x m' ⟨rfl, rfl⟩; exact ⟨by
    generalize doR n M who o = R
    cases R with
    | mk e v ev l => cases v <;> cases ev <;> rfl, _, rfl, rfl, rfl⟩)
  refine q0s.turn (Turns.weak (s := ⟨[.ptr 0 0, i64 who, opNil o], modM n pad M⟩) (s' := ⟨[.ptr 0 0, i64 who, o.av], modM n pad M⟩) ⟨_, _, rfl, q1f _, _, _, rfl, q1f _, _, _, rfl, ?_, rfl⟩ (weakM_refl _)) (model_Do h.ok hB who o ho)
  unfold Opb.av
  rw [hu]
  exact .inr ⟨_, rfl, _, _, rfl, q1f _, _, _, rfl, q1f _, _, _, rfl, q1f _, _, _, rfl, q1f _, _, _, rfl, q1f _, _, _, rfl, q1f _, _, _, rfl, weak_nil 1, rfl⟩
theorem annV : evts [annE] = [.agg [.v (.string ⟨#[97, 110, 110]⟩), i64 0, i64 0, i64 0, i64 2, i64 0, i64 1, u64 1]] := rfl
theorem law_awake : PCall P 11 [] (fun x => x = bool true) := by
  refine q0r tyOk Tryz.func11 rfl rfl ?_
  intro K hK
  simp only [Tryz.ntmps11, List.length_nil, Nat.reduceSub, List.replicate, List.nil_append]
  try simp (maxSteps := 1000000) only [seval]
  (refine q07 law_Small rfl ?_; rintro _ rfl)
  try simp (maxSteps := 1000000) only [seval]
  have h0 : WOk 3 0 (fresh sm) := wok_fresh rfl (by decide) (by decide) (by decide)
  refine q30 ((model_New sm 3 rfl (by decide) (by decide) (by rfl)).mono ?_)
  rintro _ _ ⟨rfl, pad, rfl⟩
  try simp (maxSteps := 1000000) only [seval, mm_0, mm_1, mm_2, mm_0n, mm_1n, mm_2n, q0d, q0b, q0e, q0f, q0i, mm_s0, mm_s1, mm_s2, mm_s3, q0a, q06, q08, q09, q0j, q04, q02, q05, q03, Nat.add_assoc, AB.calm, kpX, kpM, ml_z, ml_1, ml_l, ml_r, ml_b, ml_le, ml_0, ml_0k, Nat.one_ne_zero, List.all_cons, List.all_nil]
  rw [← List.append_nil (modM 3 pad (fresh sm))]
  refine q2i (kp := kpX 3) (fun b hb => absurd hb (Nat.not_lt_zero b)) ((Do_nil h0 (by decide) 1 opW (by constructor <;> first | decide | simp [opW]) rfl [] rfl).mono ?_)
  rintro _ _ ⟨rfl, rfl⟩
  have h1 := wok_do h0 (by decide) 1 opW
  rw [awake1] at h1 ⊢
  try simp (maxSteps := 1000000) only [seval, mm_0, mm_1, mm_2, mm_0n, mm_1n, mm_2n, q0d, q0b, q0e, q0f, q0i, mm_s0, mm_s1, mm_s2, mm_s3, q0a, q06, q08, q09, q0j, q04, q02, q05, q03, Nat.add_assoc, AB.calm, kpX, kpM, ml_z, ml_1, ml_l, ml_r, ml_b, ml_le, ml_0, ml_0k, Nat.one_ne_zero, List.all_cons, List.all_nil]
  refine q2i (kp := kpX 3) (fun b hb => absurd hb (Nat.not_lt_zero b)) ((Do_nil h1 (by decide) 0 opS (by constructor <;> first | decide | simp [opS]) rfl [] rfl).mono ?_)
  rintro _ _ ⟨rfl, rfl⟩
  have h2 := wok_do h1 (by decide) 0 opS
  rw [awake2] at h2 ⊢
  try simp (maxSteps := 1000000) only [seval, mm_0, mm_1, mm_2, mm_0n, mm_1n, mm_2n, q0d, q0b, q0e, q0f, q0i, mm_s0, mm_s1, mm_s2, mm_s3, q0a, q06, q08, q09, q0j, q04, q02, q05, q03, Nat.add_assoc, AB.calm, kpX, kpM, ml_z, ml_1, ml_l, ml_r, ml_b, ml_le, ml_0, ml_0k, Nat.one_ne_zero, List.all_cons, List.all_nil]
  refine q2i (kp := kpX 3) (fun b hb => absurd hb (Nat.not_lt_zero b)) ((Do_nil h2 (by decide) 1 opP (by constructor <;> first | decide | simp [opP]) rfl [] rfl).mono ?_)
  rintro _ _ ⟨rfl, rfl⟩
  rw [awake3, List.append_nil]
  try simp (maxSteps := 1000000) only [seval, mm_0, mm_1, mm_2, mm_0n, mm_1n, mm_2n, q0d, q0b, q0e, q0f, q0i, mm_s0, mm_s1, mm_s2, mm_s3, q0a, q06, q08, q09, q0j, q04, q02, q05, q03, Nat.add_assoc, AB.calm, kpX, kpM, ml_z, ml_1, ml_l, ml_r, ml_b, ml_le, ml_0, ml_0k, Nat.one_ne_zero, List.all_cons, List.all_nil, Rp.av, slO, Option.map, annV, Int.natCast_one, Int.toNat_zero, Nat.zero_lt_one, Nat.zero_lt_succ]
  apply hK
  simp only [Tryz.results11, retK, ares, Bool.and_true, Bool.true_and, AV.ofResults, St.trunc, q00, q01, List.getD_cons_zero, List.take_zero, List.map_nil, true_and, and_true, List.cons.injEq, exists_eq_left']
end Go.Proofs.YtdkcpcflfnakdaaGreat
namespace Go.Proofs.YtdkcpcflfnakdaaGreat
open Go Go.Proofs.YtdkcpcflfnakdaaGreat.Sym
attribute [-sevalprocAttr] Int.reduceToNat Int.reduceNatCast Int.reduceNatCast' Nat.reduceSubDiff
set_option maxRecDepth 100000
set_option maxHeartbeats 1000000
set_option maxHeartbeats 2000000
set_option linter.unusedSimpArgs false
set_option linter.unusedVariables false

def longU (us : List ByteArray) : Bool := us.any fun u => decide (40 < u.size)
def shortO (o : Opb) : Bool := !decide (40 < o.u.size) && (!decide (20 < o.us.length) && !longU o.us)
theorem longU_next {us : List ByteArray} {i : Nat} (h : i < us.length) : longU (us.take (i + 1)) = (longU (us.take i) || decide (40 < us[i].size)) := by
  rw [q23 h, longU, List.any_append]; simp [longU]
theorem short_ok {o : Opb} (h : shortO o = true) : OpOk o := by
  unfold shortO longU at h
  simp only [Bool.and_eq_true, Bool.not_eq_true', decide_eq_false_iff_not, List.any_eq_false, decide_eq_true_eq] at h
  obtain ⟨h1, h2, h3⟩ := h
  exact ⟨by omega, by omega, fun u hu => by have := h3 u hu; omega⟩
theorem law_Short (o : Opb) (hu : o.us.length ≤ maxLen) : PCall P 12 [o.av] (fun x => x = bool (shortO o)) := by
  have hu' : o.us.length ≤ 9223372036854775807 := hu
  refine q0r tyOk Tryz.func12 rfl rfl ?_
  intro K hK
  simp only [Tryz.ntmps12, List.length_cons, List.length_nil, Nat.reduceAdd, Nat.reduceSub, List.replicate, List.cons_append, List.nil_append]
  unfold shortO at hK
  by_cases h1 : 40 < o.u.size
  · have c1 : decide ((40 : Int) < (o.u.size : Int)) = true := decide_eq_true (by omega)
    have c1' : decide ((o.u.size : Int) > (40 : Int)) = true := decide_eq_true (by omega)
    rw [decide_eq_true h1] at hK
    try simp (maxSteps := 1000000) only [seval, Opb.av, c1, c1']
    apply hK
    simp only [Tryz.results12, retK, ares, Bool.and_true, Bool.true_and, AV.ofResults, St.trunc, q00, q01, List.getD_cons_zero, List.getD_cons_succ, List.take_zero, List.map_nil, true_and, and_true, List.cons.injEq, exists_eq_left']
    try rfl
  · have c1 : decide ((40 : Int) < (o.u.size : Int)) = false := decide_eq_false (by omega)
    have c1' : decide ((o.u.size : Int) > (40 : Int)) = false := decide_eq_false (by omega)
    rw [decide_eq_false h1] at hK
    by_cases h2 : 20 < o.us.length
    · have c2 : decide ((20 : Int) < (o.us.length : Int)) = true := decide_eq_true (by omega)
      have c2' : decide ((o.us.length : Int) > (20 : Int)) = true := decide_eq_true (by omega)
      rw [decide_eq_true h2] at hK
      try simp (maxSteps := 1000000) only [seval, Opb.av, c1, c1', c2, c2', List.length_map]
      apply hK
      simp only [Tryz.results12, retK, ares, Bool.and_true, Bool.true_and, AV.ofResults, St.trunc, q00, q01, List.getD_cons_zero, List.getD_cons_succ, List.take_zero, List.map_nil, true_and, and_true, List.cons.injEq, exists_eq_left']
      try rfl
    · have c2 : decide ((20 : Int) < (o.us.length : Int)) = false := decide_eq_false (by omega)
      have c2' : decide ((o.us.length : Int) > (20 : Int)) = false := decide_eq_false (by omega)
      rw [decide_eq_false h2] at hK
      try simp (maxSteps := 1000000) only [seval, Opb.av, c1, c1', c2, c2', List.length_map]
      refine q1h tyOk (α := Nat) 1 [1, 3] (fun i => i ≤ o.us.length ∧ longU (o.us.take i) = false)
        (fun i => ⟨[.any, .ptr 0 0, .any, i64 i, .any, .any, .any, .any, .any, .any, .any, .any, .any, .any, .any, .any, .any, .any, .any, .any, .any, .any, .any, .any, .any, .any, .any, .any], [.box [i64 o.kind, str o.u, i64 o.id, i64 o.st, i64 o.pr, u64 o.ttl, .sl 1 (o.us.map fun x => str x)]]⟩)
        (fun i => o.us.length - i) 0 (Nat.zero_le _) ⟨Nat.zero_le _, rfl⟩ rfl ?_
      rintro i ⟨hi, hl⟩
      try simp (maxSteps := 1000000) only [seval, List.length_map]
      (first | refine q0g ?_ ?_ | refine q0k ?_ ?_ | refine q0l ?_ ?_ | refine q0m ?_ ?_ | refine q0h ?_ ?_) <;> intro hc
      · have hlt : i < o.us.length := by simpa using hc
        have c1 : (0 : Int) ≤ (i : Int) ∧ Int.toNat (i : Int) < o.us.length := by omega
        have eg : (o.us.map fun x => str x).getD (Int.toNat (i : Int)) .any = str o.us[i] := by
          simp [List.getD_eq_getElem?_getD, hlt]
        have ew : IntKind.i64.wrap ((i : Int) + 1) = ((i + 1 : Nat) : Int) := by rw [wrap_i64 (by omega) (by omega)]; rfl
        have hn := longU_next hlt
        by_cases h3 : 40 < o.us[i].size
        · have c3 : decide ((40 : Int) < (o.us[i].size : Int)) = true := decide_eq_true (by omega)
          have c3' : decide ((o.us[i].size : Int) > (40 : Int)) = true := decide_eq_true (by omega)
          have he : longU o.us = true := List.any_eq_true.2 ⟨_, List.getElem_mem hlt, decide_eq_true h3⟩
          rw [he] at hK
          try simp (maxSteps := 1000000) only [seval, c1, eg, List.length_map, c3, c3']
          apply hK
          simp only [Tryz.results12, retK, ares, Bool.and_true, Bool.true_and, AV.ofResults, St.trunc, q00, q01, List.getD_cons_zero, List.getD_cons_succ, List.take_zero, List.map_nil, true_and, and_true, List.cons.injEq, exists_eq_left']
          try rfl
        · have c3 : decide ((40 : Int) < (o.us[i].size : Int)) = false := decide_eq_false (by omega)
          have c3' : decide ((o.us[i].size : Int) > (40 : Int)) = false := decide_eq_false (by omega)
          try simp (maxSteps := 1000000) only [seval, c1, eg, List.length_map, c3, c3', ew]
          simp only [q0p, St.trunc, St.keep, q00, q01, AB.trunc, keepV, List.elem_cons, List.elem_nil, List.take_succ_cons, List.take_zero, List.map_cons, List.map_nil, Nat.reduceAdd, Nat.reduceBEq, Nat.reduceLeDiff, Nat.zero_add, Bool.false_eq_true, ↓reduceIte]
          exact ⟨i + 1, ⟨hlt, by rw [hn, hl, decide_eq_false h3]; rfl⟩, by omega, by first | rfl | simp⟩
      · have hge : i = o.us.length := by have : ¬ ((i : Int) < (o.us.length : Int)) := by simpa using hc
                                         omega
        subst hge
        rw [List.take_length] at hl
        rw [hl] at hK
        try simp (maxSteps := 1000000) only [seval, List.length_map]
        apply hK
        simp only [Tryz.results12, retK, ares, Bool.and_self, Bool.and_true, Bool.true_and, AV.ofResults, St.trunc, q00, q01, List.getD_cons_zero, List.getD_cons_succ, List.take_zero, List.map_nil, true_and, and_true, List.cons.injEq, exists_eq_left']
        try rfl
theorem ref_name (u : ByteArray) : PCall P 37 [str u] (fun x => x = bool (nameB u)) := by
  have hn := nameB_iff u
  refine q0r tyOk Tryz.func37 rfl rfl ?_
  intro K hK
  simp only [Tryz.ntmps37, List.length_cons, List.length_nil, Nat.reduceAdd, Nat.reduceSub, List.replicate, List.cons_append, List.nil_append]
  by_cases h1 : u.size = 0
  · have c1 : decide ((0 : Int) < (u.size : Int)) = false := decide_eq_false (by omega)
    have c1' : decide ((u.size : Int) > (0 : Int)) = false := decide_eq_false (by omega)
    have hb : nameB u = false := by cases h : nameB u with | false => rfl | true => exact absurd h1 (hn.1 h).1
    rw [hb] at hK
    try simp (maxSteps := 1000000) only [seval, c1, c1']
    apply hK
    simp only [Tryz.results37, retK, ares, List.take_nil, Bool.and_true, Bool.true_and, AV.ofResults, St.trunc, q00, q01, List.getD_cons_zero, List.getD_cons_succ, List.map_nil, true_and, and_true, List.cons.injEq, exists_eq_left']
    try rfl
  · have c1 : decide ((0 : Int) < (u.size : Int)) = true := decide_eq_true (by omega)
    have c1' : decide ((u.size : Int) > (0 : Int)) = true := decide_eq_true (by omega)
    have hb : nameB u = decide ((u.size : Int) < 17) := by
      by_cases h2 : u.size ≤ 16
      · rw [hn.2 ⟨h1, h2⟩, decide_eq_true (by omega)]
      · rw [decide_eq_false (by omega)]
        cases h : nameB u with | false => rfl | true => exact absurd (hn.1 h).2 h2
    rw [hb] at hK
    try simp (maxSteps := 1000000) only [seval, c1, c1']
    apply hK
    simp only [Tryz.results37, retK, ares, List.take_nil, Bool.and_true, Bool.true_and, AV.ofResults, St.trunc, q00, q01, List.getD_cons_zero, List.getD_cons_succ, List.map_nil, true_and, and_true, List.cons.injEq, exists_eq_left']
    try rfl
theorem ref_Bad (o : Opb) (hu : o.us.length ≤ 1000) : PCall P 15 [o.av] (fun x => x = bool (badO o)) := by
  have hN := ref_name o.u
  have hlt (a b : Int) : decide (a > b) = decide (b < a) := rfl
  have hge (a b : Int) : decide (a ≥ b) = decide (b ≤ a) := rfl
  have e256 : decide (o.id < 256) = decide (o.id ≤ 255) := by congr 1; exact propext ⟨fun h => by omega, fun h => by omega⟩
  have e10 (a : Int) : decide (a < 10) = decide (a ≤ 9) := by congr 1; exact propext ⟨fun h => by omega, fun h => by omega⟩
  have e0 (a : Int) : decide (0 < a) = decide (1 ≤ a) := by congr 1
  refine q0r tyOk Tryz.func15 rfl rfl ?_
  intro K hK
  simp only [Tryz.ntmps15, List.length_cons, List.length_nil, Nat.reduceAdd, Nat.reduceSub, List.replicate, List.cons_append, List.nil_append]
  unfold badO inB at hK
  obtain ⟨b0, e1⟩ : ∃ b, decide (0 ≤ o.id) = b := ⟨_, rfl⟩
  obtain ⟨b1, e2⟩ : ∃ b, decide (o.id ≤ 255) = b := ⟨_, rfl⟩
  obtain ⟨b2, e3⟩ : ∃ b, decide (1 ≤ o.st) = b := ⟨_, rfl⟩
  obtain ⟨b3, e4⟩ : ∃ b, decide (o.st ≤ 9) = b := ⟨_, rfl⟩
  obtain ⟨b4, e5⟩ : ∃ b, decide (0 ≤ o.pr) = b := ⟨_, rfl⟩
  obtain ⟨b5, e6⟩ : ∃ b, decide (o.pr ≤ 9) = b := ⟨_, rfl⟩
  rw [e1, e2, e3, e4, e5, e6] at hK
  try simp (maxSteps := 1000000) only [seval, Opb.av, hge, e256, e1, e2]
  cases b0
  · obtain ⟨tt, htt⟩ : ∃ t, false = t := ⟨_, rfl⟩
    try simp (maxSteps := 1000000) only [seval, e256, e2]
    cases h1 : (o.kind == 1)
    · rw [h1, if_neg (by decide)] at hK
      try simp (maxSteps := 1000000) only [seval]
      cases h2 : (o.kind == 2)
      · cases h3 : (o.kind == 3)
        · rw [h2, h3, if_neg (by decide)] at hK
          try simp (maxSteps := 1000000) only [seval, h3]
          cases h4 : (o.kind == 4)
          · try simp (maxSteps := 1000000) only [seval]
            cases h6 : (o.kind == 6)
            · try simp (maxSteps := 1000000) only [seval]
              cases h7 : (o.kind == 7)
              · rw [h4, h6, h7, if_neg (by decide)] at hK
                try simp (maxSteps := 1000000) only [seval, h7]
                cases h5 : (o.kind == 5)
                · rw [h5, if_neg (by decide)] at hK
                  try simp (maxSteps := 1000000) only [seval, bne]
                  cases h8 : (o.kind == 8)
                  · rw [h8] at hK
                    try simp (maxSteps := 1000000) only [seval, h8, bne]
                    apply hK
                    simp only [Tryz.results15, retK, ares, Bool.and_true, Bool.true_and, AV.ofResults, St.trunc, q00, q01, List.getD_cons_zero, List.getD_cons_succ, List.take_zero, List.map_nil, true_and, and_true, List.cons.injEq, exists_eq_left']
                    try rfl
                  · rw [h8] at hK
                    try simp (maxSteps := 1000000) only [seval, h8, bne]
                    apply hK
                    simp only [Tryz.results15, retK, ares, Bool.and_true, Bool.true_and, AV.ofResults, St.trunc, q00, q01, List.getD_cons_zero, List.getD_cons_succ, List.take_zero, List.map_nil, true_and, and_true, List.cons.injEq, exists_eq_left']
                    try rfl
                · rw [h5, if_pos rfl] at hK
                  try simp (maxSteps := 1000000) only [seval, List.length_map]
                  have el : decide ((o.us.length : Int) < 1) = !decide ((1 : Int) ≤ o.us.length) := by
                    by_cases h : (1 : Int) ≤ o.us.length
                    · rw [decide_eq_true h, decide_eq_false (by omega)]; rfl
                    · rw [decide_eq_false h, decide_eq_true (by omega)]; rfl
                  have el8 : decide ((8 : Int) < (o.us.length : Int)) = !decide ((o.us.length : Int) ≤ 8) := by
                    by_cases h : (o.us.length : Int) ≤ 8
                    · rw [decide_eq_true h, decide_eq_false (by omega)]; rfl
                    · rw [decide_eq_false h, decide_eq_true (by omega)]; rfl
                  have el8' : decide ((o.us.length : Int) > (8 : Int)) = !decide ((o.us.length : Int) ≤ 8) := el8
                  rw [el]
                  obtain ⟨d1, hd1⟩ : ∃ b, decide ((1 : Int) ≤ o.us.length) = b := ⟨_, rfl⟩
                  obtain ⟨d8, hd8⟩ : ∃ b, decide ((o.us.length : Int) ≤ 8) = b := ⟨_, rfl⟩
                  rw [hd1]
                  rw [hd1, hd8] at hK
                  rw [hd8] at el8 el8'
                  obtain ⟨bl, hbl⟩ : ∃ b, (!d1 || !d8) = b := ⟨_, rfl⟩
                  have hlen : bl = !(d1 && d8) := by rw [← hbl]; cases d1 <;> rfl
                  cases d1
                  · try simp (maxSteps := 1000000) only [seval, List.length_map]
                    refine q1h tyOk (α := Nat) 1 [1, 3, 4, 5] (fun i => i ≤ o.us.length)
                      (fun i => ⟨[.any, .ptr 0 0, .any, bool tt, bool (bl || badN (o.us.take i)), i64 i, .any, .any, .any, .any, .any, .any, .any, .any, .any, .any, .any, .any, .any, .any, .any, .any, .any, .any, .any, .any, .any, .any, .any, .any, .any, .any, .any, .any, .any, .any, .any, .any, .any, .any, .any, .any, .any, .any, .any, .any, .any, .any, .any, .any, .any, .any, .any, .any, .any, .any, .any, .any, .any, .any, .any, .any, .any, .any, .any, .any, .any, .any, .any, .any, .any, .any, .any, .any, .any, .any, .any, .any, .any, .any, .any, .any, .any, .any, .any, .any, .any, .any, .any, .any, .any, .any, .any, .any, .any, .any, .any, .any, .any, .any, .any, .any, .any, .any, .any, .any, .any, .any, .any, .any, .any, .any, .any, .any, .any], [.box [i64 o.kind, str o.u, i64 o.id, i64 o.st, i64 o.pr, u64 o.ttl, .sl 1 (o.us.map fun x => str x)]]⟩)
                      (fun i => o.us.length - i) 0 (Nat.zero_le _) (Nat.zero_le _) (by rw [List.take_zero, show badN [] = false from rfl, Bool.or_false]; subst hbl; subst htt; rfl) ?_
                    intro i hi
                    try simp (maxSteps := 1000000) only [seval, List.length_map]
                    (first | refine q0g ?_ ?_ | refine q0k ?_ ?_ | refine q0l ?_ ?_ | refine q0m ?_ ?_ | refine q0h ?_ ?_) <;> intro hc
                    · have hlt : i < o.us.length := by simpa using hc
                      have c1 : (0 : Int) ≤ (i : Int) ∧ Int.toNat (i : Int) < o.us.length := by omega
                      have eg : (o.us.map fun x => str x).getD (Int.toNat (i : Int)) .any = str o.us[i] := by
                        simp [List.getD_eq_getElem?_getD, hlt]
                      have ew : IntKind.i64.wrap ((i : Int) + 1) = ((i + 1 : Nat) : Int) := by rw [wrap_i64 (by omega) (by omega)]; rfl
                      have hn := bad_next hlt
                      obtain ⟨bb, hbb⟩ : ∃ b, (bl || badN (o.us.take i)) = b := ⟨_, rfl⟩
                      rw [hbb]
                      cases bb
                      · try simp (maxSteps := 1000000) only [seval, c1, eg, List.length_map]
                        (refine q07 (ref_name o.us[i]) rfl ?_; rintro _ rfl)
                        try simp (maxSteps := 1000000) only [seval, ew]
                        simp only [q0p, St.trunc, St.keep, q00, q01, AB.trunc, keepV, List.elem_cons, List.elem_nil, List.take_succ_cons, List.take_zero, List.map_cons, List.map_nil, Nat.reduceAdd, Nat.reduceBEq, Nat.reduceLeDiff, Nat.zero_add, Bool.false_eq_true, ↓reduceIte]
                        exact ⟨i + 1, hlt, by omega, by rw [hn, ← Bool.or_assoc, hbb, Bool.false_or] <;> rfl⟩
                      · try simp (maxSteps := 1000000) only [seval, ew]
                        simp only [q0p, St.trunc, St.keep, q00, q01, AB.trunc, keepV, List.elem_cons, List.elem_nil, List.take_succ_cons, List.take_zero, List.map_cons, List.map_nil, Nat.reduceAdd, Nat.reduceBEq, Nat.reduceLeDiff, Nat.zero_add, Bool.false_eq_true, ↓reduceIte]
                        exact ⟨i + 1, hlt, by omega, by rw [hn, ← Bool.or_assoc, hbb, Bool.true_or] <;> rfl⟩
                    · have hge : i = o.us.length := by have : ¬ ((i : Int) < (o.us.length : Int)) := by simpa using hc
                                                       omega
                      subst hge
                      rw [List.take_length]
                      try simp (maxSteps := 1000000) only [seval]
                      apply hK
                      simp only [Tryz.results15, retK, ares, Bool.and_true, Bool.true_and, AV.ofResults, St.trunc, q00, q01, List.getD_cons_zero, List.getD_cons_succ, List.take_zero, List.map_nil, true_and, and_true, List.cons.injEq, exists_eq_left']
                      rw [Bool.or_comm, hlen]
                      try rfl
                  · try simp (maxSteps := 1000000) only [seval, List.length_map, el8, el8']
                    refine q1h tyOk (α := Nat) 1 [1, 3, 4, 5] (fun i => i ≤ o.us.length)
                      (fun i => ⟨[.any, .ptr 0 0, .any, bool tt, bool (bl || badN (o.us.take i)), i64 i, .any, .any, .any, .any, .any, .any, .any, .any, .any, .any, .any, .any, .any, .any, .any, .any, .any, .any, .any, .any, .any, .any, .any, .any, .any, .any, .any, .any, .any, .any, .any, .any, .any, .any, .any, .any, .any, .any, .any, .any, .any, .any, .any, .any, .any, .any, .any, .any, .any, .any, .any, .any, .any, .any, .any, .any, .any, .any, .any, .any, .any, .any, .any, .any, .any, .any, .any, .any, .any, .any, .any, .any, .any, .any, .any, .any, .any, .any, .any, .any, .any, .any, .any, .any, .any, .any, .any, .any, .any, .any, .any, .any, .any, .any, .any, .any, .any, .any, .any, .any, .any, .any, .any, .any, .any, .any, .any, .any, .any], [.box [i64 o.kind, str o.u, i64 o.id, i64 o.st, i64 o.pr, u64 o.ttl, .sl 1 (o.us.map fun x => str x)]]⟩)
                      (fun i => o.us.length - i) 0 (Nat.zero_le _) (Nat.zero_le _) (by rw [List.take_zero, show badN [] = false from rfl, Bool.or_false]; subst hbl; subst htt; rfl) ?_
                    intro i hi
                    try simp (maxSteps := 1000000) only [seval, List.length_map]
                    (first | refine q0g ?_ ?_ | refine q0k ?_ ?_ | refine q0l ?_ ?_ | refine q0m ?_ ?_ | refine q0h ?_ ?_) <;> intro hc
                    · have hlt : i < o.us.length := by simpa using hc
                      have c1 : (0 : Int) ≤ (i : Int) ∧ Int.toNat (i : Int) < o.us.length := by omega
                      have eg : (o.us.map fun x => str x).getD (Int.toNat (i : Int)) .any = str o.us[i] := by
                        simp [List.getD_eq_getElem?_getD, hlt]
                      have ew : IntKind.i64.wrap ((i : Int) + 1) = ((i + 1 : Nat) : Int) := by rw [wrap_i64 (by omega) (by omega)]; rfl
                      have hn := bad_next hlt
                      obtain ⟨bb, hbb⟩ : ∃ b, (bl || badN (o.us.take i)) = b := ⟨_, rfl⟩
                      rw [hbb]
                      cases bb
                      · try simp (maxSteps := 1000000) only [seval, c1, eg, List.length_map]
                        (refine q07 (ref_name o.us[i]) rfl ?_; rintro _ rfl)
                        try simp (maxSteps := 1000000) only [seval, ew]
                        simp only [q0p, St.trunc, St.keep, q00, q01, AB.trunc, keepV, List.elem_cons, List.elem_nil, List.take_succ_cons, List.take_zero, List.map_cons, List.map_nil, Nat.reduceAdd, Nat.reduceBEq, Nat.reduceLeDiff, Nat.zero_add, Bool.false_eq_true, ↓reduceIte]
                        exact ⟨i + 1, hlt, by omega, by rw [hn, ← Bool.or_assoc, hbb, Bool.false_or] <;> rfl⟩
                      · try simp (maxSteps := 1000000) only [seval, ew]
                        simp only [q0p, St.trunc, St.keep, q00, q01, AB.trunc, keepV, List.elem_cons, List.elem_nil, List.take_succ_cons, List.take_zero, List.map_cons, List.map_nil, Nat.reduceAdd, Nat.reduceBEq, Nat.reduceLeDiff, Nat.zero_add, Bool.false_eq_true, ↓reduceIte]
                        exact ⟨i + 1, hlt, by omega, by rw [hn, ← Bool.or_assoc, hbb, Bool.true_or] <;> rfl⟩
                    · have hge : i = o.us.length := by have : ¬ ((i : Int) < (o.us.length : Int)) := by simpa using hc
                                                       omega
                      subst hge
                      rw [List.take_length]
                      try simp (maxSteps := 1000000) only [seval]
                      apply hK
                      simp only [Tryz.results15, retK, ares, Bool.and_true, Bool.true_and, AV.ofResults, St.trunc, q00, q01, List.getD_cons_zero, List.getD_cons_succ, List.take_zero, List.map_nil, true_and, and_true, List.cons.injEq, exists_eq_left']
                      rw [Bool.or_comm, hlen]
                      try rfl
              · rw [h4, h6, h7, if_pos (by rfl)] at hK
                try simp (maxSteps := 1000000) only [seval, h7]
                (refine q07 hN rfl ?_; rintro _ rfl)
                try simp (maxSteps := 1000000) only [seval]
                apply hK
                simp only [Tryz.results15, retK, ares, Bool.and_true, Bool.true_and, AV.ofResults, St.trunc, q00, q01, List.getD_cons_zero, List.getD_cons_succ, List.take_zero, List.map_nil, true_and, and_true, List.cons.injEq, exists_eq_left']
                try rfl
            · rw [h4, h6, if_pos (by rfl)] at hK
              try simp (maxSteps := 1000000) only [seval, h6]
              (refine q07 hN rfl ?_; rintro _ rfl)
              try simp (maxSteps := 1000000) only [seval]
              apply hK
              simp only [Tryz.results15, retK, ares, Bool.and_true, Bool.true_and, AV.ofResults, St.trunc, q00, q01, List.getD_cons_zero, List.getD_cons_succ, List.take_zero, List.map_nil, true_and, and_true, List.cons.injEq, exists_eq_left']
              try rfl
          · rw [h4, if_pos (by rfl)] at hK
            try simp (maxSteps := 1000000) only [seval]
            (refine q07 hN rfl ?_; rintro _ rfl)
            try simp (maxSteps := 1000000) only [seval]
            apply hK
            simp only [Tryz.results15, retK, ares, Bool.and_true, Bool.true_and, AV.ofResults, St.trunc, q00, q01, List.getD_cons_zero, List.getD_cons_succ, List.take_zero, List.map_nil, true_and, and_true, List.cons.injEq, exists_eq_left']
            try rfl
        · rw [h2, h3, if_pos (by rfl)] at hK
          try simp (maxSteps := 1000000) only [seval, h3]
          (refine q07 hN rfl ?_; rintro _ rfl)
          try simp (maxSteps := 1000000) only [seval]
          cases hb : nameB o.u
          · rw [hb] at hK
            try simp (maxSteps := 1000000) only [seval]
            apply hK
            simp only [Tryz.results15, retK, ares, Bool.and_true, Bool.true_and, AV.ofResults, St.trunc, q00, q01, List.getD_cons_zero, List.getD_cons_succ, List.take_zero, List.map_nil, true_and, and_true, List.cons.injEq, exists_eq_left']
            try rfl
          · rw [hb] at hK
            try simp (maxSteps := 1000000) only [seval]
            apply hK
            simp only [Tryz.results15, retK, ares, Bool.and_true, Bool.true_and, AV.ofResults, St.trunc, q00, q01, List.getD_cons_zero, List.getD_cons_succ, List.take_zero, List.map_nil, true_and, and_true, List.cons.injEq, exists_eq_left']
            try rfl
      · rw [h2, if_pos (by rfl)] at hK
        try simp (maxSteps := 1000000) only [seval]
        (refine q07 hN rfl ?_; rintro _ rfl)
        try simp (maxSteps := 1000000) only [seval]
        cases hb : nameB o.u
        · rw [hb] at hK
          try simp (maxSteps := 1000000) only [seval]
          apply hK
          simp only [Tryz.results15, retK, ares, Bool.and_true, Bool.true_and, AV.ofResults, St.trunc, q00, q01, List.getD_cons_zero, List.getD_cons_succ, List.take_zero, List.map_nil, true_and, and_true, List.cons.injEq, exists_eq_left']
          try rfl
        · rw [hb] at hK
          try simp (maxSteps := 1000000) only [seval]
          apply hK
          simp only [Tryz.results15, retK, ares, Bool.and_true, Bool.true_and, AV.ofResults, St.trunc, q00, q01, List.getD_cons_zero, List.getD_cons_succ, List.take_zero, List.map_nil, true_and, and_true, List.cons.injEq, exists_eq_left']
          try rfl
    · rw [h1, if_pos rfl] at hK
      try simp (maxSteps := 1000000) only [seval]
      (refine q07 hN rfl ?_; rintro _ rfl)
      try simp (maxSteps := 1000000) only [seval]
      cases hb : nameB o.u
      · rw [hb] at hK
        try simp (maxSteps := 1000000) only [seval]
        apply hK
        simp only [Tryz.results15, retK, ares, Bool.and_true, Bool.true_and, AV.ofResults, St.trunc, q00, q01, List.getD_cons_zero, List.getD_cons_succ, List.take_zero, List.map_nil, true_and, and_true, List.cons.injEq, exists_eq_left']
        try rfl
      · rw [hb] at hK
        try simp (maxSteps := 1000000) only [seval, hlt, hge, e10, e0, e3, e4, e5, e6]
        apply hK
        simp only [Tryz.results15, retK, ares, Bool.and_true, Bool.true_and, AV.ofResults, St.trunc, q00, q01, List.getD_cons_zero, List.getD_cons_succ, List.take_zero, List.map_nil, true_and, and_true, List.cons.injEq, exists_eq_left']
        try rfl
  · obtain ⟨tt, htt⟩ : ∃ t, b1 = t := ⟨_, rfl⟩
    try simp (maxSteps := 1000000) only [seval, e256, e2]
    cases h1 : (o.kind == 1)
    · rw [h1, if_neg (by decide)] at hK
      try simp (maxSteps := 1000000) only [seval]
      cases h2 : (o.kind == 2)
      · cases h3 : (o.kind == 3)
        · rw [h2, h3, if_neg (by decide)] at hK
          try simp (maxSteps := 1000000) only [seval, h3]
          cases h4 : (o.kind == 4)
          · try simp (maxSteps := 1000000) only [seval]
            cases h6 : (o.kind == 6)
            · try simp (maxSteps := 1000000) only [seval]
              cases h7 : (o.kind == 7)
              · rw [h4, h6, h7, if_neg (by decide)] at hK
                try simp (maxSteps := 1000000) only [seval, h7]
                cases h5 : (o.kind == 5)
                · rw [h5, if_neg (by decide)] at hK
                  try simp (maxSteps := 1000000) only [seval, bne]
                  cases h8 : (o.kind == 8)
                  · rw [h8] at hK
                    try simp (maxSteps := 1000000) only [seval, h8, bne]
                    apply hK
                    simp only [Tryz.results15, retK, ares, Bool.and_true, Bool.true_and, AV.ofResults, St.trunc, q00, q01, List.getD_cons_zero, List.getD_cons_succ, List.take_zero, List.map_nil, true_and, and_true, List.cons.injEq, exists_eq_left']
                    try rfl
                  · rw [h8] at hK
                    try simp (maxSteps := 1000000) only [seval, h8, bne]
                    apply hK
                    simp only [Tryz.results15, retK, ares, Bool.and_true, Bool.true_and, AV.ofResults, St.trunc, q00, q01, List.getD_cons_zero, List.getD_cons_succ, List.take_zero, List.map_nil, true_and, and_true, List.cons.injEq, exists_eq_left']
                    try rfl
                · rw [h5, if_pos rfl] at hK
                  try simp (maxSteps := 1000000) only [seval, List.length_map]
                  have el : decide ((o.us.length : Int) < 1) = !decide ((1 : Int) ≤ o.us.length) := by
                    by_cases h : (1 : Int) ≤ o.us.length
                    · rw [decide_eq_true h, decide_eq_false (by omega)]; rfl
                    · rw [decide_eq_false h, decide_eq_true (by omega)]; rfl
                  have el8 : decide ((8 : Int) < (o.us.length : Int)) = !decide ((o.us.length : Int) ≤ 8) := by
                    by_cases h : (o.us.length : Int) ≤ 8
                    · rw [decide_eq_true h, decide_eq_false (by omega)]; rfl
                    · rw [decide_eq_false h, decide_eq_true (by omega)]; rfl
                  have el8' : decide ((o.us.length : Int) > (8 : Int)) = !decide ((o.us.length : Int) ≤ 8) := el8
                  rw [el]
                  obtain ⟨d1, hd1⟩ : ∃ b, decide ((1 : Int) ≤ o.us.length) = b := ⟨_, rfl⟩
                  obtain ⟨d8, hd8⟩ : ∃ b, decide ((o.us.length : Int) ≤ 8) = b := ⟨_, rfl⟩
                  rw [hd1]
                  rw [hd1, hd8] at hK
                  rw [hd8] at el8 el8'
                  obtain ⟨bl, hbl⟩ : ∃ b, (!d1 || !d8) = b := ⟨_, rfl⟩
                  have hlen : bl = !(d1 && d8) := by rw [← hbl]; cases d1 <;> rfl
                  cases d1
                  · try simp (maxSteps := 1000000) only [seval, List.length_map]
                    refine q1h tyOk (α := Nat) 1 [1, 3, 4, 5] (fun i => i ≤ o.us.length)
                      (fun i => ⟨[.any, .ptr 0 0, .any, bool tt, bool (bl || badN (o.us.take i)), i64 i, .any, .any, .any, .any, .any, .any, .any, .any, .any, .any, .any, .any, .any, .any, .any, .any, .any, .any, .any, .any, .any, .any, .any, .any, .any, .any, .any, .any, .any, .any, .any, .any, .any, .any, .any, .any, .any, .any, .any, .any, .any, .any, .any, .any, .any, .any, .any, .any, .any, .any, .any, .any, .any, .any, .any, .any, .any, .any, .any, .any, .any, .any, .any, .any, .any, .any, .any, .any, .any, .any, .any, .any, .any, .any, .any, .any, .any, .any, .any, .any, .any, .any, .any, .any, .any, .any, .any, .any, .any, .any, .any, .any, .any, .any, .any, .any, .any, .any, .any, .any, .any, .any, .any, .any, .any, .any, .any, .any, .any], [.box [i64 o.kind, str o.u, i64 o.id, i64 o.st, i64 o.pr, u64 o.ttl, .sl 1 (o.us.map fun x => str x)]]⟩)
                      (fun i => o.us.length - i) 0 (Nat.zero_le _) (Nat.zero_le _) (by rw [List.take_zero, show badN [] = false from rfl, Bool.or_false]; subst hbl; subst htt; rfl) ?_
                    intro i hi
                    try simp (maxSteps := 1000000) only [seval, List.length_map]
                    (first | refine q0g ?_ ?_ | refine q0k ?_ ?_ | refine q0l ?_ ?_ | refine q0m ?_ ?_ | refine q0h ?_ ?_) <;> intro hc
                    · have hlt : i < o.us.length := by simpa using hc
                      have c1 : (0 : Int) ≤ (i : Int) ∧ Int.toNat (i : Int) < o.us.length := by omega
                      have eg : (o.us.map fun x => str x).getD (Int.toNat (i : Int)) .any = str o.us[i] := by
                        simp [List.getD_eq_getElem?_getD, hlt]
                      have ew : IntKind.i64.wrap ((i : Int) + 1) = ((i + 1 : Nat) : Int) := by rw [wrap_i64 (by omega) (by omega)]; rfl
                      have hn := bad_next hlt
                      obtain ⟨bb, hbb⟩ : ∃ b, (bl || badN (o.us.take i)) = b := ⟨_, rfl⟩
                      rw [hbb]
                      cases bb
                      · try simp (maxSteps := 1000000) only [seval, c1, eg, List.length_map]
                        (refine q07 (ref_name o.us[i]) rfl ?_; rintro _ rfl)
                        try simp (maxSteps := 1000000) only [seval, ew]
                        simp only [q0p, St.trunc, St.keep, q00, q01, AB.trunc, keepV, List.elem_cons, List.elem_nil, List.take_succ_cons, List.take_zero, List.map_cons, List.map_nil, Nat.reduceAdd, Nat.reduceBEq, Nat.reduceLeDiff, Nat.zero_add, Bool.false_eq_true, ↓reduceIte]
                        exact ⟨i + 1, hlt, by omega, by rw [hn, ← Bool.or_assoc, hbb, Bool.false_or] <;> rfl⟩
                      · try simp (maxSteps := 1000000) only [seval, ew]
                        simp only [q0p, St.trunc, St.keep, q00, q01, AB.trunc, keepV, List.elem_cons, List.elem_nil, List.take_succ_cons, List.take_zero, List.map_cons, List.map_nil, Nat.reduceAdd, Nat.reduceBEq, Nat.reduceLeDiff, Nat.zero_add, Bool.false_eq_true, ↓reduceIte]
                        exact ⟨i + 1, hlt, by omega, by rw [hn, ← Bool.or_assoc, hbb, Bool.true_or] <;> rfl⟩
                    · have hge : i = o.us.length := by have : ¬ ((i : Int) < (o.us.length : Int)) := by simpa using hc
                                                       omega
                      subst hge
                      rw [List.take_length]
                      try simp (maxSteps := 1000000) only [seval]
                      apply hK
                      simp only [Tryz.results15, retK, ares, Bool.and_true, Bool.true_and, AV.ofResults, St.trunc, q00, q01, List.getD_cons_zero, List.getD_cons_succ, List.take_zero, List.map_nil, true_and, and_true, List.cons.injEq, exists_eq_left']
                      rw [Bool.or_comm, hlen]
                      try rfl
                  · try simp (maxSteps := 1000000) only [seval, List.length_map, el8, el8']
                    refine q1h tyOk (α := Nat) 1 [1, 3, 4, 5] (fun i => i ≤ o.us.length)
                      (fun i => ⟨[.any, .ptr 0 0, .any, bool tt, bool (bl || badN (o.us.take i)), i64 i, .any, .any, .any, .any, .any, .any, .any, .any, .any, .any, .any, .any, .any, .any, .any, .any, .any, .any, .any, .any, .any, .any, .any, .any, .any, .any, .any, .any, .any, .any, .any, .any, .any, .any, .any, .any, .any, .any, .any, .any, .any, .any, .any, .any, .any, .any, .any, .any, .any, .any, .any, .any, .any, .any, .any, .any, .any, .any, .any, .any, .any, .any, .any, .any, .any, .any, .any, .any, .any, .any, .any, .any, .any, .any, .any, .any, .any, .any, .any, .any, .any, .any, .any, .any, .any, .any, .any, .any, .any, .any, .any, .any, .any, .any, .any, .any, .any, .any, .any, .any, .any, .any, .any, .any, .any, .any, .any, .any, .any], [.box [i64 o.kind, str o.u, i64 o.id, i64 o.st, i64 o.pr, u64 o.ttl, .sl 1 (o.us.map fun x => str x)]]⟩)
                      (fun i => o.us.length - i) 0 (Nat.zero_le _) (Nat.zero_le _) (by rw [List.take_zero, show badN [] = false from rfl, Bool.or_false]; subst hbl; subst htt; rfl) ?_
                    intro i hi
                    try simp (maxSteps := 1000000) only [seval, List.length_map]
                    (first | refine q0g ?_ ?_ | refine q0k ?_ ?_ | refine q0l ?_ ?_ | refine q0m ?_ ?_ | refine q0h ?_ ?_) <;> intro hc
                    · have hlt : i < o.us.length := by simpa using hc
                      have c1 : (0 : Int) ≤ (i : Int) ∧ Int.toNat (i : Int) < o.us.length := by omega
                      have eg : (o.us.map fun x => str x).getD (Int.toNat (i : Int)) .any = str o.us[i] := by
                        simp [List.getD_eq_getElem?_getD, hlt]
                      have ew : IntKind.i64.wrap ((i : Int) + 1) = ((i + 1 : Nat) : Int) := by rw [wrap_i64 (by omega) (by omega)]; rfl
                      have hn := bad_next hlt
                      obtain ⟨bb, hbb⟩ : ∃ b, (bl || badN (o.us.take i)) = b := ⟨_, rfl⟩
                      rw [hbb]
                      cases bb
                      · try simp (maxSteps := 1000000) only [seval, c1, eg, List.length_map]
                        (refine q07 (ref_name o.us[i]) rfl ?_; rintro _ rfl)
                        try simp (maxSteps := 1000000) only [seval, ew]
                        simp only [q0p, St.trunc, St.keep, q00, q01, AB.trunc, keepV, List.elem_cons, List.elem_nil, List.take_succ_cons, List.take_zero, List.map_cons, List.map_nil, Nat.reduceAdd, Nat.reduceBEq, Nat.reduceLeDiff, Nat.zero_add, Bool.false_eq_true, ↓reduceIte]
                        exact ⟨i + 1, hlt, by omega, by rw [hn, ← Bool.or_assoc, hbb, Bool.false_or] <;> rfl⟩
                      · try simp (maxSteps := 1000000) only [seval, ew]
                        simp only [q0p, St.trunc, St.keep, q00, q01, AB.trunc, keepV, List.elem_cons, List.elem_nil, List.take_succ_cons, List.take_zero, List.map_cons, List.map_nil, Nat.reduceAdd, Nat.reduceBEq, Nat.reduceLeDiff, Nat.zero_add, Bool.false_eq_true, ↓reduceIte]
                        exact ⟨i + 1, hlt, by omega, by rw [hn, ← Bool.or_assoc, hbb, Bool.true_or] <;> rfl⟩
                    · have hge : i = o.us.length := by have : ¬ ((i : Int) < (o.us.length : Int)) := by simpa using hc
                                                       omega
                      subst hge
                      rw [List.take_length]
                      try simp (maxSteps := 1000000) only [seval]
                      apply hK
                      simp only [Tryz.results15, retK, ares, Bool.and_true, Bool.true_and, AV.ofResults, St.trunc, q00, q01, List.getD_cons_zero, List.getD_cons_succ, List.take_zero, List.map_nil, true_and, and_true, List.cons.injEq, exists_eq_left']
                      rw [Bool.or_comm, hlen]
                      try rfl
              · rw [h4, h6, h7, if_pos (by rfl)] at hK
                try simp (maxSteps := 1000000) only [seval, h7]
                (refine q07 hN rfl ?_; rintro _ rfl)
                try simp (maxSteps := 1000000) only [seval]
                apply hK
                simp only [Tryz.results15, retK, ares, Bool.and_true, Bool.true_and, AV.ofResults, St.trunc, q00, q01, List.getD_cons_zero, List.getD_cons_succ, List.take_zero, List.map_nil, true_and, and_true, List.cons.injEq, exists_eq_left']
                try rfl
            · rw [h4, h6, if_pos (by rfl)] at hK
              try simp (maxSteps := 1000000) only [seval, h6]
              (refine q07 hN rfl ?_; rintro _ rfl)
              try simp (maxSteps := 1000000) only [seval]
              apply hK
              simp only [Tryz.results15, retK, ares, Bool.and_true, Bool.true_and, AV.ofResults, St.trunc, q00, q01, List.getD_cons_zero, List.getD_cons_succ, List.take_zero, List.map_nil, true_and, and_true, List.cons.injEq, exists_eq_left']
              try rfl
          · rw [h4, if_pos (by rfl)] at hK
            try simp (maxSteps := 1000000) only [seval]
            (refine q07 hN rfl ?_; rintro _ rfl)
            try simp (maxSteps := 1000000) only [seval]
            apply hK
            simp only [Tryz.results15, retK, ares, Bool.and_true, Bool.true_and, AV.ofResults, St.trunc, q00, q01, List.getD_cons_zero, List.getD_cons_succ, List.take_zero, List.map_nil, true_and, and_true, List.cons.injEq, exists_eq_left']
            try rfl
        · rw [h2, h3, if_pos (by rfl)] at hK
          try simp (maxSteps := 1000000) only [seval, h3]
          (refine q07 hN rfl ?_; rintro _ rfl)
          try simp (maxSteps := 1000000) only [seval]
          cases hb : nameB o.u
          · rw [hb] at hK
            try simp (maxSteps := 1000000) only [seval]
            apply hK
            simp only [Tryz.results15, retK, ares, Bool.and_true, Bool.true_and, AV.ofResults, St.trunc, q00, q01, List.getD_cons_zero, List.getD_cons_succ, List.take_zero, List.map_nil, true_and, and_true, List.cons.injEq, exists_eq_left']
            try rfl
          · rw [hb] at hK
            try simp (maxSteps := 1000000) only [seval]
            apply hK
            simp only [Tryz.results15, retK, ares, Bool.and_true, Bool.true_and, AV.ofResults, St.trunc, q00, q01, List.getD_cons_zero, List.getD_cons_succ, List.take_zero, List.map_nil, true_and, and_true, List.cons.injEq, exists_eq_left']
            try rfl
      · rw [h2, if_pos (by rfl)] at hK
        try simp (maxSteps := 1000000) only [seval]
        (refine q07 hN rfl ?_; rintro _ rfl)
        try simp (maxSteps := 1000000) only [seval]
        cases hb : nameB o.u
        · rw [hb] at hK
          try simp (maxSteps := 1000000) only [seval]
          apply hK
          simp only [Tryz.results15, retK, ares, Bool.and_true, Bool.true_and, AV.ofResults, St.trunc, q00, q01, List.getD_cons_zero, List.getD_cons_succ, List.take_zero, List.map_nil, true_and, and_true, List.cons.injEq, exists_eq_left']
          try rfl
        · rw [hb] at hK
          try simp (maxSteps := 1000000) only [seval]
          apply hK
          simp only [Tryz.results15, retK, ares, Bool.and_true, Bool.true_and, AV.ofResults, St.trunc, q00, q01, List.getD_cons_zero, List.getD_cons_succ, List.take_zero, List.map_nil, true_and, and_true, List.cons.injEq, exists_eq_left']
          try rfl
    · rw [h1, if_pos rfl] at hK
      try simp (maxSteps := 1000000) only [seval]
      (refine q07 hN rfl ?_; rintro _ rfl)
      try simp (maxSteps := 1000000) only [seval]
      cases hb : nameB o.u
      · rw [hb] at hK
        try simp (maxSteps := 1000000) only [seval]
        apply hK
        simp only [Tryz.results15, retK, ares, Bool.and_true, Bool.true_and, AV.ofResults, St.trunc, q00, q01, List.getD_cons_zero, List.getD_cons_succ, List.take_zero, List.map_nil, true_and, and_true, List.cons.injEq, exists_eq_left']
        try rfl
      · rw [hb] at hK
        try simp (maxSteps := 1000000) only [seval, hlt, hge, e10, e0, e3, e4, e5, e6]
        cases b1
        · try simp (maxSteps := 1000000) only [seval, hlt, hge, e10, e0, e3, e4, e5, e6]
          apply hK
          simp only [Tryz.results15, retK, ares, Bool.and_true, Bool.true_and, AV.ofResults, St.trunc, q00, q01, List.getD_cons_zero, List.getD_cons_succ, List.take_zero, List.map_nil, true_and, and_true, List.cons.injEq, exists_eq_left']
          try rfl
        · try simp (maxSteps := 1000000) only [seval, hlt, hge, e10, e0, e3, e4, e5, e6]
          cases b2
          · try simp (maxSteps := 1000000) only [seval, hlt, hge, e10, e0, e3, e4, e5, e6]
            apply hK
            simp only [Tryz.results15, retK, ares, Bool.and_self, Bool.and_true, Bool.true_and, AV.ofResults, St.trunc, q00, q01, List.getD_cons_zero, List.getD_cons_succ, List.take_zero, List.map_nil, true_and, and_true, List.cons.injEq, exists_eq_left']
            try rfl
          · try simp (maxSteps := 1000000) only [seval, hlt, hge, e10, e0, e3, e4, e5, e6]
            cases b3
            · try simp (maxSteps := 1000000) only [seval, hlt, hge, e10, e0, e3, e4, e5, e6]
              apply hK
              simp only [Tryz.results15, retK, ares, Bool.and_self, Bool.and_true, Bool.true_and, AV.ofResults, St.trunc, q00, q01, List.getD_cons_zero, List.getD_cons_succ, List.take_zero, List.map_nil, true_and, and_true, List.cons.injEq, exists_eq_left']
              try rfl
            · try simp (maxSteps := 1000000) only [seval, hlt, hge, e10, e0, e3, e4, e5, e6]
              cases b4
              · try simp (maxSteps := 1000000) only [seval, hlt, hge, e10, e0, e3, e4, e5, e6]
                apply hK
                simp only [Tryz.results15, retK, ares, Bool.and_self, Bool.and_true, Bool.true_and, AV.ofResults, St.trunc, q00, q01, List.getD_cons_zero, List.getD_cons_succ, List.take_zero, List.map_nil, true_and, and_true, List.cons.injEq, exists_eq_left']
                try rfl
              · try simp (maxSteps := 1000000) only [seval, hlt, hge, e10, e0, e3, e4, e5, e6]
                apply hK
                simp only [Tryz.results15, retK, ares, Bool.and_self, Bool.and_true, Bool.true_and, AV.ofResults, St.trunc, q00, q01, List.getD_cons_zero, List.getD_cons_succ, List.take_zero, List.map_nil, true_and, and_true, List.cons.injEq, exists_eq_left']
                try rfl
theorem fits_strs {ys : List AV} (h : ∀ y ∈ ys, ∃ zs, q2m [.str] zs ∧ y = pack false zs) : ∃ l : List ByteArray, ys = l.map fun x => str x := by
  induction ys with
  | nil => exact ⟨[], rfl⟩
  | cons y ys ih =>
    obtain ⟨l, rfl⟩ := ih (fun z hz => h z (List.mem_cons_of_mem _ hz))
    obtain ⟨zs, ⟨x, r, rfl, ⟨s, rfl, _⟩, rfl⟩, rfl⟩ := h y List.mem_cons_self
    exact ⟨s :: l, rfl⟩
end Go.Proofs.YtdkcpcflfnakdaaGreat
namespace Go.Proofs.YtdkcpcflfnakdaaGreat
open Go Go.Proofs.YtdkcpcflfnakdaaGreat.Sym
attribute [-sevalprocAttr] Int.reduceToNat Int.reduceNatCast Int.reduceNatCast' Nat.reduceSubDiff
set_option maxRecDepth 100000
set_option maxHeartbeats 1000000
set_option maxHeartbeats 2000000
set_option linter.unusedSimpArgs false
set_option linter.unusedVariables false

structure Ac where
  d : Nat
  who : Int
  op : Opb
  by_ : Nat
def Ac.av (a : Ac) : AV := .agg [.v (.int .u8 a.d), i64 a.who, i64 a.op.kind, str a.op.u, i64 a.op.id, i64 a.op.st, i64 a.op.pr, u64 a.op.ttl, .sl 1 (a.op.us.map fun x => str x), u64 a.by_]
abbrev Ac.cs (a : Ac) : List AV := [.v (.int .u8 a.d), i64 a.who, i64 a.op.kind, str a.op.u, i64 a.op.id, i64 a.op.st, i64 a.op.pr, u64 a.op.ttl, .sl 1 (a.op.us.map fun x => str x), u64 a.by_]
def acts (l : List Ac) : List AV := l.map Ac.av
theorem q41 (l : List Ac) : (acts l).length = l.length := by simp [acts]
theorem acts_get {l : List Ac} {i : Nat} (h : i < l.length) : (acts l).getD (Int.toNat (i : Int)) .any = .agg [.v (.int .u8 l[i].d), i64 l[i].who, i64 l[i].op.kind, str l[i].op.u, i64 l[i].op.id, i64 l[i].op.st, i64 l[i].op.pr, u64 l[i].op.ttl, .sl 1 (l[i].op.us.map fun x => str x), u64 l[i].by_] := by
  rw [Int.toNat_natCast]; simp [acts, List.getD, h, Ac.av]
def longA (l : List Ac) : Bool := l.any fun a => !shortO a.op
theorem longA_next {l : List Ac} {i : Nat} (h : i < l.length) : longA (l.take (i + 1)) = (longA (l.take i) || !shortO l[i].op) := by
  rw [q23 h, longA, List.any_append]; simp [longA]
theorem law_long (l : List Ac) (hl : l.length ≤ maxLen) (hu : ∀ a ∈ l, a.op.us.length ≤ maxLen) : PCall P 16 [.sl 10 (acts l)] (fun x => x = bool (decide (120 < l.length) || longA l)) := by
  have hl' : l.length ≤ 9223372036854775807 := hl
  refine q0r tyOk Tryz.func16 rfl rfl ?_
  intro K hK
  simp only [Tryz.ntmps16, List.length_cons, List.length_nil, Nat.reduceAdd, Nat.reduceSub, List.replicate, List.cons_append, List.nil_append]
  by_cases h0 : l.length ≤ 120
  · have c0 : decide ((120 : Int) < (l.length : Int)) = false := decide_eq_false (by omega)
    have c0' : decide ((l.length : Int) > (120 : Int)) = false := decide_eq_false (by omega)
    rw [decide_eq_false (by omega : ¬ 120 < l.length), Bool.false_or] at hK
    try simp (maxSteps := 1000000) only [seval, q41, c0, c0']
    refine q1h tyOk (α := Nat) 0 [0, 3] (fun i => i ≤ l.length ∧ longA (l.take i) = false)
      (fun i => ⟨[.sl 10 (acts l), .any, .any, i64 i, .any, .any, .any, .any, .any, .any, .any, .any, .any, .any, .any, .any, .any, .any, .any, .any], []⟩)
      (fun i => l.length - i) 0 (by simp) ⟨Nat.zero_le _, rfl⟩ rfl ?_
    rintro i ⟨hi, hall⟩
    try simp (maxSteps := 1000000) only [seval, q41]
    (first | refine q0g ?_ ?_ | refine q0k ?_ ?_ | refine q0l ?_ ?_ | refine q0m ?_ ?_ | refine q0h ?_ ?_) <;> intro hf <;> try simp (maxSteps := 1000000) only [seval]
    · have hlt : i < l.length := by simpa using hf
      have eg := acts_get hlt
      have ew : IntKind.i64.wrap ((i : Int) + 1) = ((i + 1 : Nat) : Int) := by rw [wrap_i64 (by omega) (by omega)]; rfl
      have b1 : (0 : Int) ≤ (i : Int) ∧ Int.toNat (i : Int) < l.length := by omega
      have hS := law_Short l[i].op (hu _ (List.getElem_mem hlt))
      have hn := longA_next hlt
      unfold Opb.av at hS
      try simp (maxSteps := 1000000) only [seval, eg, b1, q41]
      (refine q07 hS rfl ?_; rintro _ rfl)
      try simp (maxSteps := 1000000) only [seval]
      cases h3 : shortO l[i].op
      · have he : longA l = true := List.any_eq_true.2 ⟨_, List.getElem_mem hlt, by rw [h3]; rfl⟩
        rw [he] at hK
        try simp (maxSteps := 1000000) only [seval]
        apply hK
        simp only [Tryz.results16, retK, ares, List.take_nil, Bool.and_true, Bool.true_and, AV.ofResults, St.trunc, q00, q01, List.getD_cons_zero, List.getD_cons_succ, List.map_nil, true_and, and_true, List.cons.injEq, exists_eq_left']
        try rfl
      · try simp (maxSteps := 1000000) only [seval, ew]
        simp only [q0p, St.trunc, St.keep, q00, q01, keepV, List.elem_cons, List.elem_nil, List.take_zero, List.map_nil, Nat.reduceAdd, Nat.reduceBEq, Nat.zero_add, Bool.false_eq_true, ↓reduceIte]
        exact ⟨i + 1, ⟨hlt, by rw [hn, hall, h3]; rfl⟩, by omega, rfl⟩
    · obtain rfl : i = l.length := by have := of_decide_eq_false hf; omega
      rw [List.take_length] at hall
      rw [hall] at hK
      apply hK
      simp only [Tryz.results16, retK, ares, List.take_nil, Bool.and_true, Bool.true_and, AV.ofResults, St.trunc, q00, q01, List.getD_cons_zero, List.getD_cons_succ, List.map_nil, true_and, and_true, List.cons.injEq, exists_eq_left']
      try rfl
  · have c0 : decide ((120 : Int) < (l.length : Int)) = true := decide_eq_true (by omega)
    have c0' : decide ((l.length : Int) > (120 : Int)) = true := decide_eq_true (by omega)
    rw [decide_eq_true (by omega : 120 < l.length), Bool.true_or] at hK
    try simp (maxSteps := 1000000) only [seval, q41, c0, c0']
    apply hK
    simp only [Tryz.results16, retK, ares, List.take_nil, Bool.and_true, Bool.true_and, AV.ofResults, St.trunc, q00, q01, List.getD_cons_zero, List.getD_cons_succ, List.map_nil, true_and, and_true, List.cons.injEq, exists_eq_left']
    try rfl

theorem fits_acts {ys : List AV} (h : ∀ y ∈ ys, ∃ zs, q2m [.int .u8, .int .i64, .int .i64, .str, .int .i64, .int .i64, .int .i64, .int .u64, .sl 1 false [.str], .int .u64] zs ∧ y = pack true zs) : ∃ l : List Ac, ys = acts l ∧ (∀ a ∈ l, a.by_ ≤ 18446744073709551615) ∧ ∀ a ∈ l, a.op.us.length ≤ maxLen := by
  induction ys with
  | nil => exact ⟨[], rfl, (fun a ha => by cases ha), (fun a ha => by cases ha)⟩
  | cons y ys ih =>
    obtain ⟨l, rfl, hl, hu⟩ := ih (fun z hz => h z (List.mem_cons_of_mem _ hz))
    obtain ⟨zs, ⟨_, _, rfl, ⟨d, rfl, hd⟩, _, _, rfl, ⟨w, rfl, _⟩, _, _, rfl, ⟨a, rfl, _⟩, _, _, rfl, ⟨u, rfl, _⟩, _, _, rfl, ⟨b, rfl, _⟩, _, _, rfl, ⟨c, rfl, _⟩, _, _, rfl, ⟨e, rfl, _⟩, _, _, rfl, ⟨t, rfl, _⟩, _, _, rfl, ⟨vs, rfl, hvl, hvs⟩, _, _, rfl, ⟨y, rfl, hy⟩, rfl⟩, rfl⟩ := h y List.mem_cons_self
    obtain ⟨us, rfl⟩ := fits_strs hvs
    have hd' : 0 ≤ d ∧ d ≤ 255 := by simpa [Lit.wf, IntKind.min, IntKind.max, IntKind.signed, IntKind.bits] using hd
    have hy' : 0 ≤ y ∧ y ≤ 18446744073709551615 := by simpa [Lit.wf, IntKind.min, IntKind.max, IntKind.signed, IntKind.bits] using hy
    obtain ⟨d, rfl⟩ : ∃ m : Nat, d = m := ⟨d.toNat, by omega⟩
    obtain ⟨y, rfl⟩ : ∃ m : Nat, y = m := ⟨y.toNat, by omega⟩
    rw [List.length_map] at hvl
    refine ⟨⟨d, w, ⟨a, u, b, c, e, t, us⟩, y⟩ :: l, rfl, fun x hx => ?_, fun x hx => ?_⟩
    · rcases List.mem_cons.1 hx with rfl | hx
      · simp only; omega
      · exact hl x hx
    · rcases List.mem_cons.1 hx with rfl | hx
      · exact hvl
      · exact hu x hx
def befM (n : Nat) (M : Md) (a : Ac) : Md := if a.d % 3 = 1 then M.tick a.by_ else if a.d % 3 = 2 then M.sweep n ((a.by_ % 9 : Nat) : Int) else doM n M a.who a.op
def befR (n : Nat) (M : Md) (a : Ac) : Rp := if a.d % 3 = 1 then errR 0 else if a.d % 3 = 2 then errR 0 else doR n M a.who a.op
theorem rp_bks (R : Rp) : bks R.av = [] := by
  cases R with
  | mk e v ev l => cases v <;> cases ev <;> rfl
theorem law_befalls {n pad B : Nat} {M : Md} (h : WOk n B M) (hB : B + 1 ≤ 900) (a : Ac) (ho : OpOk a.op) : q0s P 3 20 (modM n pad M) [.ptr 0 0, a.av]
    (fun x m' => x = (befR n M a).av ∧ m' = modM n pad (befM n M a)) := by
  refine q2y tyOk Tryz.func20 rfl rfl (by rw [q08, mlen]; omega) ?_
  intro K hK
  rw [q08] at hK
  simp only [Tryz.ntmps20, List.length_cons, List.length_nil, Nat.reduceAdd, Nat.reduceSub, List.replicate, List.cons_append, List.nil_append]
  have em : Int.tmod (a.d : Int) 3 = ((a.d % 3 : Nat) : Int) := rfl
  have e9 : Int.tmod (a.by_ : Int) 9 = ((a.by_ % 9 : Nat) : Int) := rfl
  have wu (k : Nat) (hk : k < 256) : IntKind.u8.wrap ((k : Nat) : Int) = k := by rw [IntKind.wrap_u8]; omega
  have w9 : IntKind.u64.wrap ((a.by_ % 9 : Nat) : Int) = ((a.by_ % 9 : Nat) : Int) := by rw [IntKind.wrap_u64]; omega
  have w9' : IntKind.i64.wrap ((a.by_ % 9 : Nat) : Int) = ((a.by_ % 9 : Nat) : Int) := wrap_i64 (by omega) (by omega)
  unfold befM befR at hK
  try simp (maxSteps := 1000000) only [seval, mm_0, mm_1, mm_2, mm_0n, mm_1n, mm_2n, q0d, q0b, q0e, q0f, q0i, mm_s0, mm_s1, mm_s2, mm_s3, q0a, q06, q08, q09, q0j, q04, q02, q05, q03, Nat.add_assoc, AB.calm, kpX, kpM, ml_z, ml_1, ml_l, ml_r, ml_b, ml_le, ml_0, ml_0k, Nat.one_ne_zero, List.all_cons, List.all_nil, Ac.av, em, e9]
  obtain ⟨q, hq⟩ : ∃ q, a.d % 3 = q := ⟨_, rfl⟩
  have hq3 : q < 3 := by omega
  rw [hq] at hK ⊢
  rcases (show q = 1 ∨ q = 2 ∨ q = 0 by omega) with rfl | rfl | rfl
  · simp only [if_pos] at hK
    have q1 : ((((1 : Nat) : Int)) == 1) = true := rfl
    try simp (maxSteps := 1000000) only [seval, mm_0, mm_1, mm_2, mm_0n, mm_1n, mm_2n, q0d, q0b, q0e, q0f, q0i, mm_s0, mm_s1, mm_s2, mm_s3, q0a, q06, q08, q09, q0j, q04, q02, q05, q03, Nat.add_assoc, AB.calm, kpX, kpM, ml_z, ml_1, ml_l, ml_r, ml_b, ml_le, ml_0, ml_0k, Nat.one_ne_zero, List.all_cons, List.all_nil, q1]
    refine q30 (mod_in (model_Tick n pad M a.by_) rfl ?_)
    rintro _ _ ⟨rfl, rfl⟩
    refine ⟨rfl, _, rfl, ?_⟩
    try simp (maxSteps := 1000000) only [seval, mm_0, mm_1, mm_2, mm_0n, mm_1n, mm_2n, q0d, q0b, q0e, q0f, q0i, mm_s0, mm_s1, mm_s2, mm_s3, q0a, q06, q08, q09, q0j, q04, q02, q05, q03, Nat.add_assoc, AB.calm, kpX, kpM, ml_z, ml_1, ml_l, ml_r, ml_b, ml_le, ml_0, ml_0k, Nat.one_ne_zero, List.all_cons, List.all_nil]
    apply hK
    simp only [Tryz.results20, retK, ares, Bool.and_true, AV.ofResults, St.trunc, q00, q01, aload, acell, T, TI.isAgg, List.getD_cons_zero, List.getD_cons_succ, List.drop_zero, and_true, ↓reduceIte, List.cons.injEq, exists_eq_left']
    simp only [q0b, List.getElem?_cons_zero, List.getElem?_cons_succ, List.take_succ_cons, List.take_zero, q2n, and_true, true_and, List.length_cons, List.length_nil, q00, q01, Nat.reduceAdd, Nat.le_refl]
    try (first | exact ⟨rfl, rfl⟩ | rfl | exact ⟨rfl, _, rfl⟩)
  · rw [if_neg (by decide), if_pos rfl, if_neg (by decide), if_pos rfl] at hK
    have q1 : ((((2 : Nat) : Int)) == 1) = false := rfl
    have q2 : ((((2 : Nat) : Int)) == 2) = true := rfl
    try simp (maxSteps := 1000000) only [seval, mm_0, mm_1, mm_2, mm_0n, mm_1n, mm_2n, q0d, q0b, q0e, q0f, q0i, mm_s0, mm_s1, mm_s2, mm_s3, q0a, q06, q08, q09, q0j, q04, q02, q05, q03, Nat.add_assoc, AB.calm, kpX, kpM, ml_z, ml_1, ml_l, ml_r, ml_b, ml_le, ml_0, ml_0k, Nat.one_ne_zero, List.all_cons, List.all_nil, q1, q2, e9, w9, w9']
    refine q2i (kp := kpX n) (fun b hb => by simp [kpX, show b < 3 by omega]) (mod_inX (model_Sweep h.ok ((a.by_ % 9 : Nat) : Int)) rfl ?_ ?_)
    · rfl
    rintro _ _ ⟨rfl, rfl⟩
    refine ⟨rfl, _, rfl, ?_⟩
    try simp (maxSteps := 1000000) only [seval, mm_0, mm_1, mm_2, mm_0n, mm_1n, mm_2n, q0d, q0b, q0e, q0f, q0i, mm_s0, mm_s1, mm_s2, mm_s3, q0a, q06, q08, q09, q0j, q04, q02, q05, q03, Nat.add_assoc, AB.calm, kpX, kpM, ml_z, ml_1, ml_l, ml_r, ml_b, ml_le, ml_0, ml_0k, Nat.one_ne_zero, List.all_cons, List.all_nil]
    apply hK
    simp only [Tryz.results20, retK, ares, Bool.and_true, AV.ofResults, St.trunc, q00, q01, aload, acell, T, TI.isAgg, List.getD_cons_zero, List.getD_cons_succ, List.drop_zero, and_true, ↓reduceIte, List.cons.injEq, exists_eq_left']
    simp only [q0b, List.getElem?_cons_zero, List.getElem?_cons_succ, List.take_succ_cons, List.take_zero, q2n, and_true, true_and, List.length_cons, List.length_nil, q00, q01, Nat.reduceAdd, Nat.le_refl]
    try (first | exact ⟨rfl, rfl⟩ | rfl | exact ⟨rfl, _, rfl⟩)
  · rw [if_neg (by decide), if_neg (by decide), if_neg (by decide), if_neg (by decide)] at hK
    have q1 : ((((0 : Nat) : Int)) == 1) = false := rfl
    have q2 : ((((0 : Nat) : Int)) == 2) = false := rfl
    have hDo := Do_in (pad := pad) h hB a.who a.op ho [.box a.cs, .box [.v (.int .i64 0), .v (.slice none 0 0), .v (.slice none 0 0), .v (.bool false)]] rfl
    unfold Opb.av at hDo
    try simp (maxSteps := 1000000) only [seval, mm_0, mm_1, mm_2, mm_0n, mm_1n, mm_2n, q0d, q0b, q0e, q0f, q0i, mm_s0, mm_s1, mm_s2, mm_s3, q0a, q06, q08, q09, q0j, q04, q02, q05, q03, Nat.add_assoc, AB.calm, kpX, kpM, ml_z, ml_1, ml_l, ml_r, ml_b, ml_le, ml_0, ml_0k, Nat.one_ne_zero, List.all_cons, List.all_nil, q1, q2]
    refine q2i (kp := kpX n) (fun b hb => by simp [kpX, show b < 3 by omega]) (hDo.mono ?_)
    rintro _ _ ⟨rfl, rfl⟩
    generalize doR n M a.who a.op = R at *
    cases R with
    | mk e v ev l =>
      cases v <;> cases ev
      all_goals
        try simp (maxSteps := 1000000) only [seval, mm_0, mm_1, mm_2, mm_0n, mm_1n, mm_2n, q0d, q0b, q0e, q0f, q0i, mm_s0, mm_s1, mm_s2, mm_s3, q0a, q06, q08, q09, q0j, q04, q02, q05, q03, Nat.add_assoc, AB.calm, kpX, kpM, ml_z, ml_1, ml_l, ml_r, ml_b, ml_le, ml_0, ml_0k, Nat.one_ne_zero, List.all_cons, List.all_nil, Rp.av, slO, Option.map]
        apply hK
        simp only [Tryz.results20, retK, ares, Bool.and_true, AV.ofResults, St.trunc, q00, q01, aload, acell, T, TI.isAgg, List.getD_cons_zero, List.getD_cons_succ, List.drop_zero, and_true, ↓reduceIte, List.cons.injEq, exists_eq_left']
        simp only [q0b, List.getElem?_cons_zero, List.getElem?_cons_succ, List.take_succ_cons, List.take_zero, q2n, and_true, true_and, List.length_cons, List.length_nil, q00, q01, Nat.reduceAdd, Nat.le_refl]
        try (first | exact ⟨rfl, rfl⟩ | rfl | exact ⟨rfl, _, rfl⟩)
end Go.Proofs.YtdkcpcflfnakdaaGreat
namespace Go.Proofs.YtdkcpcflfnakdaaGreat
open Go Go.Proofs.YtdkcpcflfnakdaaGreat.Sym
attribute [-sevalprocAttr] Int.reduceToNat Int.reduceNatCast Int.reduceNatCast' Nat.reduceSubDiff
set_option maxRecDepth 100000
set_option maxHeartbeats 1000000
set_option maxHeartbeats 2000000
set_option linter.unusedSimpArgs false
set_option linter.unusedVariables false

theorem lives_late {now earlier : Int} (h : earlier ≤ now) (l : List Ses) : lives now (lives earlier l) = lives now l := by
  rw [lives, lives, lives, List.filter_filter]
  refine List.filter_congr fun x _ => ?_
  simp only [Ses.lives]
  rw [Bool.eq_iff_iff]
  simp
  omega
theorem swept_was {m : Bk} (hr : q1w m) (now : Int) (u : ByteArray) : (wasOf (q1q m now).1 u).l = lives now (wasOf m u).l := by
  have hr2 := (q49 hr now m.length).1
  rw [show q16 m now m.length = q1q m now by rw [q16, List.take_length, q1q]] at hr2
  by_cases hc : u ∈ (q1q m now).1.map Prod.fst
  · obtain ⟨p, hp, rfl⟩ := List.mem_map.1 hc
    have hw : wasOf (q1q m now).1 p.1 = p.2 := by
      rw [wasOf, q31 ordS q0x hr2 (k := p.1) (v := p.2) hp]
    rw [hw]
    rw [sweepF_eq hr] at hp
    obtain ⟨q, hq, rfl, hn⟩ := swept_mem hp
    have hw2 : wasOf m q.1 = q.2 := by rw [wasOf, q31 ordS q0x hr (k := q.1) (v := q.2) hq]
    simp only [hw2]
  · have hw : wasOf (q1q m now).1 u = nilEn := by rw [wasOf, q3k ordS q0x hr2 hc]
    rw [hw]
    by_cases hm : u ∈ m.map Prod.fst
    · obtain ⟨q, hq, rfl⟩ := List.mem_map.1 hm
      have hw2 : wasOf m q.1 = q.2 := by rw [wasOf, q31 ordS q0x hr (k := q.1) (v := q.2) hq]
      rw [hw2]
      by_cases hl : (lives now q.2.l).length = 0
      · rw [List.eq_nil_of_length_eq_zero hl]; rfl
      · exfalso
        refine hc (List.mem_map.2 ⟨(q.1, ⟨lives now q.2.l, ofP (lives now q.2.l) now⟩), ?_, rfl⟩)
        rw [sweepF_eq hr]
        exact List.mem_filterMap.2 ⟨q, hq, by unfold sweptE; rw [if_neg hl]⟩
    · have hw2 : wasOf m u = nilEn := by rw [wasOf, q3k ordS q0x hr hm]
      rw [hw2]; rfl
theorem ofP_late {now then_ : Int} (h : now ≤ then_) (l : List Ses) : ofP (lives now l) then_ = ofP l then_ := by
  rw [ofP, ofP, lives_late h]

theorem pres_sweep {n B : Nat} {M : Md} (h : MOk n B M) (s : Int) (u : ByteArray) : presOf n (M.sweep n s) u = presOf n M u := by
  unfold Md.sweep
  split
  · rfl
  · show ofP (wasOf ((M.setB s.toNat (q1q (M.b s.toNat) M.t.now).1).b (stN n u)) u).l M.t.now = _
    unfold presOf
    simp only [Md.setB]
    split
    · rename_i e
      rw [e, swept_was (h.b _).1, ofP_late (Int.le_refl _)]
    · rfl
def runM (M : Md) (l : List Ac) : Md := l.foldl (befM 3) M
theorem runM_next {M : Md} {l : List Ac} {i : Nat} (h : i < l.length) : runM M (l.take (i + 1)) = befM 3 (runM M (l.take i)) l[i] := by
  rw [q23 h, runM, List.foldl_append]; rfl
theorem wok_bef {B : Nat} {M : Md} (h : WOk 3 B M) (hB : B + 1 ≤ 900) (a : Ac) : WOk 3 (B + 1) (befM 3 M a) := by
  unfold befM
  split
  · exact (wok_tick h _).mono (Nat.le_succ _) hB
  split
  · exact (wok_sweep h _).mono (Nat.le_succ _) hB
  · exact wok_do h hB _ _
theorem wok_run {B : Nat} {M : Md} (hM : WOk 3 B M) (l : List Ac) (hl : B + l.length ≤ 899) : ∀ i, i ≤ l.length → WOk 3 (B + i) (runM M (l.take i)) := by
  intro i
  induction i with
  | zero => intro _; exact hM
  | succ i ih =>
    intro h
    rw [runM_next h]
    exact wok_bef (ih (by omega)) (by omega) _
end Go.Proofs.YtdkcpcflfnakdaaGreat
namespace Go.Proofs.YtdkcpcflfnakdaaGreat
open Go Go.Proofs.YtdkcpcflfnakdaaGreat.Sym
attribute [-sevalprocAttr] Int.reduceToNat Int.reduceNatCast Int.reduceNatCast' Nat.reduceSubDiff
set_option maxRecDepth 100000
set_option maxHeartbeats 1000000
set_option linter.unusedSimpArgs false
set_option linter.unusedVariables false

section
variable {α β : Type} {lt eq : α → α → Bool}
theorem get_same (O : StrictOrd lt) (he : ∀ a b, eq a b = true ↔ a = b) {m m' : List (α × β)} (hr : q2r lt m) (hr' : q2r lt m') {k : α} (none : β) (h : ∀ v, (k, v) ∈ m ↔ (k, v) ∈ m') : getG lt eq none m k = getG lt eq none m' k := by
  by_cases hk : k ∈ m.map Prod.fst
  · obtain ⟨⟨k', v⟩, hp, rfl⟩ := List.mem_map.1 hk
    rw [q31 O he hr hp, q31 O he hr' ((h v).1 hp)]
  · have hk' : k ∉ m'.map Prod.fst := fun hc => by
      obtain ⟨⟨k', v⟩, hp, rfl⟩ := List.mem_map.1 hc
      exact hk (List.mem_map.2 ⟨_, (h v).2 hp, rfl⟩)
    rw [q3k O he hr hk, q3k O he hr' hk']
end
theorem settle_other {m : Bk} (hr : q1w m) {u k : ByteArray} (hne : ¬ k = u) (l : List Ses) (now : Int) : wasOf (q21 m u l now) k = wasOf m k := by
  have hs := (q5d hr u l now).1
  have : getG ltS eqS nilEn (q21 m u l now) k = getG ltS eqS nilEn m k := by
    refine get_same ordS q0x hs hr nilEn fun v => ?_
    unfold q21
    split
    · rw [q3n ordS q0x hr, List.mem_filter]
      have : eqS k u = false := by
        cases hc : eqS k u with
        | false => rfl
        | true => exact absurd ((q0x _ _).1 hc) hne
      simp [this]
    · rw [mem_with ordS q0x hr]
      constructor
      · rintro (h | h)
        · exact absurd (Prod.mk.inj h).1 hne
        · exact h.1
      · exact fun h => .inr ⟨h, hne⟩
  rw [wasOf, this, wasOf]
structure Tells (now : Int) (B : Bk) (xs : List Chg) (B' : Bk) : Prop where
  apart : xs.Pairwise fun a b => a.u ≠ b.u
  each : ∀ c ∈ xs, c.old = (wasOf B c.u).t ∧ c.new = (wasOf B' c.u).t ∧ c.old ≠ c.new
  rest : ∀ u, (∀ c ∈ xs, c.u ≠ u) → (wasOf B' u).t = (wasOf B u).t
theorem settle_t {m : Bk} (hr : q1w m) {u : ByteArray} {l : List Ses} {now : Int} : (wasOf (q21 m u l now) u).t = ofP l now := by
  have hs := (q5d hr u l now).1
  unfold wasOf
  by_cases hl : l.length = 0
  · have hnil : l = [] := List.eq_nil_of_length_eq_zero hl
    rw [q3k ordS q0x hs, hnil]
    · rfl
    · intro hc
      obtain ⟨p, hp, hpk⟩ := List.mem_map.1 hc
      rw [q21, if_pos hl, q3n ordS q0x hr] at hp
      have := (List.mem_filter.1 hp).2
      rw [hpk, (q0x _ _).2 rfl] at this
      cases this
  · have hm : (u, (⟨l, ofP l now⟩ : En)) ∈ q21 m u l now := by
      rw [q21, if_neg hl]
      exact (mem_with ordS q0x hr).2 (.inl rfl)
    rw [q31 ordS q0x hs hm]
theorem tells_write {m : Bk} (hr : q1w m) (o : Opb) (now most : Int) : Tells now m (writeC m o now most) (writeB m o now most) := by
  unfold writeC writeB
  generalize (q2s m o now most).1 = L
  have ht := settle_t hr (u := o.u) (l := L) (now := now)
  unfold q3h
  by_cases h : ofP L now = (wasOf m o.u).t
  · rw [if_pos h]
    refine ⟨List.Pairwise.nil, (fun c hc => by cases hc), fun u _ => ?_⟩
    by_cases hu : u = o.u
    · rw [hu, ht, h]
    · rw [settle_other hr hu]
  · rw [if_neg h]
    refine ⟨List.pairwise_singleton .., fun c hc => ?_, fun u hu => ?_⟩
    · obtain rfl : c = _ := by simpa using hc
      exact ⟨rfl, ht.symm, (fun e => h e.symm)⟩
    · have hu2 : ¬ u = o.u := fun e => hu _ List.mem_cons_self e.symm
      rw [settle_other hr hu2]
def sweptC (now : Int) (p : ByteArray × En) : Option Chg := if ofP (lives now p.2.l) now = p.2.t then none else some ⟨p.1, p.2.t, ofP (lives now p.2.l) now⟩
theorem sweepC_eq {m : Bk} (hr : q1w m) (now : Int) : ∀ i, (q16 m now i).2 = (m.take i).filterMap (sweptC now) := by
  intro i
  induction i with
  | zero => rfl
  | succ i ih =>
    by_cases hi : i < m.length
    · have hrs := (q49 hr now i).1
      have e := sweepTo_eq hr now i
      rw [List.drop_eq_getElem_cons hi] at e
      have hw : wasOf (q16 m now i).1 m[i].1 = m[i].2 := by
        rw [wasOf, q31 ordS q0x hrs (k := m[i].1) (v := m[i].2) (by rw [e]; exact List.mem_append_right _ List.mem_cons_self)]
      rw [sweep_next hi, q3z, q23 hi, List.filterMap_append, ← ih]
      simp only
      congr 1
      rw [q3h, hw]
      generalize m[i] = p
      unfold sweptC
      by_cases h : ofP (lives now p.2.l) now = p.2.t
      · simp [h]
      · simp [h]
    · have e : q16 m now (i + 1) = q16 m now i := by
        rw [q16, q16, List.take_of_length_le (by omega), List.take_of_length_le (by omega)]
      rw [e, ih, List.take_of_length_le (by omega), List.take_of_length_le (l := m) (by omega)]
theorem swept_t {m : Bk} (hr : q1w m) (now : Int) {q : ByteArray × En} (hq : q ∈ m) : (wasOf (q1q m now).1 q.1).t = ofP (lives now q.2.l) now := by
  have hr2 := (q49 hr now m.length).1
  rw [show q16 m now m.length = q1q m now by rw [q16, List.take_length, q1q]] at hr2
  by_cases hl : (lives now q.2.l).length = 0
  · have hn : q.1 ∉ (q1q m now).1.map Prod.fst := by
      intro hc
      obtain ⟨p, hp, hpk⟩ := List.mem_map.1 hc
      rw [sweepF_eq hr] at hp
      obtain ⟨q', hq', rfl, hne⟩ := swept_mem hp
      have h1 : wasOf m q.1 = q.2 := by rw [wasOf, q31 ordS q0x hr (k := q.1) (v := q.2) hq]
      have h2 : wasOf m q'.1 = q'.2 := by rw [wasOf, q31 ordS q0x hr (k := q'.1) (v := q'.2) hq']
      simp only at hpk
      rw [hpk, h1] at h2
      rw [← h2] at hne
      exact hne hl
    rw [wasOf, q3k ordS q0x hr2 hn, List.eq_nil_of_length_eq_zero hl]; rfl
  · have hm : (q.1, (⟨lives now q.2.l, ofP (lives now q.2.l) now⟩ : En)) ∈ (q1q m now).1 := by
      rw [sweepF_eq hr]
      exact List.mem_filterMap.2 ⟨q, hq, by unfold sweptE; rw [if_neg hl]⟩
    rw [wasOf, q31 ordS q0x hr2 hm]
theorem tells_sweep {m : Bk} (hr : q1w m) (now : Int) : Tells now m (q1q m now).2 (q1q m now).1 := by
  have hr2 := (q49 hr now m.length).1
  rw [show q16 m now m.length = q1q m now by rw [q16, List.take_length, q1q]] at hr2
  have e := sweepC_eq hr now m.length
  rw [show q16 m now m.length = q1q m now by rw [q16, List.take_length, q1q], List.take_length] at e
  have hmem : ∀ c, c ∈ (q1q m now).2 → ∃ q ∈ m, ofP (lives now q.2.l) now ≠ q.2.t ∧ c = ⟨q.1, q.2.t, ofP (lives now q.2.l) now⟩ := by
    intro c hc
    rw [e] at hc
    obtain ⟨q, hq, h⟩ := List.mem_filterMap.1 hc
    unfold sweptC at h
    split at h
    · cases h
    · rename_i hne; cases h; exact ⟨q, hq, hne, rfl⟩
  refine ⟨?_, ?_, ?_⟩
  · rw [e, List.pairwise_filterMap]
    refine (q35.1 hr).imp ?_
    intro a b hab x hx y hy
    have hx1 : x.u = a.1 := by unfold sweptC at hx; split at hx <;> cases hx; rfl
    have hy1 : y.u = b.1 := by unfold sweptC at hy; split at hy <;> cases hy; rfl
    rw [hx1, hy1]
    intro h
    rw [h, ordS.irrefl] at hab; cases hab
  · intro c hc
    obtain ⟨q, hq, hne, rfl⟩ := hmem c hc
    have h1 : wasOf m q.1 = q.2 := by rw [wasOf, q31 ordS q0x hr (k := q.1) (v := q.2) hq]
    exact ⟨by simp only [h1], (swept_t hr now hq).symm, (fun h => hne h.symm)⟩
  · intro u hu
    by_cases hm : u ∈ m.map Prod.fst
    · obtain ⟨q, hq, rfl⟩ := List.mem_map.1 hm
      have h1 : wasOf m q.1 = q.2 := by rw [wasOf, q31 ordS q0x hr (k := q.1) (v := q.2) hq]
      rw [swept_t hr now hq, h1]
      apply Classical.byContradiction
      intro hne
      refine hu ⟨q.1, q.2.t, ofP (lives now q.2.l) now⟩ ?_ rfl
      rw [e]
      exact List.mem_filterMap.2 ⟨q, hq, by unfold sweptC; rw [if_neg hne]⟩
    · have hn : u ∉ (q1q m now).1.map Prod.fst := by
        intro hc
        obtain ⟨p, hp, rfl⟩ := List.mem_map.1 hc
        rw [sweepF_eq hr] at hp
        obtain ⟨q', hq', rfl, _⟩ := swept_mem hp
        exact hm (List.mem_map.2 ⟨q', hq', rfl⟩)
      rw [wasOf, q3k ordS q0x hr2 hn, wasOf, q3k ordS q0x hr hm]
end Go.Proofs.YtdkcpcflfnakdaaGreat
