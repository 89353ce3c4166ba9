/- The row of ModelBad, out of its contract. Printed by row.py, a program of this session. -/
import Derived.Test.YtdkcpcflfnakdaaGreatMh
import Derived.Test.YtdkcpcflfnakdaaGreatMf
import Derived.Test.YtdkcpcflfnakdaaGreatRows
import Derived.Test.YtdkcpcflfnakdaaGreatSymU
namespace Go.Proofs.YtdkcpcflfnakdaaGreat
open Go Go.Proofs.YtdkcpcflfnakdaaGreat.Sym
set_option maxRecDepth 100000
set_option maxHeartbeats 1000000
set_option maxHeartbeats 2000000
set_option linter.unusedSimpArgs false
set_option linter.unusedVariables false

def sm : Cf := ⟨3, 2, 16, 4, 1, 100, 0⟩
theorem law_Small : PCall P 18 [] (fun x => x = sm.av) := by
  refine q0u tyOk Tryz.func18 rfl rfl ?_
  intro K hK
  simp only [Tryz.ntmps18, List.length_nil, Nat.reduceSub, List.replicate, List.nil_append]
  try simp (maxSteps := 1000000) only [seval, -Int.reduceToNat, -Int.reduceNatCast, -Int.reduceNatCast', -Nat.reduceSubDiff, T, eqc36, eqc44, eqc49, eqc52, q00, q01, q02, q03]
  apply hK
  simp only [Tryz.results18, retK, ares, List.take_nil, Bool.and_true, Bool.true_and, AV.ofResults, St.trunc, q04, q05, aload, acell, T, TI.isAgg, List.getD_cons_zero, List.take_zero, List.take_succ_cons, List.drop_zero, List.map_nil, List.getElem?_cons_zero, List.length_cons, List.length_nil, Nat.reduceAdd, Nat.le_refl, true_and, and_true, ↓reduceIte, List.cons.injEq, exists_eq_left']
  try rfl
abbrev annU : ByteArray := ⟨#[97, 110, 110]⟩
def opW : Opb := ⟨6, annU, 0, 0, 0, 0, []⟩
def opS : Opb := ⟨1, annU, 0, 2, 0, 9, []⟩
def opP : Opb := ⟨8, ⟨#[]⟩, 0, 0, 0, 0, []⟩
theorem nameB_iff (u : ByteArray) : nameB u = true ↔ (u.size ≠ 0 ∧ u.size ≤ 16) := by
  unfold nameB
  rw [Bool.and_eq_true, decide_eq_true_eq]
  have h1 : (!(u.toList == ByteArray.toList ⟨#[]⟩)) = true ↔ u.size ≠ 0 := by
    have := q2a u ⟨#[]⟩
    have e : (u.toList == ByteArray.toList ⟨#[]⟩) = eqS u ⟨#[]⟩ := rfl
    rw [e]
    constructor
    · intro h h0
      have hu : u = ⟨#[]⟩ := by
        cases u with
        | mk d => have : d.size = 0 := h0; rw [Array.eq_empty_of_size_eq_zero this]
      rw [this.2 hu] at h; cases h
    · intro h
      cases he : eqS u ⟨#[]⟩ with
      | false => rfl
      | true => exact absurd (by rw [this.1 he]; rfl) h
  rw [h1]
  constructor
  · rintro ⟨a, b⟩; exact ⟨a, by omega⟩
  · rintro ⟨a, b⟩; exact ⟨a, by omega⟩
theorem nameB_ann : nameB annU = true := (nameB_iff annU).2 ⟨by decide, by decide⟩
theorem badW : badO opW = false := by simp [badO, opW, nameB_ann]
theorem badS : badO opS = false := by simp [badO, opS, nameB_ann]
theorem badP : badO opP = false := by simp [badO, opP]
def kA : Nat := stN 3 annU
theorem kA_lt : kA < 3 := (stN_lt (n := 3) (by decide) (by decide) annU).1
def annM1 : Md := (fresh sm).watchF kA 1 annU
theorem awake1 : doM 3 (fresh sm) 1 opW = annM1 := by
  have hf : fullW 3 (fresh sm) 1 annU = false := by
    unfold fullW
    have h1 : countM (fresh sm) 1 3 = 0 := by rfl
    rw [h1]
    simp [fresh, sm]
  have hi : inB 1 0 7 = true := by decide
  unfold doM
  rw [badW, hi]
  simp only [opW, hf]
  rfl
def annC : Chg := ⟨annU, ⟨0, 0, 0⟩, ⟨2, 0, 1⟩⟩
theorem annB : writeC [] opS 0 2 = [annC] := by rfl
def annM2 : Md := (annM1.take.setB kA (writeB [] opS 0 2)).tell kA [annC] 1
theorem awake2 : doM 3 annM1 0 opS = annM2 := by
  have hi : inB 0 0 7 = true := by decide
  unfold doM
  rw [badS, hi]
  have : annM1.write 3 opS = annM2 := by
    unfold Md.write
    have h1 : annM1.t.cl = false := rfl
    rw [h1, if_neg (by decide)]
    have h2 : addW annM1.t.seq 1 = 1 := by decide
    rw [h2]
    show (annM1.take.setB kA (writeB [] opS 0 2)).tell kA (writeC [] opS 0 2) 1 = _
    rw [annB]; rfl
  simp only [opS] at this ⊢
  rw [this]; rfl
def annE : Ev := ⟨annU, ⟨0, 0, 0⟩, ⟨2, 0, 1⟩, 1⟩
theorem annQ (j : Nat) : ((annM2.f j).q 1) = if j = kA then ([annE], false) else ([], false) := by
  unfold annM2 Md.tell Md.setF
  simp only
  by_cases h : j = kA
  · rw [if_pos h, if_pos h]
    have hw : watF ((annM1.take.setB kA (writeB [] opS 0 2)).f kA).m 1 annC.u = true := by
      show watF (watchM [] 1 annU) 1 annU = true
      have h2 : ((annM1.take.setB kA (writeB [] opS 0 2)).f kA).m = watchM [] 1 annU := by
        simp [annM1, Md.take, Md.setB, Md.watchF, Md.setF, fresh, freshF]
      rw [wat_watch msk_nil]
      simp [cli]
    rw [tell_one, tell1_qy (by decide) (by
      have h2 : ((annM1.take.setB kA (writeB [] opS 0 2)).f kA).m = watchM [] 1 annU := by
        simp [annM1, Md.take, Md.setB, Md.watchF, Md.setF, fresh, freshF]
      rw [h2, Int.natCast_one]
      show watF (watchM [] 1 annU) 1 annU = true
      rw [wat_watch msk_nil]
      simp [cli])]
    have hq : ((annM1.take.setB kA (writeB [] opS 0 2)).f kA).q 1 = ([], false) := by
      simp [annM1, Md.take, Md.setB, Md.watchF, Md.setF, fresh, freshF]
    have hr : ((annM1.take.setB kA (writeB [] opS 0 2)).f kA).room = 16 := by
      simp [annM1, Md.take, Md.setB, Md.watchF, Md.setF, fresh, freshF, sm]
      decide
    rw [hq, hr]
    rfl
  · rw [if_neg h, if_neg h]
    simp [annM1, Md.take, Md.setB, Md.watchF, Md.setF, fresh, freshF, h]
theorem awake3 : doR 3 annM2 1 opP = ⟨0, none, some [annE], false⟩ := by
  have hi : inB 1 0 7 = true := by decide
  unfold doR
  rw [badP, hi]
  have h1 : rowsW annM2 1 3 = (List.range 3).map fun j => if j = kA then [annE] else [] := by
    unfold rowsW
    apply List.map_congr_left
    intro j _
    rw [show (1 : Int).toNat = 1 from rfl, annQ]
    split <;> rfl
  have h2 : lostW annM2 1 3 = false := by
    unfold lostW
    rw [List.any_eq_false]
    intro j _
    rw [show (1 : Int).toNat = 1 from rfl, annQ]
    split <;> simp
  have h3 : mergeF (rowsW annM2 1 3) = [annE] := by
    rw [h1]
    have hk := kA_lt
    generalize kA = k at *
    rcases (show k = 0 ∨ k = 1 ∨ k = 2 by omega) with rfl | rfl | rfl <;> rfl
  rw [h2, h3]
  rfl

/-! ### Tables stay such -/
structure WOk (n B : Nat) (M : Md) : Prop where
  ok : MOk n B M
  room : ∀ j, (M.f j).room ≤ 100
  msk : ∀ j, mskOk (M.f j).m
theorem tell_q {F : Fd} (hq : ∀ k, (F.q k).1.length ≤ 100) (hr : F.room ≤ 100) (seq : Int) : ∀ (l : List Chg) k, ((tellF F l seq).q k).1.length ≤ 100 := by
  intro l
  induction l generalizing F with
  | nil => exact hq
  | cons c l ih =>
    refine ih (F := tell1 F c seq 8) (fun k => ?_) hr
    unfold tell1
    simp only
    split
    · unfold putR
      split
      · exact hq k
      · rename_i h
        simp only [List.length_append, List.length_singleton]
        omega
    · exact hq k
theorem WOk.mono {n B B' : Nat} {M : Md} (h : WOk n B M) (hB : B ≤ B') (h9 : B' ≤ 900) : WOk n B' M :=
  ⟨⟨h.ok.n1, h.ok.n8, h.ok.s, fun j => (h.ok.b j).mono hB, h.ok.m, fun j => Nat.le_trans (h.ok.ml j) hB, h.ok.q, h9⟩, h.room, h.msk⟩
theorem wok_t {n B : Nat} {M : Md} (h : WOk n B M) (t : Tm) : WOk n B { M with t := t } := ⟨⟨h.ok.n1, h.ok.n8, h.ok.s, h.ok.b, h.ok.m, h.ok.ml, h.ok.q, h.ok.B⟩, h.room, h.msk⟩
theorem wok_setB {n B : Nat} {M : Md} (h : WOk n B M) (s : Nat) {b : Bk} (hb : bookOk B b) : WOk n B (M.setB s b) :=
  ⟨⟨h.ok.n1, h.ok.n8, h.ok.s, fun j => by
    simp only [Md.setB]
    split
    · exact hb
    · exact h.ok.b j, h.ok.m, h.ok.ml, h.ok.q, h.ok.B⟩, h.room, h.msk⟩
theorem wok_setF {n B : Nat} {M : Md} (h : WOk n B M) (s : Nat) {F : Fd} (hm : mskOk F.m) (hl : F.m.length ≤ B) (hq : ∀ k, (F.q k).1.length ≤ 100) (hr : F.room ≤ 100) : WOk n B (M.setF s F) :=
  ⟨⟨h.ok.n1, h.ok.n8, h.ok.s, h.ok.b, fun j => by
    simp only [Md.setF]
    split
    · exact hm.1
    · exact h.ok.m j, fun j => by
    simp only [Md.setF]
    split
    · exact hl
    · exact h.ok.ml j, fun j => by
    simp only [Md.setF]
    split
    · exact hq
    · exact h.ok.q j, h.ok.B⟩, fun j => by
    simp only [Md.setF]
    split
    · exact hr
    · exact h.room j, fun j => by
    simp only [Md.setF]
    split
    · exact hm
    · exact h.msk j⟩
theorem wok_tell {n B : Nat} {M : Md} (h : WOk n B M) (s : Nat) (l : List Chg) (seq : Int) : WOk n B (M.tell s l seq) := by
  obtain ⟨h1, h2, _⟩ := tellF_ok (M.f s) l seq
  exact wok_setF h s (by rw [h1]; exact h.msk s) (by rw [h1]; exact h.ok.ml s) (tell_q (h.ok.q s) (h.room s) seq l) (by rw [h2]; exact h.room s)
theorem wok_fresh {c : Cf} {n : Nat} (hn : c.s = n) (h1 : 1 ≤ n) (h8 : n ≤ 8) (hq : c.q ≤ 100) : WOk n 0 (fresh c) :=
  ⟨⟨h1, h8, hn, fun j => ⟨List.Pairwise.nil, Nat.le_refl _, fun p hp => by cases hp⟩, fun j => msk_nil.1, fun j => Nat.le_refl _, fun j k => Nat.zero_le _, by omega⟩, fun j => by show max c.q 0 ≤ 100; omega, fun j => msk_nil⟩
theorem wok_do {n B : Nat} {M : Md} (h : WOk n B M) (hB : B + 1 ≤ 900) (who : Int) (o : Opb) : WOk n (B + 1) (doM n M who o) := by
  have hm := h.mono (Nat.le_succ B) hB
  unfold doM
  split
  · exact hm
  split
  · unfold Md.write
    split
    · exact wok_t hm _
    · exact wok_tell (wok_setB (wok_t hm _) _ (book_write (h.ok.b _) o _ _)) _ _ _
  split
  · refine ⟨?_, fun j => ?_, fun j => ?_⟩
    · have := mok_drains h.ok who n
      exact ⟨this.n1, this.n8, this.s, fun j => (this.b j).mono (Nat.le_succ _), this.m, fun j => Nat.le_succ_of_le (this.ml j), this.q, hB⟩
    · simp only [Md.drains]
      split
      · unfold Fd.drain; split <;> exact h.room j
      · exact h.room j
    · simp only [Md.drains]
      split
      · unfold Fd.drain; split <;> exact h.msk j
      · exact h.msk j
  split
  · exact hm
  split
  · split
    · exact hm
    · exact wok_setF hm _ (watch_ok (h.msk _) who o.u) (by have := watch_len (M.f (stN n o.u)).m who o.u; have := h.ok.ml (stN n o.u); simp only; omega) (h.ok.q _) (h.room _)
  split
  · exact wok_setF hm _ (unwatch_ok (h.msk _) who o.u) (by have := unwatch_len (M.f (stN n o.u)).m who o.u; have := h.ok.ml (stN n o.u); simp only; omega) (h.ok.q _) (h.room _)
  split
  · exact wok_t hm _
  · exact hm

/-! ### Calls on a table, with what is behind it -/
def opNil (o : Opb) : AV := .agg [i64 o.kind, str o.u, i64 o.id, i64 o.st, i64 o.pr, u64 o.ttl, .v (.slice none 0 0)]
theorem Do_nil {n pad B : Nat} {M : Md} (h : WOk n B M) (hB : B + 1 ≤ 900) (who : Int) (o : Opb) (ho : OpOk o) (hu : o.us = []) (r : List AB) (hr : r.all (AB.calm n) = true) : q1b P (kpX n) 19 (modM n pad M ++ r) [.ptr 0 0, i64 who, opNil o]
    (fun x m' => x = (doR n M who o).av ∧ m' = modM n pad (doM n M who o) ++ r) := by
  refine mod_inX (K0 := fun x m' => x = (doR n M who o).av ∧ m' = modM n pad (doM n M who o)) ?_ (by rfl) hr (by rintro x m' ⟨rfl, rfl⟩; exact ⟨by
    generalize doR n M who o = R
    cases R with
    | mk e v ev l => cases v <;> cases ev <;> rfl, _, rfl, rfl, rfl⟩)
  refine q0y.turn (Turns.weak (s := ⟨[.ptr 0 0, i64 who, opNil o], modM n pad M⟩) (s' := ⟨[.ptr 0 0, i64 who, o.av], modM n pad M⟩) ⟨_, _, rfl, q1j _, _, _, rfl, q1j _, _, _, rfl, ?_, rfl⟩ (q2l _)) (model_Do h.ok hB who o ho)
  unfold Opb.av
  rw [hu]
  exact .inr ⟨_, rfl, _, _, rfl, q1j _, _, _, rfl, q1j _, _, _, rfl, q1j _, _, _, rfl, q1j _, _, _, rfl, q1j _, _, _, rfl, q1j _, _, _, rfl, weak_nil 1, rfl⟩
theorem annV : evts [annE] = [.agg [.v (.string ⟨#[97, 110, 110]⟩), i64 0, i64 0, i64 0, i64 2, i64 0, i64 1, u64 1]] := rfl
theorem law_awake : PCall P 11 [] (fun x => x = bool true) := by
  refine q0u tyOk Tryz.func11 rfl rfl ?_
  intro K hK
  simp only [Tryz.ntmps11, List.length_nil, Nat.reduceSub, List.replicate, List.nil_append]
  try simp (maxSteps := 1000000) only [seval, -Int.reduceToNat, -Int.reduceNatCast, -Int.reduceNatCast', -Nat.reduceSubDiff, T, eqc36, eqc44, eqc49, eqc52, q00, q01, q02, q03]
  (refine q06 law_Small rfl ?_; rintro _ rfl)
  try simp (maxSteps := 1000000) only [seval, -Int.reduceToNat, -Int.reduceNatCast, -Int.reduceNatCast', -Nat.reduceSubDiff, T, eqc36, eqc44, eqc49, eqc52, q00, q01, q02, q03]
  have h0 : WOk 3 0 (fresh sm) := wok_fresh rfl (by decide) (by decide) (by decide)
  refine callG_A ((model_New sm 3 rfl (by decide) (by decide) (by rfl)).mono ?_)
  rintro _ _ ⟨rfl, pad, rfl⟩
  try simp (maxSteps := 1000000) only [seval, -Int.reduceToNat, -Int.reduceNatCast, -Int.reduceNatCast', -Nat.reduceSubDiff, T, eqc36, eqc44, eqc49, eqc52, q00, q01, q02, q03, mm_0, mm_1, mm_2, mm_0n, mm_1n, mm_2n, q0o, q0l, q0p, q0q, q0r, mm_s0, mm_s1, mm_s2, mm_s3, q0k, q0f, q0c, q0j, q0s, q0d, q08, q0e, q09, Nat.add_assoc, AB.calm, kpX, kpM, ml_z, ml_1, ml_l, ml_r, ml_b, ml_le, ml_0, ml_0k, Nat.one_ne_zero, List.all_cons, List.all_nil]
  rw [← List.append_nil (modM 3 pad (fresh sm))]
  refine callG_X (kp := kpX 3) (fun b hb => absurd hb (Nat.not_lt_zero b)) ((Do_nil h0 (by decide) 1 opW (by constructor <;> first | decide | simp [opW]) rfl [] rfl).mono ?_)
  rintro _ _ ⟨rfl, rfl⟩
  have h1 := wok_do h0 (by decide) 1 opW
  rw [awake1] at h1 ⊢
  try simp (maxSteps := 1000000) only [seval, -Int.reduceToNat, -Int.reduceNatCast, -Int.reduceNatCast', -Nat.reduceSubDiff, T, eqc36, eqc44, eqc49, eqc52, q00, q01, q02, q03, mm_0, mm_1, mm_2, mm_0n, mm_1n, mm_2n, q0o, q0l, q0p, q0q, q0r, mm_s0, mm_s1, mm_s2, mm_s3, q0k, q0f, q0c, q0j, q0s, q0d, q08, q0e, q09, Nat.add_assoc, AB.calm, kpX, kpM, ml_z, ml_1, ml_l, ml_r, ml_b, ml_le, ml_0, ml_0k, Nat.one_ne_zero, List.all_cons, List.all_nil]
  refine callG_X (kp := kpX 3) (fun b hb => absurd hb (Nat.not_lt_zero b)) ((Do_nil h1 (by decide) 0 opS (by constructor <;> first | decide | simp [opS]) rfl [] rfl).mono ?_)
  rintro _ _ ⟨rfl, rfl⟩
  have h2 := wok_do h1 (by decide) 0 opS
  rw [awake2] at h2 ⊢
  try simp (maxSteps := 1000000) only [seval, -Int.reduceToNat, -Int.reduceNatCast, -Int.reduceNatCast', -Nat.reduceSubDiff, T, eqc36, eqc44, eqc49, eqc52, q00, q01, q02, q03, mm_0, mm_1, mm_2, mm_0n, mm_1n, mm_2n, q0o, q0l, q0p, q0q, q0r, mm_s0, mm_s1, mm_s2, mm_s3, q0k, q0f, q0c, q0j, q0s, q0d, q08, q0e, q09, Nat.add_assoc, AB.calm, kpX, kpM, ml_z, ml_1, ml_l, ml_r, ml_b, ml_le, ml_0, ml_0k, Nat.one_ne_zero, List.all_cons, List.all_nil]
  refine callG_X (kp := kpX 3) (fun b hb => absurd hb (Nat.not_lt_zero b)) ((Do_nil h2 (by decide) 1 opP (by constructor <;> first | decide | simp [opP]) rfl [] rfl).mono ?_)
  rintro _ _ ⟨rfl, rfl⟩
  rw [awake3, List.append_nil]
  try simp (maxSteps := 1000000) only [seval, -Int.reduceToNat, -Int.reduceNatCast, -Int.reduceNatCast', -Nat.reduceSubDiff, T, eqc36, eqc44, eqc49, eqc52, q00, q01, q02, q03, mm_0, mm_1, mm_2, mm_0n, mm_1n, mm_2n, q0o, q0l, q0p, q0q, q0r, mm_s0, mm_s1, mm_s2, mm_s3, q0k, q0f, q0c, q0j, q0s, q0d, q08, q0e, q09, Nat.add_assoc, AB.calm, kpX, kpM, ml_z, ml_1, ml_l, ml_r, ml_b, ml_le, ml_0, ml_0k, Nat.one_ne_zero, List.all_cons, List.all_nil, Rp.av, slO, Option.map, annV, Int.natCast_one, Int.toNat_zero, Nat.zero_lt_one, Nat.zero_lt_succ]
  apply hK
  simp only [Tryz.results11, retK, ares, Bool.and_true, Bool.true_and, AV.ofResults, St.trunc, q04, q05, List.getD_cons_zero, List.take_zero, List.map_nil, true_and, and_true, List.cons.injEq, exists_eq_left']
end Go.Proofs.YtdkcpcflfnakdaaGreat
namespace Go.Proofs.YtdkcpcflfnakdaaGreat
open Go Go.Proofs.YtdkcpcflfnakdaaGreat.Sym
set_option maxRecDepth 100000
set_option maxHeartbeats 1000000
set_option maxHeartbeats 2000000
set_option linter.unusedSimpArgs false
set_option linter.unusedVariables false

def longU (us : List ByteArray) : Bool := us.any fun u => decide (40 < u.size)
def shortO (o : Opb) : Bool := !decide (40 < o.u.size) && (!decide (20 < o.us.length) && !longU o.us)
theorem longU_next {us : List ByteArray} {i : Nat} (h : i < us.length) : longU (us.take (i + 1)) = (longU (us.take i) || decide (40 < us[i].size)) := by
  rw [take_one h, longU, List.any_append]; simp [longU]
theorem short_ok {o : Opb} (h : shortO o = true) : OpOk o := by
  unfold shortO longU at h
  simp only [Bool.and_eq_true, Bool.not_eq_true', decide_eq_false_iff_not, List.any_eq_false, decide_eq_true_eq] at h
  obtain ⟨h1, h2, h3⟩ := h
  exact ⟨by omega, by omega, fun u hu => by have := h3 u hu; omega⟩
theorem law_Short (o : Opb) (hu : o.us.length ≤ maxLen) : PCall P 12 [o.av] (fun x => x = bool (shortO o)) := by
  have hu' : o.us.length ≤ 9223372036854775807 := hu
  refine q0u tyOk Tryz.func12 rfl rfl ?_
  intro K hK
  simp only [Tryz.ntmps12, List.length_cons, List.length_nil, Nat.reduceAdd, Nat.reduceSub, List.replicate, List.cons_append, List.nil_append]
  unfold shortO at hK
  by_cases h1 : 40 < o.u.size
  · have c1 : decide ((40 : Int) < (o.u.size : Int)) = true := decide_eq_true (by omega)
    have c1' : decide ((o.u.size : Int) > (40 : Int)) = true := decide_eq_true (by omega)
    rw [decide_eq_true h1] at hK
    try simp (maxSteps := 1000000) only [seval, -Int.reduceToNat, -Int.reduceNatCast, -Int.reduceNatCast', -Nat.reduceSubDiff, T, eqc36, eqc44, eqc49, eqc52, q00, q01, q02, q03, Opb.av, c1, c1']
    apply hK
    simp only [Tryz.results12, retK, ares, Bool.and_true, Bool.true_and, AV.ofResults, St.trunc, q04, q05, List.getD_cons_zero, List.getD_cons_succ, List.take_zero, List.map_nil, true_and, and_true, List.cons.injEq, exists_eq_left']
    try rfl
  · have c1 : decide ((40 : Int) < (o.u.size : Int)) = false := decide_eq_false (by omega)
    have c1' : decide ((o.u.size : Int) > (40 : Int)) = false := decide_eq_false (by omega)
    rw [decide_eq_false h1] at hK
    by_cases h2 : 20 < o.us.length
    · have c2 : decide ((20 : Int) < (o.us.length : Int)) = true := decide_eq_true (by omega)
      have c2' : decide ((o.us.length : Int) > (20 : Int)) = true := decide_eq_true (by omega)
      rw [decide_eq_true h2] at hK
      try simp (maxSteps := 1000000) only [seval, -Int.reduceToNat, -Int.reduceNatCast, -Int.reduceNatCast', -Nat.reduceSubDiff, T, eqc36, eqc44, eqc49, eqc52, q00, q01, q02, q03, Opb.av, c1, c1', c2, c2', List.length_map]
      apply hK
      simp only [Tryz.results12, retK, ares, Bool.and_true, Bool.true_and, AV.ofResults, St.trunc, q04, q05, List.getD_cons_zero, List.getD_cons_succ, List.take_zero, List.map_nil, true_and, and_true, List.cons.injEq, exists_eq_left']
      try rfl
    · have c2 : decide ((20 : Int) < (o.us.length : Int)) = false := decide_eq_false (by omega)
      have c2' : decide ((o.us.length : Int) > (20 : Int)) = false := decide_eq_false (by omega)
      rw [decide_eq_false h2] at hK
      try simp (maxSteps := 1000000) only [seval, -Int.reduceToNat, -Int.reduceNatCast, -Int.reduceNatCast', -Nat.reduceSubDiff, T, eqc36, eqc44, eqc49, eqc52, q00, q01, q02, q03, Opb.av, c1, c1', c2, c2', List.length_map]
      refine q1r tyOk (α := Nat) 1 [1, 3] (fun i => i ≤ o.us.length ∧ longU (o.us.take i) = false)
        (fun i => ⟨[.any, .ptr 0 0, .any, i64 i, .any, .any, .any, .any, .any, .any, .any, .any, .any, .any, .any, .any, .any, .any, .any, .any, .any, .any, .any, .any, .any, .any, .any, .any], [.box [i64 o.kind, str o.u, i64 o.id, i64 o.st, i64 o.pr, u64 o.ttl, .sl 1 (o.us.map fun x => str x)]]⟩)
        (fun i => o.us.length - i) 0 (Nat.zero_le _) ⟨Nat.zero_le _, rfl⟩ rfl ?_
      rintro i ⟨hi, hl⟩
      try simp (maxSteps := 1000000) only [seval, -Int.reduceToNat, -Int.reduceNatCast, -Int.reduceNatCast', -Nat.reduceSubDiff, T, eqc36, eqc44, eqc49, eqc52, q00, q01, q02, q03, List.length_map]
      (first | refine q0a ?_ ?_ | refine q0g ?_ ?_ | refine q0h ?_ ?_ | refine q0i ?_ ?_ | refine q0b ?_ ?_) <;> intro hc
      · have hlt : i < o.us.length := by simpa using hc
        have c1 : (0 : Int) ≤ (i : Int) ∧ Int.toNat (i : Int) < o.us.length := by omega
        have eg : (o.us.map fun x => str x).getD (Int.toNat (i : Int)) .any = str o.us[i] := by
          simp [List.getD_eq_getElem?_getD, hlt]
        have ew : IntKind.i64.wrap ((i : Int) + 1) = ((i + 1 : Nat) : Int) := by rw [wrap_i64 (by omega) (by omega)]; rfl
        have hn := longU_next hlt
        by_cases h3 : 40 < o.us[i].size
        · have c3 : decide ((40 : Int) < (o.us[i].size : Int)) = true := decide_eq_true (by omega)
          have c3' : decide ((o.us[i].size : Int) > (40 : Int)) = true := decide_eq_true (by omega)
          have he : longU o.us = true := List.any_eq_true.2 ⟨_, List.getElem_mem hlt, decide_eq_true h3⟩
          rw [he] at hK
          try simp (maxSteps := 1000000) only [seval, -Int.reduceToNat, -Int.reduceNatCast, -Int.reduceNatCast', -Nat.reduceSubDiff, T, eqc36, eqc44, eqc49, eqc52, q00, q01, q02, q03, c1, eg, List.length_map, c3, c3']
          apply hK
          simp only [Tryz.results12, retK, ares, Bool.and_true, Bool.true_and, AV.ofResults, St.trunc, q04, q05, List.getD_cons_zero, List.getD_cons_succ, List.take_zero, List.map_nil, true_and, and_true, List.cons.injEq, exists_eq_left']
          try rfl
        · have c3 : decide ((40 : Int) < (o.us[i].size : Int)) = false := decide_eq_false (by omega)
          have c3' : decide ((o.us[i].size : Int) > (40 : Int)) = false := decide_eq_false (by omega)
          try simp (maxSteps := 1000000) only [seval, -Int.reduceToNat, -Int.reduceNatCast, -Int.reduceNatCast', -Nat.reduceSubDiff, T, eqc36, eqc44, eqc49, eqc52, q00, q01, q02, q03, c1, eg, List.length_map, c3, c3', ew]
          simp only [q0v, St.trunc, St.keep, q04, q05, AB.trunc, keepV, List.elem_cons, List.elem_nil, List.take_succ_cons, List.take_zero, List.map_cons, List.map_nil, Nat.reduceAdd, Nat.reduceBEq, Nat.reduceLeDiff, Nat.zero_add, Bool.false_eq_true, ↓reduceIte]
          exact ⟨i + 1, ⟨hlt, by rw [hn, hl, decide_eq_false h3]; rfl⟩, by omega, by first | rfl | simp⟩
      · have hge : i = o.us.length := by have : ¬ ((i : Int) < (o.us.length : Int)) := by simpa using hc
                                         omega
        subst hge
        rw [List.take_length] at hl
        rw [hl] at hK
        try simp (maxSteps := 1000000) only [seval, -Int.reduceToNat, -Int.reduceNatCast, -Int.reduceNatCast', -Nat.reduceSubDiff, T, eqc36, eqc44, eqc49, eqc52, q00, q01, q02, q03, List.length_map]
        apply hK
        simp only [Tryz.results12, retK, ares, Bool.and_self, Bool.and_true, Bool.true_and, AV.ofResults, St.trunc, q04, q05, List.getD_cons_zero, List.getD_cons_succ, List.take_zero, List.map_nil, true_and, and_true, List.cons.injEq, exists_eq_left']
        try rfl
theorem ref_name (u : ByteArray) : PCall P 37 [str u] (fun x => x = bool (nameB u)) := by
  have hn := nameB_iff u
  refine q0u tyOk Tryz.func37 rfl rfl ?_
  intro K hK
  simp only [Tryz.ntmps37, List.length_cons, List.length_nil, Nat.reduceAdd, Nat.reduceSub, List.replicate, List.cons_append, List.nil_append]
  by_cases h1 : u.size = 0
  · have c1 : decide ((0 : Int) < (u.size : Int)) = false := decide_eq_false (by omega)
    have c1' : decide ((u.size : Int) > (0 : Int)) = false := decide_eq_false (by omega)
    have hb : nameB u = false := by cases h : nameB u with | false => rfl | true => exact absurd h1 (hn.1 h).1
    rw [hb] at hK
    try simp (maxSteps := 1000000) only [seval, -Int.reduceToNat, -Int.reduceNatCast, -Int.reduceNatCast', -Nat.reduceSubDiff, T, eqc36, eqc44, eqc49, eqc52, q00, q01, q02, q03, c1, c1']
    apply hK
    simp only [Tryz.results37, retK, ares, List.take_nil, Bool.and_true, Bool.true_and, AV.ofResults, St.trunc, q04, q05, List.getD_cons_zero, List.getD_cons_succ, List.map_nil, true_and, and_true, List.cons.injEq, exists_eq_left']
    try rfl
  · have c1 : decide ((0 : Int) < (u.size : Int)) = true := decide_eq_true (by omega)
    have c1' : decide ((u.size : Int) > (0 : Int)) = true := decide_eq_true (by omega)
    have hb : nameB u = decide ((u.size : Int) < 17) := by
      by_cases h2 : u.size ≤ 16
      · rw [hn.2 ⟨h1, h2⟩, decide_eq_true (by omega)]
      · rw [decide_eq_false (by omega)]
        cases h : nameB u with | false => rfl | true => exact absurd (hn.1 h).2 h2
    rw [hb] at hK
    try simp (maxSteps := 1000000) only [seval, -Int.reduceToNat, -Int.reduceNatCast, -Int.reduceNatCast', -Nat.reduceSubDiff, T, eqc36, eqc44, eqc49, eqc52, q00, q01, q02, q03, c1, c1']
    apply hK
    simp only [Tryz.results37, retK, ares, List.take_nil, Bool.and_true, Bool.true_and, AV.ofResults, St.trunc, q04, q05, List.getD_cons_zero, List.getD_cons_succ, List.map_nil, true_and, and_true, List.cons.injEq, exists_eq_left']
    try rfl
theorem ref_Bad (o : Opb) (hu : o.us.length ≤ 1000) : PCall P 15 [o.av] (fun x => x = bool (badO o)) := by
  have hN := ref_name o.u
  have hlt (a b : Int) : decide (a > b) = decide (b < a) := rfl
  have hge (a b : Int) : decide (a ≥ b) = decide (b ≤ a) := rfl
  have e256 : decide (o.id < 256) = decide (o.id ≤ 255) := by congr 1; exact propext ⟨fun h => by omega, fun h => by omega⟩
  have e10 (a : Int) : decide (a < 10) = decide (a ≤ 9) := by congr 1; exact propext ⟨fun h => by omega, fun h => by omega⟩
  have e0 (a : Int) : decide (0 < a) = decide (1 ≤ a) := by congr 1
  refine q0u tyOk Tryz.func15 rfl rfl ?_
  intro K hK
  simp only [Tryz.ntmps15, List.length_cons, List.length_nil, Nat.reduceAdd, Nat.reduceSub, List.replicate, List.cons_append, List.nil_append]
  unfold badO inB at hK
  obtain ⟨b0, e1⟩ : ∃ b, decide (0 ≤ o.id) = b := ⟨_, rfl⟩
  obtain ⟨b1, e2⟩ : ∃ b, decide (o.id ≤ 255) = b := ⟨_, rfl⟩
  obtain ⟨b2, e3⟩ : ∃ b, decide (1 ≤ o.st) = b := ⟨_, rfl⟩
  obtain ⟨b3, e4⟩ : ∃ b, decide (o.st ≤ 9) = b := ⟨_, rfl⟩
  obtain ⟨b4, e5⟩ : ∃ b, decide (0 ≤ o.pr) = b := ⟨_, rfl⟩
  obtain ⟨b5, e6⟩ : ∃ b, decide (o.pr ≤ 9) = b := ⟨_, rfl⟩
  rw [e1, e2, e3, e4, e5, e6] at hK
  try simp (maxSteps := 1000000) only [seval, -Int.reduceToNat, -Int.reduceNatCast, -Int.reduceNatCast', -Nat.reduceSubDiff, T, eqc36, eqc44, eqc49, eqc52, q00, q01, q02, q03, Opb.av, hge, e256, e1, e2]
  cases b0
  · obtain ⟨tt, htt⟩ : ∃ t, false = t := ⟨_, rfl⟩
    try simp (maxSteps := 1000000) only [seval, -Int.reduceToNat, -Int.reduceNatCast, -Int.reduceNatCast', -Nat.reduceSubDiff, T, eqc36, eqc44, eqc49, eqc52, q00, q01, q02, q03, e256, e2]
    cases h1 : (o.kind == 1)
    · rw [h1, if_neg (by decide)] at hK
      try simp (maxSteps := 1000000) only [seval, -Int.reduceToNat, -Int.reduceNatCast, -Int.reduceNatCast', -Nat.reduceSubDiff, T, eqc36, eqc44, eqc49, eqc52, q00, q01, q02, q03]
      cases h2 : (o.kind == 2)
      · cases h3 : (o.kind == 3)
        · rw [h2, h3, if_neg (by decide)] at hK
          try simp (maxSteps := 1000000) only [seval, -Int.reduceToNat, -Int.reduceNatCast, -Int.reduceNatCast', -Nat.reduceSubDiff, T, eqc36, eqc44, eqc49, eqc52, q00, q01, q02, q03, h3]
          cases h4 : (o.kind == 4)
          · try simp (maxSteps := 1000000) only [seval, -Int.reduceToNat, -Int.reduceNatCast, -Int.reduceNatCast', -Nat.reduceSubDiff, T, eqc36, eqc44, eqc49, eqc52, q00, q01, q02, q03]
            cases h6 : (o.kind == 6)
            · try simp (maxSteps := 1000000) only [seval, -Int.reduceToNat, -Int.reduceNatCast, -Int.reduceNatCast', -Nat.reduceSubDiff, T, eqc36, eqc44, eqc49, eqc52, q00, q01, q02, q03]
              cases h7 : (o.kind == 7)
              · rw [h4, h6, h7, if_neg (by decide)] at hK
                try simp (maxSteps := 1000000) only [seval, -Int.reduceToNat, -Int.reduceNatCast, -Int.reduceNatCast', -Nat.reduceSubDiff, T, eqc36, eqc44, eqc49, eqc52, q00, q01, q02, q03, h7]
                cases h5 : (o.kind == 5)
                · rw [h5, if_neg (by decide)] at hK
                  try simp (maxSteps := 1000000) only [seval, -Int.reduceToNat, -Int.reduceNatCast, -Int.reduceNatCast', -Nat.reduceSubDiff, T, eqc36, eqc44, eqc49, eqc52, q00, q01, q02, q03, bne]
                  cases h8 : (o.kind == 8)
                  · rw [h8] at hK
                    try simp (maxSteps := 1000000) only [seval, -Int.reduceToNat, -Int.reduceNatCast, -Int.reduceNatCast', -Nat.reduceSubDiff, T, eqc36, eqc44, eqc49, eqc52, q00, q01, q02, q03, h8, bne]
                    apply hK
                    simp only [Tryz.results15, retK, ares, Bool.and_true, Bool.true_and, AV.ofResults, St.trunc, q04, q05, List.getD_cons_zero, List.getD_cons_succ, List.take_zero, List.map_nil, true_and, and_true, List.cons.injEq, exists_eq_left']
                    try rfl
                  · rw [h8] at hK
                    try simp (maxSteps := 1000000) only [seval, -Int.reduceToNat, -Int.reduceNatCast, -Int.reduceNatCast', -Nat.reduceSubDiff, T, eqc36, eqc44, eqc49, eqc52, q00, q01, q02, q03, h8, bne]
                    apply hK
                    simp only [Tryz.results15, retK, ares, Bool.and_true, Bool.true_and, AV.ofResults, St.trunc, q04, q05, List.getD_cons_zero, List.getD_cons_succ, List.take_zero, List.map_nil, true_and, and_true, List.cons.injEq, exists_eq_left']
                    try rfl
                · rw [h5, if_pos rfl] at hK
                  try simp (maxSteps := 1000000) only [seval, -Int.reduceToNat, -Int.reduceNatCast, -Int.reduceNatCast', -Nat.reduceSubDiff, T, eqc36, eqc44, eqc49, eqc52, q00, q01, q02, q03, List.length_map]
                  have el : decide ((o.us.length : Int) < 1) = !decide ((1 : Int) ≤ o.us.length) := by
                    by_cases h : (1 : Int) ≤ o.us.length
                    · rw [decide_eq_true h, decide_eq_false (by omega)]; rfl
                    · rw [decide_eq_false h, decide_eq_true (by omega)]; rfl
                  have el8 : decide ((8 : Int) < (o.us.length : Int)) = !decide ((o.us.length : Int) ≤ 8) := by
                    by_cases h : (o.us.length : Int) ≤ 8
                    · rw [decide_eq_true h, decide_eq_false (by omega)]; rfl
                    · rw [decide_eq_false h, decide_eq_true (by omega)]; rfl
                  have el8' : decide ((o.us.length : Int) > (8 : Int)) = !decide ((o.us.length : Int) ≤ 8) := el8
                  rw [el]
                  obtain ⟨d1, hd1⟩ : ∃ b, decide ((1 : Int) ≤ o.us.length) = b := ⟨_, rfl⟩
                  obtain ⟨d8, hd8⟩ : ∃ b, decide ((o.us.length : Int) ≤ 8) = b := ⟨_, rfl⟩
                  rw [hd1]
                  rw [hd1, hd8] at hK
                  rw [hd8] at el8 el8'
                  obtain ⟨bl, hbl⟩ : ∃ b, (!d1 || !d8) = b := ⟨_, rfl⟩
                  have hlen : bl = !(d1 && d8) := by rw [← hbl]; cases d1 <;> rfl
                  cases d1
                  · try simp (maxSteps := 1000000) only [seval, -Int.reduceToNat, -Int.reduceNatCast, -Int.reduceNatCast', -Nat.reduceSubDiff, T, eqc36, eqc44, eqc49, eqc52, q00, q01, q02, q03, List.length_map]
                    refine q1r tyOk (α := Nat) 1 [1, 3, 4, 5] (fun i => i ≤ o.us.length)
                      (fun i => ⟨[.any, .ptr 0 0, .any, bool tt, bool (bl || badN (o.us.take i)), i64 i, .any, .any, .any, .any, .any, .any, .any, .any, .any, .any, .any, .any, .any, .any, .any, .any, .any, .any, .any, .any, .any, .any, .any, .any, .any, .any, .any, .any, .any, .any, .any, .any, .any, .any, .any, .any, .any, .any, .any, .any, .any, .any, .any, .any, .any, .any, .any, .any, .any, .any, .any, .any, .any, .any, .any, .any, .any, .any, .any, .any, .any, .any, .any, .any, .any, .any, .any, .any, .any, .any, .any, .any, .any, .any, .any, .any, .any, .any, .any, .any, .any, .any, .any, .any, .any, .any, .any, .any, .any, .any, .any, .any, .any, .any, .any, .any, .any, .any, .any, .any, .any, .any, .any, .any, .any, .any, .any, .any, .any], [.box [i64 o.kind, str o.u, i64 o.id, i64 o.st, i64 o.pr, u64 o.ttl, .sl 1 (o.us.map fun x => str x)]]⟩)
                      (fun i => o.us.length - i) 0 (Nat.zero_le _) (Nat.zero_le _) (by rw [List.take_zero, show badN [] = false from rfl, Bool.or_false]; subst hbl; subst htt; rfl) ?_
                    intro i hi
                    try simp (maxSteps := 1000000) only [seval, -Int.reduceToNat, -Int.reduceNatCast, -Int.reduceNatCast', -Nat.reduceSubDiff, T, eqc36, eqc44, eqc49, eqc52, q00, q01, q02, q03, List.length_map]
                    (first | refine q0a ?_ ?_ | refine q0g ?_ ?_ | refine q0h ?_ ?_ | refine q0i ?_ ?_ | refine q0b ?_ ?_) <;> intro hc
                    · have hlt : i < o.us.length := by simpa using hc
                      have c1 : (0 : Int) ≤ (i : Int) ∧ Int.toNat (i : Int) < o.us.length := by omega
                      have eg : (o.us.map fun x => str x).getD (Int.toNat (i : Int)) .any = str o.us[i] := by
                        simp [List.getD_eq_getElem?_getD, hlt]
                      have ew : IntKind.i64.wrap ((i : Int) + 1) = ((i + 1 : Nat) : Int) := by rw [wrap_i64 (by omega) (by omega)]; rfl
                      have hn := bad_next hlt
                      obtain ⟨bb, hbb⟩ : ∃ b, (bl || badN (o.us.take i)) = b := ⟨_, rfl⟩
                      rw [hbb]
                      cases bb
                      · try simp (maxSteps := 1000000) only [seval, -Int.reduceToNat, -Int.reduceNatCast, -Int.reduceNatCast', -Nat.reduceSubDiff, T, eqc36, eqc44, eqc49, eqc52, q00, q01, q02, q03, c1, eg, List.length_map]
                        (refine q06 (ref_name o.us[i]) rfl ?_; rintro _ rfl)
                        try simp (maxSteps := 1000000) only [seval, -Int.reduceToNat, -Int.reduceNatCast, -Int.reduceNatCast', -Nat.reduceSubDiff, T, eqc36, eqc44, eqc49, eqc52, q00, q01, q02, q03, ew]
                        simp only [q0v, St.trunc, St.keep, q04, q05, AB.trunc, keepV, List.elem_cons, List.elem_nil, List.take_succ_cons, List.take_zero, List.map_cons, List.map_nil, Nat.reduceAdd, Nat.reduceBEq, Nat.reduceLeDiff, Nat.zero_add, Bool.false_eq_true, ↓reduceIte]
                        exact ⟨i + 1, hlt, by omega, by rw [hn, ← Bool.or_assoc, hbb, Bool.false_or] <;> rfl⟩
                      · try simp (maxSteps := 1000000) only [seval, -Int.reduceToNat, -Int.reduceNatCast, -Int.reduceNatCast', -Nat.reduceSubDiff, T, eqc36, eqc44, eqc49, eqc52, q00, q01, q02, q03, ew]
                        simp only [q0v, St.trunc, St.keep, q04, q05, AB.trunc, keepV, List.elem_cons, List.elem_nil, List.take_succ_cons, List.take_zero, List.map_cons, List.map_nil, Nat.reduceAdd, Nat.reduceBEq, Nat.reduceLeDiff, Nat.zero_add, Bool.false_eq_true, ↓reduceIte]
                        exact ⟨i + 1, hlt, by omega, by rw [hn, ← Bool.or_assoc, hbb, Bool.true_or] <;> rfl⟩
                    · have hge : i = o.us.length := by have : ¬ ((i : Int) < (o.us.length : Int)) := by simpa using hc
                                                       omega
                      subst hge
                      rw [List.take_length]
                      try simp (maxSteps := 1000000) only [seval, -Int.reduceToNat, -Int.reduceNatCast, -Int.reduceNatCast', -Nat.reduceSubDiff, T, eqc36, eqc44, eqc49, eqc52, q00, q01, q02, q03]
                      apply hK
                      simp only [Tryz.results15, retK, ares, Bool.and_true, Bool.true_and, AV.ofResults, St.trunc, q04, q05, List.getD_cons_zero, List.getD_cons_succ, List.take_zero, List.map_nil, true_and, and_true, List.cons.injEq, exists_eq_left']
                      rw [Bool.or_comm, hlen]
                      try rfl
                  · try simp (maxSteps := 1000000) only [seval, -Int.reduceToNat, -Int.reduceNatCast, -Int.reduceNatCast', -Nat.reduceSubDiff, T, eqc36, eqc44, eqc49, eqc52, q00, q01, q02, q03, List.length_map, el8, el8']
                    refine q1r tyOk (α := Nat) 1 [1, 3, 4, 5] (fun i => i ≤ o.us.length)
                      (fun i => ⟨[.any, .ptr 0 0, .any, bool tt, bool (bl || badN (o.us.take i)), i64 i, .any, .any, .any, .any, .any, .any, .any, .any, .any, .any, .any, .any, .any, .any, .any, .any, .any, .any, .any, .any, .any, .any, .any, .any, .any, .any, .any, .any, .any, .any, .any, .any, .any, .any, .any, .any, .any, .any, .any, .any, .any, .any, .any, .any, .any, .any, .any, .any, .any, .any, .any, .any, .any, .any, .any, .any, .any, .any, .any, .any, .any, .any, .any, .any, .any, .any, .any, .any, .any, .any, .any, .any, .any, .any, .any, .any, .any, .any, .any, .any, .any, .any, .any, .any, .any, .any, .any, .any, .any, .any, .any, .any, .any, .any, .any, .any, .any, .any, .any, .any, .any, .any, .any, .any, .any, .any, .any, .any, .any], [.box [i64 o.kind, str o.u, i64 o.id, i64 o.st, i64 o.pr, u64 o.ttl, .sl 1 (o.us.map fun x => str x)]]⟩)
                      (fun i => o.us.length - i) 0 (Nat.zero_le _) (Nat.zero_le _) (by rw [List.take_zero, show badN [] = false from rfl, Bool.or_false]; subst hbl; subst htt; rfl) ?_
                    intro i hi
                    try simp (maxSteps := 1000000) only [seval, -Int.reduceToNat, -Int.reduceNatCast, -Int.reduceNatCast', -Nat.reduceSubDiff, T, eqc36, eqc44, eqc49, eqc52, q00, q01, q02, q03, List.length_map]
                    (first | refine q0a ?_ ?_ | refine q0g ?_ ?_ | refine q0h ?_ ?_ | refine q0i ?_ ?_ | refine q0b ?_ ?_) <;> intro hc
                    · have hlt : i < o.us.length := by simpa using hc
                      have c1 : (0 : Int) ≤ (i : Int) ∧ Int.toNat (i : Int) < o.us.length := by omega
                      have eg : (o.us.map fun x => str x).getD (Int.toNat (i : Int)) .any = str o.us[i] := by
                        simp [List.getD_eq_getElem?_getD, hlt]
                      have ew : IntKind.i64.wrap ((i : Int) + 1) = ((i + 1 : Nat) : Int) := by rw [wrap_i64 (by omega) (by omega)]; rfl
                      have hn := bad_next hlt
                      obtain ⟨bb, hbb⟩ : ∃ b, (bl || badN (o.us.take i)) = b := ⟨_, rfl⟩
                      rw [hbb]
                      cases bb
                      · try simp (maxSteps := 1000000) only [seval, -Int.reduceToNat, -Int.reduceNatCast, -Int.reduceNatCast', -Nat.reduceSubDiff, T, eqc36, eqc44, eqc49, eqc52, q00, q01, q02, q03, c1, eg, List.length_map]
                        (refine q06 (ref_name o.us[i]) rfl ?_; rintro _ rfl)
                        try simp (maxSteps := 1000000) only [seval, -Int.reduceToNat, -Int.reduceNatCast, -Int.reduceNatCast', -Nat.reduceSubDiff, T, eqc36, eqc44, eqc49, eqc52, q00, q01, q02, q03, ew]
                        simp only [q0v, St.trunc, St.keep, q04, q05, AB.trunc, keepV, List.elem_cons, List.elem_nil, List.take_succ_cons, List.take_zero, List.map_cons, List.map_nil, Nat.reduceAdd, Nat.reduceBEq, Nat.reduceLeDiff, Nat.zero_add, Bool.false_eq_true, ↓reduceIte]
                        exact ⟨i + 1, hlt, by omega, by rw [hn, ← Bool.or_assoc, hbb, Bool.false_or] <;> rfl⟩
                      · try simp (maxSteps := 1000000) only [seval, -Int.reduceToNat, -Int.reduceNatCast, -Int.reduceNatCast', -Nat.reduceSubDiff, T, eqc36, eqc44, eqc49, eqc52, q00, q01, q02, q03, ew]
                        simp only [q0v, St.trunc, St.keep, q04, q05, AB.trunc, keepV, List.elem_cons, List.elem_nil, List.take_succ_cons, List.take_zero, List.map_cons, List.map_nil, Nat.reduceAdd, Nat.reduceBEq, Nat.reduceLeDiff, Nat.zero_add, Bool.false_eq_true, ↓reduceIte]
                        exact ⟨i + 1, hlt, by omega, by rw [hn, ← Bool.or_assoc, hbb, Bool.true_or] <;> rfl⟩
                    · have hge : i = o.us.length := by have : ¬ ((i : Int) < (o.us.length : Int)) := by simpa using hc
                                                       omega
                      subst hge
                      rw [List.take_length]
                      try simp (maxSteps := 1000000) only [seval, -Int.reduceToNat, -Int.reduceNatCast, -Int.reduceNatCast', -Nat.reduceSubDiff, T, eqc36, eqc44, eqc49, eqc52, q00, q01, q02, q03]
                      apply hK
                      simp only [Tryz.results15, retK, ares, Bool.and_true, Bool.true_and, AV.ofResults, St.trunc, q04, q05, List.getD_cons_zero, List.getD_cons_succ, List.take_zero, List.map_nil, true_and, and_true, List.cons.injEq, exists_eq_left']
                      rw [Bool.or_comm, hlen]
                      try rfl
              · rw [h4, h6, h7, if_pos (by rfl)] at hK
                try simp (maxSteps := 1000000) only [seval, -Int.reduceToNat, -Int.reduceNatCast, -Int.reduceNatCast', -Nat.reduceSubDiff, T, eqc36, eqc44, eqc49, eqc52, q00, q01, q02, q03, h7]
                (refine q06 hN rfl ?_; rintro _ rfl)
                try simp (maxSteps := 1000000) only [seval, -Int.reduceToNat, -Int.reduceNatCast, -Int.reduceNatCast', -Nat.reduceSubDiff, T, eqc36, eqc44, eqc49, eqc52, q00, q01, q02, q03]
                apply hK
                simp only [Tryz.results15, retK, ares, Bool.and_true, Bool.true_and, AV.ofResults, St.trunc, q04, q05, List.getD_cons_zero, List.getD_cons_succ, List.take_zero, List.map_nil, true_and, and_true, List.cons.injEq, exists_eq_left']
                try rfl
            · rw [h4, h6, if_pos (by rfl)] at hK
              try simp (maxSteps := 1000000) only [seval, -Int.reduceToNat, -Int.reduceNatCast, -Int.reduceNatCast', -Nat.reduceSubDiff, T, eqc36, eqc44, eqc49, eqc52, q00, q01, q02, q03, h6]
              (refine q06 hN rfl ?_; rintro _ rfl)
              try simp (maxSteps := 1000000) only [seval, -Int.reduceToNat, -Int.reduceNatCast, -Int.reduceNatCast', -Nat.reduceSubDiff, T, eqc36, eqc44, eqc49, eqc52, q00, q01, q02, q03]
              apply hK
              simp only [Tryz.results15, retK, ares, Bool.and_true, Bool.true_and, AV.ofResults, St.trunc, q04, q05, List.getD_cons_zero, List.getD_cons_succ, List.take_zero, List.map_nil, true_and, and_true, List.cons.injEq, exists_eq_left']
              try rfl
          · rw [h4, if_pos (by rfl)] at hK
            try simp (maxSteps := 1000000) only [seval, -Int.reduceToNat, -Int.reduceNatCast, -Int.reduceNatCast', -Nat.reduceSubDiff, T, eqc36, eqc44, eqc49, eqc52, q00, q01, q02, q03]
            (refine q06 hN rfl ?_; rintro _ rfl)
            try simp (maxSteps := 1000000) only [seval, -Int.reduceToNat, -Int.reduceNatCast, -Int.reduceNatCast', -Nat.reduceSubDiff, T, eqc36, eqc44, eqc49, eqc52, q00, q01, q02, q03]
            apply hK
            simp only [Tryz.results15, retK, ares, Bool.and_true, Bool.true_and, AV.ofResults, St.trunc, q04, q05, List.getD_cons_zero, List.getD_cons_succ, List.take_zero, List.map_nil, true_and, and_true, List.cons.injEq, exists_eq_left']
            try rfl
        · rw [h2, h3, if_pos (by rfl)] at hK
          try simp (maxSteps := 1000000) only [seval, -Int.reduceToNat, -Int.reduceNatCast, -Int.reduceNatCast', -Nat.reduceSubDiff, T, eqc36, eqc44, eqc49, eqc52, q00, q01, q02, q03, h3]
          (refine q06 hN rfl ?_; rintro _ rfl)
          try simp (maxSteps := 1000000) only [seval, -Int.reduceToNat, -Int.reduceNatCast, -Int.reduceNatCast', -Nat.reduceSubDiff, T, eqc36, eqc44, eqc49, eqc52, q00, q01, q02, q03]
          cases hb : nameB o.u
          · rw [hb] at hK
            try simp (maxSteps := 1000000) only [seval, -Int.reduceToNat, -Int.reduceNatCast, -Int.reduceNatCast', -Nat.reduceSubDiff, T, eqc36, eqc44, eqc49, eqc52, q00, q01, q02, q03]
            apply hK
            simp only [Tryz.results15, retK, ares, Bool.and_true, Bool.true_and, AV.ofResults, St.trunc, q04, q05, List.getD_cons_zero, List.getD_cons_succ, List.take_zero, List.map_nil, true_and, and_true, List.cons.injEq, exists_eq_left']
            try rfl
          · rw [hb] at hK
            try simp (maxSteps := 1000000) only [seval, -Int.reduceToNat, -Int.reduceNatCast, -Int.reduceNatCast', -Nat.reduceSubDiff, T, eqc36, eqc44, eqc49, eqc52, q00, q01, q02, q03]
            apply hK
            simp only [Tryz.results15, retK, ares, Bool.and_true, Bool.true_and, AV.ofResults, St.trunc, q04, q05, List.getD_cons_zero, List.getD_cons_succ, List.take_zero, List.map_nil, true_and, and_true, List.cons.injEq, exists_eq_left']
            try rfl
      · rw [h2, if_pos (by rfl)] at hK
        try simp (maxSteps := 1000000) only [seval, -Int.reduceToNat, -Int.reduceNatCast, -Int.reduceNatCast', -Nat.reduceSubDiff, T, eqc36, eqc44, eqc49, eqc52, q00, q01, q02, q03]
        (refine q06 hN rfl ?_; rintro _ rfl)
        try simp (maxSteps := 1000000) only [seval, -Int.reduceToNat, -Int.reduceNatCast, -Int.reduceNatCast', -Nat.reduceSubDiff, T, eqc36, eqc44, eqc49, eqc52, q00, q01, q02, q03]
        cases hb : nameB o.u
        · rw [hb] at hK
          try simp (maxSteps := 1000000) only [seval, -Int.reduceToNat, -Int.reduceNatCast, -Int.reduceNatCast', -Nat.reduceSubDiff, T, eqc36, eqc44, eqc49, eqc52, q00, q01, q02, q03]
          apply hK
          simp only [Tryz.results15, retK, ares, Bool.and_true, Bool.true_and, AV.ofResults, St.trunc, q04, q05, List.getD_cons_zero, List.getD_cons_succ, List.take_zero, List.map_nil, true_and, and_true, List.cons.injEq, exists_eq_left']
          try rfl
        · rw [hb] at hK
          try simp (maxSteps := 1000000) only [seval, -Int.reduceToNat, -Int.reduceNatCast, -Int.reduceNatCast', -Nat.reduceSubDiff, T, eqc36, eqc44, eqc49, eqc52, q00, q01, q02, q03]
          apply hK
          simp only [Tryz.results15, retK, ares, Bool.and_true, Bool.true_and, AV.ofResults, St.trunc, q04, q05, List.getD_cons_zero, List.getD_cons_succ, List.take_zero, List.map_nil, true_and, and_true, List.cons.injEq, exists_eq_left']
          try rfl
    · rw [h1, if_pos rfl] at hK
      try simp (maxSteps := 1000000) only [seval, -Int.reduceToNat, -Int.reduceNatCast, -Int.reduceNatCast', -Nat.reduceSubDiff, T, eqc36, eqc44, eqc49, eqc52, q00, q01, q02, q03]
      (refine q06 hN rfl ?_; rintro _ rfl)
      try simp (maxSteps := 1000000) only [seval, -Int.reduceToNat, -Int.reduceNatCast, -Int.reduceNatCast', -Nat.reduceSubDiff, T, eqc36, eqc44, eqc49, eqc52, q00, q01, q02, q03]
      cases hb : nameB o.u
      · rw [hb] at hK
        try simp (maxSteps := 1000000) only [seval, -Int.reduceToNat, -Int.reduceNatCast, -Int.reduceNatCast', -Nat.reduceSubDiff, T, eqc36, eqc44, eqc49, eqc52, q00, q01, q02, q03]
        apply hK
        simp only [Tryz.results15, retK, ares, Bool.and_true, Bool.true_and, AV.ofResults, St.trunc, q04, q05, List.getD_cons_zero, List.getD_cons_succ, List.take_zero, List.map_nil, true_and, and_true, List.cons.injEq, exists_eq_left']
        try rfl
      · rw [hb] at hK
        try simp (maxSteps := 1000000) only [seval, -Int.reduceToNat, -Int.reduceNatCast, -Int.reduceNatCast', -Nat.reduceSubDiff, T, eqc36, eqc44, eqc49, eqc52, q00, q01, q02, q03, hlt, hge, e10, e0, e3, e4, e5, e6]
        apply hK
        simp only [Tryz.results15, retK, ares, Bool.and_true, Bool.true_and, AV.ofResults, St.trunc, q04, q05, List.getD_cons_zero, List.getD_cons_succ, List.take_zero, List.map_nil, true_and, and_true, List.cons.injEq, exists_eq_left']
        try rfl
  · obtain ⟨tt, htt⟩ : ∃ t, b1 = t := ⟨_, rfl⟩
    try simp (maxSteps := 1000000) only [seval, -Int.reduceToNat, -Int.reduceNatCast, -Int.reduceNatCast', -Nat.reduceSubDiff, T, eqc36, eqc44, eqc49, eqc52, q00, q01, q02, q03, e256, e2]
    cases h1 : (o.kind == 1)
    · rw [h1, if_neg (by decide)] at hK
      try simp (maxSteps := 1000000) only [seval, -Int.reduceToNat, -Int.reduceNatCast, -Int.reduceNatCast', -Nat.reduceSubDiff, T, eqc36, eqc44, eqc49, eqc52, q00, q01, q02, q03]
      cases h2 : (o.kind == 2)
      · cases h3 : (o.kind == 3)
        · rw [h2, h3, if_neg (by decide)] at hK
          try simp (maxSteps := 1000000) only [seval, -Int.reduceToNat, -Int.reduceNatCast, -Int.reduceNatCast', -Nat.reduceSubDiff, T, eqc36, eqc44, eqc49, eqc52, q00, q01, q02, q03, h3]
          cases h4 : (o.kind == 4)
          · try simp (maxSteps := 1000000) only [seval, -Int.reduceToNat, -Int.reduceNatCast, -Int.reduceNatCast', -Nat.reduceSubDiff, T, eqc36, eqc44, eqc49, eqc52, q00, q01, q02, q03]
            cases h6 : (o.kind == 6)
            · try simp (maxSteps := 1000000) only [seval, -Int.reduceToNat, -Int.reduceNatCast, -Int.reduceNatCast', -Nat.reduceSubDiff, T, eqc36, eqc44, eqc49, eqc52, q00, q01, q02, q03]
              cases h7 : (o.kind == 7)
              · rw [h4, h6, h7, if_neg (by decide)] at hK
                try simp (maxSteps := 1000000) only [seval, -Int.reduceToNat, -Int.reduceNatCast, -Int.reduceNatCast', -Nat.reduceSubDiff, T, eqc36, eqc44, eqc49, eqc52, q00, q01, q02, q03, h7]
                cases h5 : (o.kind == 5)
                · rw [h5, if_neg (by decide)] at hK
                  try simp (maxSteps := 1000000) only [seval, -Int.reduceToNat, -Int.reduceNatCast, -Int.reduceNatCast', -Nat.reduceSubDiff, T, eqc36, eqc44, eqc49, eqc52, q00, q01, q02, q03, bne]
                  cases h8 : (o.kind == 8)
                  · rw [h8] at hK
                    try simp (maxSteps := 1000000) only [seval, -Int.reduceToNat, -Int.reduceNatCast, -Int.reduceNatCast', -Nat.reduceSubDiff, T, eqc36, eqc44, eqc49, eqc52, q00, q01, q02, q03, h8, bne]
                    apply hK
                    simp only [Tryz.results15, retK, ares, Bool.and_true, Bool.true_and, AV.ofResults, St.trunc, q04, q05, List.getD_cons_zero, List.getD_cons_succ, List.take_zero, List.map_nil, true_and, and_true, List.cons.injEq, exists_eq_left']
                    try rfl
                  · rw [h8] at hK
                    try simp (maxSteps := 1000000) only [seval, -Int.reduceToNat, -Int.reduceNatCast, -Int.reduceNatCast', -Nat.reduceSubDiff, T, eqc36, eqc44, eqc49, eqc52, q00, q01, q02, q03, h8, bne]
                    apply hK
                    simp only [Tryz.results15, retK, ares, Bool.and_true, Bool.true_and, AV.ofResults, St.trunc, q04, q05, List.getD_cons_zero, List.getD_cons_succ, List.take_zero, List.map_nil, true_and, and_true, List.cons.injEq, exists_eq_left']
                    try rfl
                · rw [h5, if_pos rfl] at hK
                  try simp (maxSteps := 1000000) only [seval, -Int.reduceToNat, -Int.reduceNatCast, -Int.reduceNatCast', -Nat.reduceSubDiff, T, eqc36, eqc44, eqc49, eqc52, q00, q01, q02, q03, List.length_map]
                  have el : decide ((o.us.length : Int) < 1) = !decide ((1 : Int) ≤ o.us.length) := by
                    by_cases h : (1 : Int) ≤ o.us.length
                    · rw [decide_eq_true h, decide_eq_false (by omega)]; rfl
                    · rw [decide_eq_false h, decide_eq_true (by omega)]; rfl
                  have el8 : decide ((8 : Int) < (o.us.length : Int)) = !decide ((o.us.length : Int) ≤ 8) := by
                    by_cases h : (o.us.length : Int) ≤ 8
                    · rw [decide_eq_true h, decide_eq_false (by omega)]; rfl
                    · rw [decide_eq_false h, decide_eq_true (by omega)]; rfl
                  have el8' : decide ((o.us.length : Int) > (8 : Int)) = !decide ((o.us.length : Int) ≤ 8) := el8
                  rw [el]
                  obtain ⟨d1, hd1⟩ : ∃ b, decide ((1 : Int) ≤ o.us.length) = b := ⟨_, rfl⟩
                  obtain ⟨d8, hd8⟩ : ∃ b, decide ((o.us.length : Int) ≤ 8) = b := ⟨_, rfl⟩
                  rw [hd1]
                  rw [hd1, hd8] at hK
                  rw [hd8] at el8 el8'
                  obtain ⟨bl, hbl⟩ : ∃ b, (!d1 || !d8) = b := ⟨_, rfl⟩
                  have hlen : bl = !(d1 && d8) := by rw [← hbl]; cases d1 <;> rfl
                  cases d1
                  · try simp (maxSteps := 1000000) only [seval, -Int.reduceToNat, -Int.reduceNatCast, -Int.reduceNatCast', -Nat.reduceSubDiff, T, eqc36, eqc44, eqc49, eqc52, q00, q01, q02, q03, List.length_map]
                    refine q1r tyOk (α := Nat) 1 [1, 3, 4, 5] (fun i => i ≤ o.us.length)
                      (fun i => ⟨[.any, .ptr 0 0, .any, bool tt, bool (bl || badN (o.us.take i)), i64 i, .any, .any, .any, .any, .any, .any, .any, .any, .any, .any, .any, .any, .any, .any, .any, .any, .any, .any, .any, .any, .any, .any, .any, .any, .any, .any, .any, .any, .any, .any, .any, .any, .any, .any, .any, .any, .any, .any, .any, .any, .any, .any, .any, .any, .any, .any, .any, .any, .any, .any, .any, .any, .any, .any, .any, .any, .any, .any, .any, .any, .any, .any, .any, .any, .any, .any, .any, .any, .any, .any, .any, .any, .any, .any, .any, .any, .any, .any, .any, .any, .any, .any, .any, .any, .any, .any, .any, .any, .any, .any, .any, .any, .any, .any, .any, .any, .any, .any, .any, .any, .any, .any, .any, .any, .any, .any, .any, .any, .any], [.box [i64 o.kind, str o.u, i64 o.id, i64 o.st, i64 o.pr, u64 o.ttl, .sl 1 (o.us.map fun x => str x)]]⟩)
                      (fun i => o.us.length - i) 0 (Nat.zero_le _) (Nat.zero_le _) (by rw [List.take_zero, show badN [] = false from rfl, Bool.or_false]; subst hbl; subst htt; rfl) ?_
                    intro i hi
                    try simp (maxSteps := 1000000) only [seval, -Int.reduceToNat, -Int.reduceNatCast, -Int.reduceNatCast', -Nat.reduceSubDiff, T, eqc36, eqc44, eqc49, eqc52, q00, q01, q02, q03, List.length_map]
                    (first | refine q0a ?_ ?_ | refine q0g ?_ ?_ | refine q0h ?_ ?_ | refine q0i ?_ ?_ | refine q0b ?_ ?_) <;> intro hc
                    · have hlt : i < o.us.length := by simpa using hc
                      have c1 : (0 : Int) ≤ (i : Int) ∧ Int.toNat (i : Int) < o.us.length := by omega
                      have eg : (o.us.map fun x => str x).getD (Int.toNat (i : Int)) .any = str o.us[i] := by
                        simp [List.getD_eq_getElem?_getD, hlt]
                      have ew : IntKind.i64.wrap ((i : Int) + 1) = ((i + 1 : Nat) : Int) := by rw [wrap_i64 (by omega) (by omega)]; rfl
                      have hn := bad_next hlt
                      obtain ⟨bb, hbb⟩ : ∃ b, (bl || badN (o.us.take i)) = b := ⟨_, rfl⟩
                      rw [hbb]
                      cases bb
                      · try simp (maxSteps := 1000000) only [seval, -Int.reduceToNat, -Int.reduceNatCast, -Int.reduceNatCast', -Nat.reduceSubDiff, T, eqc36, eqc44, eqc49, eqc52, q00, q01, q02, q03, c1, eg, List.length_map]
                        (refine q06 (ref_name o.us[i]) rfl ?_; rintro _ rfl)
                        try simp (maxSteps := 1000000) only [seval, -Int.reduceToNat, -Int.reduceNatCast, -Int.reduceNatCast', -Nat.reduceSubDiff, T, eqc36, eqc44, eqc49, eqc52, q00, q01, q02, q03, ew]
                        simp only [q0v, St.trunc, St.keep, q04, q05, AB.trunc, keepV, List.elem_cons, List.elem_nil, List.take_succ_cons, List.take_zero, List.map_cons, List.map_nil, Nat.reduceAdd, Nat.reduceBEq, Nat.reduceLeDiff, Nat.zero_add, Bool.false_eq_true, ↓reduceIte]
                        exact ⟨i + 1, hlt, by omega, by rw [hn, ← Bool.or_assoc, hbb, Bool.false_or] <;> rfl⟩
                      · try simp (maxSteps := 1000000) only [seval, -Int.reduceToNat, -Int.reduceNatCast, -Int.reduceNatCast', -Nat.reduceSubDiff, T, eqc36, eqc44, eqc49, eqc52, q00, q01, q02, q03, ew]
                        simp only [q0v, St.trunc, St.keep, q04, q05, AB.trunc, keepV, List.elem_cons, List.elem_nil, List.take_succ_cons, List.take_zero, List.map_cons, List.map_nil, Nat.reduceAdd, Nat.reduceBEq, Nat.reduceLeDiff, Nat.zero_add, Bool.false_eq_true, ↓reduceIte]
                        exact ⟨i + 1, hlt, by omega, by rw [hn, ← Bool.or_assoc, hbb, Bool.true_or] <;> rfl⟩
                    · have hge : i = o.us.length := by have : ¬ ((i : Int) < (o.us.length : Int)) := by simpa using hc
                                                       omega
                      subst hge
                      rw [List.take_length]
                      try simp (maxSteps := 1000000) only [seval, -Int.reduceToNat, -Int.reduceNatCast, -Int.reduceNatCast', -Nat.reduceSubDiff, T, eqc36, eqc44, eqc49, eqc52, q00, q01, q02, q03]
                      apply hK
                      simp only [Tryz.results15, retK, ares, Bool.and_true, Bool.true_and, AV.ofResults, St.trunc, q04, q05, List.getD_cons_zero, List.getD_cons_succ, List.take_zero, List.map_nil, true_and, and_true, List.cons.injEq, exists_eq_left']
                      rw [Bool.or_comm, hlen]
                      try rfl
                  · try simp (maxSteps := 1000000) only [seval, -Int.reduceToNat, -Int.reduceNatCast, -Int.reduceNatCast', -Nat.reduceSubDiff, T, eqc36, eqc44, eqc49, eqc52, q00, q01, q02, q03, List.length_map, el8, el8']
                    refine q1r tyOk (α := Nat) 1 [1, 3, 4, 5] (fun i => i ≤ o.us.length)
                      (fun i => ⟨[.any, .ptr 0 0, .any, bool tt, bool (bl || badN (o.us.take i)), i64 i, .any, .any, .any, .any, .any, .any, .any, .any, .any, .any, .any, .any, .any, .any, .any, .any, .any, .any, .any, .any, .any, .any, .any, .any, .any, .any, .any, .any, .any, .any, .any, .any, .any, .any, .any, .any, .any, .any, .any, .any, .any, .any, .any, .any, .any, .any, .any, .any, .any, .any, .any, .any, .any, .any, .any, .any, .any, .any, .any, .any, .any, .any, .any, .any, .any, .any, .any, .any, .any, .any, .any, .any, .any, .any, .any, .any, .any, .any, .any, .any, .any, .any, .any, .any, .any, .any, .any, .any, .any, .any, .any, .any, .any, .any, .any, .any, .any, .any, .any, .any, .any, .any, .any, .any, .any, .any, .any, .any, .any], [.box [i64 o.kind, str o.u, i64 o.id, i64 o.st, i64 o.pr, u64 o.ttl, .sl 1 (o.us.map fun x => str x)]]⟩)
                      (fun i => o.us.length - i) 0 (Nat.zero_le _) (Nat.zero_le _) (by rw [List.take_zero, show badN [] = false from rfl, Bool.or_false]; subst hbl; subst htt; rfl) ?_
                    intro i hi
                    try simp (maxSteps := 1000000) only [seval, -Int.reduceToNat, -Int.reduceNatCast, -Int.reduceNatCast', -Nat.reduceSubDiff, T, eqc36, eqc44, eqc49, eqc52, q00, q01, q02, q03, List.length_map]
                    (first | refine q0a ?_ ?_ | refine q0g ?_ ?_ | refine q0h ?_ ?_ | refine q0i ?_ ?_ | refine q0b ?_ ?_) <;> intro hc
                    · have hlt : i < o.us.length := by simpa using hc
                      have c1 : (0 : Int) ≤ (i : Int) ∧ Int.toNat (i : Int) < o.us.length := by omega
                      have eg : (o.us.map fun x => str x).getD (Int.toNat (i : Int)) .any = str o.us[i] := by
                        simp [List.getD_eq_getElem?_getD, hlt]
                      have ew : IntKind.i64.wrap ((i : Int) + 1) = ((i + 1 : Nat) : Int) := by rw [wrap_i64 (by omega) (by omega)]; rfl
                      have hn := bad_next hlt
                      obtain ⟨bb, hbb⟩ : ∃ b, (bl || badN (o.us.take i)) = b := ⟨_, rfl⟩
                      rw [hbb]
                      cases bb
                      · try simp (maxSteps := 1000000) only [seval, -Int.reduceToNat, -Int.reduceNatCast, -Int.reduceNatCast', -Nat.reduceSubDiff, T, eqc36, eqc44, eqc49, eqc52, q00, q01, q02, q03, c1, eg, List.length_map]
                        (refine q06 (ref_name o.us[i]) rfl ?_; rintro _ rfl)
                        try simp (maxSteps := 1000000) only [seval, -Int.reduceToNat, -Int.reduceNatCast, -Int.reduceNatCast', -Nat.reduceSubDiff, T, eqc36, eqc44, eqc49, eqc52, q00, q01, q02, q03, ew]
                        simp only [q0v, St.trunc, St.keep, q04, q05, AB.trunc, keepV, List.elem_cons, List.elem_nil, List.take_succ_cons, List.take_zero, List.map_cons, List.map_nil, Nat.reduceAdd, Nat.reduceBEq, Nat.reduceLeDiff, Nat.zero_add, Bool.false_eq_true, ↓reduceIte]
                        exact ⟨i + 1, hlt, by omega, by rw [hn, ← Bool.or_assoc, hbb, Bool.false_or] <;> rfl⟩
                      · try simp (maxSteps := 1000000) only [seval, -Int.reduceToNat, -Int.reduceNatCast, -Int.reduceNatCast', -Nat.reduceSubDiff, T, eqc36, eqc44, eqc49, eqc52, q00, q01, q02, q03, ew]
                        simp only [q0v, St.trunc, St.keep, q04, q05, AB.trunc, keepV, List.elem_cons, List.elem_nil, List.take_succ_cons, List.take_zero, List.map_cons, List.map_nil, Nat.reduceAdd, Nat.reduceBEq, Nat.reduceLeDiff, Nat.zero_add, Bool.false_eq_true, ↓reduceIte]
                        exact ⟨i + 1, hlt, by omega, by rw [hn, ← Bool.or_assoc, hbb, Bool.true_or] <;> rfl⟩
                    · have hge : i = o.us.length := by have : ¬ ((i : Int) < (o.us.length : Int)) := by simpa using hc
                                                       omega
                      subst hge
                      rw [List.take_length]
                      try simp (maxSteps := 1000000) only [seval, -Int.reduceToNat, -Int.reduceNatCast, -Int.reduceNatCast', -Nat.reduceSubDiff, T, eqc36, eqc44, eqc49, eqc52, q00, q01, q02, q03]
                      apply hK
                      simp only [Tryz.results15, retK, ares, Bool.and_true, Bool.true_and, AV.ofResults, St.trunc, q04, q05, List.getD_cons_zero, List.getD_cons_succ, List.take_zero, List.map_nil, true_and, and_true, List.cons.injEq, exists_eq_left']
                      rw [Bool.or_comm, hlen]
                      try rfl
              · rw [h4, h6, h7, if_pos (by rfl)] at hK
                try simp (maxSteps := 1000000) only [seval, -Int.reduceToNat, -Int.reduceNatCast, -Int.reduceNatCast', -Nat.reduceSubDiff, T, eqc36, eqc44, eqc49, eqc52, q00, q01, q02, q03, h7]
                (refine q06 hN rfl ?_; rintro _ rfl)
                try simp (maxSteps := 1000000) only [seval, -Int.reduceToNat, -Int.reduceNatCast, -Int.reduceNatCast', -Nat.reduceSubDiff, T, eqc36, eqc44, eqc49, eqc52, q00, q01, q02, q03]
                apply hK
                simp only [Tryz.results15, retK, ares, Bool.and_true, Bool.true_and, AV.ofResults, St.trunc, q04, q05, List.getD_cons_zero, List.getD_cons_succ, List.take_zero, List.map_nil, true_and, and_true, List.cons.injEq, exists_eq_left']
                try rfl
            · rw [h4, h6, if_pos (by rfl)] at hK
              try simp (maxSteps := 1000000) only [seval, -Int.reduceToNat, -Int.reduceNatCast, -Int.reduceNatCast', -Nat.reduceSubDiff, T, eqc36, eqc44, eqc49, eqc52, q00, q01, q02, q03, h6]
              (refine q06 hN rfl ?_; rintro _ rfl)
              try simp (maxSteps := 1000000) only [seval, -Int.reduceToNat, -Int.reduceNatCast, -Int.reduceNatCast', -Nat.reduceSubDiff, T, eqc36, eqc44, eqc49, eqc52, q00, q01, q02, q03]
              apply hK
              simp only [Tryz.results15, retK, ares, Bool.and_true, Bool.true_and, AV.ofResults, St.trunc, q04, q05, List.getD_cons_zero, List.getD_cons_succ, List.take_zero, List.map_nil, true_and, and_true, List.cons.injEq, exists_eq_left']
              try rfl
          · rw [h4, if_pos (by rfl)] at hK
            try simp (maxSteps := 1000000) only [seval, -Int.reduceToNat, -Int.reduceNatCast, -Int.reduceNatCast', -Nat.reduceSubDiff, T, eqc36, eqc44, eqc49, eqc52, q00, q01, q02, q03]
            (refine q06 hN rfl ?_; rintro _ rfl)
            try simp (maxSteps := 1000000) only [seval, -Int.reduceToNat, -Int.reduceNatCast, -Int.reduceNatCast', -Nat.reduceSubDiff, T, eqc36, eqc44, eqc49, eqc52, q00, q01, q02, q03]
            apply hK
            simp only [Tryz.results15, retK, ares, Bool.and_true, Bool.true_and, AV.ofResults, St.trunc, q04, q05, List.getD_cons_zero, List.getD_cons_succ, List.take_zero, List.map_nil, true_and, and_true, List.cons.injEq, exists_eq_left']
            try rfl
        · rw [h2, h3, if_pos (by rfl)] at hK
          try simp (maxSteps := 1000000) only [seval, -Int.reduceToNat, -Int.reduceNatCast, -Int.reduceNatCast', -Nat.reduceSubDiff, T, eqc36, eqc44, eqc49, eqc52, q00, q01, q02, q03, h3]
          (refine q06 hN rfl ?_; rintro _ rfl)
          try simp (maxSteps := 1000000) only [seval, -Int.reduceToNat, -Int.reduceNatCast, -Int.reduceNatCast', -Nat.reduceSubDiff, T, eqc36, eqc44, eqc49, eqc52, q00, q01, q02, q03]
          cases hb : nameB o.u
          · rw [hb] at hK
            try simp (maxSteps := 1000000) only [seval, -Int.reduceToNat, -Int.reduceNatCast, -Int.reduceNatCast', -Nat.reduceSubDiff, T, eqc36, eqc44, eqc49, eqc52, q00, q01, q02, q03]
            apply hK
            simp only [Tryz.results15, retK, ares, Bool.and_true, Bool.true_and, AV.ofResults, St.trunc, q04, q05, List.getD_cons_zero, List.getD_cons_succ, List.take_zero, List.map_nil, true_and, and_true, List.cons.injEq, exists_eq_left']
            try rfl
          · rw [hb] at hK
            try simp (maxSteps := 1000000) only [seval, -Int.reduceToNat, -Int.reduceNatCast, -Int.reduceNatCast', -Nat.reduceSubDiff, T, eqc36, eqc44, eqc49, eqc52, q00, q01, q02, q03]
            apply hK
            simp only [Tryz.results15, retK, ares, Bool.and_true, Bool.true_and, AV.ofResults, St.trunc, q04, q05, List.getD_cons_zero, List.getD_cons_succ, List.take_zero, List.map_nil, true_and, and_true, List.cons.injEq, exists_eq_left']
            try rfl
      · rw [h2, if_pos (by rfl)] at hK
        try simp (maxSteps := 1000000) only [seval, -Int.reduceToNat, -Int.reduceNatCast, -Int.reduceNatCast', -Nat.reduceSubDiff, T, eqc36, eqc44, eqc49, eqc52, q00, q01, q02, q03]
        (refine q06 hN rfl ?_; rintro _ rfl)
        try simp (maxSteps := 1000000) only [seval, -Int.reduceToNat, -Int.reduceNatCast, -Int.reduceNatCast', -Nat.reduceSubDiff, T, eqc36, eqc44, eqc49, eqc52, q00, q01, q02, q03]
        cases hb : nameB o.u
        · rw [hb] at hK
          try simp (maxSteps := 1000000) only [seval, -Int.reduceToNat, -Int.reduceNatCast, -Int.reduceNatCast', -Nat.reduceSubDiff, T, eqc36, eqc44, eqc49, eqc52, q00, q01, q02, q03]
          apply hK
          simp only [Tryz.results15, retK, ares, Bool.and_true, Bool.true_and, AV.ofResults, St.trunc, q04, q05, List.getD_cons_zero, List.getD_cons_succ, List.take_zero, List.map_nil, true_and, and_true, List.cons.injEq, exists_eq_left']
          try rfl
        · rw [hb] at hK
          try simp (maxSteps := 1000000) only [seval, -Int.reduceToNat, -Int.reduceNatCast, -Int.reduceNatCast', -Nat.reduceSubDiff, T, eqc36, eqc44, eqc49, eqc52, q00, q01, q02, q03]
          apply hK
          simp only [Tryz.results15, retK, ares, Bool.and_true, Bool.true_and, AV.ofResults, St.trunc, q04, q05, List.getD_cons_zero, List.getD_cons_succ, List.take_zero, List.map_nil, true_and, and_true, List.cons.injEq, exists_eq_left']
          try rfl
    · rw [h1, if_pos rfl] at hK
      try simp (maxSteps := 1000000) only [seval, -Int.reduceToNat, -Int.reduceNatCast, -Int.reduceNatCast', -Nat.reduceSubDiff, T, eqc36, eqc44, eqc49, eqc52, q00, q01, q02, q03]
      (refine q06 hN rfl ?_; rintro _ rfl)
      try simp (maxSteps := 1000000) only [seval, -Int.reduceToNat, -Int.reduceNatCast, -Int.reduceNatCast', -Nat.reduceSubDiff, T, eqc36, eqc44, eqc49, eqc52, q00, q01, q02, q03]
      cases hb : nameB o.u
      · rw [hb] at hK
        try simp (maxSteps := 1000000) only [seval, -Int.reduceToNat, -Int.reduceNatCast, -Int.reduceNatCast', -Nat.reduceSubDiff, T, eqc36, eqc44, eqc49, eqc52, q00, q01, q02, q03]
        apply hK
        simp only [Tryz.results15, retK, ares, Bool.and_true, Bool.true_and, AV.ofResults, St.trunc, q04, q05, List.getD_cons_zero, List.getD_cons_succ, List.take_zero, List.map_nil, true_and, and_true, List.cons.injEq, exists_eq_left']
        try rfl
      · rw [hb] at hK
        try simp (maxSteps := 1000000) only [seval, -Int.reduceToNat, -Int.reduceNatCast, -Int.reduceNatCast', -Nat.reduceSubDiff, T, eqc36, eqc44, eqc49, eqc52, q00, q01, q02, q03, hlt, hge, e10, e0, e3, e4, e5, e6]
        cases b1
        · try simp (maxSteps := 1000000) only [seval, -Int.reduceToNat, -Int.reduceNatCast, -Int.reduceNatCast', -Nat.reduceSubDiff, T, eqc36, eqc44, eqc49, eqc52, q00, q01, q02, q03, hlt, hge, e10, e0, e3, e4, e5, e6]
          apply hK
          simp only [Tryz.results15, retK, ares, Bool.and_true, Bool.true_and, AV.ofResults, St.trunc, q04, q05, List.getD_cons_zero, List.getD_cons_succ, List.take_zero, List.map_nil, true_and, and_true, List.cons.injEq, exists_eq_left']
          try rfl
        · try simp (maxSteps := 1000000) only [seval, -Int.reduceToNat, -Int.reduceNatCast, -Int.reduceNatCast', -Nat.reduceSubDiff, T, eqc36, eqc44, eqc49, eqc52, q00, q01, q02, q03, hlt, hge, e10, e0, e3, e4, e5, e6]
          cases b2
          · try simp (maxSteps := 1000000) only [seval, -Int.reduceToNat, -Int.reduceNatCast, -Int.reduceNatCast', -Nat.reduceSubDiff, T, eqc36, eqc44, eqc49, eqc52, q00, q01, q02, q03, hlt, hge, e10, e0, e3, e4, e5, e6]
            apply hK
            simp only [Tryz.results15, retK, ares, Bool.and_self, Bool.and_true, Bool.true_and, AV.ofResults, St.trunc, q04, q05, List.getD_cons_zero, List.getD_cons_succ, List.take_zero, List.map_nil, true_and, and_true, List.cons.injEq, exists_eq_left']
            try rfl
          · try simp (maxSteps := 1000000) only [seval, -Int.reduceToNat, -Int.reduceNatCast, -Int.reduceNatCast', -Nat.reduceSubDiff, T, eqc36, eqc44, eqc49, eqc52, q00, q01, q02, q03, hlt, hge, e10, e0, e3, e4, e5, e6]
            cases b3
            · try simp (maxSteps := 1000000) only [seval, -Int.reduceToNat, -Int.reduceNatCast, -Int.reduceNatCast', -Nat.reduceSubDiff, T, eqc36, eqc44, eqc49, eqc52, q00, q01, q02, q03, hlt, hge, e10, e0, e3, e4, e5, e6]
              apply hK
              simp only [Tryz.results15, retK, ares, Bool.and_self, Bool.and_true, Bool.true_and, AV.ofResults, St.trunc, q04, q05, List.getD_cons_zero, List.getD_cons_succ, List.take_zero, List.map_nil, true_and, and_true, List.cons.injEq, exists_eq_left']
              try rfl
            · try simp (maxSteps := 1000000) only [seval, -Int.reduceToNat, -Int.reduceNatCast, -Int.reduceNatCast', -Nat.reduceSubDiff, T, eqc36, eqc44, eqc49, eqc52, q00, q01, q02, q03, hlt, hge, e10, e0, e3, e4, e5, e6]
              cases b4
              · try simp (maxSteps := 1000000) only [seval, -Int.reduceToNat, -Int.reduceNatCast, -Int.reduceNatCast', -Nat.reduceSubDiff, T, eqc36, eqc44, eqc49, eqc52, q00, q01, q02, q03, hlt, hge, e10, e0, e3, e4, e5, e6]
                apply hK
                simp only [Tryz.results15, retK, ares, Bool.and_self, Bool.and_true, Bool.true_and, AV.ofResults, St.trunc, q04, q05, List.getD_cons_zero, List.getD_cons_succ, List.take_zero, List.map_nil, true_and, and_true, List.cons.injEq, exists_eq_left']
                try rfl
              · try simp (maxSteps := 1000000) only [seval, -Int.reduceToNat, -Int.reduceNatCast, -Int.reduceNatCast', -Nat.reduceSubDiff, T, eqc36, eqc44, eqc49, eqc52, q00, q01, q02, q03, hlt, hge, e10, e0, e3, e4, e5, e6]
                apply hK
                simp only [Tryz.results15, retK, ares, Bool.and_self, Bool.and_true, Bool.true_and, AV.ofResults, St.trunc, q04, q05, List.getD_cons_zero, List.getD_cons_succ, List.take_zero, List.map_nil, true_and, and_true, List.cons.injEq, exists_eq_left']
                try rfl
theorem fits_strs {ys : List AV} (h : ∀ y ∈ ys, ∃ zs, fitsAll [.str] zs ∧ y = pack false zs) : ∃ l : List ByteArray, ys = l.map fun x => str x := by
  induction ys with
  | nil => exact ⟨[], rfl⟩
  | cons y ys ih =>
    obtain ⟨l, rfl⟩ := ih (fun z hz => h z (List.mem_cons_of_mem _ hz))
    obtain ⟨zs, ⟨x, r, rfl, ⟨s, rfl, _⟩, rfl⟩, rfl⟩ := h y List.mem_cons_self
    exact ⟨s :: l, rfl⟩
end Go.Proofs.YtdkcpcflfnakdaaGreat
namespace Go.Proofs.YtdkcpcflfnakdaaGreat
open Go Go.Proofs.YtdkcpcflfnakdaaGreat.Sym
set_option maxRecDepth 100000
set_option maxHeartbeats 1000000
set_option maxHeartbeats 2000000
set_option linter.unusedSimpArgs false
set_option linter.unusedVariables false

theorem model_UsersN (o : Opb) (h4 : (o.kind == 4) = false) (h5 : (o.kind == 5) = false) : PCall P 13 [o.av] (fun x => x = .v (.slice none 0 0)) := by
  refine q0u tyOk Tryz.func13 rfl rfl ?_
  intro K hK
  simp only [Tryz.ntmps13, List.length_cons, List.length_nil, Nat.reduceAdd, Nat.reduceSub, List.replicate, List.cons_append, List.nil_append]
  try simp (maxSteps := 1000000) only [seval, -Int.reduceToNat, -Int.reduceNatCast, -Int.reduceNatCast', -Nat.reduceSubDiff, T, eqc36, eqc44, eqc49, eqc52, q00, q01, q02, q03, Opb.av, h4, h5]
  apply hK
  simp only [Tryz.results13, retK, ares, Bool.and_true, Bool.true_and, AV.ofResults, St.trunc, q04, q05, List.getD_cons_zero, List.getD_cons_succ, List.take_zero, List.map_nil, true_and, and_true, List.cons.injEq, exists_eq_left']
  try rfl
theorem law_bad (o : Opb) (hu : o.us.length ≤ maxLen) : PCall P 3 [o.av] (fun x => x = bool true) := by
  have hS := law_Short o hu
  refine q0u tyOk Tryz.func3 rfl rfl ?_
  intro K hK
  simp only [Tryz.ntmps3, List.length_cons, List.length_nil, Nat.reduceAdd, Nat.reduceSub, List.replicate, List.cons_append, List.nil_append]
  try simp (maxSteps := 1000000) only [seval, -Int.reduceToNat, -Int.reduceNatCast, -Int.reduceNatCast', -Nat.reduceSubDiff, T, eqc36, eqc44, eqc49, eqc52, q00, q01, q02, q03, Opb.av]
  (refine q06 law_awake rfl ?_; rintro _ rfl)
  unfold Opb.av at hS
  try simp (maxSteps := 1000000) only [seval, -Int.reduceToNat, -Int.reduceNatCast, -Int.reduceNatCast', -Nat.reduceSubDiff, T, eqc36, eqc44, eqc49, eqc52, q00, q01, q02, q03]
  (refine q06 hS rfl ?_; rintro _ rfl)
  cases hs : shortO o
  · try simp (maxSteps := 1000000) only [seval, -Int.reduceToNat, -Int.reduceNatCast, -Int.reduceNatCast', -Nat.reduceSubDiff, T, eqc36, eqc44, eqc49, eqc52, q00, q01, q02, q03]
    (refine q06 law_awake rfl ?_; rintro _ rfl)
    try simp (maxSteps := 1000000) only [seval, -Int.reduceToNat, -Int.reduceNatCast, -Int.reduceNatCast', -Nat.reduceSubDiff, T, eqc36, eqc44, eqc49, eqc52, q00, q01, q02, q03]
    apply hK
    simp only [Tryz.results3, retK, ares, Bool.and_true, Bool.true_and, AV.ofResults, St.trunc, q04, q05, List.getD_cons_zero, List.getD_cons_succ, List.take_zero, List.map_nil, true_and, and_true, List.cons.injEq, exists_eq_left']
    try rfl
  · have hk := short_ok hs
    have hl : o.us.length ≤ 1000 := hk.l
    have hB := model_Bad o hl
    have hR := ref_Bad o hl
    unfold Opb.av at hB hR
    try simp (maxSteps := 1000000) only [seval, -Int.reduceToNat, -Int.reduceNatCast, -Int.reduceNatCast', -Nat.reduceSubDiff, T, eqc36, eqc44, eqc49, eqc52, q00, q01, q02, q03]
    cases h4 : (o.kind == 4)
    · try simp (maxSteps := 1000000) only [seval, -Int.reduceToNat, -Int.reduceNatCast, -Int.reduceNatCast', -Nat.reduceSubDiff, T, eqc36, eqc44, eqc49, eqc52, q00, q01, q02, q03]
      cases h5 : (o.kind == 5)
      · have hU := model_UsersN o h4 h5
        unfold Opb.av at hU
        try simp (maxSteps := 1000000) only [seval, -Int.reduceToNat, -Int.reduceNatCast, -Int.reduceNatCast', -Nat.reduceSubDiff, T, eqc36, eqc44, eqc49, eqc52, q00, q01, q02, q03]
        (refine q06 hU rfl ?_; rintro _ rfl)
        obtain ⟨W, hW⟩ : ∃ W : List ByteArray, [] = W := ⟨_, rfl⟩
        have hWl : W.length ≤ 1000 := by subst hW; first | exact hl | simp
        try simp (maxSteps := 1000000) only [seval, -Int.reduceToNat, -Int.reduceNatCast, -Int.reduceNatCast', -Nat.reduceSubDiff, T, eqc36, eqc44, eqc49, eqc52, q00, q01, q02, q03]
        refine q0x tyOk (by rfl) (by simp only [List.length_cons, List.length_nil, Nat.reduceAdd, Nat.zero_le]) (by kernel_rfl) rfl ?_
        try simp (maxSteps := 1000000) only [seval, -Int.reduceToNat, -Int.reduceNatCast, -Int.reduceNatCast', -Nat.reduceSubDiff, T, eqc36, eqc44, eqc49, eqc52, q00, q01, q02, q03]
        refine q2m hB rfl ?_
        try simp (maxSteps := 1000000) only [seval, -Int.reduceToNat, -Int.reduceNatCast, -Int.reduceNatCast', -Nat.reduceSubDiff, T, eqc36, eqc44, eqc49, eqc52, q00, q01, q02, q03]
        refine q2m hR rfl ?_
        try simp (maxSteps := 1000000) only [seval, -Int.reduceToNat, -Int.reduceNatCast, -Int.reduceNatCast', -Nat.reduceSubDiff, T, eqc36, eqc44, eqc49, eqc52, q00, q01, q02, q03, List.length_map, bne_self_eq_false]
        refine ⟨by kernel_rfl, ?_⟩
        try simp (maxSteps := 1000000) only [seval, -Int.reduceToNat, -Int.reduceNatCast, -Int.reduceNatCast', -Nat.reduceSubDiff, T, eqc36, eqc44, eqc49, eqc52, q00, q01, q02, q03]
        refine loopK_ruleT tyOk (α := Nat) 1 [1, 2, 3, 4, 5] (fun i => i ≤ W.length)
          (fun i => ⟨[.any, .ptr 0 0, bool false, .sl 1 (strs W), .sl 1 (strs W), i64 i, .any, .any, .any, .any, .any, .any, .any, .any, .any, .any, .any, .any, .any, .any, .any, .any, .any, .any, .any, .any, .any, .any, .any, .any, .any, .any, .any, .any, .any, .any, .any, .any, .any, .any, .any, .any, .any, .any, .any, .any, .any, .any, .any, .any, .any, .any, .any, .any], [.box [i64 o.kind, str o.u, i64 o.id, i64 o.st, i64 o.pr, u64 o.ttl, .sl 1 (o.us.map fun x => str x)]]⟩)
          (fun i => W.length - i) 0 (by simp) (Nat.zero_le _) ?_ ?_
        · subst hW
          first
          | exact Turns.weak (q20 _) (q2l _)
          | exact Turns.weak ⟨_, _, rfl, q1j _, _, _, rfl, q1j _, _, _, rfl, q1j _, _, _, rfl, weak_nil 1, _, _, rfl, weak_nil 1, q20 _⟩ (q2l _)
        intro i hi
        try simp (maxSteps := 1000000) only [seval, -Int.reduceToNat, -Int.reduceNatCast, -Int.reduceNatCast', -Nat.reduceSubDiff, T, eqc36, eqc44, eqc49, eqc52, q00, q01, q02, q03, List.length_map]
        (first | refine q0a ?_ ?_ | refine q0g ?_ ?_ | refine q0h ?_ ?_ | refine q0i ?_ ?_ | refine q0b ?_ ?_) <;> intro hc
        · have hlt : i < W.length := by simpa using hc
          have c1 : (0 : Int) ≤ (i : Int) ∧ Int.toNat (i : Int) < W.length := by omega
          have eg : (W.map fun x => str x).getD (Int.toNat (i : Int)) .any = str W[i] := by
            simp [List.getD_eq_getElem?_getD, hlt]
          have ew : IntKind.i64.wrap ((i : Int) + 1) = ((i + 1 : Nat) : Int) := by rw [wrap_i64 (by omega) (by omega)]; rfl
          try simp (maxSteps := 1000000) only [seval, -Int.reduceToNat, -Int.reduceNatCast, -Int.reduceNatCast', -Nat.reduceSubDiff, T, eqc36, eqc44, eqc49, eqc52, q00, q01, q02, q03, List.length_map]
          refine q0x tyOk (by rfl) (by simp only [List.length_cons, List.length_nil, Nat.reduceAdd, Nat.zero_le]) (by kernel_rfl) rfl ?_
          try simp (maxSteps := 1000000) only [seval, -Int.reduceToNat, -Int.reduceNatCast, -Int.reduceNatCast', -Nat.reduceSubDiff, T, eqc36, eqc44, eqc49, eqc52, q00, q01, q02, q03, c1, eg, List.length_map]
          refine ⟨by kernel_rfl, ?_⟩
          try simp (maxSteps := 1000000) only [seval, -Int.reduceToNat, -Int.reduceNatCast, -Int.reduceNatCast', -Nat.reduceSubDiff, T, eqc36, eqc44, eqc49, eqc52, q00, q01, q02, q03, ew]
          simp only [loopT_normal, St.trunc, St.keep, q04, q05, AB.trunc, keepV, List.elem_cons, List.elem_nil, List.take_succ_cons, List.take_zero, List.map_cons, List.map_nil, Nat.reduceAdd, Nat.reduceBEq, Nat.reduceLeDiff, Nat.zero_add, Bool.false_eq_true, ↓reduceIte]
          exact ⟨i + 1, hlt, by omega, Turns.weak (q20 _) (q2l _)⟩
        · try simp (maxSteps := 1000000) only [seval, -Int.reduceToNat, -Int.reduceNatCast, -Int.reduceNatCast', -Nat.reduceSubDiff, T, eqc36, eqc44, eqc49, eqc52, q00, q01, q02, q03]
          apply hK
          simp only [Tryz.results3, retK, ares, Bool.and_true, Bool.true_and, AV.ofResults, St.trunc, q04, q05, List.getD_cons_zero, List.getD_cons_succ, List.take_zero, List.map_nil, true_and, and_true, List.cons.injEq, exists_eq_left']
          try rfl
      · have hU := model_Users o (by rw [h4, h5]; rfl) hl
        unfold Opb.av usersO at hU
        rw [h4, if_neg (by decide)] at hU
        try simp (maxSteps := 1000000) only [seval, -Int.reduceToNat, -Int.reduceNatCast, -Int.reduceNatCast', -Nat.reduceSubDiff, T, eqc36, eqc44, eqc49, eqc52, q00, q01, q02, q03]
        (refine q06 hU rfl ?_; rintro _ rfl)
        obtain ⟨W, hW⟩ : ∃ W : List ByteArray, o.us = W := ⟨_, rfl⟩
        have hWl : W.length ≤ 1000 := by subst hW; first | exact hl | simp
        try simp (maxSteps := 1000000) only [seval, -Int.reduceToNat, -Int.reduceNatCast, -Int.reduceNatCast', -Nat.reduceSubDiff, T, eqc36, eqc44, eqc49, eqc52, q00, q01, q02, q03]
        refine q0x tyOk (by rfl) (by simp only [List.length_cons, List.length_nil, Nat.reduceAdd, Nat.zero_le]) (by kernel_rfl) rfl ?_
        try simp (maxSteps := 1000000) only [seval, -Int.reduceToNat, -Int.reduceNatCast, -Int.reduceNatCast', -Nat.reduceSubDiff, T, eqc36, eqc44, eqc49, eqc52, q00, q01, q02, q03]
        refine q2m hB rfl ?_
        try simp (maxSteps := 1000000) only [seval, -Int.reduceToNat, -Int.reduceNatCast, -Int.reduceNatCast', -Nat.reduceSubDiff, T, eqc36, eqc44, eqc49, eqc52, q00, q01, q02, q03]
        refine q2m hR rfl ?_
        try simp (maxSteps := 1000000) only [seval, -Int.reduceToNat, -Int.reduceNatCast, -Int.reduceNatCast', -Nat.reduceSubDiff, T, eqc36, eqc44, eqc49, eqc52, q00, q01, q02, q03, List.length_map, bne_self_eq_false]
        refine ⟨by kernel_rfl, ?_⟩
        try simp (maxSteps := 1000000) only [seval, -Int.reduceToNat, -Int.reduceNatCast, -Int.reduceNatCast', -Nat.reduceSubDiff, T, eqc36, eqc44, eqc49, eqc52, q00, q01, q02, q03]
        refine loopK_ruleT tyOk (α := Nat) 1 [1, 2, 3, 4, 5] (fun i => i ≤ W.length)
          (fun i => ⟨[.any, .ptr 0 0, bool false, .sl 1 (strs W), .sl 1 (strs W), i64 i, .any, .any, .any, .any, .any, .any, .any, .any, .any, .any, .any, .any, .any, .any, .any, .any, .any, .any, .any, .any, .any, .any, .any, .any, .any, .any, .any, .any, .any, .any, .any, .any, .any, .any, .any, .any, .any, .any, .any, .any, .any, .any, .any, .any, .any, .any, .any, .any], [.box [i64 o.kind, str o.u, i64 o.id, i64 o.st, i64 o.pr, u64 o.ttl, .sl 1 (o.us.map fun x => str x)]]⟩)
          (fun i => W.length - i) 0 (by simp) (Nat.zero_le _) ?_ ?_
        · subst hW
          first
          | exact Turns.weak (q20 _) (q2l _)
          | exact Turns.weak ⟨_, _, rfl, q1j _, _, _, rfl, q1j _, _, _, rfl, q1j _, _, _, rfl, weak_nil 1, _, _, rfl, weak_nil 1, q20 _⟩ (q2l _)
        intro i hi
        try simp (maxSteps := 1000000) only [seval, -Int.reduceToNat, -Int.reduceNatCast, -Int.reduceNatCast', -Nat.reduceSubDiff, T, eqc36, eqc44, eqc49, eqc52, q00, q01, q02, q03, List.length_map]
        (first | refine q0a ?_ ?_ | refine q0g ?_ ?_ | refine q0h ?_ ?_ | refine q0i ?_ ?_ | refine q0b ?_ ?_) <;> intro hc
        · have hlt : i < W.length := by simpa using hc
          have c1 : (0 : Int) ≤ (i : Int) ∧ Int.toNat (i : Int) < W.length := by omega
          have eg : (W.map fun x => str x).getD (Int.toNat (i : Int)) .any = str W[i] := by
            simp [List.getD_eq_getElem?_getD, hlt]
          have ew : IntKind.i64.wrap ((i : Int) + 1) = ((i + 1 : Nat) : Int) := by rw [wrap_i64 (by omega) (by omega)]; rfl
          try simp (maxSteps := 1000000) only [seval, -Int.reduceToNat, -Int.reduceNatCast, -Int.reduceNatCast', -Nat.reduceSubDiff, T, eqc36, eqc44, eqc49, eqc52, q00, q01, q02, q03, List.length_map]
          refine q0x tyOk (by rfl) (by simp only [List.length_cons, List.length_nil, Nat.reduceAdd, Nat.zero_le]) (by kernel_rfl) rfl ?_
          try simp (maxSteps := 1000000) only [seval, -Int.reduceToNat, -Int.reduceNatCast, -Int.reduceNatCast', -Nat.reduceSubDiff, T, eqc36, eqc44, eqc49, eqc52, q00, q01, q02, q03, c1, eg, List.length_map]
          refine ⟨by kernel_rfl, ?_⟩
          try simp (maxSteps := 1000000) only [seval, -Int.reduceToNat, -Int.reduceNatCast, -Int.reduceNatCast', -Nat.reduceSubDiff, T, eqc36, eqc44, eqc49, eqc52, q00, q01, q02, q03, ew]
          simp only [loopT_normal, St.trunc, St.keep, q04, q05, AB.trunc, keepV, List.elem_cons, List.elem_nil, List.take_succ_cons, List.take_zero, List.map_cons, List.map_nil, Nat.reduceAdd, Nat.reduceBEq, Nat.reduceLeDiff, Nat.zero_add, Bool.false_eq_true, ↓reduceIte]
          exact ⟨i + 1, hlt, by omega, Turns.weak (q20 _) (q2l _)⟩
        · try simp (maxSteps := 1000000) only [seval, -Int.reduceToNat, -Int.reduceNatCast, -Int.reduceNatCast', -Nat.reduceSubDiff, T, eqc36, eqc44, eqc49, eqc52, q00, q01, q02, q03]
          apply hK
          simp only [Tryz.results3, retK, ares, Bool.and_true, Bool.true_and, AV.ofResults, St.trunc, q04, q05, List.getD_cons_zero, List.getD_cons_succ, List.take_zero, List.map_nil, true_and, and_true, List.cons.injEq, exists_eq_left']
          try rfl
    · have hU := model_Users o (by rw [h4]; rfl) hl
      unfold Opb.av usersO at hU
      rw [h4, if_pos rfl] at hU
      try simp (maxSteps := 1000000) only [seval, -Int.reduceToNat, -Int.reduceNatCast, -Int.reduceNatCast', -Nat.reduceSubDiff, T, eqc36, eqc44, eqc49, eqc52, q00, q01, q02, q03]
      have h5 : (o.kind == 5) = false := by
        have e4 : o.kind = 4 := by simpa using h4
        rw [e4]; rfl
      try simp (maxSteps := 1000000) only [seval, -Int.reduceToNat, -Int.reduceNatCast, -Int.reduceNatCast', -Nat.reduceSubDiff, T, eqc36, eqc44, eqc49, eqc52, q00, q01, q02, q03, h5]
      (refine q06 hU rfl ?_; rintro _ rfl)
      obtain ⟨W, hW⟩ : ∃ W : List ByteArray, [o.u] = W := ⟨_, rfl⟩
      have hWl : W.length ≤ 1000 := by subst hW; first | exact hl | simp
      try simp (maxSteps := 1000000) only [seval, -Int.reduceToNat, -Int.reduceNatCast, -Int.reduceNatCast', -Nat.reduceSubDiff, T, eqc36, eqc44, eqc49, eqc52, q00, q01, q02, q03]
      refine q0x tyOk (by rfl) (by simp only [List.length_cons, List.length_nil, Nat.reduceAdd, Nat.zero_le]) (by kernel_rfl) rfl ?_
      try simp (maxSteps := 1000000) only [seval, -Int.reduceToNat, -Int.reduceNatCast, -Int.reduceNatCast', -Nat.reduceSubDiff, T, eqc36, eqc44, eqc49, eqc52, q00, q01, q02, q03]
      refine q2m hB rfl ?_
      try simp (maxSteps := 1000000) only [seval, -Int.reduceToNat, -Int.reduceNatCast, -Int.reduceNatCast', -Nat.reduceSubDiff, T, eqc36, eqc44, eqc49, eqc52, q00, q01, q02, q03]
      refine q2m hR rfl ?_
      try simp (maxSteps := 1000000) only [seval, -Int.reduceToNat, -Int.reduceNatCast, -Int.reduceNatCast', -Nat.reduceSubDiff, T, eqc36, eqc44, eqc49, eqc52, q00, q01, q02, q03, List.length_map, bne_self_eq_false]
      refine ⟨by kernel_rfl, ?_⟩
      try simp (maxSteps := 1000000) only [seval, -Int.reduceToNat, -Int.reduceNatCast, -Int.reduceNatCast', -Nat.reduceSubDiff, T, eqc36, eqc44, eqc49, eqc52, q00, q01, q02, q03]
      refine loopK_ruleT tyOk (α := Nat) 1 [1, 2, 3, 4, 5] (fun i => i ≤ W.length)
        (fun i => ⟨[.any, .ptr 0 0, bool false, .sl 1 (strs W), .sl 1 (strs W), i64 i, .any, .any, .any, .any, .any, .any, .any, .any, .any, .any, .any, .any, .any, .any, .any, .any, .any, .any, .any, .any, .any, .any, .any, .any, .any, .any, .any, .any, .any, .any, .any, .any, .any, .any, .any, .any, .any, .any, .any, .any, .any, .any, .any, .any, .any, .any, .any, .any], [.box [i64 o.kind, str o.u, i64 o.id, i64 o.st, i64 o.pr, u64 o.ttl, .sl 1 (o.us.map fun x => str x)]]⟩)
        (fun i => W.length - i) 0 (by simp) (Nat.zero_le _) ?_ ?_
      · subst hW
        first
        | exact Turns.weak (q20 _) (q2l _)
        | exact Turns.weak ⟨_, _, rfl, q1j _, _, _, rfl, q1j _, _, _, rfl, q1j _, _, _, rfl, weak_nil 1, _, _, rfl, weak_nil 1, q20 _⟩ (q2l _)
      intro i hi
      try simp (maxSteps := 1000000) only [seval, -Int.reduceToNat, -Int.reduceNatCast, -Int.reduceNatCast', -Nat.reduceSubDiff, T, eqc36, eqc44, eqc49, eqc52, q00, q01, q02, q03, List.length_map]
      (first | refine q0a ?_ ?_ | refine q0g ?_ ?_ | refine q0h ?_ ?_ | refine q0i ?_ ?_ | refine q0b ?_ ?_) <;> intro hc
      · have hlt : i < W.length := by simpa using hc
        have c1 : (0 : Int) ≤ (i : Int) ∧ Int.toNat (i : Int) < W.length := by omega
        have eg : (W.map fun x => str x).getD (Int.toNat (i : Int)) .any = str W[i] := by
          simp [List.getD_eq_getElem?_getD, hlt]
        have ew : IntKind.i64.wrap ((i : Int) + 1) = ((i + 1 : Nat) : Int) := by rw [wrap_i64 (by omega) (by omega)]; rfl
        try simp (maxSteps := 1000000) only [seval, -Int.reduceToNat, -Int.reduceNatCast, -Int.reduceNatCast', -Nat.reduceSubDiff, T, eqc36, eqc44, eqc49, eqc52, q00, q01, q02, q03, List.length_map]
        refine q0x tyOk (by rfl) (by simp only [List.length_cons, List.length_nil, Nat.reduceAdd, Nat.zero_le]) (by kernel_rfl) rfl ?_
        try simp (maxSteps := 1000000) only [seval, -Int.reduceToNat, -Int.reduceNatCast, -Int.reduceNatCast', -Nat.reduceSubDiff, T, eqc36, eqc44, eqc49, eqc52, q00, q01, q02, q03, c1, eg, List.length_map]
        refine ⟨by kernel_rfl, ?_⟩
        try simp (maxSteps := 1000000) only [seval, -Int.reduceToNat, -Int.reduceNatCast, -Int.reduceNatCast', -Nat.reduceSubDiff, T, eqc36, eqc44, eqc49, eqc52, q00, q01, q02, q03, ew]
        simp only [loopT_normal, St.trunc, St.keep, q04, q05, AB.trunc, keepV, List.elem_cons, List.elem_nil, List.take_succ_cons, List.take_zero, List.map_cons, List.map_nil, Nat.reduceAdd, Nat.reduceBEq, Nat.reduceLeDiff, Nat.zero_add, Bool.false_eq_true, ↓reduceIte]
        exact ⟨i + 1, hlt, by omega, Turns.weak (q20 _) (q2l _)⟩
      · try simp (maxSteps := 1000000) only [seval, -Int.reduceToNat, -Int.reduceNatCast, -Int.reduceNatCast', -Nat.reduceSubDiff, T, eqc36, eqc44, eqc49, eqc52, q00, q01, q02, q03]
        apply hK
        simp only [Tryz.results3, retK, ares, Bool.and_true, Bool.true_and, AV.ofResults, St.trunc, q04, q05, List.getD_cons_zero, List.getD_cons_succ, List.take_zero, List.map_nil, true_and, and_true, List.cons.injEq, exists_eq_left']
        try rfl
def shapesModelBad : List (Bool × List Lf) := [(true, [.int .i64, .str, .int .i64, .int .i64, .int .i64, .int .u64, .sl 1 false [.str]])]
theorem shapesModelBad_ok : argShapes T 6 [25] = some shapesModelBad := by kernel_rfl
theorem law_ModelBad (xs : List AV) (h : argsFit shapesModelBad xs) : PCall P 3 xs (fun x => x = .v (.bool true)) := by
  obtain ⟨x, _, rfl, hx, rfl⟩ := h
  obtain ⟨_, _, rfl, ⟨a, rfl, _⟩, _, _, rfl, ⟨u, rfl, _⟩, _, _, rfl, ⟨b, rfl, _⟩, _, _, rfl, ⟨c, rfl, _⟩, _, _, rfl, ⟨d, rfl, _⟩, _, _, rfl, ⟨t, rfl, _⟩, _, _, rfl, ⟨vs, rfl, hlen, hvs⟩, rfl⟩ := hx
  obtain ⟨us, rfl⟩ := fits_strs hvs
  rw [List.length_map] at hlen
  exact law_bad ⟨a, u, b, c, d, t, us⟩ hlen
end Go.Proofs.YtdkcpcflfnakdaaGreat
namespace Go.Proofs.YtdkcpcflfnakdaaGreat.modelBad
open Go.ChangeShapes Go.WideShapes Go.ChangeAt Go.RowKit Go.Proofs.YtdkcpcflfnakdaaGreat.Sym
open Go.ChangeMaps (open_string shut_string)
set_option linter.unusedVariables false
theorem own : ownKnob Tryz.prog.godebug = none := by kernel_rfl
theorem laidOut : laidOutB Tryz.prog = true := by kernel_rfl
set_option maxRecDepth 100000 in
theorem lifted (os : Os) (started : os.Started) (H : Type) (enc : TypeId × Value → H) :
    ReturnsInHanded {} Tryz.checked os 3 .any (Rows.modelBadSpec.pre6 enc Tryz.prog Tryz.f3 Rows.modelBadRow.domain false) (Rows.modelBadSpec.post enc Tryz.prog Tryz.f3 false true false false) := by
  refine returnsInHanded_of_change_sized (C := Tryz.checked) own started (by kernel_rfl) Tryz.func3
    (ChangeSpec.witness6 (enc := enc) (C := Tryz.checked) false ⟨#[], #[.agg #[.int .i64 0, .string .empty, .int .i64 0, .int .i64 0, .int .i64 0, .int .u64 0, .slice none 0 0]], []⟩ 8 (by kernel_rfl) (by kernel_rfl) (by kernel_rfl) (by kernel_rfl)) ?_
  intro W base args ds gs before hval0 hW hcnd hsz0 _
  have hval : ∀ (j : Nat) t v, Tryz.f3.params[j]? = some t → args[j]? = some v → Value.okWide Tryz.prog W .any base t v := hval0
  have hW' := hW
  obtain ⟨p, q, hA0, hV, rfl, hfz, hnd⟩ := hW
  have hA : DataW.TrodAll enc Tryz.prog W 0 (fun _ => true) true Tryz.f3.params.toList args.toList ds p := hA0
  have hval2 : ∀ (j : Nat) t v, Tryz.f3.params.toList[j]? = some t → args.toList[j]? = some v → Value.okWide Tryz.prog W .any base t v := fun j t v h1 h2 => hval j t v (by simpa using h1) (by simpa using h2)
  rw [Tryz.params3] at hA hval2
  obtain ⟨xs, hfit, hrel⟩ := open_args tyOk _ _ _ _ _ shapesModelBad_ok hval2 hA
  obtain ⟨v0, vs0, d0, ds0, p0, q0, hargs, rfl, rfl, h0, r0⟩ := trodAll_cons hA
  obtain ⟨rfl, rfl, rfl⟩ := trodAll_nil r0
  obtain rfl : args = #[v0] := by cases args; simp_all
  obtain ⟨rfl, rfl⟩ := trodVars_none hV
  have k0 := h0
  have lt0 : ∀ x ∈ p0, x.block < W.heap.size := by obtain ⟨m, hm⟩ := k0; exact DataW.trod_lt m _ _ _ hm
  clear hA0 hval0 hsz0 hval hval2
  refine (PCall.calls (law_ModelBad xs hfit) hrel (GlobOk.none (fun _ => rfl) (fun _ => rfl) (fun _ => rfl))).mono ?_
  rintro e W' ⟨y, x, rfl, rfl, hy, bel⟩
  obtain rfl := hy _ rfl
  exact ⟨_, rfl, _, _, _, [], _, [], hW', trodAll_mk1 (shut_bool Tryz.underlying4 _), (trodAll_cons_mk (Below.trod laidOut (by kernel_rfl) (of_decide_eq_true (by kernel_rfl)) k0 bel lt0) trodAll_mk0), rfl, bel.frame _, fun h => by cases h⟩
theorem over : Rows.modelBadRow.holds Tryz.pinned (OpenSpec.ofChange Rows.modelBadSpec) :=
  OpenClaim.holds_of_wide 3 Tryz.f3 rfl rfl rfl rfl rfl rfl rfl ⟨rfl, rfl, rfl, rfl, rfl⟩ rfl rfl rfl rfl rfl (by kernel_rfl) Tryz.func3 (by kernel_rfl)
    (of_decide_eq_true (by kernel_rfl)) (by unfold Func.isWrapper; first | (rw [if_pos (by decide +kernel)]; kernel_rfl) | (rw [if_neg (by decide +kernel)]; exact ⟨rfl, rfl⟩))
    (fun os started H enc _ => lifted os started H enc)
theorem proved : Rows.ModelBadSaid := over
#print axioms proved
end Go.Proofs.YtdkcpcflfnakdaaGreat.modelBad
namespace Go.Proofs.YtdkcpcflfnakdaaGreat
/-- The row, under a short name, for the claim. -/
theorem modelBad_holds : Rows.ModelBadSaid := modelBad.proved
end Go.Proofs.YtdkcpcflfnakdaaGreat
