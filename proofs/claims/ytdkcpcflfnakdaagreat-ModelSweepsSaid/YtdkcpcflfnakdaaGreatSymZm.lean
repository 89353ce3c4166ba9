/- A text of the walk that proves a law of this seat; joined by a program. -/
import Derived.Test.YtdkcpcflfnakdaaGreatSymZi
set_option linter.unusedSimpArgs false
set_option linter.unusedVariables false
namespace Go.Proofs.YtdkcpcflfnakdaaGreat.Sym
open Go Go.RowKit
variable {L : Nat} {P : Program} {T : TypeId → Option TI}
def kpK (kd : List Nat) (b : Nat) : Bool := !kd.elem b
def AB.cutK (kd : List Nat) : AB → AB
  | .box cs => .box (cutVs (kpK kd) cs)
  | blk => blk
def AB.bks : AB → List Nat
  | .box cs => q03 cs
  | _ => []
theorem cutV_id {kp : Nat → Bool} {x : AV} (h : (bks x).all kp = true) : cutV kp x = x := by unfold cutV; rw [if_pos h]
theorem cutV_comm {k1 k2 : Nat → Bool} (x : AV) : cutV k1 (cutV k2 x) = cutV k2 (cutV k1 x) := by
  unfold cutV
  by_cases h1 : (Sym.bks x).all k1 = true <;> by_cases h2 : (Sym.bks x).all k2 = true <;> simp [h1, h2, Sym.bks]
theorem cutV_twice {k : Nat → Bool} (x : AV) : cutV k (cutV k x) = cutV k x := by
  unfold cutV
  by_cases h1 : (Sym.bks x).all k = true <;> simp [h1, Sym.bks]
theorem cutV_full {kp : Nat → Bool} {x : AV} (h : (cutV kp x).full = true) : cutV kp x = x := by
  unfold cutV at h ⊢
  split
  · rfl
  · rename_i c; rw [if_neg c] at h; cases h
theorem cutVs_map (kp : Nat → Bool) : ∀ l : List AV, cutVs kp l = l.map (cutV kp)
  | [] => rfl
  | x :: l => by rw [cutVs, cutVs_map kp l]; rfl
theorem cutVs_getD (kp : Nat → Bool) (l : List AV) (i : Nat) : (cutVs kp l).getD i .any = cutV kp (l.getD i .any) := by
  rw [cutVs_map, List.getD_eq_getElem?_getD, List.getD_eq_getElem?_getD, List.getElem?_map]
  cases l[i]? with
  | none => simp [cutV, Sym.bks]
  | some x => rfl
theorem cutVs_set (kp : Nat → Bool) (l : List AV) (i : Nat) (x : AV) : cutVs kp (l.set i x) = (cutVs kp l).set i (cutV kp x) := by
  rw [cutVs_map, cutVs_map, List.map_set]
theorem cutVs_comm {k1 k2 : Nat → Bool} (l : List AV) : cutVs k1 (cutVs k2 l) = cutVs k2 (cutVs k1 l) := by
  simp only [cutVs_map, List.map_map]
  congr 1; funext x; exact cutV_comm x
theorem cutVs_twice {k : Nat → Bool} (l : List AV) : cutVs k (cutVs k l) = cutVs k l := by
  simp only [cutVs_map, List.map_map]
  congr 1; funext x; exact cutV_twice x
theorem cutVs_id {kp : Nat → Bool} : ∀ {l : List AV}, (q03 l).all kp = true → cutVs kp l = l
  | [], _ => rfl
  | x :: l, h => by
    simp only [q03, List.all_append, Bool.and_eq_true] at h
    rw [cutVs, cutV_id h.1, cutVs_id h.2]
theorem cutVs_full {kp : Nat → Bool} : ∀ {l : List AV}, q2m (cutVs kp l) = true → cutVs kp l = l
  | [], _ => rfl
  | x :: l, h => by
    simp only [cutVs, q2m, Bool.and_eq_true] at h
    rw [cutVs, cutV_full h.1, cutVs_full h.2]
theorem cutK_id {kd : List Nat} {blk : AB} (h : blk.bks.all (kpK kd) = true) : blk.cutK kd = blk := by
  cases blk with
  | box cs => simp only [AB.cutK]; rw [cutVs_id h]
  | _ => rfl
theorem cutK_full {kd : List Nat} {blk : AB} (h : (blk.cutK kd).full = true) : blk.cutK kd = blk := by
  cases blk with
  | box cs => simp only [AB.cutK, AB.full] at h ⊢; rw [cutVs_full h]
  | _ => rfl
theorem cutK_comm {k1 k2 : List Nat} (blk : AB) : (blk.cutK k1).cutK k2 = (blk.cutK k2).cutK k1 := by
  cases blk with
  | box cs => simp only [AB.cutK]; rw [cutVs_comm]
  | _ => rfl
theorem kpK_nil (l : List Nat) : l.all (kpK []) = true := List.all_eq_true.2 fun b _ => rfl
theorem cutK_nil (blk : AB) : blk.cutK [] = blk := cutK_id (kpK_nil _)
theorem cutVs_nil (l : List AV) : cutVs (kpK []) l = l := cutVs_id (kpK_nil _)
def setW : List (Nat × AB) → List AB → List AB
  | [], m => m
  | (b, blk) :: W, m => setW W (m.set b blk)
theorem q47 : ∀ (W : List (Nat × AB)) (m : List AB), (setW W m).length = m.length
  | [], _ => rfl
  | (b, blk) :: W, m => by rw [setW, q47 W]; simp
theorem setW_out : ∀ {W : List (Nat × AB)} {m : List AB} {i : Nat}, i ∉ W.map Prod.fst → (setW W m)[i]? = m[i]?
  | [], _, _, _ => rfl
  | (b, blk) :: W, m, i, h => by
    simp only [List.map_cons, List.mem_cons, not_or] at h
    rw [setW, setW_out h.2, List.getElem?_set_ne (Ne.symm h.1)]
theorem setW_in : ∀ {W : List (Nat × AB)} {m : List AB} {i : Nat} {blk : AB}, (W.map Prod.fst).Nodup → (i, blk) ∈ W → i < m.length → (setW W m)[i]? = some blk
  | [], _, _, _, _, h, _ => by cases h
  | (b, c) :: W, m, i, blk, hn, h, hl => by
    simp only [List.map_cons, List.nodup_cons] at hn
    rw [setW]
    rcases List.mem_cons.1 h with e | h
    · cases e
      rw [setW_out hn.1, List.getElem?_set_self hl]
    · exact setW_in hn.2 h (by simpa using hl)
structure EntX where
  i : Nat
  rdF : Bool
  rdR : List Nat
  acc : List Nat
  accF : Bool
  accR : List Nat
  xR : List Nat
  wI : List Nat
  wR : List Nat
  kd : List Nat
  rd : List AV
  accB : List (Option AB)
  x : AV
  wB : List AB
def EntX.W (e : EntX) : List (Nat × AB) := e.wI.zip e.wB
structure EntX.Ok (e : EntX) : Prop where
  rdF : e.rdF = true → q2m e.rd = true
  rdR : ∀ b ∈ q03 e.rd, b ∈ e.rdR
  accF : e.accF = true → accFull e.accB = true
  accR : ∀ blk, some blk ∈ e.accB → ∀ b ∈ blk.bks, b ∈ e.accR
  xR : ∀ b ∈ bks e.x, b ∈ e.xR
  wR : ∀ blk ∈ e.wB, ∀ b ∈ blk.bks, b ∈ e.wR
  wl : e.wB.length = e.wI.length
  nd : e.wI.Nodup
theorem EntX.Ok.fst {e : EntX} (h : e.Ok) : e.W.map Prod.fst = e.wI := by
  unfold EntX.W
  exact List.map_fst_zip (by rw [h.wl]; exact Nat.le_refl _)
theorem EntX.Ok.snd {e : EntX} (h : e.Ok) {b : Nat} {blk : AB} (hm : (b, blk) ∈ e.W) : blk ∈ e.wB := (List.of_mem_zip hm).2
def postX (ops : Array Oper) (e : EntX) (s : St) : St := (⟨cutVs (kpK e.kd) s.tmps, setW e.W (s.mem.map (AB.cutK e.kd))⟩ : St).put (dstOf ops e.i) e.x
def ExX (ops : Array Oper) (e : EntX) (s : St) : Prop :=
  ∃ o, ops[e.i]? = some o ∧ e.rd = (o.looksAt ops).map (fun t => s.tmps.getD t .any) ∧ e.accB = e.acc.map (fun b => s.mem[b]?)
def disj (a b : List Nat) : Bool := a.all fun x => !b.elem x
theorem disj_spec {a b : List Nat} (h : disj a b = true) {x : Nat} (ha : x ∈ a) (hb : x ∈ b) : False := by
  have := List.all_eq_true.1 h x ha
  rw [Bool.not_eq_true', ← Bool.not_eq_true] at this
  exact this (List.elem_eq_true_of_mem hb)
theorem disj_kp {kd l : List Nat} (h : disj kd l = true) {r : List Nat} (hr : ∀ b ∈ r, b ∈ l) : r.all (kpK kd) = true := by
  refine List.all_eq_true.2 fun b hb => ?_
  unfold kpK
  rw [Bool.not_eq_true']
  cases hc : kd.elem b with
  | false => rfl
  | true => exact (disj_spec h (List.mem_of_elem_eq_true hc) (hr b hb)).elim
def indX (e1 e2 : EntX) : Bool :=
  disj e1.wI e2.acc && (disj e1.wI e2.wI && (disj e2.wI e1.acc &&
  ((e1.kd.isEmpty || (e2.rdF && (e2.accF && (disj e1.kd e2.xR && disj e1.kd e2.wR)))) &&
  (e2.kd.isEmpty || (disj e2.kd e1.rdR && (disj e2.kd e1.accR && (disj e2.kd e1.xR && disj e2.kd e1.wR)))))))
structure IndX (e1 e2 : EntX) : Prop where
  a2 : ∀ b ∈ e1.wI, b ∉ e2.acc
  ne : ∀ b ∈ e1.wI, b ∉ e2.wI
  a1 : ∀ b ∈ e2.wI, b ∉ e1.acc
  rd2 : ∀ u v, v ∈ e2.rd → v = cutV (kpK e1.kd) u → cutV (kpK e1.kd) u = u
  ac2 : ∀ u blk, some blk ∈ e2.accB → blk = AB.cutK e1.kd u → AB.cutK e1.kd u = u
  x2 : cutV (kpK e1.kd) e2.x = e2.x
  w2 : ∀ blk ∈ e2.wB, AB.cutK e1.kd blk = blk
  rd1 : ∀ v ∈ e1.rd, cutV (kpK e2.kd) v = v
  ac1 : ∀ blk, some blk ∈ e1.accB → AB.cutK e2.kd blk = blk
  x1 : cutV (kpK e2.kd) e1.x = e1.x
  w1 : ∀ blk ∈ e1.wB, AB.cutK e2.kd blk = blk
theorem bksAll_mem : ∀ {l : List AV} {x : AV}, x ∈ l → ∀ b ∈ bks x, b ∈ q03 l
  | y :: l, x, h, b, hb => by
    simp only [q03, List.mem_append]
    rcases List.mem_cons.1 h with rfl | h
    · exact .inl hb
    · exact .inr (bksAll_mem h b hb)
theorem indX_spec {e1 e2 : EntX} (o1 : e1.Ok) (o2 : e2.Ok) (h : indX e1 e2 = true) : IndX e1 e2 := by
  simp only [indX, Bool.and_eq_true] at h
  obtain ⟨h1, h2, h3, h4, h5⟩ := h
  have nil1 (kd : List Nat) (h : kd.isEmpty = true) : kd = [] := List.isEmpty_iff.1 h
  refine ⟨fun b hb hc => disj_spec h1 hb hc, fun b hb hc => disj_spec h2 hb hc, fun b hb hc => disj_spec h3 hb hc, ?_, ?_, ?_, ?_, ?_, ?_, ?_, ?_⟩
  · intro u v hv e
    rcases Bool.or_eq_true_iff.1 h4 with h | h
    · rw [nil1 _ h]; exact cutV_id (kpK_nil _)
    · simp only [Bool.and_eq_true] at h
      exact cutV_full (by rw [← e]; exact fullAll_spec (o2.rdF h.1) v hv)
  · intro u blk hb e
    rcases Bool.or_eq_true_iff.1 h4 with h | h
    · rw [nil1 _ h]; exact cutK_nil _
    · simp only [Bool.and_eq_true] at h
      exact cutK_full (by rw [← e]; exact accFull_spec (o2.accF h.2.1) hb)
  · rcases Bool.or_eq_true_iff.1 h4 with h | h
    · rw [nil1 _ h]; exact cutV_id (kpK_nil _)
    · simp only [Bool.and_eq_true] at h
      exact cutV_id (disj_kp h.2.2.1 o2.xR)
  · intro blk hb
    rcases Bool.or_eq_true_iff.1 h4 with h | h
    · rw [nil1 _ h]; exact cutK_nil _
    · simp only [Bool.and_eq_true] at h
      exact cutK_id (disj_kp h.2.2.2 (o2.wR blk hb))
  · intro v hv
    rcases Bool.or_eq_true_iff.1 h5 with h | h
    · rw [nil1 _ h]; exact cutV_id (kpK_nil _)
    · simp only [Bool.and_eq_true] at h
      exact cutV_id (disj_kp h.1 fun b hb => o1.rdR b (bksAll_mem hv b hb))
  · intro blk hb
    rcases Bool.or_eq_true_iff.1 h5 with h | h
    · rw [nil1 _ h]; exact cutK_nil _
    · simp only [Bool.and_eq_true] at h
      exact cutK_id (disj_kp h.2.1 (o1.accR blk hb))
  · rcases Bool.or_eq_true_iff.1 h5 with h | h
    · rw [nil1 _ h]; exact cutV_id (kpK_nil _)
    · simp only [Bool.and_eq_true] at h
      exact cutV_id (disj_kp h.2.2.1 o1.xR)
  · intro blk hb
    rcases Bool.or_eq_true_iff.1 h5 with h | h
    · rw [nil1 _ h]; exact cutK_nil _
    · simp only [Bool.and_eq_true] at h
      exact cutK_id (disj_kp h.2.2.2 (o1.wR blk hb))
theorem q4i (ops : Array Oper) (e : EntX) (s : St) : (postX ops e s).mem.length = s.mem.length := by
  unfold postX; rw [put_mem, q47, List.length_map]
theorem postX_tmp {ops : Array Oper} {e : EntX} {s : St} {t : Tmp} (h : dstOf ops e.i ≠ some t) : (postX ops e s).tmps.getD t .any = cutV (kpK e.kd) (s.tmps.getD t .any) := by
  unfold postX; rw [put_tmps_ne _ _ _ _ h, cutVs_getD]
theorem q3o {ops : Array Oper} {e : EntX} (o : e.Ok) {s : St} {i : Nat} (h : i ∉ e.wI) : (postX ops e s).mem[i]? = (s.mem[i]?).map (AB.cutK e.kd) := by
  unfold postX; rw [put_mem, setW_out (by rw [o.fst]; exact h), List.getElem?_map]
theorem postX_in {ops : Array Oper} {e : EntX} (o : e.Ok) {s : St} {i : Nat} (h : i ∈ e.wI) (hl : i < s.mem.length) : ∃ blk ∈ e.wB, (postX ops e s).mem[i]? = some blk ∧ ∀ s' : St, i < s'.mem.length → (postX ops e s').mem[i]? = some blk := by
  have : i ∈ e.W.map Prod.fst := by rw [o.fst]; exact h
  obtain ⟨⟨j, blk⟩, hm, rfl⟩ := List.mem_map.1 this
  have key : ∀ s' : St, j < s'.mem.length → (postX ops e s').mem[j]? = some blk := fun s' hl => by
    unfold postX; rw [put_mem, setW_in (by rw [o.fst]; exact o.nd) hm (by simpa using hl)]
  exact ⟨blk, o.snd hm, key s hl, key⟩
theorem swapX {ops : Array Oper} {e1 e2 : EntX} {s : St} (o1 : e1.Ok) (o2 : e2.Ok) (h1 : ExX ops e1 s) (h2 : ExX ops e2 (postX ops e1 s)) (ha : apartOf ops e1.i e2.i = true) (hi : indX e1 e2 = true) :
    ExX ops e2 s ∧ ExX ops e1 (postX ops e2 s) ∧ postX ops e2 (postX ops e1 s) = postX ops e1 (postX ops e2 s) := by
  have hI := indX_spec o1 o2 hi
  obtain ⟨p1, ho1, hrd1, hB1⟩ := id h1
  obtain ⟨p2, ho2, hrd2, hB2⟩ := id h2
  unfold apartOf at ha
  rw [ho1, ho2] at ha
  obtain ⟨q1, q2, q3⟩ := Oper.apart_spec ha
  have hd1 : dstOf ops e1.i = p1.dst := by simp [dstOf, ho1]
  have hd2 : dstOf ops e2.i = p2.dst := by simp [dstOf, ho2]
  have ht2 : ∀ t ∈ p2.looksAt ops, (postX ops e1 s).tmps.getD t .any = s.tmps.getD t .any := by
    intro t ht
    have e0 := postX_tmp (ops := ops) (e := e1) (s := s) (t := t) (by rw [hd1]; exact fun e => q1 t e ht)
    rw [e0]
    refine hI.rd2 _ _ ?_ rfl
    rw [hrd2, ← e0]
    exact List.mem_map.2 ⟨t, ht, rfl⟩
  have hm2 : ∀ b ∈ e2.acc, (postX ops e1 s).mem[b]? = s.mem[b]? := by
    intro b hb
    have e0 := q3o (ops := ops) o1 (s := s) (i := b) (fun h => hI.a2 b h hb)
    rw [e0]
    cases hs : s.mem[b]? with
    | none => rfl
    | some blk =>
      simp only [Option.map_some]
      congr 1
      refine hI.ac2 blk (AB.cutK e1.kd blk) ?_ rfl
      rw [hB2]
      exact List.mem_map.2 ⟨b, hb, by rw [e0, hs]; rfl⟩
  have ht1 : ∀ t ∈ p1.looksAt ops, (postX ops e2 s).tmps.getD t .any = s.tmps.getD t .any := by
    intro t ht
    rw [postX_tmp (by rw [hd2]; exact fun e => q3 t e ht)]
    refine hI.rd1 _ ?_
    rw [hrd1]
    exact List.mem_map.2 ⟨t, ht, rfl⟩
  have hm1 : ∀ b ∈ e1.acc, (postX ops e2 s).mem[b]? = s.mem[b]? := by
    intro b hb
    rw [q3o o2 (fun h => hI.a1 b h hb)]
    cases hs : s.mem[b]? with
    | none => rfl
    | some blk =>
      simp only [Option.map_some]
      congr 1
      refine hI.ac1 blk ?_
      rw [hB1]
      exact List.mem_map.2 ⟨b, hb, hs⟩
  refine ⟨⟨p2, ho2, by rw [hrd2]; exact List.map_congr_left ht2, by rw [hB2]; exact List.map_congr_left hm2⟩, ⟨p1, ho1, by rw [hrd1]; exact List.map_congr_left fun t ht => (ht1 t ht).symm, by rw [hB1]; exact List.map_congr_left fun b hb => (hm1 b hb).symm⟩, ?_⟩
  have et : (postX ops e2 (postX ops e1 s)).tmps = (postX ops e1 (postX ops e2 s)).tmps := by
    have key : ∀ (d : Option Tmp) (x : AV) (l : List AV) (m : List AB), ((⟨l, m⟩ : St).put d x).tmps = match d with | none => l | some d => l.set d x := fun d x l m => by cases d <;> rfl
    unfold postX
    rw [key, key, key, key, hd1, hd2]
    cases hp1 : p1.dst with
    | none =>
      cases hp2 : p2.dst with
      | none => simp only; exact cutVs_comm _
      | some b => simp only; rw [cutVs_set, hI.x2, cutVs_comm]
    | some a =>
      cases hp2 : p2.dst with
      | none => simp only; rw [cutVs_set, hI.x1, cutVs_comm]
      | some b =>
        simp only
        have hne : a ≠ b := fun e => q2 a hp1 (by rw [e]; exact hp2)
        rw [cutVs_set, hI.x1, cutVs_set, hI.x2, cutVs_comm, List.set_comm _ _ hne]
  have em : (postX ops e2 (postX ops e1 s)).mem = (postX ops e1 (postX ops e2 s)).mem := by
    refine List.ext_getElem? fun i => ?_
    by_cases hl : i < s.mem.length
    · by_cases c1 : i ∈ e1.wI
      · have c2 := hI.ne i c1
        obtain ⟨blk, hb, k1, k2⟩ := postX_in (ops := ops) o1 c1 hl
        rw [q3o o2 c2, k1, k2 _ (by rw [q4i]; exact hl)]
        simp only [Option.map_some]
        rw [hI.w1 blk hb]
      · by_cases c2 : i ∈ e2.wI
        · obtain ⟨blk, hb, k1, k2⟩ := postX_in (ops := ops) o2 c2 hl
          rw [q3o o1 c1, k1, k2 _ (by rw [q4i]; exact hl)]
          simp only [Option.map_some]
          rw [hI.w2 blk hb]
        · rw [q3o o2 c2, q3o o1 c1, q3o o1 c1, q3o o2 c2]
          simp only [Option.map_map]
          congr 1
          funext x
          exact cutK_comm x
    · rw [List.getElem?_eq_none (by simp only [q4i]; omega), List.getElem?_eq_none (by simp only [q4i]; omega)]
  generalize postX ops e2 (postX ops e1 s) = u at et em ⊢
  generalize postX ops e1 (postX ops e2 s) = v at et em ⊢
  cases u; cases v
  simp only at et em
  rw [et, em]
def RunX (ops : Array Oper) : List EntX → St → St → Prop
  | [], s, s' => s = s'
  | e :: es, s, s' => ExX ops e s ∧ RunX ops es (postX ops e s) s'
theorem runX_snoc {ops : Array Oper} : ∀ {es : List EntX} {e : EntX} {s m s' : St}, RunX ops es s m → ExX ops e m → postX ops e m = s' → RunX ops (es ++ [e]) s s'
  | [], e, s, m, s', h, he, hp => by cases h; exact ⟨he, hp⟩
  | x :: es, e, s, m, s', h, he, hp => ⟨h.1, runX_snoc h.2 he hp⟩
theorem runX_front {ops : Array Oper} : ∀ {pre : List EntX} {e : EntX} {rest : List EntX} {s s' : St}, RunX ops (pre ++ e :: rest) s s' → e.Ok → (∀ p ∈ pre, p.Ok ∧ apartOf ops p.i e.i = true ∧ indX p e = true) →
    RunX ops (e :: (pre ++ rest)) s s'
  | [], e, rest, s, s', h, _, _ => h
  | p :: pre, e, rest, s, s', h, ho, hi => by
    have ih := runX_front (pre := pre) h.2 ho (fun q hq => hi q (by simp [hq]))
    obtain ⟨h0, h1, h2⟩ := hi p (by simp)
    obtain ⟨k1, k2, k3⟩ := swapX h0 ho h.1 ih.1 h1 h2
    have ih2 := ih.2
    rw [k3] at ih2
    exact ⟨k1, k2, ih2⟩
def okPairX (ms : List Nat) (ops : Array Oper) (e1 e2 : EntX) : Bool := (ms.getD e2.i 0).testBit e1.i || (apartOf ops e1.i e2.i && indX e1 e2)
def DoesX (P : Program) (L N : Nat) (ops : Array Oper) (e : EntX) : Prop :=
  ∀ {Hd : Nat → Prop} {B : Nat} {ι : Loc} {s : St} {a : Act} {w : World} {F : Fence} {n : Nat} {K : Act → World → Prop} {Q : Exit → Act → World → Prop}, Wide F → Rel Hd B ι s a w → s.mem.length = N → ExX ops e s →
    (∀ ι' a' w', Rel Hd B ι' (postX ops e s) a' w' → Ext L ι w ι' w' → K a' w') → wpOpIn F n P ops Q e.i K a w
end Go.Proofs.YtdkcpcflfnakdaaGreat.Sym
namespace Go.Proofs.YtdkcpcflfnakdaaGreat.Sym
open Go Go.RowKit
variable {L : Nat} {P : Program} {T : TypeId → Option TI}
theorem any_frontX {F : Fence} {n : Nat} {Hd : Nat → Prop} {ops : Array Oper} (hF : Wide F) {Q : Exit → Act → World → Prop} {s' : St} {B N N0 : Nat} {ms : List Nat}
    (hlate : ∀ j, N0 ≤ j → j < ops.size → ∀ p, p < N0 → (ms.getD j 0).testBit p = true)
    (hback : ∀ j o, ops[j]? = some o → ∀ e ∈ o.after, Region.binds .any e = true → e.on < j)
    (hms : ∀ j o, ops[j]? = some o → ∀ p, (ms.getD j 0).testBit p = true → ∃ e ∈ o.after, Region.binds .any e = true ∧ (e.on = p ∨ (ms.getD e.on 0).testBit p = true))
    (hN0 : N0 ≤ ops.size) {M : Nat} :
    ∀ (k : Nat) (l : List EntX) (listed : Array Bool) {ι : Loc} {s : St} {a : Act} {w : World}, l.length = k → RunX ops l s s' → s.mem.length = N →
      (∀ i, i < N0 → (listed.getD i true = false ↔ i ∈ l.map EntX.i)) → (∀ i, N0 ≤ i → i < ops.size → listed.getD i true = false) → listed.size = ops.size → l.Pairwise (fun x y => x.i < y.i) → (∀ e ∈ l, e.i < N0) →
      (∀ e ∈ l, e.Ok ∧ DoesX P L N ops e) → l.Pairwise (fun x y => okPairX ms ops x y = true) →
      (∀ f, f < N0 → f ∉ l.map EntX.i → ∀ p, (ms.getD f 0).testBit p = true → p ∉ l.map EntX.i) →
      Rel Hd B ι s a w → (∀ listed ι' a' w', (∀ i, i < N0 → listed.getD i true = true) → (∀ i, N0 ≤ i → i < ops.size → listed.getD i true = false) → listed.size = ops.size → Rel Hd B ι' s' a' w' → Ext L ι w ι' w' → wpAnyIn F n P .any ops Q M listed a' w') →
      wpAnyIn F n P .any ops Q (k + M) listed a w := by
  intro k
  induction k with
  | zero =>
    intro l listed ι s a w hk hr hN hl hbk hsz hlt hin hdo hok hcl hR hn
    obtain rfl : l = [] := List.eq_nil_of_length_eq_zero hk
    cases hr
    rw [Nat.zero_add]
    refine hn listed ι a w (fun i hi => ?_) hbk hsz hR (Ext.refl _ _)
    cases h : listed.getD i true with
    | true => rfl
    | false => have := (hl i hi).1 h; simp at this
  | succ k ih =>
    intro l listed ι s a w hk hr hN hl hbk hsz hlt hin hdo hok hcl hR hn
    have hlist : ∀ f, f < N0 → (listed.getD f false = true ↔ f ∉ l.map EntX.i) := by
      intro f hf
      have h0 := hl f hf
      have hf' : f < listed.size := by omega
      rw [← h0]
      simp [hf']
    rw [show k + 1 + M = (k + M) + 1 by omega]
    refine ⟨fun hnil => ?_, fun j hj => ?_⟩
    · exfalso
      cases l with
      | nil => simp at hk
      | cons e rest =>
        have hes := hin e (by simp)
        have : e.i ∈ Region.ready .any ops listed := by
          refine mem_ready.2 ⟨(hl e.i hes).2 (by simp), ops[e.i]'(by omega), by simp [show e.i < ops.size by omega], fun ed hed hb => ?_⟩
          have hon := hback e.i (ops[e.i]'(by omega)) (by simp [show e.i < ops.size by omega]) ed hed hb
          refine (hlist ed.on (by omega)).2 fun hm => ?_
          obtain ⟨x, hx, hxe⟩ := List.mem_map.1 hm
          rcases List.mem_cons.1 hx with rfl | hx
          · omega
          · have := List.rel_of_pairwise_cons hlt hx
            omega
        rw [hnil] at this
        cases this
    · obtain ⟨h1, o, ho, hall⟩ := mem_ready.1 hj
      have hjs0 := (Array.getElem?_eq_some_iff.1 ho).1
      have hjs : j < N0 := by
        apply Nat.lt_of_not_le
        intro hle
        cases l with
        | nil => simp at hk
        | cons e rest =>
          obtain ⟨ed, hed, hb, hor⟩ := hms j o ho e.i (hlate j hle hjs0 e.i (hin e (by simp)))
          have hon := hback j o ho ed hed hb
          have hl0 := hall ed hed hb
          have hf : ed.on < N0 := by
            apply Nat.lt_of_not_le
            intro hle2
            have hs2 : ed.on < listed.size := by omega
            have h3 := hbk ed.on hle2 (by omega)
            rw [Array.getD_eq_getD_getElem?, Array.getElem?_eq_getElem hs2] at h3 hl0
            simp only [Option.getD_some] at h3 hl0
            rw [h3] at hl0; cases hl0
          have hnl := (hlist ed.on hf).1 hl0
          rcases hor with h | h
          · exact hnl (by rw [h]; simp)
          · exact hcl ed.on hf hnl e.i h (by simp)
      obtain ⟨e, hel, rfl⟩ := List.mem_map.1 ((hl j hjs).1 h1)
      obtain ⟨pre, rest, rfl⟩ := List.append_of_mem hel
      have hlt' := List.pairwise_append.1 hlt
      have hok' := List.pairwise_append.1 hok
      have hpre : ∀ p ∈ pre, p.i < e.i := fun p hp => hlt'.2.2 p hp e (by simp)
      have hpost : ∀ p ∈ rest, e.i < p.i := fun p hp => List.rel_of_pairwise_cons hlt'.2.1 hp
      have hmem : ∀ i, i ∈ (pre ++ e :: rest).map EntX.i ↔ (i = e.i ∨ i ∈ (pre ++ rest).map EntX.i) := by
        intro i
        simp only [List.map_append, List.map_cons, List.mem_append, List.mem_cons]
        constructor
        · rintro (h | h | h)
          · exact .inr (.inl h)
          · exact .inl h
          · exact .inr (.inr h)
        · rintro (h | h | h)
          · exact .inr (.inl h)
          · exact .inl h
          · exact .inr (.inr h)
      have hnot : e.i ∉ (pre ++ rest).map EntX.i := by
        intro hm
        obtain ⟨x, hx, hxe⟩ := List.mem_map.1 hm
        rcases List.mem_append.1 hx with hx | hx
        · have := hpre x hx; omega
        · have := hpost x hx; omega
      have hready : ∀ p, (ms.getD e.i 0).testBit p = true → p ∉ (pre ++ e :: rest).map EntX.i := by
        intro p hp
        obtain ⟨ed, hed, hb, hor⟩ := hms e.i o ho p hp
        have hon := hback e.i o ho ed hed hb
        have hnl := (hlist ed.on (by omega)).1 (hall ed hed hb)
        rcases hor with h | h
        · rw [← h]; exact hnl
        · exact hcl ed.on (by omega) hnl p h
      have hind : ∀ p ∈ pre, p.Ok ∧ apartOf ops p.i e.i = true ∧ indX p e = true := by
        intro p hp
        have h0 := hok'.2.2 p hp e (by simp)
        unfold okPairX at h0
        rw [Bool.or_eq_true, Bool.and_eq_true] at h0
        refine ⟨(hdo p (by simp [hp])).1, ?_⟩
        rcases h0 with h0 | h0
        · exact absurd (List.mem_map.2 ⟨p, by simp [hp], rfl⟩) (hready p.i h0)
        · exact h0
      obtain ⟨eok, edo⟩ := hdo e (by simp)
      have hr' := runX_front hr eok hind
      refine edo hF hR hN hr'.1 ?_
      intro ι' a' w' hR' hE
      refine ih (pre ++ rest) _ (by simp at hk ⊢; omega) hr'.2 (by rw [q4i]; exact hN) ?_ ?_ (by simpa using hsz) ?_ ?_ ?_ ?_ ?_ hR' (fun l2 ι2 a2 w2 q1 q2 q3 r1 r2 => hn l2 ι2 a2 w2 q1 q2 q3 r1 (hE.trans r2))
      · intro i hi
        by_cases hie : e.i = i
        · subst hie
          have : (listed.setIfInBounds e.i true).getD e.i true = true := by simp [hsz, show e.i < ops.size by omega]
          rw [this]
          constructor
          · intro h; cases h
          · intro h; exact absurd h hnot
        · rw [getD_set_ne true hie, hl i hi, hmem]
          constructor
          · rintro (h | h)
            · exact absurd h.symm hie
            · exact h
          · exact .inr
      · intro i h1 h2
        rw [getD_set_ne true (by omega)]; exact hbk i h1 h2
      · exact List.pairwise_append.2 ⟨hlt'.1, (List.pairwise_cons.1 hlt'.2.1).2, fun x hx y hy => hlt'.2.2 x hx y (by simp [hy])⟩
      · intro x hx
        refine hin x ?_
        rcases List.mem_append.1 hx with hx | hx
        · simp [hx]
        · simp [hx]
      · intro x hx
        refine hdo x ?_
        rcases List.mem_append.1 hx with hx | hx
        · simp [hx]
        · simp [hx]
      · exact List.pairwise_append.2 ⟨hok'.1, (List.pairwise_cons.1 hok'.2.1).2, fun x hx y hy => hok'.2.2 x hx y (by simp [hy])⟩
      · intro f hf hfl p hp hpl
        by_cases hfe : f = e.i
        · subst hfe
          exact hready p hp ((hmem p).2 (.inr hpl))
        · refine hcl f hf (fun hm => ?_) p hp ((hmem p).2 (.inr hpl))
          rcases (hmem f).1 hm with h | h
          · exact hfe h
          · exact hfl h
theorem ms_lt {ops : Array Oper} {ms : List Nat} (hback : ∀ j o, ops[j]? = some o → ∀ e ∈ o.after, Region.binds .any e = true → e.on < j)
    (hms : ∀ j o, ops[j]? = some o → ∀ p, (ms.getD j 0).testBit p = true → ∃ e ∈ o.after, Region.binds .any e = true ∧ (e.on = p ∨ (ms.getD e.on 0).testBit p = true)) :
    ∀ j, j < ops.size → ∀ p, (ms.getD j 0).testBit p = true → p < j := by
  intro j
  induction j using Nat.strongRecOn with
  | _ j ih =>
    intro hj p hp
    obtain ⟨e, h1, h2, h3⟩ := hms j ops[j] (by simp [hj]) p hp
    have hon := hback j ops[j] (by simp [hj]) e h1 h2
    rcases h3 with h3 | h3
    · omega
    · have := ih e.on hon (by omega) p h3; omega
theorem any_backX {F : Fence} {n : Nat} {Hd : Nat → Prop} (hT : TyOk P T) {ops : Array Oper} (hF : Wide F) {Q : Exit → Act → World → Prop} {B : Nat} {ms : List Nat} {Kn : St → Prop}
    (hback : ∀ j o, ops[j]? = some o → ∀ e ∈ o.after, Region.binds .any e = true → e.on < j)
    (hms : ∀ j o, ops[j]? = some o → ∀ p, (ms.getD j 0).testBit p = true → ∃ e ∈ o.after, Region.binds .any e = true ∧ (e.on = p ∨ (ms.getD e.on 0).testBit p = true)) :
    ∀ (rest : List Oper) (j : Nat) (listed : Array Bool) {ι : Loc} {s : St} {a : Act} {w : World}, ops.toList.drop j = rest → (∀ o ∈ rest, o.guard = none) → (∀ i, j ≤ i → i < ops.size → ∀ p, p < i → (ms.getD i 0).testBit p = true) →
      (∀ i, i < j → i < ops.size → listed.getD i true = true) → (∀ i, j ≤ i → i < ops.size → listed.getD i true = false) → listed.size = ops.size → vcOps P T L ops rest s Kn → Rel Hd B ι s a w →
      (∀ s2 ι' a' w', Kn s2 → Rel Hd B ι' s2 a' w' → Ext L ι w ι' w' → Q .normal a' w') → wpAnyIn F n P .any ops Q rest.length listed a w
  | [], j, listed, ι, s, a, w, hd, _, _, hb, hf, hsz, hk, hR, hn => by
    have hj : ops.size ≤ j := by have := congrArg List.length hd; simp at this; omega
    refine ⟨?_, hn s ι a w hk hR (Ext.refl _ _)⟩
    refine List.eq_nil_iff_forall_not_mem.2 fun i hi => ?_
    obtain ⟨h1, o, ho, -⟩ := mem_ready.1 hi
    have hil := (Array.getElem?_eq_some_iff.1 ho).1
    rw [hb i (by omega) hil] at h1; cases h1
  | o :: rest, j, listed, ι, s, a, w, hd, hg, hlate, hb, hf, hsz, hk, hR, hn => by
    have hlt : j < ops.size := by have := congrArg List.length hd; simp at this; omega
    have hoj : ops[j]? = some o := by
      have := congrArg (·[0]?) hd
      simp at this
      simpa using this
    have hd' : ops.toList.drop (j + 1) = rest := by
      have := congrArg List.tail hd
      simpa using this
    have hon : ∀ i, i < ops.size → (listed.getD i false = true ↔ i < j) := by
      intro i hi
      have hi' : i < listed.size := by omega
      by_cases c : i < j
      · have := hb i c hi
        rw [Array.getD_eq_getD_getElem?, Array.getElem?_eq_getElem hi'] at this ⊢
        simp only [Option.getD_some] at this ⊢
        simp [this, c]
      · have := hf i (by omega) hi
        rw [Array.getD_eq_getD_getElem?, Array.getElem?_eq_getElem hi'] at this ⊢
        simp only [Option.getD_some] at this ⊢
        simp [this, c]
    refine ⟨fun hnil => ?_, fun i hi => ?_⟩
    · exfalso
      have : j ∈ Region.ready .any ops listed := mem_ready.2 ⟨hf j (Nat.le_refl _) hlt, o, hoj, fun e he hbi => (hon e.on (by have := hback j o hoj e he hbi; omega)).2 (hback j o hoj e he hbi)⟩
      rw [hnil] at this; cases this
    · obtain ⟨h1, o', ho', hall⟩ := mem_ready.1 hi
      have hil := (Array.getElem?_eq_some_iff.1 ho').1
      have hij : i = j := by
        apply Nat.le_antisymm
        · apply Nat.le_of_not_lt
          intro hgt
          obtain ⟨e, he, hbi, hor⟩ := hms i o' ho' j (hlate i (by omega) hil j hgt)
          have h3 := (hon e.on (by have := hback i o' ho' e he hbi; omega)).1 (hall e he hbi)
          rcases hor with h | h
          · omega
          · have := ms_lt hback hms e.on (by omega) j h; omega
        · apply Nat.le_of_not_lt
          intro hlt'
          rw [hb i hlt' hil] at h1; cases h1
      subst hij
      rw [hoj] at ho'; cases ho'
      have hgo := hg o (by simp)
      simp only [vcOps, hgo] at hk
      unfold wpOpIn
      rw [hoj]
      simp only
      rw [if_pos (by simp [Region.wanted, hgo])]
      refine q2n (L := L) hT hF hR hk (fun x y s2 ι2 w2 g1 g2 g3 g4 => ?_)
      refine any_backX hT hF hback hms rest (i + 1) _ hd' (fun q hq => hg q (by simp [hq])) (fun q h1 h2 => hlate q (by omega) h2) ?_ ?_ (by simpa using hsz) g4 (g2.put o.dst g1) (fun s3 ι3 a3 w3 r0 r1 r2 => hn s3 ι3 a3 w3 r0 r1 (g3.trans r2))
      · intro q h1 h2
        by_cases hq : i = q
        · subst hq; simp [hsz, hlt]
        · rw [getD_set_ne true hq]; exact hb q (by omega) h2
      · intro q h1 h2
        rw [getD_set_ne true (by omega)]; exact hf q (by omega) h2
end Go.Proofs.YtdkcpcflfnakdaaGreat.Sym
namespace Go.Proofs.YtdkcpcflfnakdaaGreat.Sym
open Go Go.RowKit
variable {L : Nat} {P : Program} {T : TypeId → Option TI}
theorem weak_cut (kp : Nat → Bool) (x : AV) : weak x (cutV kp x) := by
  unfold cutV
  split
  · exact q0s x
  · cases x <;> exact .inl rfl
theorem weaks_cut (kp : Nat → Bool) : ∀ l : List AV, weaks l (cutVs kp l)
  | [] => rfl
  | x :: l => ⟨_, _, rfl, weak_cut kp x, weaks_cut kp l⟩
theorem weakB_cut (kd : List Nat) : ∀ blk : AB, weakB blk (blk.cutK kd)
  | .box cs => ⟨_, rfl, weaks_cut _ cs⟩
  | .row t sz xs => ⟨xs, rfl, q1q xs⟩
  | .rowc t sz xs N => ⟨xs, rfl, q1q xs⟩
  | .gone => rfl
  | .tr _ _ => rfl
theorem weakM_of : ∀ {m m' : List AB}, m.length = m'.length → (∀ (i : Nat) (b c : AB), m[i]? = some b → m'[i]? = some c → weakB b c) → weakM m m'
  | [], [], _, _ => rfl
  | [], _ :: _, h, _ => by cases h
  | _ :: _, [], h, _ => by cases h
  | b :: m, c :: m', h, hk => ⟨c, m', rfl, hk 0 b c rfl rfl, weakM_of (by simpa using h) fun i x y h1 h2 => hk (i + 1) x y h1 h2⟩
def wIof : Wr → List Nat
  | none => []
  | some (b, _, _) => [b]
def wBof : Wr → List AB
  | none => []
  | some (_, blk, _) => [blk]
def kdOf : Wr → List Nat
  | some (b, _, true) => [b]
  | _ => []
def refsB : List (Option AB) → List Nat
  | [] => []
  | some blk :: l => blk.bks ++ refsB l
  | none :: l => refsB l
def refsW : Wr → List Nat
  | none => []
  | some (_, blk, _) => blk.bks
theorem refsB_mem : ∀ {l : List (Option AB)} {blk : AB}, some blk ∈ l → ∀ b ∈ blk.bks, b ∈ refsB l
  | some c :: l, blk, h, b, hb => by
    simp only [refsB, List.mem_append]
    rcases List.mem_cons.1 h with e | h
    · cases e; exact .inl hb
    · exact .inr (refsB_mem h b hb)
  | none :: l, blk, h, b, hb => by
    rcases List.mem_cons.1 h with e | h
    · cases e
    · exact refsB_mem h b hb
def entX (ops : Array Oper) (i : Nat) (o : Oper) (s : St) (x : AV) (wr : Wr) : EntX :=
  let rd := (o.looksAt ops).map fun t => s.tmps.getD t .any
  let acc := accOf o.op s
  let accB := acc.map fun b => s.mem[b]?
  ⟨i, q2m rd, q03 rd, acc, accFull accB, refsB accB, bks x, wIof wr, refsW wr, kdOf wr, rd, accB, x, wBof wr⟩
theorem entX_ok {ops : Array Oper} {i : Nat} {o : Oper} {s : St} {x : AV} {wr : Wr} : (entX ops i o s x wr).Ok := by
  refine ⟨fun h => h, fun b hb => hb, fun h => h, fun blk hb b h => refsB_mem hb b h, fun b hb => hb, ?_, ?_, ?_⟩
  · intro blk hb b h
    rcases wr with _ | ⟨c, blk', k⟩
    · cases hb
    · simp only [entX, wBof, List.mem_singleton] at hb; subst hb; exact h
  · rcases wr with _ | ⟨c, blk', k⟩ <;> rfl
  · rcases wr with _ | ⟨c, blk', k⟩
    · exact List.nodup_nil
    · simp [entX, wIof]
def St.appX (s : St) : Wr → St
  | none => s
  | some (b, blk, false) => { s with mem := s.mem.set b blk }
  | some (b, blk, true) => ⟨cutVs (kpK [b]) s.tmps, (s.mem.map (AB.cutK [b])).set b blk⟩
theorem postX_entX {ops : Array Oper} {i : Nat} {o : Oper} (ho : ops[i]? = some o) {s0 s : St} {x : AV} {wr : Wr} : postX ops (entX ops i o s0 x wr) s = (s.appX wr).put o.dst x := by
  have hd : dstOf ops i = o.dst := by simp [dstOf, ho]
  have e1 (m : List AB) : m.map (AB.cutK []) = m := by
    rw [show AB.cutK [] = _root_.id from funext cutK_nil]; simp
  rcases wr with _ | ⟨b, blk, k⟩
  · simp only [postX, entX, EntX.W, wIof, wBof, kdOf, List.zip_nil_left, setW, hd, cutVs_nil, e1, St.appX]
  · cases k
    · simp only [postX, entX, EntX.W, wIof, wBof, kdOf, List.zip_cons_cons, List.zip_nil_left, setW, hd, cutVs_nil, e1, St.appX]
    · simp only [postX, entX, EntX.W, wIof, wBof, kdOf, List.zip_cons_cons, List.zip_nil_left, setW, hd, St.appX]
mutual
theorem noRef_of {b : Nat} : ∀ (x : AV), (∀ c ∈ bks x, c ≠ b) → noRef b x = true
  | .v _, _ => rfl
  | .agg xs, h => noRefs_of xs h
  | .tup xs, h => noRefs_of xs h
  | .sl _ _, _ => rfl
  | .rp _, _ => rfl
  | .own c _ _ _, h => by have := h c (by simp [bks]); simpa [noRef] using this
  | .ptr c _, h => by have := h c (by simp [bks]); simpa [noRef] using this
  | .ep c _ _ _, h => by have := h c (by simp [bks]); simpa [noRef] using this
  | .fn _ caps, h => noRefs_of caps h
  | .any, _ => rfl
theorem noRefs_of {b : Nat} : ∀ (xs : List AV), (∀ c ∈ q03 xs, c ≠ b) → noRefs b xs = true
  | [], _ => rfl
  | x :: xs, h => by
    simp only [q03, List.mem_append] at h
    simp only [noRefs, Bool.and_eq_true]
    exact ⟨noRef_of x (fun c hc => h c (.inl hc)), noRefs_of xs (fun c hc => h c (.inr hc))⟩
end
theorem weak_any (x : AV) : weak x .any := by cases x <;> exact .inl rfl
theorem kp_one {b : Nat} {l : List Nat} (h : l.all (kpK [b]) = true) : ∀ c ∈ l, c ≠ b := fun c hc e => by
  have := List.all_eq_true.1 h c hc
  subst e
  simp [kpK] at this
theorem weak_kill (b : Nat) (x : AV) : weak (killV b x) (cutV (kpK [b]) x) := by
  unfold cutV
  split
  · rename_i h
    rw [q4u x (noRef_of x (kp_one h))]
    exact q0s x
  · exact weak_any _
theorem weaks_kill (b : Nat) : ∀ l : List AV, weaks (q17 b l) (cutVs (kpK [b]) l)
  | [] => rfl
  | x :: l => ⟨_, _, rfl, weak_kill b x, weaks_kill b l⟩
theorem weakB_kill (b : Nat) : ∀ blk : AB, weakB (AB.kill b blk) (AB.cutK [b] blk)
  | .box cs => ⟨_, rfl, weaks_kill b cs⟩
  | .row t sz xs => ⟨xs, rfl, q1q xs⟩
  | .rowc t sz xs N => ⟨xs, rfl, q1q xs⟩
  | .gone => rfl
  | .tr _ _ => rfl
theorem weaks_set : ∀ {l m : List AV} (i : Nat) (x : AV), weaks l m → weaks (l.set i x) (m.set i x)
  | [], _, _, _, h => by cases h; rfl
  | y :: l, _, 0, x, h => by obtain ⟨z, zs, rfl, _, h2⟩ := h; exact ⟨x, zs, rfl, q0s x, h2⟩
  | y :: l, _, i + 1, x, h => by obtain ⟨z, zs, rfl, h1, h2⟩ := h; exact ⟨z, _, rfl, h1, weaks_set i x h2⟩
theorem weaks_put {s s' : St} (d : Option Tmp) (x : AV) (h : weaks s.tmps s'.tmps) : weaks (s.put d x).tmps (s'.put d x).tmps := by
  cases d with
  | none => exact h
  | some d => exact weaks_set d x h
theorem app_weak (s : St) (wr : Wr) (d : Option Tmp) (x : AV) : Turns ((s.app wr).put d x) ((s.appX wr).put d x) := by
  rcases wr with _ | ⟨b, blk, k⟩
  · exact Turns.weak (q1q _) (by cases d <;> exact weakM_refl _)
  · cases k
    · exact Turns.weak (q1q _) (by cases d <;> exact weakM_refl _)
    · refine Turns.weak (weaks_put d x (weaks_kill b s.tmps)) ?_
      rw [put_mem, put_mem]
      refine weakM_of (by simp [St.app, St.rehome, St.appX]) fun i c c' h1 h2 => ?_
      simp only [St.app, St.rehome] at h1
      simp only [St.appX] at h2
      by_cases e : b = i
      · subst e
        have hl := (List.getElem?_eq_some_iff.1 h1).1
        simp only [List.length_set, List.length_map] at hl
        rw [List.getElem?_set_self (by simpa using hl)] at h1 h2
        cases h1; cases h2
        exact weakB_refl _
      · rw [List.getElem?_set_ne e, List.getElem?_map] at h1 h2
        cases hs : s.mem[i]? with
        | none => rw [hs] at h1; cases h1
        | some z =>
          rw [hs] at h1 h2
          cases h1; cases h2
          exact weakB_kill b z
theorem map_eqs {α β : Type} {f g : α → β} : ∀ {l : List α}, l.map f = l.map g → ∀ a ∈ l, f a = g a
  | _ :: l, h, a, ha => by
    simp only [List.map_cons, List.cons.injEq] at h
    rcases List.mem_cons.1 ha with rfl | ha
    · exact h.1
    · exact map_eqs h.2 a ha
theorem doesX_old (hT : TyOk P T) {N : Nat} {ops : Array Oper} {nids : Nat → Nat} {i : Nat} {o : Oper} {s0 : St} {x : AV} {wr : Wr} (ho : ops[i]? = some o) (hE : Ex P T L ops nids (entOf ops i o s0 x wr) s0) (hnew : isNew o.op = true → L ≤ nids i ∧ nids i < N) :
    DoesX P L N ops (entX ops i o s0 x wr) := by
  intro Hd B ι s a w F n K Q hF hR hN hX hK
  obtain ⟨o', ho', hrd, hB⟩ := hX
  have ho2 : ops[i]? = some o' := ho'
  rw [ho] at ho2
  cases ho2
  have h1 := map_eqs (show (o.looksAt ops).map (fun t => s0.tmps.getD t .any) = (o.looksAt ops).map (fun t => s.tmps.getD t .any) from hrd)
  have h2 := map_eqs (show (accOf o.op s0).map (fun b => s0.mem[b]?) = (accOf o.op s0).map (fun b => s.mem[b]?) from hB)
  have hE' := hE.local (s2 := s) (fun o2 h3 t ht => by
    have h3 : ops[i]? = some o2 := h3
    rw [ho] at h3; cases h3; exact (h1 t ht).symm) (fun b hb => (h2 b hb).symm)
  refine ex_sound hT hF hR hE' (fun o2 h3 hn => by
    have h3 : ops[i]? = some o2 := h3
    rw [ho] at h3; cases h3
    have := hnew hn
    exact ⟨this.1, by rw [hN]; exact this.2⟩) ?_
  intro ι' a' w' hR' hE2
  have hd : dstOf ops i = o.dst := by simp [dstOf, ho]
  have e1 : post ops (entOf ops i o s0 x wr) s = (s.app wr).put o.dst x := by
    show (s.app wr).put (dstOf ops i) x = _
    rw [hd]
  rw [e1] at hR'
  obtain ⟨ι2, hR2, hE3⟩ := app_weak s wr o.dst x Hd B ι' a' w' hR'
  refine hK ι2 a' w' ?_ (hE2.trans (hE3 L))
  rw [postX_entX ho]
  exact hR2
theorem exX_old {ops : Array Oper} {i : Nat} {o : Oper} {s : St} {x : AV} {wr : Wr} (ho : ops[i]? = some o) : ExX ops (entX ops i o s x wr) s := ⟨o, ho, rfl, rfl⟩
theorem putL_setW : ∀ (bs : List Nat) (l m : List AB), putL m bs l = setW (bs.zip l) m
  | [], l, m => by cases l <;> rfl
  | b :: bs, [], m => rfl
  | b :: bs, x :: l, m => by rw [putL, List.zip_cons_cons, setW, putL_setW bs l]
theorem setW_setW {ids : List Nat} {A C : List AB} (hA : A.length = ids.length) (hC : C.length = ids.length) (hn : ids.Nodup) (m : List AB) : setW (ids.zip C) (setW (ids.zip A) m) = setW (ids.zip C) m := by
  have f1 : (ids.zip A).map Prod.fst = ids := List.map_fst_zip (by omega)
  have f2 : (ids.zip C).map Prod.fst = ids := List.map_fst_zip (by omega)
  refine List.ext_getElem? fun i => ?_
  by_cases hi : i ∈ ids
  · by_cases hl : i < m.length
    · have : i ∈ (ids.zip C).map Prod.fst := by rw [f2]; exact hi
      obtain ⟨⟨j, blk⟩, hm, rfl⟩ := List.mem_map.1 this
      rw [setW_in (by rw [f2]; exact hn) hm (by rw [q47]; exact hl), setW_in (by rw [f2]; exact hn) hm hl]
    · rw [List.getElem?_eq_none (by simp only [q47]; omega), List.getElem?_eq_none (by simp only [q47]; omega)]
  · rw [setW_out (by rw [f2]; exact hi), setW_out (by rw [f1]; exact hi), setW_out (by rw [f2]; exact hi)]
mutual
theorem ren_in {bs : List Nat} : ∀ (x : AV), (bks x).all (fun b => decide (b < bs.length)) = true → ∀ b ∈ bks (ren bs x), b ∈ bs
  | .v _, _, b, hb => by simp [ren, bks] at hb
  | .agg xs, h, b, hb => renAll_in xs h b hb
  | .tup xs, h, b, hb => renAll_in xs h b hb
  | .sl _ _, _, b, hb => by simp [ren, bks] at hb
  | .rp _, _, b, hb => by simp [ren, bks] at hb
  | .own c _ _ _, h, b, hb => by
    simp only [bks, List.all_cons, List.all_nil, Bool.and_true, decide_eq_true_eq] at h
    simp only [ren, bks, List.mem_singleton] at hb
    rw [hb, List.getD_eq_getElem?_getD, List.getElem?_eq_getElem h]; exact List.getElem_mem h
  | .ptr c _, h, b, hb => by
    simp only [bks, List.all_cons, List.all_nil, Bool.and_true, decide_eq_true_eq] at h
    simp only [ren, bks, List.mem_singleton] at hb
    rw [hb, List.getD_eq_getElem?_getD, List.getElem?_eq_getElem h]; exact List.getElem_mem h
  | .ep c _ _ _, h, b, hb => by
    simp only [bks, List.all_cons, List.all_nil, Bool.and_true, decide_eq_true_eq] at h
    simp only [ren, bks, List.mem_singleton] at hb
    rw [hb, List.getD_eq_getElem?_getD, List.getElem?_eq_getElem h]; exact List.getElem_mem h
  | .fn f caps, h, b, hb => renAll_in caps h b hb
  | .any, _, b, hb => by simp [ren, bks] at hb
theorem renAll_in {bs : List Nat} : ∀ (xs : List AV), (q03 xs).all (fun b => decide (b < bs.length)) = true → ∀ b ∈ q03 (q0e bs xs), b ∈ bs
  | [], _, b, hb => by simp [q0e, q03] at hb
  | x :: xs, h, b, hb => by
    simp only [q03, List.all_append, Bool.and_eq_true] at h
    simp only [q0e, q03, List.mem_append] at hb
    rcases hb with hb | hb
    · exact ren_in x h.1 b hb
    · exact renAll_in xs h.2 b hb
end
theorem renM_in {bs : List Nat} {M : List AB} (h : M.all (AB.inR bs.length) = true) {blk : AB} (hb : blk ∈ renM bs M) : ∀ b ∈ blk.bks, b ∈ bs := by
  obtain ⟨i, hi⟩ := List.getElem?_of_mem hb
  rw [q2c] at hi
  cases hg : M[i]? with
  | none => rw [hg] at hi; cases hi
  | some c =>
    rw [hg] at hi
    simp only [Option.map_some, Option.some.injEq] at hi
    subst hi
    cases c with
    | box cs =>
      have := List.all_eq_true.1 h _ (List.mem_of_getElem? hg)
      exact renAll_in cs this
    | _ => intro b hb; cases hb
def entB (ops : Array Oper) (i : Nat) (o : Oper) (s : St) (x : AV) (xR bs : List Nat) (M1 : List AB) (kd : List Nat) : EntX :=
  let rd := (o.looksAt ops).map fun t => s.tmps.getD t .any
  ⟨i, q2m rd, q03 rd, bs, false, bs, xR, bs, bs, kd, rd, bs.map fun b => s.mem[b]?, x, renM bs M1⟩
theorem entB_ok {ops : Array Oper} {i : Nat} {o : Oper} {s : St} {x : AV} {xR bs kd : List Nat} {M0 M1 : List AB} (hm : bs.map (fun b => s.mem[b]?) = (renM bs M0).map some) (hnd : bs.Nodup) (h0 : M0.all (AB.inR bs.length) = true)
    (h1 : M1.all (AB.inR bs.length) = true) (hl : M1.length = bs.length) (hx : ∀ b ∈ bks x, b ∈ xR) : (entB ops i o s x xR bs M1 kd).Ok := by
  refine ⟨fun h => h, fun b hb => hb, (fun h => by cases h), fun blk hb => ?_, hx, fun blk hb => renM_in h1 hb, by show (renM bs M1).length = bs.length; rw [q1h]; exact hl, hnd⟩
  have hb : some blk ∈ bs.map (fun b => s.mem[b]?) := hb
  rw [hm, List.mem_map] at hb
  obtain ⟨c, hc, e⟩ := hb
  cases e
  exact renM_in h0 hc
theorem ev_cut {s : St} {kp : Nat → Bool} {m : List AB} {y : Operand} (h : (bks (s.ev y)).all kp = true) : (⟨cutVs kp s.tmps, m⟩ : St).ev y = s.ev y := by
  cases y with
  | tmp t =>
    show (cutVs kp s.tmps).getD t .any = s.tmps.getD t .any
    rw [cutVs_getD]; exact cutV_id h
  | const v => rfl
  | global g => rfl
  | func f => rfl
theorem evs_cut {s : St} {kp : Nat → Bool} {m : List AB} : ∀ {l : List Operand}, (q03 (evs s l)).all kp = true → evs (⟨cutVs kp s.tmps, m⟩ : St) l = evs s l
  | [], _ => rfl
  | y :: l, h => by
    simp only [evs, q03, List.all_append, Bool.and_eq_true] at h
    rw [evs, evs, ev_cut h.1, evs_cut h.2]
theorem q0j.keepsX {g : FuncId} {kp kp' : Nat → Bool} {m : List AB} {args : List AV} {K : AV → List AB → Prop} (h : q0j P kp g m args K) (hk : ∀ b, kp' b = true → kp b = true) : q0j P kp' g m args K :=
  ⟨h.1, fun Hd ι w vs hR => (h.2 Hd ι w vs hR).mono fun e w' ⟨y, x, ι', m', h1, h2, h3, h5, h4⟩ => ⟨y, x, ι', m', h1, h2, h3, fun b o hb ho => h5 b o (hk b hb) ho, h4⟩⟩
theorem doesX_bulk (hT : TyOk P T) {N : Nat} {ops : Array Oper} {i : Nat} {o : Oper} {s0 : St} {f : Operand} {args : Array Operand} {g : FuncId} {caps args0 : List AV} {x0 : AV} {xR bs kd : List Nat} {kp0 : Nat → Bool} {M0 M1 : List AB}
    (ho : ops[i]? = some o) (hg : o.guard = none) (hc : q13 o.op = some (f, args)) (hf : s0.ev f = .fn g caps) (hm : bs.map (fun b => s0.mem[b]?) = (renM bs M0).map some) (hnd : bs.Nodup) (ha : evs s0 args.toList ++ caps = q0e bs args0)
    (hk1 : (q03 args0).all (fun b => decide (b < bs.length)) = true) (h0 : M0.all (AB.inR bs.length) = true) (hl : M1.length = bs.length) (h : q0j P kp0 g M0 args0 (fun y m' => y = x0 ∧ m' = M1))
    (hkp : ∀ b, kpK kd b = true → kpOf kp0 bs 0 b = true) (hL : ∀ b ∈ kd, L ≤ b) (hka : (q03 (evs s0 args.toList ++ caps)).all (kpK kd) = true) : DoesX P L N ops (entB ops i o s0 (ren bs x0) xR bs M1 kd) := by
  intro Hd B ι s a w F n K Q hF hR hN hX hK
  obtain ⟨o', ho', hrd, hB⟩ := hX
  have ho2 : ops[i]? = some o' := ho'
  rw [ho] at ho2
  cases ho2
  have h1 := map_eqs (show (o.looksAt ops).map (fun t => s0.tmps.getD t .any) = (o.looksAt ops).map (fun t => s.tmps.getD t .any) from hrd)
  have hev : ∀ y ∈ o.op.operands.toList, s.ev y = s0.ev y := evs_of_tmps (d := none) (ty := 0) rfl (fun t ht => (h1 t ht).symm)
  have hms : bs.map (fun b => s.mem[b]?) = (renM bs M0).map some := by rw [← hm]; exact hB.symm
  have hlen0 : bs.length = M0.length := by have := congrArg List.length hm; simpa [q1h] using this
  have hd : dstOf ops i = o.dst := by simp [dstOf, ho]
  obtain ⟨kp, hkpe⟩ : ∃ kp, kpK kd = kp := ⟨_, rfl⟩
  unfold q13 at hc
  split at hc <;> try (cases hc; done)
  rename_i f' args' ts' hop
  cases hc
  have hef : s.ev f = .fn g caps := by rw [hev f (by rw [hop]; simp [Op.operands, Call.operands])]; exact hf
  have hea : evs s args.toList = evs s0 args.toList := q4g (fun y hy => hev y (by rw [hop]; simp [Op.operands, Call.operands]; exact .inr (by simpa using hy)))
  have hkb : (q03 (evs s0 args.toList)).all (kpK kd) = true ∧ (q03 caps).all (kpK kd) = true := by
    rw [q41, List.all_append, Bool.and_eq_true] at hka; exact hka
  let m1 : List AB := setW (bs.zip (renM bs M0)) (s.mem.map (AB.cutK kd))
  have hfst : (bs.zip (renM bs M0)).map Prod.fst = bs := List.map_fst_zip (by rw [q1h]; omega)
  have hat : ∀ b ∈ bs, m1[b]? = s.mem[b]? := by
    intro b hb
    obtain ⟨j, hj⟩ := List.getElem?_of_mem hb
    have hjl := (List.getElem?_eq_some_iff.1 hj).1
    have e0 := congrArg (·[j]?) hms
    simp only [List.getElem?_map, hj, Option.map_some] at e0
    cases hr : (renM bs M0)[j]? with
    | none => rw [hr] at e0; cases e0
    | some z =>
      rw [hr] at e0
      simp only [Option.map_some, Option.some.injEq] at e0
      have hz : (b, z) ∈ bs.zip (renM bs M0) := by
        refine List.mem_of_getElem? (i := j) ?_
        rw [List.getElem?_zip_eq_some]
        exact ⟨hj, hr⟩
      rw [e0]
      exact setW_in (by rw [hfst]; exact hnd) hz (by simpa using (List.getElem?_eq_some_iff.1 e0).1)
  have hout : ∀ b, b ∉ bs → m1[b]? = (s.mem[b]?).map (AB.cutK kd) := fun b hb => by
    show (setW _ _)[b]? = _
    rw [setW_out (by rw [hfst]; exact hb), List.getElem?_map]
  have hwk : Turns s ⟨cutVs (kpK kd) s.tmps, m1⟩ := by
    refine Turns.weak (weaks_cut _ _) (weakM_of (by simp [m1, q47]) fun j b c h1 h2 => ?_)
    by_cases hj : j ∈ bs
    · rw [show (⟨cutVs (kpK kd) s.tmps, m1⟩ : St).mem = m1 from rfl, hat j hj, h1] at h2
      cases h2; exact weakB_refl b
    · rw [show (⟨cutVs (kpK kd) s.tmps, m1⟩ : St).mem = m1 from rfl, hout j hj, h1] at h2
      cases h2; exact weakB_cut kd b
  obtain ⟨ι1, hR1, hE1⟩ := hwk Hd B ι a w hR
  show wpOpIn F n P ops Q i K a w
  unfold wpOpIn
  rw [ho]
  simp only
  rw [if_pos (by simp [Region.wanted, hg])]
  refine q2n (L := L) hT hF hR1 (K := fun x' s' => x' = ren bs x0 ∧ s' = ⟨cutVs (kpK kd) s.tmps, setW (bs.zip (renM bs M1)) (s.mem.map (AB.cutK kd))⟩) ?_ ?_
  · rw [hop]
    left
    simp only [aop0]
    right; left
    unfold acallD
    rw [ev_cut (by rw [hef]; exact hkb.2), hef]
    refine .inr (.inl ⟨kpK kd, fun b hb => ?_, ?_⟩)
    · cases hk : kpK kd b with
      | true => rfl
      | false =>
        have : b ∈ kd := List.mem_of_elem_eq_true (by simpa [kpK] using hk)
        have := hL b this
        omega
    · have harg : args.toList.map (⟨cutVs (kpK kd) s.tmps, m1⟩ : St).ev ++ caps = q0e bs args0 := by
        rw [← evs_eq, evs_cut (by rw [hea]; exact hkb.1), hea]; exact ha
      show q0j P (kpK kd) g m1 (args.toList.map (⟨cutVs (kpK kd) s.tmps, m1⟩ : St).ev ++ caps) _
      refine q0j.keepsX (kp := kpOf kp0 bs 0) ?_ hkp
      refine h.frame bs hnd ?_ harg hk1 h0 ?_ ?_
      · rw [← hms]
        exact List.map_congr_left fun b hb => hat b hb
      · have : ∀ (m : List AB) (b0 : Nat), (∀ i cs, m[i]? = some (.box cs) → b0 + i ∈ bs ∨ (q03 cs).all (kpOf kp0 bs 0) = true) → outOk (kpOf kp0 bs 0) bs b0 m = true := by
          intro m
          induction m with
          | nil => intro b0 _; rfl
          | cons c m ih =>
            intro b0 hh
            have ih' := ih (b0 + 1) fun i cs hi => by have := hh (i + 1) cs hi; rwa [show b0 + (i + 1) = b0 + 1 + i by omega] at this
            cases c with
            | box cs =>
              rw [outOk, Bool.and_eq_true, Bool.or_eq_true]
              exact ⟨(hh 0 cs rfl).imp (fun h => by simpa using h) _root_.id, ih'⟩
            | _ => exact ih'
        refine this m1 0 fun j cs hj => ?_
        rw [Nat.zero_add]
        by_cases hjb : j ∈ bs
        · exact .inl hjb
        · refine .inr (List.all_eq_true.2 fun b hb => hkp b ?_)
          rw [hout j hjb] at hj
          cases hs : s.mem[j]? with
          | none => rw [hs] at hj; cases hj
          | some z =>
            rw [hs] at hj
            simp only [Option.map_some, Option.some.injEq] at hj
            cases z with
            | box cs0 =>
              simp only [AB.cutK, AB.box.injEq] at hj
              subst hj
              have key : ∀ (l : List AV), ∀ b ∈ q03 (cutVs (kpK kd) l), kpK kd b = true := by
                intro l
                induction l with
                | nil => intro b hb; simp [cutVs, q03] at hb
                | cons y l ih =>
                  intro b hb
                  simp only [cutVs, q03, List.mem_append] at hb
                  rcases hb with hb | hb
                  · unfold cutV at hb
                    split at hb
                    · rename_i hy; exact List.all_eq_true.1 hy b hb
                    · simp [bks] at hb
                  · exact ih b hb
              exact key cs0 b hb
            | _ => simp [AB.cutK] at hj
      · rintro _ _ ⟨rfl, rfl⟩
        refine ⟨by omega, rfl, ?_⟩
        show (⟨cutVs (kpK kd) (cutVs (kpK kd) s.tmps), _⟩ : St) = _
        rw [cutVs_twice, putL_setW, setW_setW (by rw [q1h]; omega) (by rw [q1h]; omega) hnd]
  · rintro x' y s' ι' w' r1 r2 r3 ⟨rfl, rfl⟩
    refine hK ι' _ w' ?_ ((hE1 L).trans r3)
    have e1 : postX ops (entB ops i o s0 (ren bs x0) xR bs M1 kd) s = (⟨cutVs (kpK kd) s.tmps, setW (bs.zip (renM bs M1)) (s.mem.map (AB.cutK kd))⟩ : St).put o.dst (ren bs x0) := by
      show (⟨cutVs (kpK kd) s.tmps, setW (bs.zip (renM bs M1)) (s.mem.map (AB.cutK kd))⟩ : St).put (dstOf ops i) (ren bs x0) = _
      rw [hd]
    rw [e1]
    exact r2.put o.dst r1
def StepX (P : Program) (L N : Nat) (ops : Array Oper) (i : Nat) (s : St) (e : EntX) (s' : St) : Prop := e.Ok ∧ DoesX P L N ops e ∧ e.i = i ∧ ExX ops e s ∧ postX ops e s = s'
def xdrawC (P : Program) (L N : Nat) (ops : Array Oper) (o : Oper) (i nid : Nat) (s : St) (g : FuncId) (argv : List AV) (k : EntX → St → Prop) : Prop :=
  (∃ x wr, Asks P L nid (isNew o.op) g s.mem argv x wr ∧ k (entX ops i o s x wr) ((s.appX wr).put o.dst x)) ∨ (∃ e s', StepX P L N ops i s e s' ∧ k e s')
def xdrawV (P : Program) (L N : Nat) (ops : Array Oper) (o : Oper) (i nid : Nat) (s : St) (v : AV) (argv : List AV) (k : EntX → St → Prop) : Prop :=
  match v with
  | .fn g caps => xdrawC P L N ops o i nid s g (argv ++ caps) k
  | _ => False
def xdrawD (r : Option (Prop × AV × Wr)) (ops : Array Oper) (o : Oper) (i : Nat) (s : St) (k : EntX → St → Prop) : Prop :=
  match r with
  | some (C, x, wr) => C ∧ k (entX ops i o s x wr) ((s.appX wr).put o.dst x)
  | none => False
def xdrawO (P : Program) (T : TypeId → Option TI) (L N : Nat) (ops : Array Oper) (o : Oper) (i nid : Nat) (s : St) (c : Option (Operand × Array Operand)) (k : EntX → St → Prop) : Prop :=
  match c with
  | some (f, args) => xdrawV P L N ops o i nid s (s.ev f) (evs s args.toList) k
  | none => xdrawD (dstep P T L nid o.op s) ops o i s k
def okFromX (ms : List Nat) (ops : Array Oper) (e : EntX) : List EntX → Bool
  | [] => true
  | e2 :: l => okPairX ms ops e e2 && okFromX ms ops e l
def okAllX (ms : List Nat) (ops : Array Oper) : List EntX → Bool
  | [] => true
  | e :: l => okFromX ms ops e l && okAllX ms ops l
theorem okFromX_spec {ms : List Nat} {ops : Array Oper} {e : EntX} : ∀ {l : List EntX}, okFromX ms ops e l = true → ∀ x ∈ l, okPairX ms ops e x = true
  | [], _, x, hx => by cases hx
  | y :: l, h, x, hx => by
    rw [okFromX, Bool.and_eq_true] at h
    rcases List.mem_cons.1 hx with rfl | hx
    · exact h.1
    · exact okFromX_spec h.2 x hx
theorem okAllX_spec {ms : List Nat} {ops : Array Oper} : ∀ {l : List EntX}, okAllX ms ops l = true → l.Pairwise (fun x y => okPairX ms ops x y = true)
  | [], _ => .nil
  | e :: l, h => by
    rw [okAllX, Bool.and_eq_true] at h
    exact .cons (okFromX_spec h.1) (okAllX_spec h.2)
def xdrawG (P : Program) (T : TypeId → Option TI) (L N : Nat) (ops : Array Oper) : List Oper → Nat → Nat → List EntX → St → (St → Prop) → Prop
  | [], i, nid, es, s, Kn => okAllX (masks ops.toList []) ops es.reverse = true ∧ Kn s
  | o :: rest, i, nid, es, s, Kn => match o.guard with
    | none => xdrawO P T L N ops o i nid s (q13 o.op) (fun e s' => xdrawG P T L N ops rest (i + 1) (bump o.op nid) (e :: es) s' Kn)
    | some _ => False
theorem xdrawG_run (hT : TyOk P T) {ops : Array Oper} {N N1 : Nat} {Kn : St → Prop} {s0 : St} {tl : List Oper} (hN : N = N1 + q0g (ops.toList.take (ops.size - tl.length))) (hL : L ≤ N1) : ∀ (rest : List Oper) (i nid : Nat) (es : List EntX) (s : St),
    xdrawG P T L N ops rest i nid es s Kn → ops.toList.drop i = rest ++ tl → i ≤ ops.size → nid = N1 + q0g (ops.toList.take i) → RunX ops es.reverse s0 s → es.reverse.map EntX.i = List.range i → (∀ e ∈ es, e.Ok ∧ DoesX P L N ops e) →
    ∃ l s', RunX ops l s0 s' ∧ l.map EntX.i = List.range (ops.size - tl.length) ∧ (∀ e ∈ l, e.Ok ∧ DoesX P L N ops e) ∧ okAllX (masks ops.toList []) ops l = true ∧ Kn s'
  | [], i, nid, es, s, h, hrest, hi, hnid, hr, hx, hdo => by
    have : i = ops.size - tl.length := by
      have := congrArg List.length hrest
      simp at this
      omega
    subst this
    exact ⟨es.reverse, s, hr, hx, fun e he => hdo e (List.mem_reverse.1 he), h.1, h.2⟩
  | o :: rest, i, nid, es, s, h, hrest, hi, hnid, hr, hx, hdo => by
    have hlen := congrArg List.length hrest
    simp at hlen
    have hlt : i < ops.size := by omega
    have hoi : ops.toList[i]? = some o := by
      have := congrArg (·[0]?) hrest
      simp at this
      simpa using this
    have ho : ops[i]? = some o := by simpa using hoi
    have hrest' : ops.toList.drop (i + 1) = rest ++ tl := by
      have := congrArg List.tail hrest
      simpa using this
    have hnid' : bump o.op nid = N1 + q0g (ops.toList.take (i + 1)) := by
      rw [q38 hoi, hnid]
      unfold bump
      split <;> omega
    have next : ∀ (e : EntX) (s' : St), StepX P L N ops i s e s' → xdrawG P T L N ops rest (i + 1) (bump o.op nid) (e :: es) s' Kn →
        ∃ l s', RunX ops l s0 s' ∧ l.map EntX.i = List.range (ops.size - tl.length) ∧ (∀ e ∈ l, e.Ok ∧ DoesX P L N ops e) ∧ okAllX (masks ops.toList []) ops l = true ∧ Kn s' := by
      rintro e s' ⟨h1, h2, h3, h4, h5⟩ hd
      refine xdrawG_run hT hN hL rest (i + 1) _ _ _ hd hrest' hlt hnid' ?_ ?_ ?_
      · rw [List.reverse_cons]
        exact runX_snoc hr h4 h5
      · rw [List.reverse_cons, List.map_append, hx, List.range_succ]
        simp [h3]
      · intro q hq
        rcases List.mem_cons.1 hq with rfl | hq
        · exact ⟨h1, h2⟩
        · exact hdo q hq
    unfold xdrawG at h
    split at h
    · rename_i hg
      have old : ∀ x wr, Act1 P T L nid o.op s x wr → StepX P L N ops i s (entX ops i o s x wr) ((s.appX wr).put o.dst x) := by
        intro x wr ha
        refine ⟨entX_ok, doesX_old (nids := fun _ => nid) hT ho ⟨o, ho, rfl, rfl, rfl, by rw [hg]; exact ha⟩ (fun hn => ?_), rfl, exX_old ho, postX_entX ho⟩
        have h1 := q38 (l := ops.toList) (i := i) hoi
        rw [if_pos hn] at h1
        have h2 := newCount_le (ops.toList.take (ops.size - tl.length)) (i + 1)
        rw [List.take_take, Nat.min_eq_left (by omega)] at h2
        exact ⟨by omega, by omega⟩
      unfold xdrawO at h
      split at h
      · rename_i f args hc
        unfold xdrawV at h
        split at h
        · rename_i g caps hf
          rcases h with ⟨x, wr, ha, hk⟩ | ⟨e, s', hs, hk⟩
          · exact next _ _ (old x wr (.inr ⟨f, args, g, caps, hc, hf, ha⟩)) hk
          · exact next _ _ hs hk
        · exact h.elim
      · rename_i hc
        unfold xdrawD at h
        split at h
        · rename_i C x wr e
          exact next _ _ (old x wr (.inl ⟨hc, C, e, h.1⟩)) h.2
        · exact h.elim
    · exact h.elim
def xdrawR (P : Program) (T : TypeId → Option TI) (L N : Nat) (ops : Array Oper) (rest : List Oper) (i nid : Nat) (es : List EntX) (k : List Fr) (s : St) (K : AExit → St → Prop) : Prop :=
  xdrawG P T L N ops rest i nid es s (fun s' => go P T L k s' K)
def xdrawQ (P : Program) (T : TypeId → Option TI) (L N : Nat) (r : Option (Prop × AV × Wr)) (ops : Array Oper) (o : Oper) (rest : List Oper) (i nid : Nat) (es : List EntX) (k : List Fr) (s : St) (K : AExit → St → Prop) : Prop :=
  xdrawD r ops o i s (fun e s' => xdrawR P T L N ops rest (i + 1) (bump o.op nid) (e :: es) k s' K)
def xdrawH (P : Program) (T : TypeId → Option TI) (L N : Nat) (v : AV) (argv : List AV) (ops : Array Oper) (o : Oper) (rest : List Oper) (i nid : Nat) (es : List EntX) (k : List Fr) (s : St) (K : AExit → St → Prop) : Prop :=
  xdrawV P L N ops o i nid s v argv (fun e s' => xdrawR P T L N ops rest (i + 1) (bump o.op nid) (e :: es) k s' K)
def xdrawP (P : Program) (T : TypeId → Option TI) (L N : Nat) (c : Option (Operand × Array Operand)) (ops : Array Oper) (o : Oper) (rest : List Oper) (i nid : Nat) (es : List EntX) (k : List Fr) (s : St) (K : AExit → St → Prop) : Prop :=
  xdrawO P T L N ops o i nid s c (fun e s' => xdrawR P T L N ops rest (i + 1) (bump o.op nid) (e :: es) k s' K)
def xdrawCall (P : Program) (T : TypeId → Option TI) (L N : Nat) (g : FuncId) (argv : List AV) (ops : Array Oper) (o : Oper) (rest : List Oper) (i nid : Nat) (es : List EntX) (k : List Fr) (s : St) (K : AExit → St → Prop) : Prop :=
  xdrawC P L N ops o i nid s g argv (fun e s' => xdrawR P T L N ops rest (i + 1) (bump o.op nid) (e :: es) k s' K)
section rules
variable {N : Nat} {ops : Array Oper} {rest : List Oper} {i nid : Nat} {es : List EntX} {k : List Fr} {s : St} {K : AExit → St → Prop}
theorem xdrawR_nil : xdrawR P T L N ops [] i nid es k s K = (okAllX (masks ops.toList []) ops es.reverse = true ∧ go P T L k s K) := _root_.id rfl
theorem xdrawR_op {d : Option Tmp} {o : Op} {ty : TypeId} {pos : String} {af : Array Edge} :
    xdrawR P T L N ops (⟨d, o, ty, pos, af, none⟩ :: rest) i nid es k s K = xdrawP P T L N (q13 o) ops ⟨d, o, ty, pos, af, none⟩ rest i nid es k s K := _root_.id rfl
theorem xdrawP_none {o : Oper} : xdrawP P T L N none ops o rest i nid es k s K = xdrawQ P T L N (dstep P T L nid o.op s) ops o rest i nid es k s K := _root_.id rfl
theorem xdrawP_some {o : Oper} {f : Operand} {args : Array Operand} : xdrawP P T L N (some (f, args)) ops o rest i nid es k s K = xdrawH P T L N (s.ev f) (evs s args.toList) ops o rest i nid es k s K := _root_.id rfl
theorem xdrawQ_some {o : Oper} {C : Prop} {x : AV} {wr : Wr} : xdrawQ P T L N (some (C, x, wr)) ops o rest i nid es k s K =
    (C ∧ xdrawR P T L N ops rest (i + 1) (bump o.op nid) (entX ops i o s x wr :: es) k ((s.appX wr).put o.dst x) K) := _root_.id rfl
theorem xdrawH_fn {o : Oper} {g : FuncId} {caps argv : List AV} : xdrawH P T L N (.fn g caps) argv ops o rest i nid es k s K = xdrawCall P T L N g (argv ++ caps) ops o rest i nid es k s K := _root_.id rfl
theorem q4q (hT : TyOk P T) {o : Oper} {g : FuncId} {argv args0 : List AV} {x0 : AV} {xR bs kd : List Nat} {kp0 kp' : Nat → Bool} {M0 M1 m' : List AB} {f : Operand} {args : Array Operand} {caps : List AV}
    (h : q0j P kp0 g M0 args0 (fun y m => y = x0 ∧ m = M1)) (ho : ops[i]? = some o) (hg : o.guard = none) (hc : q13 o.op = some (f, args)) (hf : s.ev f = .fn g caps) (hav : evs s args.toList ++ caps = argv)
    (hm : bs.map (fun b => s.mem[b]?) = (renM bs M0).map some) (hnd : bs.Nodup) (ha : argv = q0e bs args0) (hk1 : (q03 args0).all (fun b => decide (b < bs.length)) = true) (h0 : M0.all (AB.inR bs.length) = true) (h1 : M1.all (AB.inR bs.length) = true) (hl : M1.length = bs.length)
    (hkp : ∀ b, kpK kd b = true → kpOf kp0 bs 0 b = true) (hL : ∀ b ∈ kd, L ≤ b) (hka : (q03 argv).all (kpK kd) = true) (hx : ∀ b ∈ bks (ren bs x0), b ∈ xR) (hkp' : ∀ b, kpK kd b = kp' b) (hm' : setW (bs.zip (renM bs M1)) (s.mem.map (AB.cutK kd)) = m')
    (hk : xdrawR P T L N ops rest (i + 1) (bump o.op nid) (entB ops i o s (ren bs x0) xR bs M1 kd :: es) k ((⟨cutVs kp' s.tmps, m'⟩ : St).put o.dst (ren bs x0)) K) :
    xdrawCall P T L N g argv ops o rest i nid es k s K := by
  subst hav
  refine .inr ⟨_, _, ⟨entB_ok hm hnd h0 h1 hl hx, doesX_bulk hT ho hg hc hf hm hnd ha hk1 h0 hl h hkp hL hka, rfl, ⟨o, ho, rfl, rfl⟩, ?_⟩, hk⟩
  have hd : dstOf ops i = o.dst := by simp [dstOf, ho]
  have e : kpK kd = kp' := funext hkp'
  show (⟨cutVs (kpK kd) s.tmps, setW (bs.zip (renM bs M1)) (s.mem.map (AB.cutK kd))⟩ : St).put (dstOf ops i) (ren bs x0) = _
  rw [hd, e, hm']
end rules
def lateFrom (ms : List Nat) (N0 n : Nat) : Bool := (List.range n).all fun i => decide (i < N0) || (List.range i).all fun p => (ms.getD i 0).testBit p
theorem lateFrom_spec {ms : List Nat} {N0 n : Nat} (h : lateFrom ms N0 n = true) : ∀ i, N0 ≤ i → i < n → ∀ p, p < i → (ms.getD i 0).testBit p = true := by
  intro i h1 h2 p hp
  have := List.all_eq_true.1 h i (by simpa using h2)
  rw [Bool.or_eq_true] at this
  rcases this with this | this
  · have := of_decide_eq_true this; omega
  · exact List.all_eq_true.1 this p (by simpa using hp)
theorem xdraw_rule (hT : TyOk P T) (hm : P.follows .mixedOrders = true) {id : Nat} {ops : Array Oper} {k : List Fr} {s : St} {K : AExit → St → Prop} {front back : List Oper} {c : Nat}
    (hops : ops.toList = front ++ back) (hg : back.all (fun o => o.guard.isNone) = true) (hL : L ≤ s.mem.length) (hb : backOk ops.toList 0 = true) (hc : q0g front = c) (hla : lateFrom (masks ops.toList []) front.length ops.size = true)
    (h : xdrawR P T L (s.mem.length + c) ops front 0 s.mem.length [] (.ops ops back :: k) { s with mem := s.mem ++ List.replicate c .gone } K) : restK P T L (.region id ops true) k s K := by
  subst hc
  have hsz : ops.size = front.length + back.length := by have := congrArg List.length hops; simpa using this
  have hfr : ops.size - back.length = front.length := by omega
  unfold restK
  intro F n hF Hd B ι a w hB hR Q hn
  have hdrop : ops.toList.drop 0 = front ++ back := by rw [List.drop_zero]; exact hops
  obtain ⟨l, s', hr, hx, hdo, hok, hK⟩ := xdrawG_run hT (N1 := s.mem.length) (s0 := { s with mem := s.mem ++ List.replicate (q0g front) .gone }) (tl := back) (by rw [hfr, hops, List.take_left']; rfl) hL front 0 s.mem.length [] _ h hdrop (Nat.zero_le _) (by simp [q0g]) rfl rfl (fun e he => by cases he)
  rw [hfr] at hx
  refine wpIn_region_any hm ?_
  obtain ⟨hR1, hE1⟩ := hR.places (L := L) (w' := { w with drawn := w.drawn + 1 }) (q0g front) rfl rfl rfl rfl
  have hlen : l.length = front.length := by
    have := congrArg List.length hx
    simpa using this
  have hmsp := (masks_spec ops.toList []).2
  have hback : ∀ j o, ops[j]? = some o → ∀ e ∈ o.after, Region.binds .any e = true → e.on < j := by
    intro j o ho e he hbi
    have := backOk_spec hb j o (by simpa using ho) e (by simpa using he) hbi
    omega
  have hms : ∀ j o, ops[j]? = some o → ∀ p, ((masks ops.toList []).getD j 0).testBit p = true → ∃ e ∈ o.after, Region.binds .any e = true ∧ (e.on = p ∨ ((masks ops.toList []).getD e.on 0).testBit p = true) := by
    intro j o ho p hp
    obtain ⟨e, h1, h2⟩ := hmsp j o (by simpa using ho) p (by simpa using hp)
    exact ⟨e, by simpa using h1, h2⟩
  have hlate := lateFrom_spec hla
  rw [hsz]
  refine any_frontX (N := s.mem.length + q0g front) (N0 := front.length) (ms := masks ops.toList []) hF (fun j h1 h2 p hp => hlate j h1 h2 p (by omega)) hback hms (by omega) front.length l _ hlen hr (by simp) ?_ ?_ (by simp [hsz]) ?_ ?_ hdo (okAllX_spec hok) ?_ hR1 ?_
  · intro i hi
    rw [hx]
    simp [hi, show i < front.length + back.length by omega]
  · intro i h1 h2
    rw [hsz] at h2
    simp [h2]
  · have : (l.map EntX.i).Pairwise (· < ·) := by rw [hx]; exact List.pairwise_lt_range
    exact List.pairwise_map.1 this
  · intro e he
    have : e.i ∈ l.map EntX.i := List.mem_map.2 ⟨e, he, rfl⟩
    rw [hx] at this
    simpa using this
  · intro f hf hnf
    rw [hx] at hnf
    simp at hnf
    omega
  · intro listed ι' a' w' q1 q2 q3 r1 r2
    have hK' := q3b hT back s' _ hK
    refine any_backX hT hF hback hms back front.length listed (by rw [hops]; simp) (fun o ho => by
      have := List.all_eq_true.1 hg o ho
      simpa using this) hlate (fun i h1 _ => q1 i h1) q2 q3 hK' r1 (fun s2 ι2 a2 w2 g0 g1 g2 => hn .normal s2 ι2 a2 w2 g0 g1 (hE1.trans (r2.trans g2)))
theorem xdraw_ruleN (hT : TyOk P T) (hm : P.follows .mixedOrders = true) (N0 : Nat) {id : Nat} {ops : Array Oper} {k : List Fr} {s : St} {K : AExit → St → Prop} {c : Nat}
    (hg : (ops.toList.drop N0).all (fun o => o.guard.isNone) = true) (hL : L ≤ s.mem.length) (hb : backOk ops.toList 0 = true) (hc : q0g (ops.toList.take N0) = c) (hla : lateFrom (masks ops.toList []) (ops.toList.take N0).length ops.size = true)
    (h : xdrawR P T L (s.mem.length + c) ops (ops.toList.take N0) 0 s.mem.length [] (.ops ops (ops.toList.drop N0) :: k) { s with mem := s.mem ++ List.replicate c .gone } K) : restK P T L (.region id ops true) k s K :=
  xdraw_rule hT hm (List.take_append_drop N0 _).symm hg hL hb hc hla h
theorem kpK_one {c b : Nat} : kpK [c] b = !decide (b = c) := by
  unfold kpK
  by_cases h : b = c <;> simp [h]
end Go.Proofs.YtdkcpcflfnakdaaGreat.Sym
