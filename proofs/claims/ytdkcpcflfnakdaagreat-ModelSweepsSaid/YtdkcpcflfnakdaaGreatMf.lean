/- A text of the walk that proves a law of this seat; joined by a program. -/
import Derived.Test.YtdkcpcflfnakdaaGreatMe
set_option linter.unusedSimpArgs false
set_option linter.unusedVariables false
namespace Go.Proofs.YtdkcpcflfnakdaaGreat
open Go Go.Proofs.YtdkcpcflfnakdaaGreat.Sym
set_option maxRecDepth 100000
set_option maxHeartbeats 1000000
set_option maxHeartbeats 2000000
theorem was_settle {m : Bk} (hr : q16 m) {u : ByteArray} {l : List Ses} {now : Int} : (wasOf (q1g m u l now) u).l = l := by
  have hs := (q54 hr u l now).1
  unfold wasOf
  by_cases hl : l.length = 0
  · have hnil : l = [] := List.eq_nil_of_length_eq_zero hl
    rw [q3v ordS q0u hs, hnil]
    · rfl
    · intro hc
      obtain ⟨p, hp, hpk⟩ := List.mem_map.1 hc
      rw [q1g, if_pos hl, q3r ordS q0u hr] at hp
      have := (List.mem_filter.1 hp).2
      rw [hpk, (q0u _ _).2 rfl] at this
      cases this
  · have hm : (u, (⟨l, ofP l now⟩ : En)) ∈ q1g m u l now := by
      rw [q1g, if_neg hl]
      exact (mem_with ordS q0u hr).2 (.inl rfl)
    rw [get_mem ordS q0u hs hm]
theorem was_other {m : Bk} (hr : q16 m) {o : Opb} {k : ByteArray} {now most : Int} (hne : ¬ k = o.u) : wasOf (q29 m o now most) k = wasOf m k := settle_other hr hne _ _
theorem addW_bd {a b : Int} : 0 ≤ addW a b ∧ addW a b ≤ 18446744073709551615 := by
  unfold addW
  split
  · omega
  · rw [IntKind.wrap_u64]; omega
theorem addW_ge {a b : Int} (ha : 0 ≤ a ∧ a ≤ 18446744073709551615) (hb : 0 ≤ b ∧ b ≤ 18446744073709551615) : a ≤ addW a b := by
  unfold addW
  rw [wrap_u64 (n := 18446744073709551615 - a) (by omega) (by omega)]
  split
  · omega
  · rw [wrap_u64 (by omega) (by omega)]; omega
def Some_ (now : Int) (a b : List Ses) : Prop := b.Sublist a ∧ lives now b = lives now a
theorem some_refl (now : Int) (a : List Ses) : Some_ now a a := ⟨List.Sublist.refl _, rfl⟩
theorem some_late {now then_ : Int} (h : now ≤ then_) {a b : List Ses} (hs : Some_ now a b) : Some_ then_ a b :=
  ⟨hs.1, by rw [← lives_late h b, hs.2, lives_late h]⟩
structure SwR (A B : Md) : Prop where
  c : B.c = A.c
  rng : 0 ≤ A.t.now ∧ A.t.now ≤ 18446744073709551615
  now : B.t.now = A.t.now
  cl : B.t.cl = A.t.cl
  m : ∀ j, (B.f j).m = (A.f j).m
  b : ∀ j u, Some_ A.t.now (wasOf (A.b j) u).l (wasOf (B.b j) u).l
theorem sw_refl (A : Md) (h : 0 ≤ A.t.now ∧ A.t.now ≤ 18446744073709551615) : SwR A A := ⟨rfl, h, rfl, rfl, fun _ => rfl, fun _ _ => some_refl _ _⟩
theorem sw_pres {A B : Md} (h : SwR A B) (u : ByteArray) : presOf 3 B u = presOf 3 A u := by
  unfold presOf
  rw [h.now]
  unfold ofP
  rw [(h.b (stN 3 u) u).2]
theorem sw_tell {A B : Md} (h : SwR A B) (s s' : Nat) (l l' : List Chg) (q q' : Int) : SwR (A.tell s l q) (B.tell s' l' q') := by
  have ea (j : Nat) : ((A.tell s l q).f j).m = (A.f j).m := by
    simp only [Md.tell, Md.setF]
    split
    · rename_i e; rw [(tellF_ok (A.f s) l q).1, e]
    · rfl
  have eb (j : Nat) : ((B.tell s' l' q').f j).m = (B.f j).m := by
    simp only [Md.tell, Md.setF]
    split
    · rename_i e; rw [(tellF_ok (B.f s') l' q').1, e]
    · rfl
  exact ⟨h.c, h.rng, h.now, h.cl, fun j => by rw [ea, eb]; exact h.m j, h.b⟩
theorem sw_more {A B : Md} {n : Nat} (hw : WOk 3 n B) (h : SwR A B) (s : Int) : SwR A (B.sweep 3 s) := by
  have key : SwR A ((B.take.setB s.toNat (q1j (B.b s.toNat) B.t.now).1)) := by
    refine ⟨h.c, h.rng, h.now, h.cl, h.m, fun j u => ?_⟩
    simp only [Md.setB]
    split
    · rename_i e
      subst e
      rw [swept_was (hw.ok.b _).1, h.now]
      have h1 := h.b s.toNat u
      exact ⟨List.Sublist.trans List.filter_sublist h1.1, by rw [lives_late (Int.le_refl _), h1.2]⟩
    · exact h.b j u
  unfold Md.sweep
  split
  · exact h
  · have ea (j : Nat) : (((B.take.setB s.toNat (q1j (B.b s.toNat) B.t.now).1).tell s.toNat (q1j (B.b s.toNat) B.t.now).2 (addW B.t.seq 1)).f j).m = (B.f j).m := by
      simp only [Md.tell, Md.setF]
      split
      · rename_i e; rw [(tellF_ok _ _ _).1, e]; rfl
      · rfl
    exact ⟨key.c, key.rng, key.now, key.cl, fun j => by rw [ea]; exact h.m j, key.b⟩
theorem sw_sweep {A B : Md} {n k : Nat} (ha : WOk 3 k A) (hw : WOk 3 n B) (h : SwR A B) (s : Int) : SwR (A.sweep 3 s) (B.sweep 3 s) := by
  unfold Md.sweep
  split
  · exact h
  · refine sw_tell (A := A.take.setB s.toNat (q1j (A.b s.toNat) A.t.now).1) (B := B.take.setB s.toNat (q1j (B.b s.toNat) B.t.now).1) ?_ _ _ _ _ _ _
    refine ⟨h.c, h.rng, h.now, h.cl, h.m, fun j u => ?_⟩
    simp only [Md.setB]
    split
    · rename_i e
      subst e
      rw [swept_was (hw.ok.b _).1, swept_was (ha.ok.b _).1, h.now, (h.b s.toNat u).2]
      exact some_refl _ _
    · exact h.b j u
theorem sw_writeL {A B : Md} (h : SwR A B) (o : Opb) (j : Nat) : q24 (B.b j) o B.t.now B.c.k = q24 (A.b j) o A.t.now A.c.k := by
  unfold q24
  rw [h.now, h.c, (h.b j o.u).2]
theorem sw_count {A B : Md} (h : SwR A B) (k : Int) : countM B k 3 = countM A k 3 := by
  unfold countM
  congr 1
  exact List.map_congr_left fun j _ => by rw [h.m]
theorem sw_full {A B : Md} (h : SwR A B) (who : Int) (u : ByteArray) : fullW 3 B who u = fullW 3 A who u := by
  unfold fullW
  rw [h.m, h.c, sw_count h]
theorem drains_ms (M : Md) (who : Int) (n j : Nat) : ((M.drains who n).f j).m = (M.f j).m := by
  simp only [Md.drains]
  split
  · unfold Fd.drain; split <;> rfl
  · rfl
theorem sw_do {A B : Md} {n k : Nat} (ha : WOk 3 k A) (hw : WOk 3 n B) (h : SwR A B) (who : Int) (o : Opb) : SwR (doM 3 A who o) (doM 3 B who o) ∧ (o.kind ≠ 8 → doR 3 B who o = doR 3 A who o) := by
  unfold doM doR
  rw [h.cl]
  split
  · exact ⟨h, fun _ => rfl⟩
  split
  · have eL := sw_writeL h o (stN 3 o.u)
    refine ⟨?_, fun _ => ?_⟩
    · unfold Md.write
      rw [h.cl]
      split
      · exact ⟨h.c, h.rng, h.now, h.cl, h.m, h.b⟩
      · refine sw_tell (A := A.take.setB (stN 3 o.u) (q29 (A.b (stN 3 o.u)) o A.t.now A.c.k)) (B := B.take.setB (stN 3 o.u) (q29 (B.b (stN 3 o.u)) o B.t.now B.c.k)) ?_ _ _ _ _ _ _
        refine ⟨h.c, h.rng, h.now, h.cl, h.m, fun j u => ?_⟩
        simp only [Md.setB]
        split
        · rename_i e
          subst e
          by_cases hu : u = o.u
          · subst hu
            unfold q29
            rw [was_settle (hw.ok.b _).1, was_settle (ha.ok.b _).1, eL]
            exact some_refl _ _
          · rw [was_other (hw.ok.b _).1 hu, was_other (ha.ok.b _).1 hu]
            exact h.b _ u
        · exact h.b j u
    · unfold writeR
      rw [h.cl, eL]
  split
  · rename_i h8
    refine ⟨?_, fun hn => absurd (by simpa using h8) hn⟩
    have e (M : Md) (j : Nat) : ((M.drains who 3).f j).m = (M.f j).m := drains_ms M who 3 j
    exact ⟨h.c, h.rng, h.now, h.cl, fun j => by rw [e, e]; exact h.m j, h.b⟩
  split
  · exact ⟨h, fun _ => rfl⟩
  split
  · rw [sw_full h]
    split
    · exact ⟨h, fun _ => rfl⟩
    · refine ⟨⟨h.c, h.rng, h.now, h.cl, fun j => ?_, h.b⟩, fun _ => rfl⟩
      simp only [Md.watchF, Md.setF]
      split
      · simp only [h.m]
      · exact h.m j
  split
  · refine ⟨⟨h.c, h.rng, h.now, h.cl, fun j => ?_, h.b⟩, fun _ => rfl⟩
    simp only [Md.unwatchF, Md.setF]
    split
    · simp only [h.m]
    · exact h.m j
  split
  · exact ⟨⟨h.c, h.rng, h.now, rfl, h.m, h.b⟩, fun _ => rfl⟩
  · refine ⟨h, fun _ => ?_⟩
    have : presOf 3 B = presOf 3 A := funext fun u => sw_pres h u
    rw [this]
theorem sw_bef {A B : Md} {n k : Nat} (ha : WOk 3 k A) (hw : WOk 3 n B) (h : SwR A B) (a : Ac) (hby : a.by_ ≤ 18446744073709551615) : SwR (befM 3 A a) (befM 3 B a) ∧ ((a.d % 3 ≠ 0 ∨ a.op.kind ≠ 8) → befR 3 B a = befR 3 A a) := by
  unfold befM befR
  split
  · refine ⟨⟨h.c, addW_bd, ?_, h.cl, h.m, fun j u => ?_⟩, fun _ => rfl⟩
    · simp only [Md.tick, h.now]
    · exact some_late (by
        show A.t.now ≤ addW A.t.now a.by_
        exact addW_ge h.rng (by omega)) (h.b j u)
  split
  · exact ⟨sw_sweep ha hw h _, fun _ => rfl⟩
  · have hd := sw_do ha hw h a.who a.op
    exact ⟨hd.1, fun hh => hd.2 (by rcases hh with hh | hh; omega; exact hh)⟩
theorem sum_sub {α : Type} [DecidableEq α] (g : α → Nat) : ∀ {K K' : List α}, K.Nodup → (∀ u ∈ K, u ∉ K' → g u = 0) → (K.map g).sum ≤ (K'.map g).sum
  | [], _, _, _ => Nat.zero_le _
  | x :: K, K', hn, h => by
    obtain ⟨h1, h2⟩ := List.nodup_cons.1 hn
    simp only [List.map_cons, List.sum_cons]
    by_cases hx : x ∈ K'
    · have ih := sum_sub g (K := K) (K' := K'.erase x) h2 (fun u hu hnu => h u (List.mem_cons_of_mem _ hu) (fun hm => hnu ((List.mem_erase_of_ne (by rintro rfl; exact h1 hu)).2 hm)))
      have e : (K'.map g).sum = g x + ((K'.erase x).map g).sum := by
        have hp := (List.perm_cons_erase hx).map g
        rw [hp.sum_nat]; simp
      omega
    · have := h x List.mem_cons_self hx
      have ih := sum_sub g (K := K) (K' := K') h2 (fun u hu => h u (List.mem_cons_of_mem _ hu))
      omega
theorem sumL_keys {m : Bk} (hr : q16 m) : sumL m = ((m.map Prod.fst).map fun u => (wasOf m u).l.length).sum := by
  unfold sumL
  rw [List.map_map]
  congr 1
  refine List.map_congr_left fun p hp => ?_
  simp only [Function.comp]
  rw [wasOf, get_mem ordS q0u hr (k := p.1) (v := p.2) hp]
theorem keys_nodup {m : Bk} (h : q16 m) : (m.map Prod.fst).Nodup := by
  refine List.Pairwise.imp ?_ h
  intro a b hab e
  subst e
  rw [ordS.irrefl] at hab
  cases hab
theorem sum_le_of {a b : Bk} (ha : q16 a) (hb : q16 b) (h : ∀ u, (wasOf b u).l.length ≤ (wasOf a u).l.length) : sumL b ≤ sumL a := by
  rw [sumL_keys hb, sumL_keys ha]
  refine Nat.le_trans ?_ (sum_sub (fun u => (wasOf a u).l.length) (keys_nodup hb) fun u _ hn => ?_)
  · generalize b.map Prod.fst = K
    induction K with
    | nil => exact Nat.le_refl _
    | cons x K ih => simp only [List.map_cons, List.sum_cons]; have := h x; omega
  · rw [wasOf, q3v ordS q0u ha hn]; rfl
theorem sw_stored {A B : Md} {n k : Nat} (ha : WOk 3 k A) (hw : WOk 3 n B) (h : SwR A B) : storN 3 B 3 ≤ storN 3 A 3 := by
  have key (j : Nat) : sumL (B.b j) ≤ sumL (A.b j) := sum_le_of (ha.ok.b j).1 (hw.ok.b j).1 fun u => (h.b j u).1.length_le
  have e (M : Md) : storN 3 M 3 = sumL (M.b 0) + sumL (M.b 1) + sumL (M.b 2) := by simp [storN, List.range_succ, Nat.add_assoc]
  rw [e, e]
  have := key 0
  have := key 1
  have := key 2
  omega
end Go.Proofs.YtdkcpcflfnakdaaGreat
namespace Go.Proofs.YtdkcpcflfnakdaaGreat
open Go Go.Proofs.YtdkcpcflfnakdaaGreat.Sym
set_option maxRecDepth 100000
set_option maxHeartbeats 1000000
set_option maxHeartbeats 2000000
def at_ (k : Nat) (X : List AB) : List AB := renM (List.range' k X.length) X
theorem at_len (k : Nat) (X : List AB) : (at_ k X).length = X.length := by rw [at_, q1h]
theorem at_get (k : Nat) (X : List AB) (i : Nat) : (at_ k X)[i]? = (X[i]?).map (AB.ren (List.range' k X.length)) := by rw [at_, q2c]
theorem at_ids {k i : Nat} {X : List AB} (hX : X.all (AB.inR X.length) = true) {cs : List AV} (h : (at_ k X)[i]? = some (.box cs)) : ∀ b ∈ q03 cs, k ≤ b ∧ b < k + X.length := by
  rw [at_get] at h
  cases hg : X[i]? with
  | none => rw [hg] at h; cases h
  | some blk =>
    rw [hg] at h
    simp only [Option.map_some, Option.some.injEq] at h
    cases blk with
    | box cs0 =>
      simp only [AB.ren, AB.box.injEq] at h
      subst h
      have hk : (q03 cs0).all (fun b => decide (b < X.length)) = true := List.all_eq_true.1 hX _ (List.mem_of_getElem? hg)
      intro b hb
      obtain ⟨c, hc, rfl, _⟩ := q39 cs0 hk b hb
      omega
    | row _ _ _ => simp [AB.ren] at h
    | rowc _ _ _ _ => simp [AB.ren] at h
    | gone => simp [AB.ren] at h
    | tr _ _ => simp [AB.ren] at h
theorem at_fix {k : Nat} {X : List AB} (hX : X.all (AB.inR X.length) = true) {f : AB → AB} (h1 : ∀ cs, (∀ b ∈ q03 cs, k ≤ b ∧ b < k + X.length) → f (.box cs) = .box cs) (h2 : ∀ blk, (∀ cs, blk ≠ .box cs) → f blk = blk) : (at_ k X).map f = at_ k X := by
  apply List.ext_getElem?
  intro i
  rw [List.getElem?_map]
  cases h : (at_ k X)[i]? with
  | none => rfl
  | some blk =>
    simp only [Option.map_some]
    congr 1
    by_cases hb : ∃ cs, blk = .box cs
    · obtain ⟨cs, rfl⟩ := hb
      exact h1 cs (at_ids hX h)
    · exact h2 blk (fun cs hc => hb ⟨cs, hc⟩)
theorem at_trunc {k N : Nat} {X Y : List AB} (hX : X.all (AB.inR X.length) = true) (h : k + X.length ≤ N) : (at_ k X).map (AB.trunc Y N) = at_ k X :=
  at_fix hX (fun cs hc => by simp only [AB.trunc]; rw [q3c cs (fun b hb => Nat.lt_of_lt_of_le (hc b hb).2 h)]) (fun blk hb => by cases blk <;> first | rfl | exact absurd rfl (hb _))
mutual
theorem q30 {l : List Nat} : ∀ {x : AV}, bks x = [] → ren l x = x
  | .v _, _ => rfl
  | .agg xs, h => by simp only [ren]; rw [renAll_none h]
  | .tup xs, h => by simp only [ren]; rw [renAll_none h]
  | .sl _ _, _ => rfl
  | .rp _, _ => rfl
  | .own b _ _ _, h => by simp [bks] at h
  | .ptr b _, h => by simp [bks] at h
  | .ep b _ _ _, h => by simp [bks] at h
  | .fn _ caps, h => by simp only [ren]; rw [renAll_none h]
  | .any, _ => rfl
theorem renAll_none {l : List Nat} : ∀ {xs : List AV}, q03 xs = [] → q0e l xs = xs
  | [], _ => rfl
  | x :: xs, h => by
    simp only [q03, List.append_eq_nil_iff] at h
    simp only [q0e]
    rw [q30 h.1, renAll_none h.2]
end
section
variable (n p l : Nat) (A : Md) (X r : List AB) (hl : X.length = l)
include hl
theorem tw_alen : (modM n p A ++ (at_ (mlen n) X ++ r)).length = mlen n + (l + r.length) := by rw [mm_alen, List.length_append, at_len, hl]
theorem tw_at (k : Nat) : (modM n p A ++ (at_ (mlen n) X ++ r))[mlen n + (l + k)]? = r[k]? := by
  rw [mm_at, List.getElem?_append_right (by rw [at_len]; omega), at_len, show l + k - X.length = k by omega]
theorem tw_s (k : Nat) (x : AB) : (modM n p A ++ (at_ (mlen n) X ++ r)).set (mlen n + (l + k)) x = modM n p A ++ (at_ (mlen n) X ++ r.set k x) := by
  rw [mm_s, List.set_append_right _ _ (by rw [at_len]; omega), at_len, show l + k - X.length = k by omega]
theorem tw_get (i : Nat) (h : i < l) : (modM n p A ++ (at_ (mlen n) X ++ r))[mlen n + i]? = (X[i]?).map (AB.ren (List.range' (mlen n) X.length)) := by
  rw [mm_at, List.getElem?_append_left (by rw [at_len]; omega), at_get]
theorem tw_atAll : (List.range' (mlen n) l).map (fun b => (modM n p A ++ (at_ (mlen n) X ++ r))[b]?) = (renM (List.range' (mlen n) l) X).map some := by
  apply List.ext_getElem?
  intro i
  by_cases hi : i < l
  · rw [List.getElem?_map, q1y hi, List.getElem?_map, q2c]
    simp only [Option.map_some]
    rw [tw_get n p l A X r hl i hi, hl, List.getElem?_eq_getElem (by omega)]
    rfl
  · rw [List.getElem?_eq_none (by simp; omega), List.getElem?_eq_none (by simp [q1h]; omega)]
theorem tw_put (X' : List AB) (hl' : X'.length = l) : putL (modM n p A ++ (at_ (mlen n) X ++ r)) (List.range' (mlen n) l) (renM (List.range' (mlen n) l) X') = modM n p A ++ (at_ (mlen n) X' ++ r) := by
  apply List.ext_getElem?
  intro i
  by_cases hm : i ∈ List.range' (mlen n) l
  · obtain ⟨h1, h2⟩ := q1c.1 hm
    obtain ⟨j, rfl⟩ := Nat.exists_eq_add_of_le h1
    have hj : j < l := by omega
    obtain ⟨z, hg⟩ : ∃ z, X'[j]? = some z := ⟨_, List.getElem?_eq_getElem (by omega)⟩
    rw [putL_in _ _ _ j (mlen n + j) (AB.ren (List.range' (mlen n) l) z) List.nodup_range' (by rw [q1y hj]) (by rw [q2c, hg]; rfl) (by rw [tw_alen n p l A X r hl]; omega), tw_get n p l A X' r hl' j hj, hg, hl']
    rfl
  · rw [q3t _ _ _ _ hm]
    by_cases h1 : i < mlen n
    · rw [List.getElem?_append_left (by rw [q0c]; exact h1), List.getElem?_append_left (by rw [q0c]; exact h1)]
    · have h2 : mlen n + l ≤ i := Nat.le_of_not_lt fun h => hm (q1c.2 ⟨by omega, h⟩)
      obtain ⟨k, rfl⟩ := Nat.exists_eq_add_of_le h2
      rw [Nat.add_assoc, tw_at n p l A X r hl, tw_at n p l A X' r hl']
variable (hX : X.all (AB.inR l) = true)
include hX
theorem tw_rn {Y : List AB} (k : Nat) : ((modM n p A ++ (at_ (mlen n) X ++ r)).take (mlen n + (l + k))).map (AB.trunc Y (mlen n + (l + k))) = modM n p A ++ (at_ (mlen n) X ++ (r.take k).map (AB.trunc Y (mlen n + (l + k)))) := by
  rw [mm_tk, List.map_append, mm_trunc n p A (by omega), List.take_append, at_len, List.take_of_length_le (by rw [at_len]; omega), show l + k - X.length = k by omega, List.map_append, at_trunc (by rw [hl]; exact hX) (by omega)]
end
def kpT (n l : Nat) (kp0 : Nat → Bool) (b : Nat) : Bool := decide (b < mlen n) || (decide (mlen n + l ≤ b) || kp0 (b - mlen n))
def AB.calm2 (n l : Nat) (kp0 : Nat → Bool) : AB → Bool
  | .box cs => (q03 cs).all (fun b => (decide (b < 3) || decide (mlen n ≤ b)) && kpT n l kp0 b)
  | _ => true
theorem tw_in {g : FuncId} {args0 args : List AV} {K0 K : AV → List AB → Prop} {n p l : Nat} {A : Md} {X r : List AB} (h : ACall P g X args0 K0) (hl : X.length = l) (hX : X.all (AB.inR l) = true) (ha : args = q0e (List.range' (mlen n) l) args0) (hb : (q03 args0).all (fun b => decide (b < l)) = true)
    (hK : ∀ x X', K0 x X' → X'.length = l ∧ K (ren (List.range' (mlen n) l) x) (modM n p A ++ (at_ (mlen n) X' ++ r))) : ACall P g (modM n p A ++ (at_ (mlen n) X ++ r)) args K := by
  refine h.frame (List.range' (mlen n) l) List.nodup_range' (tw_atAll n p l A X r hl) ha (by rw [List.length_range']; exact hb) (by rw [List.length_range']; exact hX) ?_
  intro x X' hx
  obtain ⟨hl', hv⟩ := hK x X' hx
  exact ⟨by omega, by rw [tw_put n p l A X r hl X' hl']; exact hv⟩
theorem tw_inX {g : FuncId} {args0 args : List AV} {K0 K : AV → List AB → Prop} {n p l : Nat} {kp0 : Nat → Bool} {A : Md} {X r : List AB} (h : q0j P kp0 g X args0 K0) (hl : X.length = l) (hX : X.all (AB.inR l) = true) (ha : args = q0e (List.range' (mlen n) l) args0) (hb : (q03 args0).all (fun b => decide (b < l)) = true) (hr : r.all (AB.calm2 n l kp0) = true)
    (hK : ∀ x X', K0 x X' → X'.length = l ∧ K (ren (List.range' (mlen n) l) x) (modM n p A ++ (at_ (mlen n) X' ++ r))) : q0j P (kpT n l kp0) g (modM n p A ++ (at_ (mlen n) X ++ r)) args K := by
  have key : ∀ b, kpT n l kp0 b = true → kpOf kp0 (List.range' (mlen n) l) 0 b = true := by
    intro b hb
    by_cases hm : b ∈ List.range' (mlen n) l
    · obtain ⟨h1, h2⟩ := q1c.1 hm
      rw [kpOf_in (j := b - mlen n) List.nodup_range' (by rw [q1y (by omega)]; congr 1; omega), Nat.zero_add]
      simp only [kpT, Bool.or_eq_true, decide_eq_true_eq] at hb
      rcases hb with hb | hb | hb
      · omega
      · omega
      · exact hb
    · exact q3q hm
  refine q0j.keeps (kp := kpOf kp0 (List.range' (mlen n) l) 0) ?_ (fun b _ hb => key b hb)
  refine h.frame (List.range' (mlen n) l) List.nodup_range' (tw_atAll n p l A X r hl) ha (by rw [List.length_range']; exact hb) (by rw [List.length_range']; exact hX) ?_ ?_
  · refine q3n fun i cs hi => ?_
    rw [Nat.zero_add]
    by_cases hm : i ∈ List.range' (mlen n) l
    · exact .inl hm
    refine .inr (List.all_eq_true.2 fun b hb => key b ?_)
    by_cases h1 : i < mlen n
    · rw [List.getElem?_append_left (by rw [q0c]; exact h1)] at hi
      have := mm_ids hi b hb
      simp only [kpT, Bool.or_eq_true, decide_eq_true_eq]; omega
    · have h2 : mlen n + l ≤ i := Nat.le_of_not_lt fun h => hm (q1c.2 ⟨by omega, h⟩)
      obtain ⟨k, rfl⟩ := Nat.exists_eq_add_of_le h2
      rw [Nat.add_assoc, tw_at n p l A X r hl] at hi
      have := List.all_eq_true.1 (List.all_eq_true.1 hr _ (List.mem_of_getElem? hi)) b hb
      rw [Bool.and_eq_true] at this
      exact this.2
  · intro x X' hx
    obtain ⟨hl', hv⟩ := hK x X' hx
    exact ⟨by omega, by rw [tw_put n p l A X r hl X' hl']; exact hv⟩
end Go.Proofs.YtdkcpcflfnakdaaGreat
namespace Go.Proofs.YtdkcpcflfnakdaaGreat
open Go Go.Proofs.YtdkcpcflfnakdaaGreat.Sym
set_option maxRecDepth 100000
set_option maxHeartbeats 1000000
set_option maxHeartbeats 2000000
theorem acallX_weakOut {kp : Nat → Bool} {g : FuncId} {m : List AB} {args : List AV} {R R' : AV → List AB → Prop} (h : q0j P kp g m args R) (hk : ∀ x m1, R x m1 → ∃ x' m2, Sym.weak x x' ∧ weakM m1 m2 ∧ R' x' m2) : q0j P kp g m args R' := by
  refine ⟨h.1, fun Hd ι w vs hR => (h.2 Hd ι w vs hR).mono ?_⟩
  rintro e w' ⟨y, x, ι', m', rfl, hR', hE, h5, hx⟩
  obtain ⟨x', m2, w1, w2, k⟩ := hk x m' hx
  obtain ⟨ι2, hR2, hE2⟩ := Turns.weak (s := ⟨[x], m'⟩) (s' := ⟨[x'], m2⟩) ⟨_, _, rfl, w1, rfl⟩ w2 Hd 0 ι' _ w' hR'
  exact ⟨y, x', ι2, m2, rfl, hR2, hE.trans (hE2 0), fun b o hb ho => (hE2 (b + 1)).keep b o (Nat.lt_succ_self b) (h5 b o hb ho), k⟩
def Rp.avw (a : Rp) : AV := .agg [i64 a.err, .sl 3 (prs (a.vals.getD [])), .sl 8 (evts (a.evs.getD [])), bool a.lost]
theorem avw_bks (a : Rp) : bks a.avw = [] := rfl
theorem bks_avw (a : Rp) : bks a.avw = [] := rfl
theorem befallsW {n pad B : Nat} {M : Md} (h : WOk n B M) (hB : B + 1 ≤ 900) (a : Ac) (ho : OpOk a.op) : q0j P (fun b => decide (b < 3)) 20 (modM n pad M) [.ptr 0 0, a.av]
    (fun x m' => x = (befR n M a).avw ∧ m' = modM n pad (befM n M a)) :=
  acallX_weakOut (law_befalls h hB a ho).toX (by rintro x m1 ⟨rfl, rfl⟩; exact ⟨_, _, rp_weak _, weakM_refl _, rfl, rfl⟩)
theorem rows_total {n B : Nat} {M : Md} (h : MOk n B M) (who : Int) : ∀ k, total (rowsW M who k) ≤ 100 * k := by
  intro k
  induction k with
  | zero => simp [rowsW, total]
  | succ k ih =>
    have h1 := h.q k who.toNat
    rw [rowsW_next]
    simp only [total, List.map_append, List.sum_append, List.map_cons, List.map_nil, List.sum_cons, List.sum_nil] at ih ⊢
    omega
theorem bef_len {n B : Nat} {M : Md} (h : WOk n B M) (a : Ac) (ho : OpOk a.op) : ((befR n M a).vals.getD []).length ≤ 100000 ∧ ((befR n M a).evs.getD []).length ≤ 100000 := by
  have hn8 := h.ok.n8
  have z : ([] : List Pr).length ≤ 100000 ∧ ([] : List Ev).length ≤ 100000 := ⟨Nat.zero_le _, Nat.zero_le _⟩
  unfold befR
  split
  · exact z
  split
  · exact z
  unfold doR
  split
  · exact z
  split
  · unfold writeR; split <;> exact z
  split
  · refine ⟨Nat.zero_le _, ?_⟩
    simp only [Option.getD_some]
    rw [merge_len _ _ rfl]
    have := rows_total h.ok a.who n
    omega
  split
  · exact z
  split
  · exact z
  split
  · exact z
  split
  · exact z
  · refine ⟨?_, Nat.zero_le _⟩
    simp only [Option.getD_some, List.length_map]
    have := ho.l
    unfold usersO
    split
    · simp
    · omega
abbrev two (n p p2 : Nat) (A B : Md) (r : List AB) : List AB := modM n p A ++ (at_ (mlen n) (modM n p2 B) ++ r)
section
variable (n p p2 : Nat) (A B : Md) (r : List AB)
theorem tb_len : (at_ (mlen n) (modM n p2 B)).length = mlen n := by rw [at_len, q0c]
theorem tb_add (r' : List AB) : (at_ (mlen n) (modM n p2 B) ++ r) ++ r' = at_ (mlen n) (modM n p2 B) ++ (r ++ r') := List.append_assoc _ _ _
theorem tb_at0 : (modM n p A ++ (at_ (mlen n) (modM n p2 B) ++ r))[mlen n + mlen n]? = r[0]? := tw_at n p (mlen n) A _ r (q0c n p2 B) 0
theorem tb_at1 : (modM n p A ++ (at_ (mlen n) (modM n p2 B) ++ r))[mlen n + (mlen n + 1)]? = r[1]? := tw_at n p (mlen n) A _ r (q0c n p2 B) 1
theorem tb_s0 {x : AB} : (modM n p A ++ (at_ (mlen n) (modM n p2 B) ++ r)).set (mlen n + mlen n) x = modM n p A ++ (at_ (mlen n) (modM n p2 B) ++ r.set 0 x) := tw_s n p (mlen n) A _ r (q0c n p2 B) 0 x
theorem tb_s1 {x : AB} : (modM n p A ++ (at_ (mlen n) (modM n p2 B) ++ r)).set (mlen n + (mlen n + 1)) x = modM n p A ++ (at_ (mlen n) (modM n p2 B) ++ r.set 1 x) := tw_s n p (mlen n) A _ r (q0c n p2 B) 1 x
theorem tb_ret {X : List AB} : ((modM n p A ++ (at_ (mlen n) (modM n p2 B) ++ r)).take (mlen n + mlen n)).map (AB.trunc X (mlen n + mlen n)) = modM n p A ++ at_ (mlen n) (modM n p2 B) := by
  have := tw_rn n p (mlen n) A _ r (q0c n p2 B) (mm_inR n p2 B) 0 (Y := X)
  simpa using this
theorem tb_retn {X : List AB} : ((modM n p A ++ at_ (mlen n) (modM n p2 B)).take (mlen n + mlen n)).map (AB.trunc X (mlen n + mlen n)) = modM n p A ++ at_ (mlen n) (modM n p2 B) := by
  have := tb_ret n p p2 A B [] (X := X)
  rwa [List.append_nil] at this
end
def kpB (n b : Nat) : Bool := kpT n (mlen n) (fun b => decide (b < 3)) b
theorem kpB_0 {n : Nat} : kpB n 0 = true := by simp [kpB, kpT, mlen]
theorem kpB_b {n : Nat} : kpB n (mlen n) = true := by simp [kpB, kpT]
theorem kpB_c0 {n : Nat} : kpB n (mlen n + mlen n) = true := by simp [kpB, kpT]
theorem kpB_c {n k : Nat} : kpB n (mlen n + (mlen n + k)) = true := by simp only [kpB, kpT, Bool.or_eq_true, decide_eq_true_eq]; exact .inr (.inl (by omega))
theorem kpA_0 {n : Nat} : kpX n 0 = true := rfl
theorem kpA_b {n : Nat} : kpX n (mlen n) = true := by simp [kpX]
theorem kpA_c {n k : Nat} : kpX n (mlen n + k) = true := by simp [kpX]
theorem second {g : FuncId} {args0 args : List AV} {K0 K : AV → List AB → Prop} {n p p2 : Nat} {A B : Md} {r : List AB} (h : q0j P (fun b => decide (b < 3)) g (modM n p2 B) args0 K0) (ha : args = q0e (List.range' (mlen n) (mlen n)) args0) (hb : (q03 args0).all (fun b => decide (b < 3)) = true)
    (hr : r.all (AB.calm2 n (mlen n) (fun b => decide (b < 3))) = true) (hK : ∀ x m', K0 x m' → bks x = [] ∧ ∃ B', m' = modM n p2 B' ∧ K x (two n p p2 A B' r)) : q0j P (kpB n) g (two n p p2 A B r) args K := by
  have hb' : (q03 args0).all (fun b => decide (b < mlen n)) = true := List.all_eq_true.2 fun b hm => by have := List.all_eq_true.1 hb b hm; simp only [decide_eq_true_eq] at this ⊢; simp only [mlen]; omega
  refine tw_inX h (q0c n p2 B) (mm_inR n p2 B) ha hb' hr ?_
  intro x X' hx
  obtain ⟨hbx, B', rfl, hv⟩ := hK x X' hx
  exact ⟨q0c n p2 B', by rw [q30 hbx]; exact hv⟩
theorem secondA {g : FuncId} {args0 args : List AV} {K0 K : AV → List AB → Prop} {n p p2 : Nat} {A B : Md} {r : List AB} (h : ACall P g (modM n p2 B) args0 K0) (ha : args = q0e (List.range' (mlen n) (mlen n)) args0) (hb : (q03 args0).all (fun b => decide (b < 3)) = true)
    (hK : ∀ x m', K0 x m' → bks x = [] ∧ ∃ B', m' = modM n p2 B' ∧ K x (two n p p2 A B' r)) : ACall P g (two n p p2 A B r) args K := by
  have hb' : (q03 args0).all (fun b => decide (b < mlen n)) = true := List.all_eq_true.2 fun b hm => by have := List.all_eq_true.1 hb b hm; simp only [decide_eq_true_eq] at this ⊢; simp only [mlen]; omega
  refine tw_in h (q0c n p2 B) (mm_inR n p2 B) ha hb' ?_
  intro x X' hx
  obtain ⟨hbx, B', rfl, hv⟩ := hK x X' hx
  exact ⟨q0c n p2 B', by rw [q30 hbx]; exact hv⟩
theorem ptr2 (n : Nat) : AV.ptr (mlen n) 0 = ren (List.range' (mlen n) (mlen n)) (.ptr 0 0) := by
  simp only [ren]
  rw [q2w (by simp only [mlen]; omega), Nat.add_zero]
theorem setW_app {k : Nat} {X Y R : List AB} (h : Y.length = X.length) : setW ((List.range' 0 X.length).zip Y) (X ++ R) = Y ++ R := by
  rw [← putL_setW]
  apply List.ext_getElem?
  intro i
  by_cases hi : i < X.length
  · obtain ⟨z, hz⟩ : ∃ z, Y[i]? = some z := ⟨_, List.getElem?_eq_getElem (by omega)⟩
    rw [putL_in _ _ _ i i z List.nodup_range' (by rw [q1y hi, Nat.zero_add]) hz (by simp; omega), List.getElem?_append_left (by omega), hz]
  · rw [q3t _ _ _ _ (fun hm => by have := (q1c.1 hm).2; omega), List.getElem?_append_right (by omega), List.getElem?_append_right (by omega), h]
theorem setW_mid {Z X Y R : List AB} (h : Y.length = X.length) : setW ((List.range' Z.length X.length).zip Y) (Z ++ (X ++ R)) = Z ++ (Y ++ R) := by
  rw [← putL_setW]
  apply List.ext_getElem?
  intro i
  by_cases hm : i ∈ List.range' Z.length X.length
  · obtain ⟨h1, h2⟩ := q1c.1 hm
    obtain ⟨j, rfl⟩ := Nat.exists_eq_add_of_le h1
    have hj : j < X.length := by omega
    obtain ⟨z, hz⟩ : ∃ z, Y[j]? = some z := ⟨_, List.getElem?_eq_getElem (by omega)⟩
    rw [putL_in _ _ _ j (Z.length + j) z List.nodup_range' (by rw [q1y hj]) hz (by simp; omega), List.getElem?_append_right (by omega), show Z.length + j - Z.length = j by omega, List.getElem?_append_left (by omega), hz]
  · rw [q3t _ _ _ _ hm]
    by_cases h1 : i < Z.length
    · rw [List.getElem?_append_left h1, List.getElem?_append_left h1]
    · have h2 : X.length ≤ i - Z.length := Nat.le_of_not_lt fun h => hm (q1c.2 ⟨by omega, by omega⟩)
      have h3 : Z.length ≤ i := by omega
      rw [List.getElem?_append_right h3, List.getElem?_append_right h2, List.getElem?_append_right h3, List.getElem?_append_right (by omega), h]
theorem cut_nil {kd : List Nat} {r : List AB} (h : ∀ blk ∈ r, blk.bks.all (kpK kd) = true) : r.map (AB.cutK kd) = r := by
  refine (List.map_congr_left (g := _root_.id) fun blk hb => ?_).trans (List.map_id _)
  exact cutK_id (h blk hb)
theorem kp_range {o k : Nat} {b : Nat} (h : b < o ∨ o + k ≤ b) : kpK (List.range' o k) b = true := by
  unfold kpK
  rw [Bool.not_eq_true']
  cases hc : (List.range' o k).elem b with
  | false => rfl
  | true => have := q1c.1 (List.mem_of_elem_eq_true hc); omega
theorem kp_range' {o k : Nat} {b : Nat} (h : kpK (List.range' o k) b = true) : b < o ∨ o + k ≤ b := by
  apply Classical.byContradiction
  intro hn
  have : b ∈ List.range' o k := q1c.2 (by omega)
  unfold kpK at h
  rw [List.elem_eq_true_of_mem this] at h
  cases h
theorem setW_A {n p p2 : Nat} {A A' B : Md} {r : List AB} (hr : ∀ blk ∈ r, blk.bks.all (kpK (List.range' 3 (mlen n - 3))) = true) :
    setW ((List.range' 0 (mlen n)).zip (renM (List.range' 0 (mlen n)) (modM n p A'))) ((two n p p2 A B r).map (AB.cutK (List.range' 3 (mlen n - 3)))) = two n p p2 A' B r := by
  have h3 : 3 ≤ mlen n := by simp only [mlen]; omega
  have e2 : (at_ (mlen n) (modM n p2 B)).map (AB.cutK (List.range' 3 (mlen n - 3))) = at_ (mlen n) (modM n p2 B) :=
    cut_nil fun blk hb => by
      obtain ⟨i, hi⟩ := List.getElem?_of_mem hb
      cases blk with
      | box cs => exact List.all_eq_true.2 fun b hb => kp_range (.inr (by have := (at_ids (by rw [q0c]; exact mm_inR n p2 B) hi b hb).1; omega))
      | _ => rfl
  rw [two, List.map_append, List.map_append, e2, cut_nil hr, mm_ren]
  have hl : ((modM n p A).map (AB.cutK (List.range' 3 (mlen n - 3)))).length = mlen n := by rw [List.length_map, q0c]
  have := setW_app (k := 0) (X := (modM n p A).map (AB.cutK (List.range' 3 (mlen n - 3)))) (Y := modM n p A') (R := at_ (mlen n) (modM n p2 B) ++ r) (by rw [hl, q0c])
  rw [hl] at this
  exact this
theorem setW_B {n p p2 : Nat} {A B B' : Md} {r : List AB} (hr : ∀ blk ∈ r, blk.bks.all (kpK (List.range' (mlen n + 3) (mlen n - 3))) = true) :
    setW ((List.range' (mlen n) (mlen n)).zip (renM (List.range' (mlen n) (mlen n)) (modM n p2 B'))) ((two n p p2 A B r).map (AB.cutK (List.range' (mlen n + 3) (mlen n - 3)))) = two n p p2 A B' r := by
  have e2 : (modM n p A).map (AB.cutK (List.range' (mlen n + 3) (mlen n - 3))) = modM n p A :=
    cut_nil fun blk hb => by
      obtain ⟨i, hi⟩ := List.getElem?_of_mem hb
      cases blk with
      | box cs => exact List.all_eq_true.2 fun b hb => kp_range (.inl (by have := mm_ids hi b hb; omega))
      | _ => rfl
  rw [two, List.map_append, List.map_append, e2, cut_nil hr]
  have hl : ((at_ (mlen n) (modM n p2 B)).map (AB.cutK (List.range' (mlen n + 3) (mlen n - 3)))).length = mlen n := by rw [List.length_map, at_len, q0c]
  have := setW_mid (Z := modM n p A) (X := (at_ (mlen n) (modM n p2 B)).map (AB.cutK (List.range' (mlen n + 3) (mlen n - 3)))) (Y := at_ (mlen n) (modM n p2 B')) (R := r) (by rw [hl, at_len, q0c])
  rw [hl, q0c] at this
  rw [show renM (List.range' (mlen n) (mlen n)) (modM n p2 B') = at_ (mlen n) (modM n p2 B') by rw [at_, q0c]]
  exact this
theorem kpA_of {n : Nat} : ∀ b, kpK (List.range' 3 (mlen n - 3)) b = true → kpOf (fun b => decide (b < 3)) (List.range' 0 (mlen n)) 0 b = true := by
  intro b hb
  have h3 : 3 ≤ mlen n := by simp only [mlen]; omega
  have := kp_range' hb
  by_cases hm : b ∈ List.range' 0 (mlen n)
  · obtain ⟨_, h2⟩ := q1c.1 hm
    rw [kpOf_in (j := b) List.nodup_range' (by rw [q1y (by omega), Nat.zero_add]), Nat.zero_add]
    exact decide_eq_true (by omega)
  · exact q3q hm
theorem kpA_eq {n : Nat} : ∀ b, kpK (List.range' 3 (mlen n - 3)) b = kpX n b := by
  intro b
  have h3 : 3 ≤ mlen n := by simp only [mlen]; omega
  rw [Bool.eq_iff_iff]
  constructor
  · intro hb
    have := kp_range' hb
    simp only [kpX, Bool.or_eq_true, decide_eq_true_eq]; omega
  · intro hb
    simp only [kpX, Bool.or_eq_true, decide_eq_true_eq] at hb
    exact kp_range (by omega)
theorem kpB_of {n : Nat} : ∀ b, kpK (List.range' (mlen n + 3) (mlen n - 3)) b = true → kpOf (fun b => decide (b < 3)) (List.range' (mlen n) (mlen n)) 0 b = true := by
  intro b hb
  have h3 : 3 ≤ mlen n := by simp only [mlen]; omega
  have := kp_range' hb
  by_cases hm : b ∈ List.range' (mlen n) (mlen n)
  · obtain ⟨h1, h2⟩ := q1c.1 hm
    rw [kpOf_in (j := b - mlen n) List.nodup_range' (by rw [q1y (by omega)]; congr 1; omega), Nat.zero_add]
    exact decide_eq_true (by omega)
  · exact q3q hm
theorem kpB_eq {n : Nat} : ∀ b, kpK (List.range' (mlen n + 3) (mlen n - 3)) b = kpB n b := by
  intro b
  have h3 : 3 ≤ mlen n := by simp only [mlen]; omega
  rw [Bool.eq_iff_iff]
  constructor
  · intro hb
    have := kp_range' hb
    simp only [kpB, kpT, Bool.or_eq_true, decide_eq_true_eq]; omega
  · intro hb
    simp only [kpB, kpT, Bool.or_eq_true, decide_eq_true_eq] at hb
    exact kp_range (by omega)
theorem cutT {n p p2 : Nat} {A B : Md} {r : List AB} (k : Nat) : (modM n p A ++ (at_ (mlen n) (modM n p2 B) ++ r)).map (AB.cutK [mlen n + (mlen n + k)]) = modM n p A ++ (at_ (mlen n) (modM n p2 B) ++ r.map (AB.cutK [mlen n + (mlen n + k)])) := by
  have e1 : (modM n p A).map (AB.cutK [mlen n + (mlen n + k)]) = modM n p A := cut_nil fun blk hb => by
    obtain ⟨i, hi⟩ := List.getElem?_of_mem hb
    cases blk with
    | box cs => exact List.all_eq_true.2 fun b hb => by have := mm_ids hi b hb; rw [kpK_one, Bool.not_eq_true', decide_eq_false_iff_not]; omega
    | _ => rfl
  have e2 : (at_ (mlen n) (modM n p2 B)).map (AB.cutK [mlen n + (mlen n + k)]) = at_ (mlen n) (modM n p2 B) := cut_nil fun blk hb => by
    obtain ⟨i, hi⟩ := List.getElem?_of_mem hb
    cases blk with
    | box cs => exact List.all_eq_true.2 fun b hb => by have := (at_ids (by rw [q0c]; exact mm_inR n p2 B) hi b hb).2; rw [q0c] at this; rw [kpK_one, Bool.not_eq_true', decide_eq_false_iff_not]; omega
    | _ => rfl
  rw [List.map_append, List.map_append, e1, e2]
theorem cutT0 {n p p2 : Nat} {A B : Md} {r : List AB} : (modM n p A ++ (at_ (mlen n) (modM n p2 B) ++ r)).map (AB.cutK [mlen n + mlen n]) = modM n p A ++ (at_ (mlen n) (modM n p2 B) ++ r.map (AB.cutK [mlen n + mlen n])) := cutT 0
theorem cutT1 {n p p2 : Nat} {A B : Md} {r : List AB} : (modM n p A ++ (at_ (mlen n) (modM n p2 B) ++ r)).map (AB.cutK [mlen n + (mlen n + 1)]) = modM n p A ++ (at_ (mlen n) (modM n p2 B) ++ r.map (AB.cutK [mlen n + (mlen n + 1)])) := cutT 1
theorem ac_bks (a : Ac) : bks a.av = [] := rfl
theorem ac_lt {n : Nat} (a : Ac) : ∀ b ∈ q03 [.ptr 0 0, a.av], b < mlen n := by
  intro b hb
  have : b = 0 := by simpa [q03, bks, ac_bks] using hb
  subst this
  simp only [mlen]; omega
theorem ac_ren {n : Nat} (a : Ac) : [AV.ptr (mlen n) 0, a.av] = q0e (List.range' (mlen n) (mlen n)) [.ptr 0 0, a.av] := by
  simp only [q0e]
  rw [← ptr2, q30 (ac_bks a)]
end Go.Proofs.YtdkcpcflfnakdaaGreat
