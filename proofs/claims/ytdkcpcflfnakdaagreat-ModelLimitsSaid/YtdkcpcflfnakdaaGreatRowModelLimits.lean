/- The law ModelLimits and its row. -/
import Derived.Test.YtdkcpcflfnakdaaGreatMh
import Derived.Test.YtdkcpcflfnakdaaGreatRows
import Derived.Test.YtdkcpcflfnakdaaGreatSymU
namespace Go.Proofs.YtdkcpcflfnakdaaGreat
open Go Go.Proofs.YtdkcpcflfnakdaaGreat.Sym
attribute [-sevalprocAttr] Int.reduceToNat Int.reduceNatCast Int.reduceNatCast' Nat.reduceSubDiff
set_option maxRecDepth 100000
set_option maxHeartbeats 1000000
set_option maxHeartbeats 2000000
set_option linter.unusedSimpArgs false
set_option linter.unusedVariables false

theorem ACall.weakArgsL {P : Program} {g : FuncId} {m : List AB} {args args' : List AV} {K : AV → List AB → Prop} (h : ACall P g m args' K) (hw : weaks args args') : ACall P g m args K :=
  ⟨h.1, fun Hd ι w vs hR => h.2 Hd ι w vs ⟨hR.len, hR.lt, hR.inj, q3e _ _ _ hw hR.tmps, hR.mem, hR.marks, hR.hid, hR.glob⟩⟩
theorem PCall.weakArgsL {P : Program} {g : FuncId} {args args' : List AV} {R : AV → Prop} (h : PCall P g args' R) (hw : weaks args args') : PCall P g args R := ACall.weakArgsL h hw
theorem bits_zeroL : ∀ k < 8, hasB 0 (k : Nat) = false := by decide +kernel
theorem mask_withoutL {m : Msk} (h : mskOk m) (u : ByteArray) (u' : ByteArray) : maskOf (q21 ltS eqS m u) u' = if u' = u then 0 else maskOf m u' := by
  have h' := msk_without h u
  have he := without_eq ordS q1t h.1 u
  by_cases e : u' = u
  · subst e
    rw [if_pos rfl, mask_not h']
    intro hc
    obtain ⟨p, hp, hpu⟩ := List.mem_map.1 hc
    rw [he] at hp
    have := (List.mem_filter.1 hp).2
    rw [hpu, (q1t _ _).2 rfl] at this
    cases this
  · rw [if_neg e]
    by_cases hk : u' ∈ m.map Prod.fst
    · obtain ⟨p, hp, rfl⟩ := List.mem_map.1 hk
      rw [mask_mem h hp, mask_mem h']
      rw [he]
      refine List.mem_filter.2 ⟨hp, ?_⟩
      cases hc : eqS p.1 u with
      | false => rfl
      | true => exact absurd ((q1t _ _).1 hc) e
    · rw [mask_not h hk, mask_not h']
      intro hc
      obtain ⟨p, hp, rfl⟩ := List.mem_map.1 hc
      rw [he] at hp
      exact hk (List.mem_map.2 ⟨p, (List.mem_filter.1 hp).1, rfl⟩)
theorem wat_unwatchL {m : Msk} (h : mskOk m) (who : Int) (u : ByteArray) (who' : Int) (u' : ByteArray) : watF (unwatchM m who u) who' u' = (watF m who' u' && !(decide (who' = who) && decide (u' = u))) := by
  unfold watF
  cases hc' : cli who' with
  | false => simp
  | true =>
    simp only [Bool.true_and]
    cases hc : cli who with
    | false =>
      rw [unwatchM, if_neg (by rw [hc]; decide)]
      have : who' ≠ who := by intro e; rw [e, hc] at hc'; cases hc'
      simp [this]
    | true =>
      rw [unwatchM, if_pos hc]
      obtain ⟨w, hw, rfl⟩ := cli_iff hc
      obtain ⟨k, hk, rfl⟩ := cli_iff hc'
      obtain ⟨n, hn, hm⟩ := to_nat (mask_ok h u)
      obtain ⟨b1, b2⟩ := bits_clr n hn w hw
      have e2 : decide ((k : Int) = (w : Int)) = decide (k = w) := by rw [Bool.eq_iff_iff]; simp; omega
      rw [e2]
      split
      · rename_i hz
        have hz : maskOf m u = 0 := by simpa using hz
        by_cases e : u' = u
        · subst e
          rw [hz, bits_zeroL k hk]; simp
        · simp [e]
      · split
        · rename_i hz
          have hz : clrB (maskOf m u) w = 0 := by simpa using hz
          rw [mask_withoutL h u]
          by_cases e : u' = u
          · subst e
            have h1 := b1 k hk
            rw [← hm, hz, bits_zeroL k hk] at h1
            rw [if_pos rfl, bits_zeroL k hk, h1]
            simp
          · rw [if_neg e]; simp [e]
        · rw [hm, mask_with h u b2]
          by_cases e : u' = u
          · subst e
            rw [if_pos rfl, b1 k hk, hm]; simp
          · rw [if_neg e]; simp [e]
theorem nodup_leL {α : Type} [DecidableEq α] : ∀ {a b : List α}, a.Nodup → (∀ x ∈ a, x ∈ b) → a.length ≤ b.length
  | [], _, _, _ => Nat.zero_le _
  | x :: a, b, hnd, hs => by
    have hx := hs x List.mem_cons_self
    obtain ⟨h1, h2⟩ := List.nodup_cons.1 hnd
    have hle : a.length ≤ (b.erase x).length := nodup_leL h2 fun y hy => (List.mem_erase_of_ne (by rintro rfl; exact h1 hy)).2 (hs y (List.mem_cons_of_mem _ hy))
    have hpos : 0 < b.length := List.length_pos_of_mem hx
    rw [List.length_erase_of_mem hx] at hle
    simp only [List.length_cons]
    omega
def wlist (m : Msk) (who : Int) : List ByteArray := (m.filter fun p => cli who && hasB p.2 who).map Prod.fst
theorem wlist_len (m : Msk) (who : Int) : (wlist m who).length = cntM m who := by rw [wlist, List.length_map]; rfl
theorem wlist_nodup {m : Msk} (h : mskOk m) (who : Int) : (wlist m who).Nodup := by
  have hk : (m.map Prod.fst).Nodup := by
    refine List.Pairwise.imp ?_ h.1
    intro a b hab e
    subst e
    rw [ordS.irrefl] at hab
    cases hab
  exact List.Nodup.sublist (List.Sublist.map _ List.filter_sublist) hk
theorem wlist_mem {m : Msk} (h : mskOk m) (who : Int) (u : ByteArray) : u ∈ wlist m who ↔ watF m who u = true := by
  rw [wlist, List.mem_map]
  constructor
  · rintro ⟨p, hp, rfl⟩
    obtain ⟨h1, h2⟩ := List.mem_filter.1 hp
    rw [watF, mask_mem h h1]; exact h2
  · intro hw
    by_cases hm : u ∈ m.map Prod.fst
    · obtain ⟨p, hp, rfl⟩ := List.mem_map.1 hm
      rw [watF, mask_mem h hp] at hw
      exact ⟨p, List.mem_filter.2 ⟨hp, hw⟩, rfl⟩
    · exfalso
      rw [watF, mask_not h hm] at hw
      cases hc : cli who with
      | false => rw [hc] at hw; cases hw
      | true =>
        obtain ⟨k, hk, rfl⟩ := cli_iff hc
        rw [bits_zeroL k hk, Bool.and_false] at hw; cases hw
theorem cnt_watch_le {m : Msk} (h : mskOk m) (who : Int) (u : ByteArray) (k : Int) : cntM (watchM m who u) k ≤ cntM m k + 1 ∧ ((k ≠ who ∨ watF m who u = true) → cntM (watchM m who u) k ≤ cntM m k) := by
  have h2 := watch_ok h who u
  rw [← wlist_len, ← wlist_len]
  constructor
  · have := nodup_leL (a := wlist (watchM m who u) k) (b := wlist m k ++ [u]) (wlist_nodup h2 k) (fun x hx => by
      rw [wlist_mem h2, wat_watch h] at hx
      rw [List.mem_append, wlist_mem h]
      rcases Bool.or_eq_true_iff.1 hx with hx | hx
      · exact .inl hx
      · simp only [Bool.and_eq_true, decide_eq_true_eq] at hx
        exact .inr (by rw [hx.2.2]; exact List.mem_singleton_self _))
    rwa [List.length_append, List.length_singleton] at this
  · intro hh
    refine nodup_leL (wlist_nodup h2 k) fun x hx => ?_
    rw [wlist_mem h2, wat_watch h] at hx
    rw [wlist_mem h]
    rcases Bool.or_eq_true_iff.1 hx with hx | hx
    · exact hx
    · simp only [Bool.and_eq_true, decide_eq_true_eq] at hx
      rcases hh with hh | hh
      · exact absurd hx.2.1 hh
      · rw [hx.2.1, hx.2.2]; exact hh
theorem cnt_unwatch_le {m : Msk} (h : mskOk m) (who : Int) (u : ByteArray) (k : Int) : cntM (unwatchM m who u) k ≤ cntM m k := by
  have h2 := unwatch_ok h who u
  rw [← wlist_len, ← wlist_len]
  refine nodup_leL (wlist_nodup h2 k) fun x hx => ?_
  rw [wlist_mem h2, wat_unwatchL h, Bool.and_eq_true] at hx
  rw [wlist_mem h]
  exact hx.1
theorem count3 (M : Md) (k : Int) : countM M k 3 = cntM (M.f 0).m k + cntM (M.f 1).m k + cntM (M.f 2).m k := by
  simp [countM, List.range_succ, Nat.add_assoc]

def roomy (n : Int) (m : Bk) : Prop := ∀ p ∈ m, 0 < p.2.l.length ∧ (p.2.l.length : Int) ≤ n
theorem was_room {n : Int} {m : Bk} (hr : q2c m) (h : roomy n m) (h0 : 0 ≤ n) (u : ByteArray) : ((wasOf m u).l.length : Int) ≤ n := by
  by_cases hk : u ∈ m.map Prod.fst
  · obtain ⟨⟨k, e⟩, hp, rfl⟩ := List.mem_map.1 hk
    rw [wasOf, get_mem ordS q1t hr hp]
    exact (h _ hp).2
  · rw [wasOf, get_none ordS q1t hr hk]
    exact h0
theorem setF_room {l : List Ses} (hr : Up l) (s : Ses) {n : Int} (h : (l.length : Int) ≤ n) : ((setF l s n).1.length : Int) ≤ n := by
  cases hh : has l s.id with
  | true => rw [set_has hr n hh, List.length_set]; exact h
  | false =>
    cases hm : decide (n ≤ l.length) with
    | true => rw [set_full hh hm]; exact h
    | false =>
      have hle : lb ltI (ids l) s.id ≤ l.length := by have := lb_le (lt := ltI) (ids l) s.id; rwa [ids_len] at this
      have : ¬ n ≤ l.length := by simpa using hm
      rw [set_new hr hh hm]
      simp only [List.length_append, List.length_take, List.length_drop, List.length_singleton]
      omega
theorem room_write {k : Nat} {n : Int} {m : Bk} (hk : bookOk k m) (h : roomy n m) (h0 : 0 ≤ n) (o : Opb) (now : Int) : roomy n (writeB m o now n) := by
  intro p hp
  rcases settle_mem hk.1 hp with hp | ⟨rfl, hne⟩
  · exact h p hp
  · refine ⟨by simp only; omega, ?_⟩
    have hw := was_room hk.1 h h0 o.u
    have hup := lives_up (was_ok hk o.u).1 now
    have hl : (lives now (wasOf m o.u).l).length ≤ (wasOf m o.u).l.length := List.length_filter_le _ _
    unfold writeL
    simp only
    split
    · exact setF_room hup _ (by omega)
    · split
      · rw [(beatF_ok hup _ _).2]; omega
      · split
        · have : (clear (lives now (wasOf m o.u).l) o.id).length ≤ _ := List.length_filter_le _ _
          simp only; omega
        · simp only; omega
theorem room_sweep {n : Int} {m : Bk} (hr : q2c m) (h : roomy n m) (now : Int) : roomy n (q2g m now).1 := by
  intro p hp
  rw [sweepF_eq hr] at hp
  obtain ⟨q, hq, rfl, hne⟩ := swept_mem hp
  have := h q hq
  have hl : (lives now q.2.l).length ≤ q.2.l.length := List.length_filter_le _ _
  exact ⟨by simp only; omega, by simp only; omega⟩

structure LimOk (k : Int) (M : Md) : Prop where
  w : M.c.w = 4
  s : M.c.k = 2
  room : ∀ j, roomy 2 (M.b j)
  cnt : countM M k 3 ≤ 4
theorem live_le {B : Nat} {M : Md} {k : Int} (hw : WOk 3 B M) (h : LimOk k M) (u : ByteArray) : (presOf 3 M u).n ≤ 2 := by
  unfold presOf ofP
  simp only
  rw [bestF_count]
  have h1 := was_room (hw.ok.b (stN 3 u)).1 (h.room _) (by decide) u
  have h2 : (lives M.t.now (wasOf (M.b (stN 3 u)) u).l).length ≤ (wasOf (M.b (stN 3 u)) u).l.length := List.length_filter_le _ _
  omega
theorem lim_tell {k : Int} {M : Md} (h : LimOk k M) (s : Nat) (l : List Chg) (seq : Int) : LimOk k (M.tell s l seq) := by
  obtain ⟨h1, _, _⟩ := tellF_ok (M.f s) l seq
  have e (j : Nat) : ((M.tell s l seq).f j).m = (M.f j).m := by
    simp only [Md.tell, Md.setF]
    split
    · rename_i e; rw [h1, e]
    · rfl
  exact ⟨h.w, h.s, h.room, by rw [count3, e, e, e, ← count3]; exact h.cnt⟩
theorem lim_setB {k : Int} {M : Md} (h : LimOk k M) (s : Nat) {b : Bk} (hb : roomy 2 b) : LimOk k (M.setB s b) :=
  ⟨h.w, h.s, fun j => by
    simp only [Md.setB]
    split
    · exact hb
    · exact h.room j, h.cnt⟩
theorem lim_t {k : Int} {M : Md} (h : LimOk k M) (t : Tm) : LimOk k { M with t := t } := ⟨h.w, h.s, h.room, h.cnt⟩
theorem lim_drains {k : Int} {M : Md} (h : LimOk k M) (who : Int) (n : Nat) : LimOk k (M.drains who n) := by
  have e (j : Nat) : ((M.drains who n).f j).m = (M.f j).m := by
    simp only [Md.drains]
    split
    · unfold Fd.drain; split <;> rfl
    · rfl
  exact ⟨h.w, h.s, h.room, by rw [count3, e, e, e, ← count3]; exact h.cnt⟩
theorem count_set {M : Md} {s : Nat} {F : Fd} {k : Int} (hs : s < 3) : countM (M.setF s F) k 3 + cntM (M.f s).m k = countM M k 3 + cntM F.m k := by
  rw [count3, count3]
  simp only [Md.setF]
  rcases (show s = 0 ∨ s = 1 ∨ s = 2 by omega) with rfl | rfl | rfl
  · rw [if_pos rfl, if_neg (by decide), if_neg (by decide)]; omega
  · rw [if_neg (by decide), if_pos rfl, if_neg (by decide)]; omega
  · rw [if_neg (by decide), if_neg (by decide), if_pos rfl]; omega
theorem lim_do {B : Nat} {M : Md} {k : Int} (hw : WOk 3 B M) (h : LimOk k M) (who : Int) (o : Opb) : LimOk k (doM 3 M who o) := by
  have hs := (stN_lt (n := 3) (by decide) (by decide) o.u).1
  unfold doM
  split
  · exact h
  split
  · unfold Md.write
    split
    · exact lim_t h _
    · refine lim_tell (lim_setB (lim_t h _) _ ?_) _ _ _
      rw [h.s]
      exact room_write (hw.ok.b _) (h.room _) (by decide) o _
  split
  · exact lim_drains h _ _
  split
  · exact h
  split
  · split
    · exact h
    · rename_i hf
      refine ⟨h.w, h.s, h.room, ?_⟩
      obtain ⟨F, hF⟩ : ∃ F : Fd, F = { M.f (stN 3 o.u) with m := watchM (M.f (stN 3 o.u)).m who o.u } := ⟨_, rfl⟩
      have hm : F.m = watchM (M.f (stN 3 o.u)).m who o.u := by rw [hF]
      have e := count_set (M := M) (F := F) (k := k) hs
      have e' : countM (M.watchF (stN 3 o.u) who o.u) k 3 = countM (M.setF (stN 3 o.u) F) k 3 := by rw [hF]; rfl
      rw [e']
      rw [hm] at e
      obtain ⟨c1, c2⟩ := cnt_watch_le (hw.msk (stN 3 o.u)) who o.u k
      have hc := h.cnt
      unfold fullW at hf
      by_cases hk : k ≠ who ∨ watF (M.f (stN 3 o.u)).m who o.u = true
      · have := c2 hk
        omega
      · have h1 : k = who := by
          by_cases e : k = who
          · exact e
          · exact absurd (.inl e) hk
        have h2 : watF (M.f (stN 3 o.u)).m who o.u = false := by
          cases e : watF (M.f (stN 3 o.u)).m who o.u with
          | false => rfl
          | true => exact absurd (.inr e) hk
        rw [h2, h.w, ← h1] at hf
        have : ¬ (4 : Int) ≤ (countM M k 3 : Nat) := by simpa using hf
        omega
  split
  · refine ⟨h.w, h.s, h.room, ?_⟩
    obtain ⟨F, hF⟩ : ∃ F : Fd, F = { M.f (stN 3 o.u) with m := unwatchM (M.f (stN 3 o.u)).m who o.u } := ⟨_, rfl⟩
    have hm : F.m = unwatchM (M.f (stN 3 o.u)).m who o.u := by rw [hF]
    have e := count_set (M := M) (F := F) (k := k) hs
    have e' : countM (M.unwatchF (stN 3 o.u) who o.u) k 3 = countM (M.setF (stN 3 o.u) F) k 3 := by rw [hF]; rfl
    rw [e']
    rw [hm] at e
    have := cnt_unwatch_le (hw.msk (stN 3 o.u)) who o.u k
    have hc := h.cnt
    omega
  split
  · exact lim_t h _
  · exact h
theorem lim_bef {B : Nat} {M : Md} {k : Int} (hw : WOk 3 B M) (h : LimOk k M) (a : Ac) : LimOk k (befM 3 M a) := by
  unfold befM
  split
  · exact lim_t h _
  split
  · unfold Md.sweep
    split
    · exact h
    · exact lim_tell (lim_setB (lim_t h _) _ (room_sweep (hw.ok.b _).1 (h.room _) _)) _ _ _
  · exact lim_do hw h _ _
theorem lim_fresh (k : Int) : LimOk k (fresh sm) := ⟨rfl, rfl, (fun j p hp => by cases hp), (by rw [count3]; exact show (0 + 0 + 0 : Nat) ≤ 4 by decide)⟩
theorem lim_run {B : Nat} {M : Md} {k : Int} (hM : WOk 3 B M) (h : LimOk k M) (l : List Ac) (hl : B + l.length ≤ 899) : ∀ i, i ≤ l.length → LimOk k (runM M (l.take i)) := by
  intro i
  induction i with
  | zero => intro _; exact h
  | succ i ih =>
    intro hi
    rw [runM_next hi]
    exact lim_bef (wok_run hM l hl i (by omega)) (ih (by omega)) _

theorem met_split (K : List ByteArray) : K.length = (K.filter fun u => decide (stN 3 u = 0)).length + (K.filter fun u => decide (stN 3 u = 1)).length + (K.filter fun u => decide (stN 3 u = 2)).length := by
  induction K with
  | nil => rfl
  | cons u K ih =>
    have hs := (stN_lt (n := 3) (by decide) (by decide) u).1
    rcases (show stN 3 u = 0 ∨ stN 3 u = 1 ∨ stN 3 u = 2 by omega) with e | e | e <;> simp [List.filter_cons, e] <;> omega
theorem met_le {B : Nat} {M : Md} {k : Int} (hw : WOk 3 B M) {K : List ByteArray} (hn : K.Nodup) (h : ∀ u ∈ K, watF (M.f (stN 3 u)).m k u = true) : K.length ≤ countM M k 3 := by
  rw [met_split, count3]
  have key (j : Nat) : (K.filter fun u => decide (stN 3 u = j)).length ≤ cntM (M.f j).m k := by
    rw [← wlist_len]
    refine nodup_leL (hn.sublist List.filter_sublist) fun x hx => ?_
    obtain ⟨h1, h2⟩ := List.mem_filter.1 hx
    rw [wlist_mem (hw.msk j)]
    have := h x h1
    rwa [of_decide_eq_true h2] at this
  have := key 0
  have := key 1
  have := key 2
  omega
end Go.Proofs.YtdkcpcflfnakdaaGreat
namespace Go.Proofs.YtdkcpcflfnakdaaGreat
open Go Go.Proofs.YtdkcpcflfnakdaaGreat.Sym
attribute [-sevalprocAttr] Int.reduceToNat Int.reduceNatCast Int.reduceNatCast' Nat.reduceSubDiff
set_option maxRecDepth 100000
set_option maxHeartbeats 1000000
set_option maxHeartbeats 2000000
set_option linter.unusedSimpArgs false
set_option linter.unusedVariables false

def opV (u : ByteArray) : Opb := ⟨6, u, 0, 0, 0, 0, []⟩
theorem weak_op (o : Opb) (h : o.us = []) : weak (opNil o) o.av := by
  unfold Opb.av
  rw [h]
  exact .inr ⟨_, rfl, _, _, rfl, q2a _, _, _, rfl, q2a _, _, _, rfl, q2a _, _, _, rfl, q2a _, _, _, rfl, q2a _, _, _, rfl, q2a _, _, _, rfl, weak_nil 1, rfl⟩
theorem bad_V (u : ByteArray) : badO (opV u) = !nameB u := rfl
def errV (M : Md) (k : Int) (u : ByteArray) : Int := if fullW 3 M k u = true then 4 else 0
def nextV (M : Md) (k : Int) (u : ByteArray) : Md := if fullW 3 M k u = true then M else M.watchF (stN 3 u) k u
theorem rep_V {M : Md} {u : ByteArray} {k : Int} (hcl : M.t.cl = false) (hb : nameB u = true) (hi : inB k 0 7 = true) : doR 3 M k (opV u) = errR (errV M k u) ∧ doM 3 M k (opV u) = nextV M k u := by
  have hb' : badO (opV u) = false := by rw [bad_V, hb]; rfl
  unfold doR doM
  rw [hb', hi, hcl]
  exact ⟨rfl, rfl⟩
theorem next_cl {M : Md} {k : Int} {u : ByteArray} (h : M.t.cl = false) : (nextV M k u).t.cl = false := by
  unfold nextV; split <;> exact h
theorem met_next {B : Nat} {M : Md} {k : Int} (hw : WOk 3 B M) (hc : cli k = true) (u : ByteArray) {K : List ByteArray} (h : ∀ v ∈ K, watF (M.f (stN 3 v)).m k v = true) :
    (∀ v ∈ K, watF ((nextV M k u).f (stN 3 v)).m k v = true) ∧ (errV M k u = 0 → watF ((nextV M k u).f (stN 3 u)).m k u = true) ∧ (u ∈ K → errV M k u = 0) := by
  unfold nextV errV
  by_cases hf : fullW 3 M k u = true
  · rw [if_pos hf, if_pos hf]
    refine ⟨h, fun e => (by cases e), fun hu => ?_⟩
    unfold fullW at hf
    rw [h u hu] at hf
    cases hf
  · rw [if_neg hf, if_neg hf]
    have key (v : ByteArray) : watF ((M.watchF (stN 3 u) k u).f (stN 3 v)).m k v = true ↔ (watF (M.f (stN 3 v)).m k v = true ∨ v = u) := by
      have e : ((M.watchF (stN 3 u) k u).f (stN 3 v)).m = if stN 3 v = stN 3 u then watchM (M.f (stN 3 u)).m k u else (M.f (stN 3 v)).m := by
        simp only [Md.watchF, Md.setF]
        split <;> rfl
      rw [e]
      by_cases hs : stN 3 v = stN 3 u
      · rw [if_pos hs, wat_watch (hw.msk _), hs]
        simp [hc]
      · rw [if_neg hs]
        constructor
        · exact .inl
        · rintro (h | rfl)
          · exact h
          · exact absurd rfl hs
    exact ⟨fun v hv => (key v).2 (.inl (h v hv)), fun _ => (key u).2 (.inr rfl), fun _ => rfl⟩
theorem wok_next {B : Nat} {M : Md} {k : Int} {u : ByteArray} (hw : WOk 3 B M) (hB : B + 1 ≤ 900) (hcl : M.t.cl = false) (hb : nameB u = true) (hi : inB k 0 7 = true) : WOk 3 (B + 1) (nextV M k u) := by
  rw [← (rep_V hcl hb hi).2]; exact wok_do hw hB k (opV u)
theorem lim_next {B : Nat} {M : Md} {k : Int} {u : ByteArray} (hw : WOk 3 B M) (h : LimOk k M) (hcl : M.t.cl = false) (hb : nameB u = true) (hi : inB k 0 7 = true) : LimOk k (nextV M k u) := by
  rw [← (rep_V hcl hb hi).2]; exact lim_do hw h k (opV u)
structure LkOk (k : Int) (B i : Nat) (K : List ByteArray) (M : Md) : Prop where
  w : WOk 3 (B + i) M
  l : LimOk k M
  cl : M.t.cl = false
  nd : K.Nodup
  wt : ∀ v ∈ K, watF (M.f (stN 3 v)).m k v = true
  kl : K.length ≤ i

theorem law_limits (l : List Ac) (us : List ByteArray) (who : Nat) (hl : l.length ≤ maxLen) (hu : ∀ a ∈ l, a.op.us.length ≤ maxLen) (hus : us.length ≤ maxLen) (hwho : who ≤ 255) :
    PCall P 8 [.sl 10 (acts l), .sl 1 (strs us), .v (.int .u8 who)] (fun x => x = bool true) := by
  have hL := law_long l hl hu
  have esm : sm.av = .agg [i64 3, i64 2, i64 16, i64 4, i64 1, u64 100, u64 0] := rfl
  refine q0r tyOk Tryz.func8 rfl rfl ?_
  intro K hK
  simp only [Tryz.ntmps8, List.length_cons, List.length_nil, Nat.reduceAdd, Nat.reduceSub, List.replicate, List.cons_append, List.nil_append]
  try simp (maxSteps := 1000000) only [seval]
  (refine q0g law_awake rfl ?_; rintro _ rfl)
  try simp (maxSteps := 1000000) only [seval]
  (refine q0g hL rfl ?_; rintro _ rfl)
  cases hlg : (decide (120 < l.length) || longA l)
  · rw [Bool.or_eq_false_iff] at hlg
    have hl120 : l.length ≤ 120 := by have := of_decide_eq_false hlg.1; omega
    have hsh : ∀ a ∈ l, shortO a.op = true := fun a ha => by
      have := List.any_eq_false.1 hlg.2 a ha
      cases h : shortO a.op with | true => rfl | false => rw [h] at this; exact absurd rfl this
    by_cases h8 : 20 < us.length
    · have c1 : decide ((20 : Int) < (us.length : Int)) = true := decide_eq_true (by omega)
      have c1' : decide ((us.length : Int) > (20 : Int)) = true := decide_eq_true (by omega)
      try simp (maxSteps := 1000000) only [seval, c1, c1', List.length_map]
      (refine q0g law_awake rfl ?_; rintro _ rfl)
      try simp (maxSteps := 1000000) only [seval]
      apply hK
      simp only [Tryz.results8, retK, ares, List.take_nil, Bool.and_true, Bool.true_and, AV.ofResults, St.trunc, q00, q01, List.getD_cons_zero, List.getD_cons_succ, List.map_nil, true_and, and_true, List.cons.injEq, exists_eq_left']
      try rfl
    · have c1 : decide ((20 : Int) < (us.length : Int)) = false := decide_eq_false (by omega)
      have c1' : decide ((us.length : Int) > (20 : Int)) = false := decide_eq_false (by omega)
      try simp (maxSteps := 1000000) only [seval, c1, c1', List.length_map]
      (refine q0g law_Small rfl ?_; rintro _ rfl)
      try simp (maxSteps := 1000000) only [seval]
      have h0 : WOk 3 0 (fresh sm) := wok_fresh rfl (by decide) (by decide) (by decide)
      have hi07 : inB ((who % 8 : Nat) : Int) 0 7 = true := by
        unfold inB
        rw [decide_eq_true (by omega), decide_eq_true (by omega)]; rfl
      have hcli := in_cli hi07
      have ewh : IntKind.i64.wrap (who : Int) = (who : Int) := wrap_i64 (by omega) (by omega)
      have emh : Int.tmod (who : Int) 8 = ((who % 8 : Nat) : Int) := rfl
      obtain ⟨k, hk⟩ : ∃ k : Int, ((who % 8 : Nat) : Int) = k := ⟨_, rfl⟩
      rw [hk] at hi07 hcli emh
      refine q15 ((model_New sm 3 rfl (by decide) (by decide) (by rfl)).mono ?_)
      rintro _ _ ⟨rfl, pad, rfl⟩
      try simp (maxSteps := 1000000) only [seval, mm_0, mm_1, mm_2, mm_0n, mm_1n, mm_2n, q0b, q0a, q0c, q0d, q0e, mm_s0, mm_s1, mm_s2, mm_s3, q09, q06, q08, q07, q0f, q04, q02, q05, q03, Nat.add_assoc, AB.calm, kpX, kpM, ml_z, ml_1, ml_l, ml_r, ml_b, ml_le, ml_0, ml_0k, Nat.one_ne_zero, List.all_cons, List.all_nil]
      refine q1f tyOk (α := Nat) (mlen 3) [0, 1, 2, 7, 9] (fun i => i ≤ l.length)
        (fun i => ⟨[.sl 10 (acts l), .sl 1 (strs us), .v (.int .u8 who), .any, .any, .any, .any, .ptr 0 0, .any, i64 i, .any, .any, .any, .any, .any, .any, .any, .any, .any, .any, .any, .any, .any, .any, .any, .any, .any, .any, .any, .any, .any, .any, .any, .any, .any, .any, .any, .any, .any, .any, .any, .any, .any, .any, .any, .any, .any, .any, .any, .any, .any, .any, .any, .any, .any, .any, .any, .any, .any, .any, .any, .any, .any, .any, .any, .any, .any, .any, .any, .any, .any, .any, .any, .any, .any, .any, .any, .any, .any, .any, .any, .any, .any, .any, .any, .any, .any, .any, .any, .any, .any, .any, .any, .any, .any, .any, .any, .any, .any, .any, .any, .any, .any, .any, .any, .any, .any, .any, .any, .any, .any, .any, .any, .any, .any, .any, .any, .any, .any, .any, .any, .any, .any, .any, .any, .any, .any, .any, .any, .any, .any, .any, .any, .any, .any, .any, .any, .any, .any, .any, .any, .any, .any, .any, .any], modM 3 pad (runM (fresh sm) (l.take i))⟩)
        (fun i => l.length - i) 0 (by simp) (Nat.zero_le _) ?_ ?_
      · simp only [St.trunc, St.keep, q00, q01, keepV, ml_n0, q32, List.elem_cons, List.elem_nil, List.take_zero, Nat.reduceAdd, Nat.reduceBEq, Nat.zero_add, Bool.false_eq_true, ↓reduceIte]
        rfl
      intro i hi
      try simp (maxSteps := 1000000) only [seval, mm_0, mm_1, mm_2, mm_0n, mm_1n, mm_2n, q0b, q0a, q0c, q0d, q0e, mm_s0, mm_s1, mm_s2, mm_s3, q09, q06, q08, q07, q0f, q04, q02, q05, q03, Nat.add_assoc, AB.calm, kpX, kpM, ml_z, ml_1, ml_l, ml_r, ml_b, ml_le, ml_0, ml_0k, Nat.one_ne_zero, List.all_cons, List.all_nil, q38]
      (first | refine q0j ?_ ?_ | refine q0k ?_ ?_ | refine q0l ?_ ?_ | refine q0m ?_ ?_ | refine q0i ?_ ?_) <;> intro hf <;> try simp (maxSteps := 1000000) only [seval, mm_0, mm_1, mm_2, mm_0n, mm_1n, mm_2n, q0b, q0a, q0c, q0d, q0e, mm_s0, mm_s1, mm_s2, mm_s3, q09, q06, q08, q07, q0f, q04, q02, q05, q03, Nat.add_assoc, AB.calm, kpX, kpM, ml_z, ml_1, ml_l, ml_r, ml_b, ml_le, ml_0, ml_0k, Nat.one_ne_zero, List.all_cons, List.all_nil]
      · have hlt : i < l.length := by simpa using hf
        have eg := acts_get hlt
        have ew : IntKind.i64.wrap ((i : Int) + 1) = ((i + 1 : Nat) : Int) := by rw [wrap_i64 (by omega) (by omega)]; rfl
        have b1 : (0 : Int) ≤ (i : Int) ∧ Int.toNat (i : Int) < l.length := by omega
        have hw := wok_run h0 l (by omega) i hi
        have hw' := wok_run h0 l (by omega) (i + 1) hlt
        have hlm := lim_run h0 (lim_fresh k) l (by omega) (i + 1) hlt
        have hnx := runM_next (M := fresh sm) hlt
        have hok := short_ok (hsh _ (List.getElem_mem hlt))
        have hbf := law_befalls (pad := pad) hw (by omega) l[i] hok
        rw [← hnx] at hbf
        obtain ⟨M', hM'⟩ : ∃ M', runM (fresh sm) (l.take (i + 1)) = M' := ⟨_, rfl⟩
        rw [hM'] at hbf hw' hlm
        unfold Ac.av at hbf
        try simp (maxSteps := 1000000) only [seval, mm_0, mm_1, mm_2, mm_0n, mm_1n, mm_2n, q0b, q0a, q0c, q0d, q0e, mm_s0, mm_s1, mm_s2, mm_s3, q09, q06, q08, q07, q0f, q04, q02, q05, q03, Nat.add_assoc, AB.calm, kpX, kpM, ml_z, ml_1, ml_l, ml_r, ml_b, ml_le, ml_0, ml_0k, Nat.one_ne_zero, List.all_cons, List.all_nil, q38, eg, b1]
        rw [← List.append_nil (modM 3 pad (runM (fresh sm) (l.take i)))]
        refine q2m (kp := kpX 3) (fun b hb => absurd hb (Nat.not_lt_zero b)) (mod_inX hbf rfl ?_ ?_)
        · rfl
        rintro _ _ ⟨rfl, rfl⟩
        refine ⟨rp_bks _, _, rfl, ?_⟩
        have hlv := live_le hw' hlm l[i].op.u
        have d2 : decide ((presOf 3 M' l[i].op.u).n > 2) = false := decide_eq_false (by omega)
        have d2' : decide (2 < (presOf 3 M' l[i].op.u).n) = false := decide_eq_false (by omega)
        have hou := hok.u
        try simp (maxSteps := 1000000) only [seval, mm_0, mm_1, mm_2, mm_0n, mm_1n, mm_2n, q0b, q0a, q0c, q0d, q0e, mm_s0, mm_s1, mm_s2, mm_s3, q09, q06, q08, q07, q0f, q04, q02, q05, q03, Nat.add_assoc, AB.calm, kpX, kpM, ml_z, ml_1, ml_l, ml_r, ml_b, ml_le, ml_0, ml_0k, Nat.one_ne_zero, List.all_cons, List.all_nil, q38, eg, b1]
        refine q15 (Sym.ACall.mono (model_Presence (pad := pad) hw'.ok l[i].op.u (by omega)) ?_)
        rintro _ _ ⟨rfl, rfl⟩
        try simp (maxSteps := 1000000) only [seval, mm_0, mm_1, mm_2, mm_0n, mm_1n, mm_2n, q0b, q0a, q0c, q0d, q0e, mm_s0, mm_s1, mm_s2, mm_s3, q09, q06, q08, q07, q0f, q04, q02, q05, q03, Nat.add_assoc, AB.calm, kpX, kpM, ml_z, ml_1, ml_l, ml_r, ml_b, ml_le, ml_0, ml_0k, Nat.one_ne_zero, List.all_cons, List.all_nil, Pr.av]
        (refine q0g law_Small rfl ?_; rintro _ rfl)
        try simp (maxSteps := 1000000) only [seval, mm_0, mm_1, mm_2, mm_0n, mm_1n, mm_2n, q0b, q0a, q0c, q0d, q0e, mm_s0, mm_s1, mm_s2, mm_s3, q09, q06, q08, q07, q0f, q04, q02, q05, q03, Nat.add_assoc, AB.calm, kpX, kpM, ml_z, ml_1, ml_l, ml_r, ml_b, ml_le, ml_0, ml_0k, Nat.one_ne_zero, List.all_cons, List.all_nil, esm, d2, d2', ew]
        simp only [q0n, St.trunc, St.keep, q00, q01, keepV, ml_n0, q32, List.elem_cons, List.elem_nil, Nat.reduceAdd, Nat.reduceBEq, Nat.zero_add, Bool.false_eq_true, ↓reduceIte]
        exact ⟨i + 1, hlt, by omega, by rw [hM']⟩
      · obtain rfl : i = l.length := by have := of_decide_eq_false hf; omega
        rw [List.take_length]
        have hw0 := wok_run h0 l (by omega) l.length (Nat.le_refl _)
        have hl0 := lim_run h0 (lim_fresh k) l (by omega) l.length (Nat.le_refl _)
        rw [List.take_length] at hw0 hl0
        rw [Nat.zero_add] at hw0
        generalize runM (fresh sm) l = M0 at *
        refine q15 (Sym.ACall.mono (q1b 3 pad M0) ?_)
        rintro _ _ ⟨rfl, rfl⟩
        cases hcl : M0.t.cl
        · try simp (maxSteps := 1000000) only [seval, mm_0, mm_1, mm_2, mm_0n, mm_1n, mm_2n, q0b, q0a, q0c, q0d, q0e, mm_s0, mm_s1, mm_s2, mm_s3, q09, q06, q08, q07, q0f, q04, q02, q05, q03, Nat.add_assoc, AB.calm, kpX, kpM, ml_z, ml_1, ml_l, ml_r, ml_b, ml_le, ml_0, ml_0k, Nat.one_ne_zero, List.all_cons, List.all_nil, q23, hcl]
          refine loopK_turn (Turns.adopt (i := 11) 9 1 rfl) ?_
          try simp (maxSteps := 1000000) only [seval, mm_0, mm_1, mm_2, mm_0n, mm_1n, mm_2n, q0b, q0a, q0c, q0d, q0e, mm_s0, mm_s1, mm_s2, mm_s3, q09, q06, q08, q07, q0f, q04, q02, q05, q03, Nat.add_assoc, AB.calm, kpX, kpM, ml_z, ml_1, ml_l, ml_r, ml_b, ml_le, ml_0, ml_0k, Nat.one_ne_zero, List.all_cons, List.all_nil]
          refine q1f tyOk (α := Nat × List ByteArray × Md) (mlen 3 + 1) [1, 2, 7, 10, 11, 12] (fun s => s.1 ≤ us.length ∧ LkOk k l.length s.1 s.2.1 s.2.2)
            (fun s => ⟨[.any, .sl 1 (strs us), .v (.int .u8 who), .any, .any, .any, .any, .ptr 0 0, .any, .any, i64 s.2.1.length, .own (mlen 3) 1 0 s.2.1.length, i64 s.1, .any, .any, .any, .any, .any, .any, .any, .any, .any, .any, .any, .any, .any, .any, .any, .any, .any, .any, .any, .any, .any, .any, .any, .any, .any, .any, .any, .any, .any, .any, .any, .any, .any, .any, .any, .any, .any, .any, .any, .any, .any, .any, .any, .any, .any, .any, .any, .any, .any, .any, .any, .any, .any, .any, .any, .any, .any, .any, .any, .any, .any, .any, .any, .any, .any, .any, .any, .any, .any, .any, .any, .any, .any, .any, .any, .any, .any, .any, .any, .any, .any, .any, .any, .any, .any, .any, .any, .any, .any, .any, .any, .any, .any, .any, .any, .any, .any, .any, .any, .any, .any, .any, .any, .any, .any, .any, .any, .any, .any, .any, .any, .any, .any, .any, .any, .any, .any, .any, .any, .any, .any, .any, .any, .any, .any, .any, .any, .any, .any, .any, .any, .any], modM 3 pad s.2.2 ++ [.row 9 1 (strs s.2.1)]⟩)
            (fun s => us.length - s.1) (0, [], M0) (by simp) ⟨Nat.zero_le _, hw0, hl0, hcl, List.nodup_nil, (fun v hv => by cases hv), Nat.le_refl _⟩ ?_ ?_
          · simp only [St.trunc, St.keep, q00, q01, AB.trunc, keepV, ml_k0, ml_kl0, mm_rn1, Nat.reduceLeDiff, List.elem_cons, List.elem_nil, List.take_succ_cons, List.take_zero, List.map_cons, List.map_nil, List.length_nil, Nat.reduceAdd, Nat.reduceBEq, Nat.zero_add, Bool.false_eq_true, ↓reduceIte]
            rfl
          rintro ⟨i, Q, M⟩ ⟨hi, hA⟩
          simp only at hi hA
          try simp (maxSteps := 1000000) only [seval, mm_0, mm_1, mm_2, mm_0n, mm_1n, mm_2n, q0b, q0a, q0c, q0d, q0e, mm_s0, mm_s1, mm_s2, mm_s3, q09, q06, q08, q07, q0f, q04, q02, q05, q03, Nat.add_assoc, AB.calm, kpX, kpM, ml_z, ml_1, ml_l, ml_r, ml_b, ml_le, ml_0, ml_0k, Nat.one_ne_zero, List.all_cons, List.all_nil, List.length_map]
          (first | refine q0j ?_ ?_ | refine q0k ?_ ?_ | refine q0l ?_ ?_ | refine q0m ?_ ?_ | refine q0i ?_ ?_) <;> intro hf
          · have hlt : i < us.length := by simpa using hf
            have eg : (us.map fun x => str x).getD (Int.toNat (i : Int)) .any = str us[i] := by
              simp [List.getD_eq_getElem?_getD, hlt]
            have ew : IntKind.i64.wrap ((i : Int) + 1) = ((i + 1 : Nat) : Int) := by rw [wrap_i64 (by omega) (by omega)]; rfl
            have b1 : (0 : Int) ≤ (i : Int) ∧ Int.toNat (i : Int) < us.length := by omega
            have hkl := hA.kl
            have ewq : IntKind.i64.wrap ((Q.length : Int) + 1) = ((Q.length + 1 : Nat) : Int) := by rw [wrap_i64 (by omega) (by omega)]; rfl
            obtain ⟨u, hu0⟩ : ∃ u, us[i] = u := ⟨_, rfl⟩
            rw [hu0] at eg
            have hsame : LkOk k l.length (i + 1) Q M := ⟨hA.w.mono (by omega) (by omega), hA.l, hA.cl, hA.nd, hA.wt, by omega⟩
            have hS := PCall.weakArgsL (law_Short (opV u) (Nat.zero_le _)) (args := [opNil (opV u)]) ⟨_, _, rfl, weak_op _ rfl, rfl⟩
            have hB := PCall.weakArgsL (model_Bad (opV u) (Nat.zero_le _)) (args := [opNil (opV u)]) ⟨_, _, rfl, weak_op _ rfl, rfl⟩
            rw [bad_V] at hB
            unfold opNil at hS hB
            obtain ⟨sh, hsh0⟩ : ∃ b, shortO (opV u) = b := ⟨_, rfl⟩
            rw [hsh0] at hS
            simp only [opV] at hS hB
            try simp (maxSteps := 1000000) only [seval, mm_0, mm_1, mm_2, mm_0n, mm_1n, mm_2n, q0b, q0a, q0c, q0d, q0e, mm_s0, mm_s1, mm_s2, mm_s3, q09, q06, q08, q07, q0f, q04, q02, q05, q03, Nat.add_assoc, AB.calm, kpX, kpM, ml_z, ml_1, ml_l, ml_r, ml_b, ml_le, ml_0, ml_0k, Nat.one_ne_zero, List.all_cons, List.all_nil, eg, b1, List.length_map]
            (refine q0g hS rfl ?_; rintro _ rfl)
            cases sh
            · try simp (maxSteps := 1000000) only [seval, mm_0, mm_1, mm_2, mm_0n, mm_1n, mm_2n, q0b, q0a, q0c, q0d, q0e, mm_s0, mm_s1, mm_s2, mm_s3, q09, q06, q08, q07, q0f, q04, q02, q05, q03, Nat.add_assoc, AB.calm, kpX, kpM, ml_z, ml_1, ml_l, ml_r, ml_b, ml_le, ml_0, ml_0k, Nat.one_ne_zero, List.all_cons, List.all_nil, ew]
              simp only [q0n, St.trunc, St.keep, q00, q01, AB.trunc, keepV, ml_k0, ml_kl0, mm_rn1, Nat.reduceLeDiff, List.drop_zero, List.elem_cons, List.elem_nil, List.take_succ_cons, List.take_zero, List.map_cons, List.map_nil, Nat.reduceAdd, Nat.reduceBEq, Nat.le_refl, Nat.zero_add, Bool.false_eq_true, ↓reduceIte]
              exact ⟨(i + 1, Q, M), ⟨hlt, hsame⟩, by simp only; omega, rfl⟩
            · try simp (maxSteps := 1000000) only [seval, mm_0, mm_1, mm_2, mm_0n, mm_1n, mm_2n, q0b, q0a, q0c, q0d, q0e, mm_s0, mm_s1, mm_s2, mm_s3, q09, q06, q08, q07, q0f, q04, q02, q05, q03, Nat.add_assoc, AB.calm, kpX, kpM, ml_z, ml_1, ml_l, ml_r, ml_b, ml_le, ml_0, ml_0k, Nat.one_ne_zero, List.all_cons, List.all_nil]
              (refine q0g hB rfl ?_; rintro _ rfl)
              cases hb : nameB u
              · try simp (maxSteps := 1000000) only [seval, mm_0, mm_1, mm_2, mm_0n, mm_1n, mm_2n, q0b, q0a, q0c, q0d, q0e, mm_s0, mm_s1, mm_s2, mm_s3, q09, q06, q08, q07, q0f, q04, q02, q05, q03, Nat.add_assoc, AB.calm, kpX, kpM, ml_z, ml_1, ml_l, ml_r, ml_b, ml_le, ml_0, ml_0k, Nat.one_ne_zero, List.all_cons, List.all_nil, ew]
                simp only [q0n, St.trunc, St.keep, q00, q01, AB.trunc, keepV, ml_k0, ml_kl0, mm_rn1, Nat.reduceLeDiff, List.drop_zero, List.elem_cons, List.elem_nil, List.take_succ_cons, List.take_zero, List.map_cons, List.map_nil, Nat.reduceAdd, Nat.reduceBEq, Nat.le_refl, Nat.zero_add, Bool.false_eq_true, ↓reduceIte]
                exact ⟨(i + 1, Q, M), ⟨hlt, hsame⟩, by simp only; omega, rfl⟩
              · try simp (maxSteps := 1000000) only [seval, mm_0, mm_1, mm_2, mm_0n, mm_1n, mm_2n, q0b, q0a, q0c, q0d, q0e, mm_s0, mm_s1, mm_s2, mm_s3, q09, q06, q08, q07, q0f, q04, q02, q05, q03, Nat.add_assoc, AB.calm, kpX, kpM, ml_z, ml_1, ml_l, ml_r, ml_b, ml_le, ml_0, ml_0k, Nat.one_ne_zero, List.all_cons, List.all_nil]
                refine q1f tyOk (α := Nat) (mlen 3 + 2) [1, 2, 7, 10, 11, 12, 13, 14, 15] (fun j => j ≤ Q.length)
                  (fun j => ⟨[.any, .sl 1 (strs us), .v (.int .u8 who), .any, .any, .any, .any, .ptr 0 0, .any, .any, i64 Q.length, .own (mlen 3) 1 0 Q.length, i64 i, .ptr (mlen 3 + 1) 0, bool ((Q.take j).any fun v => eqS v u), i64 j, .any, .any, .any, .any, .any, .any, .any, .any, .any, .any, .any, .any, .any, .any, .any, .any, .any, .any, .any, .any, .any, .any, .any, .any, .any, .any, .any, .any, .any, .any, .any, .any, .any, .any, .any, .any, .any, .any, .any, .any, .any, .any, .any, .any, .any, .any, .any, .any, .any, .any, .any, .any, .any, .any, .any, .any, .any, .any, .any, .any, .any, .any, .any, .any, .any, .any, .any, .any, .any, .any, .any, .any, .any, .any, .any, .any, .any, .any, .any, .any, .any, .any, .any, .any, .any, .any, .any, .any, .any, .any, .any, .any, .any, .any, .any, .any, .any, .any, .any, .any, .any, .any, .any, .any, .any, .any, .any, .any, .any, .any, .any, .any, .any, .any, .any, .any, .any, .any, .any, .any, .any, .any, .any, .any, .any, .any, .any, .any, .any], modM 3 pad M ++ [.row 9 1 (strs Q), .box [i64 6, str u, i64 0, i64 0, i64 0, u64 0, .v (.slice none 0 0)]]⟩)
                  (fun j => Q.length - j) 0 (by simp) (Nat.zero_le _) ?_ ?_
                · simp only [St.trunc, St.keep, q00, q01, AB.trunc, keepV, ml_k0, ml_kl, ml_kl0, mm_rn2, Nat.reduceLeDiff, List.elem_cons, List.elem_nil, List.take_succ_cons, List.take_zero, List.map_cons, List.map_nil, Nat.reduceAdd, Nat.reduceBEq, Nat.zero_add, Bool.false_eq_true, ↓reduceIte]
                  rfl
                intro j hj
                try simp (maxSteps := 1000000) only [seval, mm_0, mm_1, mm_2, mm_0n, mm_1n, mm_2n, q0b, q0a, q0c, q0d, q0e, mm_s0, mm_s1, mm_s2, mm_s3, q09, q06, q08, q07, q0f, q04, q02, q05, q03, Nat.add_assoc, AB.calm, kpX, kpM, ml_z, ml_1, ml_l, ml_r, ml_b, ml_le, ml_0, ml_0k, Nat.one_ne_zero, List.all_cons, List.all_nil, List.length_map]
                (first | refine q0j ?_ ?_ | refine q0k ?_ ?_ | refine q0l ?_ ?_ | refine q0m ?_ ?_ | refine q0i ?_ ?_) <;> intro hf2
                · have hlt2 : j < Q.length := by simpa using hf2
                  have eg2 : (Q.map fun x => str x).getD (Int.toNat (j : Int)) .any = str Q[j] := by
                    simp [List.getD_eq_getElem?_getD, hlt2]
                  have ew2 : IntKind.i64.wrap ((j : Int) + 1) = ((j + 1 : Nat) : Int) := by rw [wrap_i64 (by omega) (by omega)]; rfl
                  have b2 : (0 : Int) ≤ (j : Int) ∧ Int.toNat (j : Int) < Q.length := by omega
                  obtain ⟨ac, hac⟩ : ∃ b, ((Q.take j).any fun v => eqS v u) = b := ⟨_, rfl⟩
                  have hnx : ((Q.take (j + 1)).any fun v => eqS v u) = (ac || eqS Q[j] u) := by
                    rw [q24 hlt2, List.any_append, hac]; simp
                  rw [hac]
                  try simp (maxSteps := 1000000) only [seval, mm_0, mm_1, mm_2, mm_0n, mm_1n, mm_2n, q0b, q0a, q0c, q0d, q0e, mm_s0, mm_s1, mm_s2, mm_s3, q09, q06, q08, q07, q0f, q04, q02, q05, q03, Nat.add_assoc, AB.calm, kpX, kpM, ml_z, ml_1, ml_l, ml_r, ml_b, ml_le, ml_0, ml_0k, Nat.one_ne_zero, List.all_cons, List.all_nil]
                  refine q0u tyOk (by rfl) (by simp only [q07, List.length_cons, List.length_nil, mlen]; omega) (by kernel_rfl) rfl ?_
                  cases ac
                  · try simp (maxSteps := 1000000) only [seval, mm_0, mm_1, mm_2, mm_0n, mm_1n, mm_2n, q0b, q0a, q0c, q0d, q0e, mm_s0, mm_s1, mm_s2, mm_s3, q09, q06, q08, q07, q0f, q04, q02, q05, q03, Nat.add_assoc, AB.calm, kpX, kpM, ml_z, ml_1, ml_l, ml_r, ml_b, ml_le, ml_0, ml_0k, Nat.one_ne_zero, List.all_cons, List.all_nil, eg, eg2, b1, b2, List.length_map]
                    refine ⟨by kernel_rfl, ?_⟩
                    try simp (maxSteps := 1000000) only [seval, mm_0, mm_1, mm_2, mm_0n, mm_1n, mm_2n, q0b, q0a, q0c, q0d, q0e, mm_s0, mm_s1, mm_s2, mm_s3, q09, q06, q08, q07, q0f, q04, q02, q05, q03, Nat.add_assoc, AB.calm, kpX, kpM, ml_z, ml_1, ml_l, ml_r, ml_b, ml_le, ml_0, ml_0k, Nat.one_ne_zero, List.all_cons, List.all_nil, ew2]
                    simp only [q0n, St.trunc, St.keep, q00, q01, AB.trunc, keepV, ml_k0, ml_kl, ml_kl0, mm_rn2, Nat.reduceLeDiff, List.elem_cons, List.elem_nil, List.take_succ_cons, List.take_zero, List.map_cons, List.map_nil, Nat.reduceAdd, Nat.reduceBEq, Nat.zero_add, Bool.false_eq_true, ↓reduceIte]
                    exact ⟨j + 1, hlt2, by omega, by rw [hnx, Bool.false_or]; rfl⟩
                  · try simp (maxSteps := 1000000) only [seval, mm_0, mm_1, mm_2, mm_0n, mm_1n, mm_2n, q0b, q0a, q0c, q0d, q0e, mm_s0, mm_s1, mm_s2, mm_s3, q09, q06, q08, q07, q0f, q04, q02, q05, q03, Nat.add_assoc, AB.calm, kpX, kpM, ml_z, ml_1, ml_l, ml_r, ml_b, ml_le, ml_0, ml_0k, Nat.one_ne_zero, List.all_cons, List.all_nil, eg, eg2, b1, b2, List.length_map]
                    refine ⟨by kernel_rfl, ?_⟩
                    try simp (maxSteps := 1000000) only [seval, mm_0, mm_1, mm_2, mm_0n, mm_1n, mm_2n, q0b, q0a, q0c, q0d, q0e, mm_s0, mm_s1, mm_s2, mm_s3, q09, q06, q08, q07, q0f, q04, q02, q05, q03, Nat.add_assoc, AB.calm, kpX, kpM, ml_z, ml_1, ml_l, ml_r, ml_b, ml_le, ml_0, ml_0k, Nat.one_ne_zero, List.all_cons, List.all_nil, ew2]
                    simp only [q0n, St.trunc, St.keep, q00, q01, AB.trunc, keepV, ml_k0, ml_kl, ml_kl0, mm_rn2, Nat.reduceLeDiff, List.elem_cons, List.elem_nil, List.take_succ_cons, List.take_zero, List.map_cons, List.map_nil, Nat.reduceAdd, Nat.reduceBEq, Nat.zero_add, Bool.false_eq_true, ↓reduceIte]
                    exact ⟨j + 1, hlt2, by omega, by rw [hnx, Bool.true_or]⟩
                · have hge : j = Q.length := by have : ¬ ((j : Int) < (Q.length : Int)) := by simpa using hf2
                                                omega
                  subst hge
                  rw [List.take_length]
                  obtain ⟨ob, hob⟩ : ∃ b, (Q.any fun v => eqS v u) = b := ⟨_, rfl⟩
                  have hin : ob = true ↔ u ∈ Q := by
                    rw [← hob, List.any_eq_true]
                    constructor
                    · rintro ⟨v, hv, e⟩; rw [(q1t v u).1 e] at hv; exact hv
                    · intro hv; exact ⟨u, hv, (q1t u u).2 rfl⟩
                  rw [hob]
                  have hok := short_ok hsh0
                  obtain ⟨r1, r2⟩ := rep_V hA.cl hb hi07
                  obtain ⟨m1, m2, m3⟩ := met_next hA.w hcli u hA.wt
                  have hw2 := wok_next hA.w (by omega) hA.cl hb hi07
                  have hl2 := lim_next hA.w hA.l hA.cl hb hi07
                  have hc2 := next_cl (k := k) (u := u) hA.cl
                  have hDq := Do_nil (pad := pad) hA.w (by omega) k (opV u) hok rfl [.row 9 1 (strs Q), .box [i64 6, str u, i64 0, i64 0, i64 0, u64 0, .v (.slice none 0 0)]] rfl
                  rw [r1, r2] at hDq
                  unfold opNil at hDq
                  simp only [opV] at hDq
                  obtain ⟨M2, hM2⟩ : ∃ M2, nextV M k u = M2 := ⟨_, rfl⟩
                  rw [hM2] at hDq m1 m2 hw2 hl2 hc2
                  have hnd := hA.nd
                  try simp (maxSteps := 1000000) only [seval, mm_0, mm_1, mm_2, mm_0n, mm_1n, mm_2n, q0b, q0a, q0c, q0d, q0e, mm_s0, mm_s1, mm_s2, mm_s3, q09, q06, q08, q07, q0f, q04, q02, q05, q03, Nat.add_assoc, AB.calm, kpX, kpM, ml_z, ml_1, ml_l, ml_r, ml_b, ml_le, ml_0, ml_0k, Nat.one_ne_zero, List.all_cons, List.all_nil, ewh, emh]
                  refine q2m (kp := kpX 3) (fun b hb => absurd hb (Nat.not_lt_zero b)) (hDq.mono ?_)
                  rintro _ _ ⟨rfl, rfl⟩
                  by_cases hfull : fullW 3 M k u = true
                  · have he : errV M k u = 4 := by unfold errV; rw [if_pos hfull]
                    have ho : ob = false := by
                      cases ob with
                      | false => rfl
                      | true => have := m3 (hin.1 rfl); rw [he] at this; cases this
                    rw [he, ho]
                    try simp (maxSteps := 1000000) only [seval, mm_0, mm_1, mm_2, mm_0n, mm_1n, mm_2n, q0b, q0a, q0c, q0d, q0e, mm_s0, mm_s1, mm_s2, mm_s3, q09, q06, q08, q07, q0f, q04, q02, q05, q03, Nat.add_assoc, AB.calm, kpX, kpM, ml_z, ml_1, ml_l, ml_r, ml_b, ml_le, ml_0, ml_0k, Nat.one_ne_zero, List.all_cons, List.all_nil, errR, Rp.av, slO, Option.map, ew]
                    simp only [q0n, St.trunc, St.keep, q00, q01, AB.trunc, keepV, ml_k0, ml_kl, ml_kl0, mm_rn1, Nat.reduceLeDiff, List.drop_zero, List.elem_cons, List.elem_nil, List.take_succ_cons, List.take_zero, List.map_cons, List.map_nil, Nat.reduceAdd, Nat.reduceBEq, Nat.le_refl, Nat.zero_add, Bool.false_eq_true, ↓reduceIte]
                    exact ⟨(i + 1, Q, M2), ⟨hlt, hw2.mono (by omega) (by omega), hl2, hc2, hnd, m1, by simp only; omega⟩, by simp only; omega, rfl⟩
                  · have he : errV M k u = 0 := by unfold errV; rw [if_neg hfull]
                    rw [he]
                    have hu2 := m2 he
                    cases ob
                    · have hnin : u ∉ Q := fun h => absurd (hin.2 h) (by decide)
                      try simp (maxSteps := 1000000) only [seval, mm_0, mm_1, mm_2, mm_0n, mm_1n, mm_2n, q0b, q0a, q0c, q0d, q0e, mm_s0, mm_s1, mm_s2, mm_s3, q09, q06, q08, q07, q0f, q04, q02, q05, q03, Nat.add_assoc, AB.calm, kpX, kpM, ml_z, ml_1, ml_l, ml_r, ml_b, ml_le, ml_0, ml_0k, Nat.one_ne_zero, List.all_cons, List.all_nil, errR, Rp.av, slO, Option.map, ew, ewq, eg, b1, List.length_map]
                      refine ⟨⟨by simp only [maxLen]; omega, by omega⟩, ?_⟩
                      simp only [q0n, St.trunc, St.keep, q00, q01, AB.trunc, keepV, ml_k0, ml_kl, ml_kl0, mm_rn1, Nat.reduceLeDiff, List.drop_zero, List.elem_cons, List.elem_nil, List.take_succ_cons, List.take_zero, List.map_cons, List.map_nil, Nat.reduceAdd, Nat.reduceBEq, Nat.le_refl, Nat.zero_add, Bool.false_eq_true, ↓reduceIte]
                      exact ⟨(i + 1, Q ++ [u], M2), ⟨hlt, hw2.mono (by omega) (by omega), hl2, hc2, List.nodup_append.2 ⟨hnd, by simp, fun a ha b hb e => hnin (by have hb' := List.mem_singleton.1 hb; subst hb'; subst e; exact ha)⟩, (fun v hv => by
                        rcases List.mem_append.1 hv with hv | hv
                        · exact m1 v hv
                        · rw [List.mem_singleton.1 hv]; exact hu2), by simp only [List.length_append, List.length_singleton]; omega⟩, by simp only; omega, by simp only [List.length_append, List.length_singleton, strs, List.map_append, List.map_cons, List.map_nil]⟩
                    · try simp (maxSteps := 1000000) only [seval, mm_0, mm_1, mm_2, mm_0n, mm_1n, mm_2n, q0b, q0a, q0c, q0d, q0e, mm_s0, mm_s1, mm_s2, mm_s3, q09, q06, q08, q07, q0f, q04, q02, q05, q03, Nat.add_assoc, AB.calm, kpX, kpM, ml_z, ml_1, ml_l, ml_r, ml_b, ml_le, ml_0, ml_0k, Nat.one_ne_zero, List.all_cons, List.all_nil, errR, Rp.av, slO, Option.map, ew]
                      simp only [q0n, St.trunc, St.keep, q00, q01, AB.trunc, keepV, ml_k0, ml_kl, ml_kl0, mm_rn1, Nat.reduceLeDiff, List.drop_zero, List.elem_cons, List.elem_nil, List.take_succ_cons, List.take_zero, List.map_cons, List.map_nil, Nat.reduceAdd, Nat.reduceBEq, Nat.le_refl, Nat.zero_add, Bool.false_eq_true, ↓reduceIte]
                      exact ⟨(i + 1, Q, M2), ⟨hlt, hw2.mono (by omega) (by omega), hl2, hc2, hnd, m1, by simp only; omega⟩, by simp only; omega, rfl⟩
          · have hge : i = us.length := by have : ¬ ((i : Int) < (us.length : Int)) := by simpa using hf
                                           omega
            have hmet := met_le hA.w hA.nd hA.wt
            have hcnt := hA.l.cnt
            have d4 : decide ((Q.length : Int) ≤ 4) = true := decide_eq_true (by omega)
            try simp (maxSteps := 1000000) only [seval, mm_0, mm_1, mm_2, mm_0n, mm_1n, mm_2n, q0b, q0a, q0c, q0d, q0e, mm_s0, mm_s1, mm_s2, mm_s3, q09, q06, q08, q07, q0f, q04, q02, q05, q03, Nat.add_assoc, AB.calm, kpX, kpM, ml_z, ml_1, ml_l, ml_r, ml_b, ml_le, ml_0, ml_0k, Nat.one_ne_zero, List.all_cons, List.all_nil]
            (refine q0g law_Small rfl ?_; rintro _ rfl)
            try simp (maxSteps := 1000000) only [seval, mm_0, mm_1, mm_2, mm_0n, mm_1n, mm_2n, q0b, q0a, q0c, q0d, q0e, mm_s0, mm_s1, mm_s2, mm_s3, q09, q06, q08, q07, q0f, q04, q02, q05, q03, Nat.add_assoc, AB.calm, kpX, kpM, ml_z, ml_1, ml_l, ml_r, ml_b, ml_le, ml_0, ml_0k, Nat.one_ne_zero, List.all_cons, List.all_nil, esm, d4]
            apply hK
            simp only [Tryz.results8, retK, ares, Bool.and_true, Bool.true_and, AV.ofResults, St.trunc, q00, q01, List.getD_cons_zero, List.getD_cons_succ, List.take_zero, List.map_nil, true_and, and_true, List.cons.injEq, exists_eq_left']
            try rfl
        · try simp (maxSteps := 1000000) only [seval, mm_0, mm_1, mm_2, mm_0n, mm_1n, mm_2n, q0b, q0a, q0c, q0d, q0e, mm_s0, mm_s1, mm_s2, mm_s3, q09, q06, q08, q07, q0f, q04, q02, q05, q03, Nat.add_assoc, AB.calm, kpX, kpM, ml_z, ml_1, ml_l, ml_r, ml_b, ml_le, ml_0, ml_0k, Nat.one_ne_zero, List.all_cons, List.all_nil, q23, hcl]
          apply hK
          simp only [Tryz.results8, retK, ares, Bool.and_true, Bool.true_and, AV.ofResults, St.trunc, q00, q01, List.getD_cons_zero, List.getD_cons_succ, List.take_zero, List.map_nil, true_and, and_true, List.cons.injEq, exists_eq_left']
          try rfl
  · try simp (maxSteps := 1000000) only [seval]
    (refine q0g law_awake rfl ?_; rintro _ rfl)
    try simp (maxSteps := 1000000) only [seval]
    apply hK
    simp only [Tryz.results8, retK, ares, List.take_nil, Bool.and_true, Bool.true_and, AV.ofResults, St.trunc, q00, q01, List.getD_cons_zero, List.getD_cons_succ, List.map_nil, true_and, and_true, List.cons.injEq, exists_eq_left']
    try rfl
def shapesModelLimits : List (Bool × List Lf) := [(false, [.sl 10 true [.int .u8, .int .i64, .int .i64, .str, .int .i64, .int .i64, .int .i64, .int .u64, .sl 1 false [.str], .int .u64]]), (false, [.sl 1 false [.str]]), (false, [.int .u8])]
theorem shapesModelLimits_ok : argShapes T 6 [29, 23, 5] = some shapesModelLimits := by kernel_rfl
theorem law_ModelLimits (xs : List AV) (h : argsFit shapesModelLimits xs) : PCall P 8 xs (fun x => x = .v (.bool true)) := by
  obtain ⟨_, _, rfl, ⟨_, _, rfl, ⟨ys, rfl, hlen, hys⟩, rfl⟩, _, _, rfl, ⟨_, _, rfl, ⟨zs, rfl, hlen2, hzs⟩, rfl⟩, _, _, rfl, ⟨_, _, rfl, ⟨who, rfl, hw⟩, rfl⟩, rfl⟩ := h
  obtain ⟨l, rfl, hl, hu⟩ := fits_acts hys
  obtain ⟨us, rfl⟩ := fits_strs hzs
  have hw' : 0 ≤ who ∧ who ≤ 255 := by simpa [Lit.wf, IntKind.min, IntKind.max, IntKind.signed, IntKind.bits] using hw
  obtain ⟨who, rfl⟩ : ∃ m : Nat, who = m := ⟨who.toNat, by omega⟩
  rw [q38] at hlen
  rw [List.length_map] at hlen2
  exact law_limits l us who hlen hu hlen2 (by omega)
end Go.Proofs.YtdkcpcflfnakdaaGreat
namespace Go.Proofs.YtdkcpcflfnakdaaGreat.modelLimits
open Go.ChangeShapes Go.WideShapes Go.ChangeAt Go.RowKit Go.Proofs.YtdkcpcflfnakdaaGreat.Sym
open Go.ChangeMaps (open_string shut_string)
set_option linter.unusedVariables false
theorem own : ownKnob Tryz.prog.godebug = none := by kernel_rfl
theorem laidOut : laidOutB Tryz.prog = true := by kernel_rfl
set_option maxRecDepth 100000 in
theorem lifted (os : Os) (started : os.Started) (H : Type) (enc : TypeId × Value → H) :
    ReturnsInHanded {} Tryz.checked os 8 .any (Rows.modelLimitsSpec.pre6 enc Tryz.prog Tryz.f8 Rows.modelLimitsRow.domain false) (Rows.modelLimitsSpec.post enc Tryz.prog Tryz.f8 false true false false) := by
  refine returnsInHanded_of_change_sized (C := Tryz.checked) own started (by kernel_rfl) Tryz.func8
    (ChangeSpec.witness6 (enc := enc) (C := Tryz.checked) false ⟨#[], #[.slice none 0 0, .slice none 0 0, .int .u8 0], []⟩ 8 (by kernel_rfl) (by kernel_rfl) (by kernel_rfl) (by kernel_rfl)) ?_
  intro W base args ds gs before hval0 hW hcnd hsz0 _
  have hval : ∀ (j : Nat) t v, Tryz.f8.params[j]? = some t → args[j]? = some v → Value.okWide Tryz.prog W .any base t v := hval0
  have hW' := hW
  obtain ⟨p, q, hA0, hV, rfl, hfz, hnd⟩ := hW
  have hA : DataW.TrodAll enc Tryz.prog W 0 (fun _ => true) true Tryz.f8.params.toList args.toList ds p := hA0
  have hval2 : ∀ (j : Nat) t v, Tryz.f8.params.toList[j]? = some t → args.toList[j]? = some v → Value.okWide Tryz.prog W .any base t v := fun j t v h1 h2 => hval j t v (by simpa using h1) (by simpa using h2)
  rw [Tryz.params8] at hA hval2
  obtain ⟨xs, hfit, hrel⟩ := open_args tyOk _ _ _ _ _ shapesModelLimits_ok hval2 hA
  obtain ⟨v0, vs0, d0, ds0, p0, q0, hargs, rfl, rfl, h0, r0⟩ := trodAll_cons hA
  obtain ⟨v1, vs1, d1, ds1, p1, q1, rfl, rfl, rfl, h1, r1⟩ := trodAll_cons r0
  obtain ⟨v2, vs2, d2, ds2, p2, q2, rfl, rfl, rfl, h2, r2⟩ := trodAll_cons r1
  obtain ⟨rfl, rfl, rfl⟩ := trodAll_nil r2
  obtain rfl : args = #[v0, v1, v2] := by cases args; simp_all
  obtain ⟨rfl, rfl⟩ := trodVars_none hV
  have k0 := h0
  have lt0 : ∀ x ∈ p0, x.block < W.heap.size := by obtain ⟨m, hm⟩ := k0; exact DataW.trod_lt m _ _ _ hm
  have k1 := h1
  have lt1 : ∀ x ∈ p1, x.block < W.heap.size := by obtain ⟨m, hm⟩ := k1; exact DataW.trod_lt m _ _ _ hm
  have k2 := h2
  have lt2 : ∀ x ∈ p2, x.block < W.heap.size := by obtain ⟨m, hm⟩ := k2; exact DataW.trod_lt m _ _ _ hm
  clear hA0 hval0 hsz0 hval hval2
  refine (PCall.calls (law_ModelLimits xs hfit) hrel (GlobOk.none (fun _ => rfl) (fun _ => rfl) (fun _ => rfl))).mono ?_
  rintro e W' ⟨y, x, rfl, rfl, hy, bel⟩
  obtain rfl := hy _ rfl
  exact ⟨_, rfl, _, _, _, [], _, [], hW', trodAll_mk1 (shut_bool Tryz.underlying4 _), (trodAll_cons_mk (Below.trod laidOut (by kernel_rfl) (of_decide_eq_true (by kernel_rfl)) k0 bel lt0) (trodAll_cons_mk (Below.trod laidOut (by kernel_rfl) (of_decide_eq_true (by kernel_rfl)) k1 bel lt1) (trodAll_cons_mk (Below.trod laidOut (by kernel_rfl) (of_decide_eq_true (by kernel_rfl)) k2 bel lt2) trodAll_mk0))), rfl, bel.frame _, fun h => by cases h⟩
theorem over : Rows.modelLimitsRow.holds Tryz.pinned (OpenSpec.ofChange Rows.modelLimitsSpec) :=
  OpenClaim.holds_of_wide 8 Tryz.f8 rfl rfl rfl rfl rfl rfl rfl ⟨rfl, rfl, rfl, rfl, rfl⟩ rfl rfl rfl rfl rfl (by kernel_rfl) Tryz.func8 (by kernel_rfl)
    (of_decide_eq_true (by kernel_rfl)) (by unfold Func.isWrapper; first | (rw [if_pos (by decide +kernel)]; kernel_rfl) | (rw [if_neg (by decide +kernel)]; exact ⟨rfl, rfl⟩))
    (fun os started H enc _ => lifted os started H enc)
theorem proved : Rows.ModelLimitsSaid := over
#print axioms proved
end Go.Proofs.YtdkcpcflfnakdaaGreat.modelLimits
namespace Go.Proofs.YtdkcpcflfnakdaaGreat
theorem modelLimits_holds : Rows.ModelLimitsSaid := modelLimits.proved
end Go.Proofs.YtdkcpcflfnakdaaGreat
