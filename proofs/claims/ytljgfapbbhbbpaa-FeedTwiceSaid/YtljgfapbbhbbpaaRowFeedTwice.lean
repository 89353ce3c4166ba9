/- The row of FeedTwice, out of its contract. Printed by row.py, a program of this session. -/
import Derived.Test.YtljgfapbbhbbpaaMe
import Derived.Test.YtljgfapbbhbbpaaRows
import Derived.Test.YtljgfapbbhbbpaaSymU
namespace Go.Proofs.Ytljgfapbbhbbpaa
open Go Go.Proofs.Ytljgfapbbhbbpaa.Sym
set_option maxRecDepth 100000
set_option linter.unusedSimpArgs false
set_option linter.unusedVariables false

/-! ### Masks -/
theorem bits_set : ∀ m < 256, ∀ w < 8, (∀ k < 8, hasB (setB (m : Nat) (w : Nat)) (k : Nat) = (hasB (m : Nat) (k : Nat) || decide (k = w))) ∧ (0 ≤ setB (m : Nat) (w : Nat) ∧ setB (m : Nat) (w : Nat) < 256) := by decide +kernel
theorem bits_clr : ∀ m < 256, ∀ w < 8, (∀ k < 8, hasB (clrB (m : Nat) (w : Nat)) (k : Nat) = (hasB (m : Nat) (k : Nat) && decide (k ≠ w))) ∧ (0 ≤ clrB (m : Nat) (w : Nat) ∧ clrB (m : Nat) (w : Nat) < 256) := by decide +kernel
theorem bits_zero : ∀ k < 8, hasB 0 (k : Nat) = false := by decide +kernel
abbrev Msk := List (ByteArray × Int)
def mskOk (m : Msk) : Prop := rises_su m ∧ ∀ p ∈ m, 0 ≤ p.2 ∧ p.2 < 256
theorem mask_ok {m : Msk} (h : mskOk m) (u : ByteArray) : 0 ≤ maskOf m u ∧ maskOf m u < 256 := by
  by_cases hk : u ∈ m.map Prod.fst
  · obtain ⟨⟨u', v⟩, hp, rfl⟩ := List.mem_map.1 hk
    rw [maskOf, get_mem ordS eqS_iff h.1 hp]
    exact h.2 _ hp
  · rw [maskOf, get_none ordS eqS_iff h.1 hk]
    exact ⟨Int.le_refl _, by decide⟩
theorem mask_mem {m : Msk} (h : mskOk m) {p : ByteArray × Int} (hp : p ∈ m) : maskOf m p.1 = p.2 := by
  rw [maskOf, get_mem ordS eqS_iff h.1 (k := p.1) (v := p.2) hp]
theorem mask_not {m : Msk} (h : mskOk m) {u : ByteArray} (hk : u ∉ m.map Prod.fst) : maskOf m u = 0 := by
  rw [maskOf, get_none ordS eqS_iff h.1 hk]
theorem msk_with {m : Msk} (h : mskOk m) (u : ByteArray) {v : Int} (hv : 0 ≤ v ∧ v < 256) : mskOk (withG ltS eqS m u v) := by
  refine ⟨with_rises ordS eqS_iff h.1 u v, fun p hp => ?_⟩
  rcases (mem_with ordS eqS_iff h.1).1 hp with rfl | ⟨hp, _⟩
  · exact hv
  · exact h.2 p hp
theorem msk_without {m : Msk} (h : mskOk m) (u : ByteArray) : mskOk (withoutG ltS eqS m u) := by
  refine ⟨without_rises ordS eqS_iff h.1 u, fun p hp => ?_⟩
  rw [without_eq ordS eqS_iff h.1] at hp
  exact h.2 p (List.mem_filter.1 hp).1
theorem mask_with {m : Msk} (h : mskOk m) (u : ByteArray) {v : Int} (hv : 0 ≤ v ∧ v < 256) (u' : ByteArray) : maskOf (withG ltS eqS m u v) u' = if u' = u then v else maskOf m u' := by
  have h' := msk_with h u hv
  by_cases e : u' = u
  · subst e
    rw [if_pos rfl]
    exact mask_mem (p := (u', v)) h' ((mem_with ordS eqS_iff h.1).2 (.inl rfl))
  · rw [if_neg e]
    by_cases hk : u' ∈ m.map Prod.fst
    · obtain ⟨p, hp, rfl⟩ := List.mem_map.1 hk
      rw [mask_mem h hp, mask_mem h' ((mem_with ordS eqS_iff h.1).2 (.inr ⟨hp, e⟩))]
    · rw [mask_not h hk, mask_not h']
      intro hc
      obtain ⟨p, hp, rfl⟩ := List.mem_map.1 hc
      rcases (mem_with ordS eqS_iff h.1).1 hp with rfl | ⟨hp, _⟩
      · exact e rfl
      · exact hk (List.mem_map.2 ⟨p, hp, rfl⟩)
theorem mask_without {m : Msk} (h : mskOk m) (u : ByteArray) (u' : ByteArray) : maskOf (withoutG ltS eqS m u) u' = if u' = u then 0 else maskOf m u' := by
  have h' := msk_without h u
  have he := without_eq ordS eqS_iff h.1 u
  by_cases e : u' = u
  · subst e
    rw [if_pos rfl, mask_not h']
    intro hc
    obtain ⟨p, hp, hpu⟩ := List.mem_map.1 hc
    rw [he] at hp
    have := (List.mem_filter.1 hp).2
    rw [hpu, (eqS_iff _ _).2 rfl] at this
    cases this
  · rw [if_neg e]
    by_cases hk : u' ∈ m.map Prod.fst
    · obtain ⟨p, hp, rfl⟩ := List.mem_map.1 hk
      rw [mask_mem h hp, mask_mem h']
      rw [he]
      refine List.mem_filter.2 ⟨hp, ?_⟩
      cases hc : eqS p.1 u with
      | false => rfl
      | true => exact absurd ((eqS_iff _ _).1 hc) e
    · rw [mask_not h hk, mask_not h']
      intro hc
      obtain ⟨p, hp, rfl⟩ := List.mem_map.1 hc
      rw [he] at hp
      exact hk (List.mem_map.2 ⟨p, (List.mem_filter.1 hp).1, rfl⟩)
theorem to_nat {v : Int} (h : 0 ≤ v ∧ v < 256) : ∃ n : Nat, n < 256 ∧ v = n := ⟨v.toNat, by omega, by omega⟩

theorem watch_ok {m : Msk} (h : mskOk m) (who : Int) (u : ByteArray) : mskOk (watchM m who u) := by
  unfold watchM
  split
  · rename_i hc
    obtain ⟨w, hw, rfl⟩ := cli_iff hc
    obtain ⟨n, hn, hm⟩ := to_nat (mask_ok h u)
    rw [hm]
    exact msk_with h u (bits_set n hn w hw).2
  · exact h
theorem watch_len (m : Msk) (who : Int) (u : ByteArray) : (watchM m who u).length ≤ m.length + 1 := by
  unfold watchM
  split
  · exact with_len _ _ _
  · omega
theorem unwatch_ok {m : Msk} (h : mskOk m) (who : Int) (u : ByteArray) : mskOk (unwatchM m who u) := by
  unfold unwatchM
  split
  · rename_i hc
    obtain ⟨w, hw, rfl⟩ := cli_iff hc
    obtain ⟨n, hn, hm⟩ := to_nat (mask_ok h u)
    split
    · exact h
    · split
      · exact msk_without h u
      · rw [hm]
        exact msk_with h u (bits_clr n hn w hw).2
  · exact h
theorem unwatch_len (m : Msk) (who : Int) (u : ByteArray) : (unwatchM m who u).length ≤ m.length + 1 := by
  unfold unwatchM
  split
  · split
    · omega
    · split
      · exact Nat.le_trans (without_len _ _) (Nat.le_succ _)
      · exact with_len _ _ _
  · omega
/-- Who watches, behind a Watch and an Unwatch. -/
theorem wat_watch {m : Msk} (h : mskOk m) (who : Int) (u : ByteArray) (who' : Int) (u' : ByteArray) : watF (watchM m who u) who' u' = (watF m who' u' || (cli who && (decide (who' = who) && decide (u' = u)))) := by
  unfold watF
  cases hc' : cli who' with
  | false =>
    simp only [Bool.false_and, Bool.false_or]
    cases hc : cli who with
    | false => simp
    | true =>
      have : who' ≠ who := by intro e; rw [e, hc] at hc'; cases hc'
      simp [this]
  | true =>
    simp only [Bool.true_and]
    cases hc : cli who with
    | false => rw [watchM, if_neg (by rw [hc]; decide)]; simp
    | true =>
      rw [watchM, if_pos hc]
      obtain ⟨w, hw, rfl⟩ := cli_iff hc
      obtain ⟨k, hk, rfl⟩ := cli_iff hc'
      obtain ⟨n, hn, hm⟩ := to_nat (mask_ok h u)
      obtain ⟨b1, b2⟩ := bits_set n hn w hw
      have e2 : decide ((k : Int) = (w : Int)) = decide (k = w) := by rw [Bool.eq_iff_iff]; simp; omega
      rw [hm, mask_with h u b2, Bool.true_and, e2]
      by_cases e : u' = u
      · subst e
        rw [if_pos rfl, b1 k hk, hm]; simp
      · rw [if_neg e]; simp [e]
theorem wat_unwatch {m : Msk} (h : mskOk m) (who : Int) (u : ByteArray) (who' : Int) (u' : ByteArray) : watF (unwatchM m who u) who' u' = (watF m who' u' && !(decide (who' = who) && decide (u' = u))) := by
  unfold watF
  cases hc' : cli who' with
  | false => simp
  | true =>
    simp only [Bool.true_and]
    cases hc : cli who with
    | false =>
      rw [unwatchM, if_neg (by rw [hc]; decide)]
      have : who' ≠ who := by intro e; rw [e, hc] at hc'; cases hc'
      simp [this]
    | true =>
      rw [unwatchM, if_pos hc]
      obtain ⟨w, hw, rfl⟩ := cli_iff hc
      obtain ⟨k, hk, rfl⟩ := cli_iff hc'
      obtain ⟨n, hn, hm⟩ := to_nat (mask_ok h u)
      obtain ⟨b1, b2⟩ := bits_clr n hn w hw
      have e2 : decide ((k : Int) = (w : Int)) = decide (k = w) := by rw [Bool.eq_iff_iff]; simp; omega
      rw [e2]
      split
      · rename_i hz
        have hz : maskOf m u = 0 := by simpa using hz
        by_cases e : u' = u
        · subst e
          rw [hz, bits_zero k hk]; simp
        · simp [e]
      · split
        · rename_i hz
          have hz : clrB (maskOf m u) w = 0 := by simpa using hz
          rw [mask_without h u]
          by_cases e : u' = u
          · subst e
            have h1 := b1 k hk
            rw [← hm, hz, bits_zero k hk] at h1
            rw [if_pos rfl, bits_zero k hk, h1]
            simp
          · rw [if_neg e]; simp [e]
        · rw [hm, mask_with h u b2]
          by_cases e : u' = u
          · subst e
            rw [if_pos rfl, b1 k hk, hm]; simp
          · rw [if_neg e]; simp [e]
theorem wat_nil (who : Int) (u : ByteArray) : watF [] who u = false := by
  unfold watF
  cases hc : cli who with
  | false => rfl
  | true =>
    obtain ⟨k, hk, rfl⟩ := cli_iff hc
    have : maskOf [] u = 0 := mask_not (m := []) ⟨List.Pairwise.nil, fun p hp => by cases hp⟩ (by simp)
    rw [this, bits_zero k hk]; rfl
theorem msk_nil : mskOk [] := ⟨List.Pairwise.nil, fun p hp => by cases hp⟩

/-! ### How many -/
theorem nodup_le {α : Type} [DecidableEq α] : ∀ {a b : List α}, a.Nodup → (∀ x ∈ a, x ∈ b) → a.length ≤ b.length
  | [], _, _, _ => Nat.zero_le _
  | x :: a, b, hnd, hs => by
    have hx := hs x List.mem_cons_self
    obtain ⟨h1, h2⟩ := List.nodup_cons.1 hnd
    have hle : a.length ≤ (b.erase x).length := nodup_le h2 fun y hy => (List.mem_erase_of_ne (by rintro rfl; exact h1 hy)).2 (hs y (List.mem_cons_of_mem _ hy))
    have hpos : 0 < b.length := List.length_pos_of_mem hx
    rw [List.length_erase_of_mem hx] at hle
    simp only [List.length_cons]
    omega
theorem nodup_len {α : Type} [DecidableEq α] {a b : List α} (ha : a.Nodup) (hb : b.Nodup) (h : ∀ x, x ∈ a ↔ x ∈ b) : a.length = b.length :=
  Nat.le_antisymm (nodup_le ha fun x hx => (h x).1 hx) (nodup_le hb fun x hx => (h x).2 hx)
theorem cnt_eq {m : Msk} (h : mskOk m) (who : Int) {L : List ByteArray} (hnd : L.Nodup) (hL : ∀ u, u ∈ L ↔ watF m who u = true) : cntM m who = L.length := by
  have hk : (m.map Prod.fst).Nodup := by
    refine List.Pairwise.imp ?_ h.1
    intro a b hab e
    subst e
    rw [ordS.irrefl] at hab
    cases hab
  have e1 : cntM m who = ((m.filter fun p => cli who && hasB p.2 who).map Prod.fst).length := by rw [List.length_map]; rfl
  rw [e1]
  refine nodup_len (List.Nodup.sublist (List.Sublist.map _ List.filter_sublist) hk) hnd fun u => ?_
  rw [hL u, List.mem_map]
  constructor
  · rintro ⟨p, hp, rfl⟩
    obtain ⟨h1, h2⟩ := List.mem_filter.1 hp
    rw [watF, mask_mem h h1]; exact h2
  · intro hw
    by_cases hm : u ∈ m.map Prod.fst
    · obtain ⟨p, hp, rfl⟩ := List.mem_map.1 hm
      rw [watF, mask_mem h hp] at hw
      exact ⟨p, List.mem_filter.2 ⟨hp, hw⟩, rfl⟩
    · exfalso
      rw [watF, mask_not h hm] at hw
      cases hc : cli who with
      | false => rw [hc] at hw; cases hw
      | true =>
        obtain ⟨k, hk, rfl⟩ := cli_iff hc
        rw [bits_zero k hk, Bool.and_false] at hw; cases hw

/-! ### Queues -/
theorem tell1_q (F : Fd) (c : Chg) (seq : Int) {k : Nat} (hk : k < 8) : (tell1 F c seq 8).q k = if watF F.m k c.u = true then putR F.room (F.q k) ⟨c.u, c.old, c.new, seq⟩ else F.q k := by
  unfold tell1
  simp [hk]
theorem tell1_qy {F : Fd} {c : Chg} {seq : Int} {k : Nat} (hk : k < 8) (h : watF F.m k c.u = true) : (tell1 F c seq 8).q k = putR F.room (F.q k) ⟨c.u, c.old, c.new, seq⟩ := by
  rw [tell1_q F c seq hk, if_pos h]
theorem tell1_qn {F : Fd} {c : Chg} {seq : Int} {k : Nat} (hk : k < 8) (h : watF F.m k c.u = false) : (tell1 F c seq 8).q k = F.q k := by
  rw [tell1_q F c seq hk, if_neg (by rw [h]; decide)]
theorem tell_one (F : Fd) (c : Chg) (seq : Int) : tellF F [c] seq = tell1 F c seq 8 := rfl
end Go.Proofs.Ytljgfapbbhbbpaa
namespace Go.Proofs.Ytljgfapbbhbbpaa
open Go Go.Proofs.Ytljgfapbbhbbpaa.Sym
set_option maxRecDepth 100000
set_option linter.unusedSimpArgs false
set_option linter.unusedVariables false

theorem feed_preX {g : FuncId} {args0 : List AV} {K0 K : AV → List AB → Prop} (F : Fd) (r : List AB) (h : ACallX P (fun b => decide (b < 9)) g (feedM F) args0 K0) (ha : args0 = renAll ids17 args0) (hb : (bksAll args0).all (fun b => decide (b < 17)) = true)
    (hr : outOk (kpOf (fun b => decide (b < 9)) ids17 0) ids17 17 r = true)
    (hK : ∀ x m', K0 x m' → ∃ F', m' = feedM F' ∧ K (ren ids17 x) (feedM F' ++ r)) : ACallX P kpF g (feedM F ++ r) args0 K := by
  refine ACallX.keeps (kp := kpOf (fun b => decide (b < 9)) ids17 0) ?_ ?_
  · refine h.frame ids17 (by decide) (by rw [fm_ren]; exact fm_at F r) ha hb (by rfl) ?_ (fun x m' hx => ?_)
    · have e : outOk (kpOf (fun b => decide (b < 9)) ids17 0) ids17 0 (feedM F ++ r) = outOk (kpOf (fun b => decide (b < 9)) ids17 0) ids17 17 r := rfl
      rw [e]; exact hr
    · obtain ⟨F', rfl, hv⟩ := hK x m' hx
      exact ⟨rfl, by rw [fm_ren, fm_put]; exact hv⟩
  · intro b _ hb
    have hb : b < 9 ∨ 17 ≤ b := by simpa [kpF] using hb
    rcases hb with hb | hb
    · have c : b = 0 ∨ b = 1 ∨ b = 2 ∨ b = 3 ∨ b = 4 ∨ b = 5 ∨ b = 6 ∨ b = 7 ∨ b = 8 := by omega
      rcases c with rfl | rfl | rfl | rfl | rfl | rfl | rfl | rfl | rfl <;> rfl
    · exact kpOf_out (by simp; omega)
theorem Watch_at (F : Fd) (r : List AB) (who : Int) (u : ByteArray) (hr : rises_su F.m) (hl : F.m.length ≤ 1000) : ACall P 17 (feedM F ++ r) [.ptr 0 0, i64 who, str u]
    (fun x m' => m' = feedM { F with m := watchM F.m who u } ++ r) := by
  refine feed_pre F r (feed_Watch F who u hr hl) rfl rfl ?_
  rintro x m' rfl
  exact ⟨_, rfl, rfl⟩
theorem Unwatch_at (F : Fd) (r : List AB) (who : Int) (u : ByteArray) (hr : rises_su F.m) (hl : F.m.length ≤ 1000) : ACall P 25 (feedM F ++ r) [.ptr 0 0, i64 who, str u]
    (fun x m' => m' = feedM { F with m := unwatchM F.m who u } ++ r) := by
  refine feed_pre F r (feed_Unwatch F who u hr hl) rfl rfl ?_
  rintro x m' rfl
  exact ⟨_, rfl, rfl⟩
theorem Count_at (F : Fd) (r : List AB) (who : Int) (hl : F.m.length ≤ 1000) : ACall P 31 (feedM F ++ r) [.ptr 0 0, i64 who]
    (fun x m' => x = i64 (cntM F.m who : Nat) ∧ m' = feedM F ++ r) := by
  refine feed_pre F r (feed_Count F who hl) rfl rfl ?_
  rintro x m' ⟨rfl, rfl⟩
  exact ⟨F, rfl, rfl, rfl⟩
theorem chgs_ren (bs : List Nat) (l : List Chg) : renAll bs (chgs l) = chgs l := by
  induction l with
  | nil => rfl
  | cons c l ih => rw [chgs, List.map_cons, renAll, ← chgs, ih]; rfl
theorem evts_ren (bs : List Nat) (l : List Ev) : renAll bs (evts l) = evts l := by
  induction l with
  | nil => rfl
  | cons c l ih => rw [evts, List.map_cons, renAll, ← evts, ih]; rfl
theorem Tell_at (F : Fd) (r : List AB) (l : List Chg) (seq : Int) (hr : rises_su F.m) (hl : F.m.length ≤ 1000) (hll : l.length ≤ 50000) (hq : ∀ k, (F.q k).1.length ≤ 50000)
    (ho : outOk (kpOf (fun b => decide (b < 9)) ids17 0) ids17 17 r = true) : ACallX P kpF 18 (feedM F ++ r) [.ptr 0 0, .sl 7 (chgs l), u64 seq]
    (fun x m' => m' = feedM (tellF F l seq) ++ r) := by
  refine feed_preX F r (feed_Tell F l seq hr hl hll hq).toX rfl rfl ho ?_
  rintro x m' rfl
  exact ⟨_, rfl, rfl⟩
theorem Drain_at (F : Fd) (r : List AB) (who : Int) (hq : ∀ k, (F.q k).1.length ≤ 100000)
    (ho : outOk (kpOf (fun b => decide (b < 9)) ids17 0) ids17 17 r = true) : ACallX P kpF 19 (feedM F ++ r) [.ptr 0 0, i64 who]
    (fun x m' => x = .tup [if cli who = true then .sl 8 (evts (drainL F who)) else .v (.slice none 0 0), bool (drainB F who)] ∧ m' = feedM (F.drain who) ++ r) := by
  refine feed_preX F r (feed_Drain F who hq) rfl rfl ho ?_
  rintro x m' ⟨rfl, rfl⟩
  refine ⟨_, rfl, ?_, rfl⟩
  split <;> rfl

/-! ### The document's example -/
abbrev annS : ByteArray := ⟨#[97, 110, 110]⟩
def annF : Fd := ⟨[], 1, fun _ => ([], false)⟩
def annW : Fd := { annF with m := watchM [] 2 annS }
def annL : List Chg := [⟨annS, ⟨0, 0, 0⟩, ⟨0, 0, 1⟩⟩, ⟨annS, ⟨0, 0, 1⟩, ⟨0, 0, 0⟩⟩]
theorem ann_ok : mskOk annW.m := watch_ok msk_nil 2 annS
theorem ann_len : annW.m.length ≤ 1 := watch_len [] 2 annS
theorem ann_wat : watF annW.m 2 annS = true := by
  show watF (watchM [] 2 annS) 2 annS = true
  rw [wat_watch msk_nil, wat_nil]; rfl
theorem ann_q : (tellF annW annL 7).q 2 = ([⟨annS, ⟨0, 0, 0⟩, ⟨0, 0, 1⟩, 7⟩], true) := by
  have h1 := tell1_qy (F := annW) (c := ⟨annS, ⟨0, 0, 0⟩, ⟨0, 0, 1⟩⟩) (seq := 7) (show 2 < 8 by decide) ann_wat
  have h2 := tell1_qy (F := tell1 annW ⟨annS, ⟨0, 0, 0⟩, ⟨0, 0, 1⟩⟩ 7 8) (c := ⟨annS, ⟨0, 0, 1⟩, ⟨0, 0, 0⟩⟩) (seq := 7) (show 2 < 8 by decide) ann_wat
  rw [h1] at h2
  exact h2
theorem ann_cnt : cntM annW.m 2 = 1 := by
  refine cnt_eq ann_ok 2 (L := [annS]) (by simp) fun u => ?_
  show _ ↔ watF (watchM [] 2 annS) 2 u = true
  rw [wat_watch msk_nil, wat_nil]
  have : cli 2 = true := rfl
  rw [this]
  simp
theorem law09_awake : PCall P 15 [] (fun x => x = bool true) := by
  refine pcall_go tyOk Try.func15 rfl rfl ?_
  intro K hK
  simp only [Try.ntmps15, List.length_nil, Nat.reduceSub, List.replicate, List.nil_append]
  have hnew : ACall P 16 [] [i64 1] (fun x m' => x = .ptr 0 0 ∧ m' = feedM annF ++ []) := feed_New 1
  try simp (maxSteps := 1000000) only [go_region, go_seq, go_ops_nil, go_op, opK_none, opK_some, contK_some, callOf, callK_eq, callJ_nil, callD_fn, fstep, fpre, fstep0, evs, St.ev, St.put, AV.owners, ownersAll, List.set, List.append_nil, true_and, Bool.true_and]
  refine callG_A (Sym.ACall.mono hnew ?_)
  rintro _ _ ⟨rfl, rfl⟩
  try simp (maxSteps := 1000000) only [go_skip, go_region, go_seq, go_cond, go_ops_nil, go_op, opK_none, opK_some, contK_some, condK_f, callOf, callK_eq, callJ_nil, callD_fn, fstep, fpre, fstep0, fbinA, gbin, gnil, isPtrTy, fbin, fbin0, evs, T, St.ev, St.put, AV.owners, ownersAll, List.getD_cons_zero, List.getD_cons_succ, List.set, List.append_nil, true_and, Bool.true_and]
  have hw : ACall P 17 (feedM annF) [.ptr 0 0, i64 2, str annS] (fun x m' => m' = feedM annW) := feed_Watch annF 2 annS msk_nil.1 (by decide)
  refine callG_A (Sym.ACall.mono hw ?_)
  rintro _ _ rfl
  try simp (maxSteps := 1000000) only [go_region, go_seq, go_ops_nil, go_op, opK_none, opK_some, contK_some, callOf, callK_eq, callJ_cons, fstep, fpre, fstep0, ffill, fieldPlaces, fieldsOk, fbuild, evParts, evOwners, fbuildSlice, evs, T, TI.isAgg, TI.zeroOk, TI.zav, setParts, partsOk, St.ev, St.put, St.shutAll, splice, AV.cells, AV.known, AV.flat, AV.pure, pureAll, AV.owners, ownersAll, Value.cells, Value.oneCell', List.getD_cons_zero, List.getD_cons_succ, List.set, List.map_cons, List.map_nil, List.length_cons, List.length_nil, List.all_cons, List.all_nil, List.drop_succ_cons, List.drop_zero, List.take_succ_cons, List.take_zero, List.cons_append, List.nil_append, List.append_nil, List.getElem?_cons_zero, List.getElem?_cons_succ, List.replicate, Option.isSome_some, List.getElem?_toArray, true_and, and_true, Bool.and_true, Bool.true_and, Bool.and_self, Bool.or_false, ↓reduceIte, decide_true, decide_false, Nat.reduceAdd, Nat.reduceMul, Nat.reduceLeDiff, Nat.reduceEqDiff, Nat.reduceLT, Nat.zero_le, Nat.le_refl, Nat.zero_add, fm_len]
  refine callO_shut ?_
  try simp (maxSteps := 1000000) only [callH_fn, evs, St.ev, St.shutAll, St.shut, shutV, shutVs, AB.shut, List.getD_cons_zero, List.getD_cons_succ, List.set, List.map_cons, List.map_nil, List.length_cons, List.length_nil, List.all_cons, List.all_nil, List.drop_zero, List.take_succ_cons, List.take_zero, List.append_nil, List.getElem?_cons_zero, true_and, and_true, Bool.and_true, Bool.true_and, Bool.and_self, ↓reduceIte, decide_true, reduceCtorEq, Nat.reduceAdd, Nat.zero_le, Nat.le_refl, Nat.zero_add, fm_17, fm_s17, fm_shut]
  have ht := Tell_at annW [.gone] annL 7 ann_ok.1 (by have := ann_len; omega) (by decide) (fun k => Nat.zero_le _) (by rfl)
  refine callG_X (kp := kpF) (fun b hb => absurd hb (Nat.not_lt_zero b)) (Sym.ACallX.mono ht ?_)
  rintro _ _ rfl
  try simp (maxSteps := 1000000) only [go_region, go_seq, go_ops_nil, go_op, opK_none, opK_some, contK_some, callOf, callK_eq, callJ_nil, callD_fn, fstep, fpre, fstep0, evs, St.ev, St.put, AV.owners, ownersAll, cutVs, cutV, bks, bksAll, List.getD_cons_zero, List.getD_cons_succ, List.set, List.all_cons, List.all_nil, List.append_nil, true_and, Bool.true_and, Bool.and_self, Bool.or_false, ↓reduceIte, decide_true, decide_false, Nat.reduceLeDiff, Nat.reduceLT, kpF]
  have hq : ∀ k, ((tellF annW annL 7).q k).1.length ≤ 100000 := fun k => by
    have h := (tellF_ok annW annL 7).2.2 k
    exact Nat.le_trans h (show 0 + 2 ≤ 100000 by decide)
  refine callG_X (kp := kpF) (fun b hb => absurd hb (Nat.not_lt_zero b)) (Sym.ACallX.mono (Drain_at (tellF annW annL 7) [.gone] 2 hq rfl) ?_)
  rintro _ _ ⟨rfl, rfl⟩
  rw [show (if cli 2 = true then AV.sl 8 (evts (drainL (tellF annW annL 7) 2)) else .v (.slice none 0 0)) = .sl 8 [.agg [str annS, i64 0, i64 0, i64 0, i64 0, i64 0, i64 1, u64 7]] by
    rw [if_pos (show cli 2 = true from rfl), drainL, if_pos (show cli 2 = true from rfl)]
    show AV.sl 8 (evts ((tellF annW annL 7).q 2).1) = _
    rw [ann_q]; rfl, show drainB (tellF annW annL 7) 2 = true by
    rw [drainB, if_pos (show cli 2 = true from rfl)]
    show ((tellF annW annL 7).q 2).2 = true
    rw [ann_q]]
  have c0 : (((0 : Nat) : Int) == 0) = true := by decide
  have c1 : (((1 : Nat) : Int) == 1) = true := by decide
  have c2 : ((1 : Int) == 1) = true := by decide
  have c7 : ((7 : Int) == 7) = true := by decide
  have g0 : ∀ x : AV, [x].getD (Int.toNat 0) .any = x := fun x => rfl
  have l0 : Int.toNat 0 < 1 := by decide
  have hc : ACall P 31 (feedM ((tellF annW annL 7).drain 2) ++ [.gone]) [.ptr 0 0, i64 2] (fun x m' => x = i64 ((1 : Nat) : Int) ∧ m' = feedM ((tellF annW annL 7).drain 2) ++ [.gone]) := by
    have h := Count_at ((tellF annW annL 7).drain 2) [.gone] 2 (show annW.m.length ≤ 1000 by have := ann_len; omega)
    rw [show cntM ((tellF annW annL 7).drain 2).m 2 = 1 from ann_cnt] at h
    exact h
  try simp (maxSteps := 1000000) only [go_region, go_seq, go_ops_nil, go_op, go_guard, opK_none, opK_some, contK_some, guardK_eq, guardV_tt, callOf, callK_eq, callJ_nil, callD_fn, fstep, fpre, fstep0, fbinA, fbin, fbin0, fload, fcell, ffieldAddr, findexAddr, flen, evs, fpick, T, TI.isAgg, St.ev, St.put, AV.cells, AV.known, AV.owners, ownersAll, cutVs, cutV, bks, bksAll, List.getD_cons_zero, List.getD_cons_succ, List.set, List.length_cons, List.length_nil, List.all_cons, List.all_nil, List.drop_succ_cons, List.drop_zero, List.headD_cons, List.append_nil, List.getElem?_cons_zero, List.getElem?_cons_succ, Option.bind_some, List.getElem?_toArray, true_and, and_true, Bool.and_true, Bool.true_and, Bool.and_self, Bool.or_false, Bool.false_eq_true, ↓reduceIte, decide_true, decide_false, reduceCtorEq, ne_eq, not_false_eq_true, Nat.reduceAdd, Nat.reduceLeDiff, Nat.reduceLT, Nat.zero_add, cond_true, Int.reduceLE, beq_self_eq_true, kpF, c1, g0, l0]
  refine callG_A (Sym.ACall.mono hc ?_)
  rintro _ _ ⟨rfl, rfl⟩
  try simp (maxSteps := 1000000) only [go_ret, go_ops_nil, go_op, go_guard, opK_none, contK_some, guardK_eq, guardV_tt, callOf, fstep, fpre, fstep0, fbinA, fbin, fbin0, fpick, St.ev, St.put, List.getD_cons_zero, List.getD_cons_succ, List.set, List.getElem?_cons_zero, List.getElem?_cons_succ, Option.bind_some, List.getElem?_toArray, true_and, Bool.true_and, cond_true, c1]
  apply hK
  simp only [Try.results15, retK, ares, Bool.and_true, Bool.true_and, AV.ofResults, St.trunc, truncVs, truncV, List.getD_cons_zero, List.take_zero, List.map_nil, true_and, and_true, List.cons.injEq, exists_eq_left']
end Go.Proofs.Ytljgfapbbhbbpaa
namespace Go.Proofs.Ytljgfapbbhbbpaa
open Go Go.Proofs.Ytljgfapbbhbbpaa.Sym
set_option maxRecDepth 100000
set_option linter.unusedSimpArgs false
set_option linter.unusedVariables false

theorem tmod_u8 {w : Int} (n : Nat) (h : 0 ≤ w ∧ w ≤ 255) (hn : 0 < n) : w.tmod (n : Int) = ((w.toNat % n : Nat) : Int) := by
  obtain ⟨k, rfl⟩ := Int.eq_ofNat_of_zero_le h.1
  rw [Int.toNat_natCast, ← Int.ofNat_tmod]
/-- Watched so many times. -/
def wm (k : Int) (u : ByteArray) : Nat → Msk
  | 0 => []
  | i + 1 => watchM (wm k u i) k u
theorem wm_ok (k : Int) (u : ByteArray) : ∀ i, mskOk (wm k u i) ∧ (wm k u i).length ≤ i
  | 0 => ⟨msk_nil, Nat.le_refl _⟩
  | i + 1 => ⟨watch_ok (wm_ok k u i).1 k u, Nat.le_trans (watch_len _ _ _) (Nat.succ_le_succ (wm_ok k u i).2)⟩
theorem wm_wat (k : Int) (u : ByteArray) (hc : cli k = true) (k' : Int) (u' : ByteArray) : ∀ i, watF (wm k u (i + 1)) k' u' = (decide (k' = k) && decide (u' = u))
  | 0 => by rw [wm, wat_watch (wm_ok k u 0).1, hc, Bool.true_and]; show (watF [] k' u' || _) = _; rw [wat_nil, Bool.false_or]
  | i + 1 => by rw [wm, wat_watch (wm_ok k u (i + 1)).1, hc, wm_wat k u hc k' u' i, Bool.true_and, Bool.or_self]
set_option maxHeartbeats 2000000 in
theorem law_twice (who : Int) (user : ByteArray) (n : Int) (hw : 0 ≤ who ∧ who ≤ 255) (hn : 0 ≤ n ∧ n ≤ 255) :
    PCall P 8 [.v (.int .u8 who), str user, .v (.int .u8 n)] (fun x => x = .v (.bool true)) := by
  refine pcall_go tyOk Try.func8 rfl rfl ?_
  intro K hK
  simp only [Try.ntmps8, List.length_cons, List.length_nil, Nat.reduceAdd, Nat.reduceSub, List.replicate, List.cons_append, List.nil_append]
  try simp (maxSteps := 1000000) only [go_region, go_seq, go_ops_nil, go_op, opK_none, opK_some, contK_some, callOf, callK_eq, callJ_nil, callD_fn, fstep, fpre, fstep0, evs, St.ev, St.put, ownersAll, List.set, List.append_nil, true_and, Bool.true_and]
  (refine callG_use law09_awake rfl ?_; rintro _ rfl)
  try simp (maxSteps := 1000000) only [go_cond, go_ops_nil, go_op, go_guard, opK_none, contK_some, guardK_eq, guardV_ff, callOf, fstep, fpre, fstep0, fbinA, fbin, fbin0, funary, flen, fpick, T, St.ev, St.put, List.getD_cons_zero, List.getD_cons_succ, List.set, List.getElem?_cons_zero, List.getElem?_cons_succ, Option.bind_some, List.getElem?_toArray, true_and, Bool.true_and, Bool.not_true, cond_false]
  (first | refine guardV_split ?_ ?_ | refine condK_split ?_ ?_ | refine drawV_split ?_ ?_ | refine condY_split ?_ ?_ | refine guardY_split ?_ ?_) <;> intro h0
  · try simp (maxSteps := 1000000) only [go_region, go_seq, go_op, opK_some, condK_t, callOf, callK_eq, callJ_nil, callD_fn, evs, St.ev, ownersAll, List.append_nil]
    (refine callG_use law09_awake rfl ?_; rintro _ rfl)
    try simp (maxSteps := 1000000) only [go_ret, go_ops_nil, go_op, opK_none, contK_some, callOf, fstep, fpre, fstep0, St.ev, St.put, List.getD_cons_zero, List.getD_cons_succ, List.set, true_and, Bool.true_and]
    apply hK
    simp only [Try.results8, retK, ares, List.take_nil, Bool.and_true, Bool.true_and, AV.ofResults, St.trunc, truncVs, truncV, List.getD_cons_zero, List.getD_cons_succ, List.map_nil, true_and, and_true, List.cons.injEq, exists_eq_left']
  have ew : IntKind.i64.wrap who = who := wrap_i64 (by omega) (by omega)
  have ek : who.tmod 8 = ((who.toNat % 8 : Nat) : Int) := tmod_u8 8 hw (by decide)
  have ewn : IntKind.i64.wrap n = n := wrap_i64 (by omega) (by omega)
  have en : n.tmod 5 = ((n.toNat % 5 : Nat) : Int) := tmod_u8 5 hn (by decide)
  have hk8 : who.toNat % 8 < 8 := Nat.mod_lt _ (by decide)
  have hn5 : n.toNat % 5 < 5 := Nat.mod_lt _ (by decide)
  have hcl : cli ((who.toNat % 8 : Nat) : Int) = true := by simp [cli]; omega
  try simp (maxSteps := 1000000) only [go_skip, go_region, go_seq, go_ops_nil, go_op, opK_none, opK_some, contK_some, condK_f, callOf, callK_eq, callJ_nil, callD_fn, fstep, fpre, fstep0, fbinA, fbin, fbin0, fconvA, fconvert, evs, T, St.ev, St.put, AV.owners, ownersAll, List.getD_cons_zero, List.getD_cons_succ, List.set, List.append_nil, true_and, and_true, Bool.and_true, Bool.true_and, ne_eq, not_false_eq_true, Int.reduceEq, ew, ek]
  generalize hkk : who.toNat % 8 = k at *
  generalize hnn : n.toNat % 5 = n5 at *
  refine callG_A (Sym.ACall.mono (feed_New 300) ?_)
  rintro _ _ ⟨rfl, rfl⟩
  try simp (maxSteps := 1000000) only [go_region, go_seq, go_block, go_loop, go_ops_nil, go_op, opK_none, contK_some, callOf, fstep, fpre, fstep0, St.ev, St.put, List.getD_cons_zero, List.getD_cons_succ, List.set, true_and, Bool.true_and]
  refine loopK_rule tyOk (α := Nat) 17 [1, 2, 7, 8, 9] (fun i => i ≤ n5 + 1)
    (fun i => ⟨[.any, str user, .v (.int .u8 n), .any, .any, .any, .any, i64 k, .ptr 0 0, i64 i, .any, .any, .any, .any, .any, .any, .any, .any, .any, .any, .any, .any, .any, .any, .any, .any, .any, .any, .any, .any, .any, .any, .any, .any, .any, .any, .any, .any, .any, .any, .any, .any, .any, .any, .any, .any, .any, .any, .any, .any, .any, .any, .any, .any, .any, .any, .any, .any, .any, .any, .any, .any, .any, .any, .any, .any, .any, .any, .any, .any, .any, .any, .any, .any, .any, .any, .any, .any, .any, .any, .any, .any, .any, .any, .any, .any, .any, .any, .any, .any, .any, .any], feedM ⟨wm k user i, max 300 0, fun _ => ([], false)⟩⟩)
    (fun i => n5 + 1 - i) 0 (by decide) (Nat.zero_le _) rfl ?_
  intro i hi
  try simp (maxSteps := 1000000) only [go_region, go_seq, go_cond, go_ops_nil, go_op, opK_none, contK_some, callOf, fstep, fpre, fstep0, fbinA, fbin, fbin0, fconvA, fconvert, T, St.ev, St.put, List.getD_cons_zero, List.getD_cons_succ, List.set, true_and, and_true, Bool.and_true, Bool.true_and, ne_eq, not_false_eq_true, Int.reduceEq, ewn, en]
  (first | refine guardV_split ?_ ?_ | refine condK_split ?_ ?_ | refine drawV_split ?_ ?_ | refine condY_split ?_ ?_ | refine guardY_split ?_ ?_) <;> intro h
  · have hlt : i < n5 + 1 := by have := of_decide_eq_true h; omega
    have ewi : IntKind.i64.wrap ((i : Int) + 1) = ((i + 1 : Nat) : Int) := by rw [wrap_i64 (by omega) (by omega)]; rfl
    have hwm := wm_ok k user i
    try simp (maxSteps := 1000000) only [go_skip, go_region, go_seq, go_block, go_op, opK_none, opK_some, contK_some, condK_t, callOf, callK_eq, callJ_nil, callD_fn, fstep, fpre, fstep0, evs, St.ev, St.put, AV.owners, ownersAll, List.getD_cons_zero, List.getD_cons_succ, List.set, List.append_nil, true_and, Bool.true_and]
    refine callG_A (Sym.ACall.mono (feed_Watch ⟨wm k user i, max 300 0, fun _ => ([], false)⟩ k user hwm.1.1 (by have := hwm.2; show (wm k user i).length ≤ 1000; omega)) ?_)
    rintro _ _ rfl
    try simp (maxSteps := 1000000) only [go_nil, go_region, go_blk, go_ops_nil, go_op, opK_none, contK_some, callOf, fstep, fpre, fstep0, fbinA, fbin, fbin0, St.ev, St.put, List.getD_cons_zero, List.getD_cons_succ, List.set, true_and, Bool.true_and, ewi]
    simp only [loopX_normal, St.trunc, St.keep, truncVs, truncV, keepV, List.elem_cons, List.elem_nil, Nat.reduceAdd, Nat.reduceBEq, Nat.reduceLeDiff, Nat.zero_add, Bool.false_eq_true, ↓reduceIte]
    exact ⟨i + 1, hlt, by omega, rfl⟩
  · obtain rfl : i = n5 + 1 := by have := of_decide_eq_false h; omega
    have hwm := wm_ok k user (n5 + 1)
    have hwat := fun k' u' => wm_wat k user hcl k' u' n5
    generalize wm k user (n5 + 1) = m at *
    have hwm0 : m.length ≤ 6 := by have := hwm.2; omega
    have hml : m.length ≤ 1000 := by omega
    have hwm := hwm.1
    try simp (maxSteps := 1000000) only [go_region, go_seq, go_exit, exitK_code, exitK_blk, exitK_nil, go_op, opK_none, opK_some, contK_some, condK_f, callOf, callK_eq, callJ_cons, fstep, fpre, fstep0, ffill, fieldPlaces, fieldsOk, fbuild, evParts, evOwners, fbuildSlice, evs, T, TI.isAgg, TI.zeroOk, TI.zav, setParts, partsOk, St.ev, St.put, St.shutAll, splice, AV.cells, AV.known, AV.flat, AV.pure, pureAll, AV.owners, ownersAll, Value.cells, Value.oneCell', List.getD_cons_zero, List.getD_cons_succ, List.set, List.map_cons, List.map_nil, List.length_cons, List.length_nil, List.all_cons, List.all_nil, List.drop_succ_cons, List.drop_zero, List.take_succ_cons, List.take_zero, List.cons_append, List.nil_append, List.append_nil, List.getElem?_cons_zero, List.getElem?_cons_succ, List.replicate, Option.isSome_some, List.getElem?_toArray, true_and, and_true, Bool.and_true, Bool.true_and, Bool.and_self, Bool.or_false, ↓reduceIte, decide_true, decide_false, Nat.reduceAdd, Nat.reduceMul, Nat.reduceLeDiff, Nat.reduceEqDiff, Nat.reduceLT, Nat.zero_le, Nat.le_refl, Nat.zero_add, loopX_exit, fm_len]
    refine callO_shut ?_
    try simp (maxSteps := 1000000) only [callH_fn, evs, St.ev, St.shutAll, St.shut, shutV, shutVs, AB.shut, List.getD_cons_zero, List.getD_cons_succ, List.set, List.map_cons, List.map_nil, List.length_cons, List.length_nil, List.all_cons, List.all_nil, List.drop_zero, List.take_succ_cons, List.take_zero, List.append_nil, List.getElem?_cons_zero, true_and, and_true, Bool.and_true, Bool.true_and, Bool.and_self, ↓reduceIte, decide_true, reduceCtorEq, Nat.zero_le, Nat.le_refl, Nat.zero_add, fm_17, fm_s17, fm_shut]
    have hkc : cli (k : Int) = true := hcl
    obtain ⟨F0, hF0, hm0, hr0, hq0⟩ : ∃ F : Fd, (⟨m, max 300 0, fun _ => ([], false)⟩ : Fd) = F ∧ F.m = m ∧ F.room = 300 ∧ (∀ j, F.q j = ([], false)) := ⟨_, rfl, rfl, (by decide : max (300 : Int) 0 = 300), fun _ => rfl⟩
    rw [hF0]
    clear hF0
    have hT1 := Tell_at F0 [.gone] [⟨user, ⟨0, 0, 0⟩, ⟨0, 0, 1⟩⟩] 5 (by rw [hm0]; exact hwm.1) (by rw [hm0]; exact hml) (by simp) (fun k => by rw [hq0]; exact Nat.zero_le _) rfl
    have q1 : (tellF F0 [⟨user, ⟨0, 0, 0⟩, ⟨0, 0, 1⟩⟩] 5).q k = ([⟨user, ⟨0, 0, 0⟩, ⟨0, 0, 1⟩, 5⟩], false) := by
      rw [tell_one, tell1_qy (F := F0) (c := ⟨user, ⟨0, 0, 0⟩, ⟨0, 0, 1⟩⟩) (seq := 5) hk8 (by rw [hm0, hwat]; simp), hq0, hr0]
      rfl
    have l1 := (tellF_ok F0 [⟨user, ⟨0, 0, 0⟩, ⟨0, 0, 1⟩⟩] 5).2.2
    have m1 : (tellF F0 [⟨user, ⟨0, 0, 0⟩, ⟨0, 0, 1⟩⟩] 5).m = m := (tellF_ok F0 [⟨user, ⟨0, 0, 0⟩, ⟨0, 0, 1⟩⟩] 5).1.trans hm0
    generalize tellF F0 [⟨user, ⟨0, 0, 0⟩, ⟨0, 0, 1⟩⟩] 5 = G1 at *
    have l1 : ∀ j, (G1.q j).1.length ≤ 1 := fun j => by have := l1 j; rw [hq0] at this; exact this
    refine callG_X (kp := kpF) (fun b hb => absurd hb (Nat.not_lt_zero b)) (Sym.ACallX.mono hT1 ?_)
    rintro _ _ rfl
    try simp (maxSteps := 1000000) only [go_region, go_seq, go_ops_nil, go_op, opK_none, opK_some, contK_some, callOf, callK_eq, callJ_nil, callD_fn, fstep, fpre, fstep0, evs, St.ev, St.put, AV.owners, ownersAll, cutVs, cutV, bks, bksAll, List.getD_cons_zero, List.getD_cons_succ, List.set, List.all_cons, List.all_nil, List.append_nil, true_and, Bool.true_and, Bool.and_self, Bool.or_false, ↓reduceIte, decide_true, decide_false, Nat.reduceLeDiff, Nat.reduceLT, kpF]
    have hC1 := Count_at G1 [.gone] k (by rw [m1]; exact hml)
    rw [show cntM G1.m k = 1 by
      rw [m1]
      exact cnt_eq hwm k (L := [user]) (by simp) (fun u => by rw [hwat]; simp)] at hC1
    refine callG_A (Sym.ACall.mono hC1 ?_)
    rintro _ _ ⟨rfl, rfl⟩
    try simp (maxSteps := 1000000) only [go_region, go_seq, go_ops_nil, go_op, opK_none, opK_some, contK_some, callOf, callK_eq, callJ_nil, callD_fn, fstep, fpre, fstep0, evs, St.ev, St.put, AV.owners, ownersAll, List.getD_cons_zero, List.getD_cons_succ, List.set, List.append_nil, true_and, Bool.true_and]
    refine callG_A (Sym.ACall.mono (Unwatch_at G1 [.gone] k user (by rw [m1]; exact hwm.1) (by rw [m1]; exact hml)) ?_)
    rintro _ _ rfl
    try simp (maxSteps := 1000000) only [go_region, go_seq, go_ops_nil, go_op, opK_none, opK_some, contK_some, callOf, callK_eq, callJ_cons, fstep, fpre, fstep0, ffill, fieldPlaces, fieldsOk, fbuild, evParts, evOwners, fbuildSlice, evs, T, TI.isAgg, TI.zeroOk, TI.zav, setParts, partsOk, St.ev, St.put, St.shutAll, splice, AV.cells, AV.known, AV.flat, AV.pure, pureAll, AV.owners, ownersAll, Value.cells, Value.oneCell', List.getD_cons_zero, List.getD_cons_succ, List.set, List.map_cons, List.map_nil, List.length_cons, List.length_nil, List.all_cons, List.all_nil, List.drop_succ_cons, List.drop_zero, List.take_succ_cons, List.take_zero, List.cons_append, List.nil_append, List.append_nil, List.getElem?_cons_zero, List.getElem?_cons_succ, List.replicate, Option.isSome_some, List.getElem?_toArray, true_and, and_true, Bool.and_true, Bool.true_and, Bool.and_self, Bool.or_false, ↓reduceIte, decide_true, decide_false, Nat.reduceAdd, Nat.reduceMul, Nat.reduceLeDiff, Nat.reduceEqDiff, Nat.reduceLT, Nat.zero_le, Nat.le_refl, Nat.zero_add, List.length_append, fm_len, fm_add]
    refine callO_shut ?_
    try simp (maxSteps := 1000000) only [callH_fn, evs, St.ev, St.shutAll, St.shut, shutV, shutVs, AB.shut, List.getD_cons_zero, List.getD_cons_succ, List.set, List.map_cons, List.map_nil, List.length_cons, List.length_nil, List.all_cons, List.all_nil, List.drop_zero, List.take_succ_cons, List.take_zero, List.append_nil, List.getElem?_cons_zero, List.getElem?_cons_succ, true_and, and_true, Bool.and_true, Bool.true_and, Bool.and_self, ↓reduceIte, decide_true, reduceCtorEq, Nat.reduceLeDiff, Nat.zero_le, Nat.le_refl, Nat.zero_add, fm_18, fm_s18, fm_shut]
    obtain ⟨F2, hF2, hm2, hq2⟩ : ∃ F : Fd, ({ G1 with m := unwatchM G1.m k user } : Fd) = F ∧ F.m = unwatchM m k user ∧ F.q = G1.q := ⟨_, rfl, (by rw [m1] : unwatchM G1.m k user = unwatchM m k user), rfl⟩
    rw [hF2]
    clear hF2
    have hok2 : mskOk F2.m := by rw [hm2]; exact unwatch_ok hwm k user
    have hl2 : F2.m.length ≤ 1000 := by rw [hm2]; have := unwatch_len m k user; omega
    have hwat2 : ∀ u, watF F2.m k u = false := fun u => by rw [hm2, wat_unwatch hwm, hwat]; simp
    have hT2 := Tell_at F2 [.gone, .gone] [⟨user, ⟨0, 0, 1⟩, ⟨0, 0, 0⟩⟩] 6 hok2.1 hl2 (by simp) (fun j => by rw [hq2]; have := l1 j; omega) rfl
    have q2 : (tellF F2 [⟨user, ⟨0, 0, 1⟩, ⟨0, 0, 0⟩⟩] 6).q k = ([⟨user, ⟨0, 0, 0⟩, ⟨0, 0, 1⟩, 5⟩], false) := by
      rw [tell_one, tell1_qn (F := F2) (c := ⟨user, ⟨0, 0, 1⟩, ⟨0, 0, 0⟩⟩) (seq := 6) hk8 (hwat2 user), hq2]
      exact q1
    have l2 := (tellF_ok F2 [⟨user, ⟨0, 0, 1⟩, ⟨0, 0, 0⟩⟩] 6).2.2
    have m2 : (tellF F2 [⟨user, ⟨0, 0, 1⟩, ⟨0, 0, 0⟩⟩] 6).m = F2.m := (tellF_ok F2 [⟨user, ⟨0, 0, 1⟩, ⟨0, 0, 0⟩⟩] 6).1
    refine callG_X (kp := kpF) (fun b hb => absurd hb (Nat.not_lt_zero b)) (Sym.ACallX.mono hT2 ?_)
    rintro _ _ rfl
    generalize tellF F2 [⟨user, ⟨0, 0, 1⟩, ⟨0, 0, 0⟩⟩] 6 = G2 at *
    have l2 : ∀ j, (G2.q j).1.length ≤ 100000 := fun j => by
      have h1 := l2 j
      have h2 : (F2.q j).1.length ≤ 1 := by rw [hq2]; exact l1 j
      simp only [List.length_singleton] at h1
      omega
    try simp (maxSteps := 1000000) only [go_region, go_seq, go_ops_nil, go_op, opK_none, opK_some, contK_some, callOf, callK_eq, callJ_nil, callD_fn, fstep, fpre, fstep0, evs, St.ev, St.put, AV.owners, ownersAll, cutVs, cutV, bks, bksAll, List.getD_cons_zero, List.getD_cons_succ, List.set, List.all_cons, List.all_nil, List.append_nil, true_and, Bool.true_and, Bool.and_self, Bool.or_false, ↓reduceIte, decide_true, decide_false, Nat.reduceLeDiff, Nat.reduceLT, kpF]
    have hD := Drain_at G2 [.gone, .gone] k l2 rfl
    have d1 : drainL G2 k = [⟨user, ⟨0, 0, 0⟩, ⟨0, 0, 1⟩, 5⟩] := by rw [drainL, if_pos hkc, Int.toNat_natCast, q2]
    have d2 : drainB G2 k = false := by rw [drainB, if_pos hkc, Int.toNat_natCast, q2]
    have d3 : (G2.drain k).m = F2.m := by rw [Fd.drain, if_pos hkc]; exact m2
    rw [if_pos hkc, d1, d2] at hD
    refine callG_X (kp := kpF) (fun b hb => absurd hb (Nat.not_lt_zero b)) (Sym.ACallX.mono hD ?_)
    rintro _ _ ⟨rfl, rfl⟩
    generalize G2.drain k = G3 at *
    have hC3 := Count_at G3 [.gone, .gone] k (by rw [d3]; exact hl2)
    rw [show cntM G3.m k = 0 by
      rw [d3]
      exact cnt_eq hok2 k (L := []) (by simp) (fun u => by rw [hwat2]; simp)] at hC3
    have hW3 := Watching_at G3 [.gone, .gone] k user (by rw [d3]; exact hok2.1) (by rw [d3]; exact hl2)
    rw [show watF G3.m k user = false by rw [d3]; exact hwat2 user] at hW3
    have c0 : (((0 : Nat) : Int) == 0) = true := by decide
    have c1 : (((1 : Nat) : Int) == 1) = true := by decide
    have c5 : ((5 : Int) == 5) = true := by decide
    have g0 : ∀ x : AV, [x].getD (Int.toNat 0) .any = x := fun x => rfl
    have l0 : Int.toNat 0 < 1 := by decide
    try simp (maxSteps := 1000000) only [go_region, go_seq, go_ops_nil, go_op, go_guard, opK_none, opK_some, contK_some, guardK_eq, guardV_tt, callOf, callK_eq, callJ_nil, callD_fn, fstep, fpre, fstep0, fbinA, fbin, fbin0, evs, St.ev, St.put, AV.owners, ownersAll, cutVs, cutV, bks, bksAll, List.getD_cons_zero, List.getD_cons_succ, List.set, List.map_cons, List.map_nil, List.length_cons, List.length_nil, List.all_cons, List.all_nil, List.append_nil, List.getElem?_cons_zero, List.getElem?_cons_succ, Option.bind_some, List.getElem?_toArray, true_and, Bool.true_and, Bool.and_self, Bool.or_false, ↓reduceIte, decide_true, decide_false, Nat.reduceAdd, Nat.reduceLeDiff, Nat.reduceLT, Nat.zero_add, kpF, evts, Ev.av, c1]
    refine callG_A (Sym.ACall.mono hC3 ?_)
    rintro _ _ ⟨rfl, rfl⟩
    try simp (maxSteps := 1000000) only [go_op, go_guard, opK_none, opK_some, contK_some, guardK_eq, guardV_tt, callOf, callK_eq, callJ_nil, callD_fn, fstep, fpre, fstep0, fbinA, fbin, fbin0, evs, fpick, St.ev, St.put, AV.owners, ownersAll, List.getD_cons_zero, List.getD_cons_succ, List.set, List.append_nil, List.getElem?_cons_zero, List.getElem?_cons_succ, Option.bind_some, List.getElem?_toArray, true_and, Bool.true_and, cond_true, c0]
    refine callG_A (Sym.ACall.mono hW3 ?_)
    rintro _ _ ⟨rfl, rfl⟩
    try simp (maxSteps := 1000000) only [go_ret, go_ops_nil, go_op, go_guard, opK_none, contK_some, guardK_eq, guardV_tt, callOf, fstep, fpre, fstep0, fbinA, fbin, fbin0, fload, fcell, ffieldAddr, findexAddr, funary, flen, fpick, T, TI.isAgg, St.ev, St.put, AV.cells, AV.known, List.getD_cons_zero, List.getD_cons_succ, List.set, List.length_cons, List.length_nil, List.drop_succ_cons, List.drop_zero, List.headD_cons, List.getElem?_cons_zero, List.getElem?_cons_succ, Option.bind_some, List.getElem?_toArray, true_and, and_true, Bool.and_true, Bool.true_and, Bool.not_false, Bool.false_eq_true, ↓reduceIte, reduceCtorEq, ne_eq, not_false_eq_true, Nat.reduceLT, Nat.zero_add, cond_true, Int.reduceLE, beq_self_eq_true, c1, g0, l0]
    apply hK
    simp only [Try.results8, retK, ares, Bool.and_true, Bool.true_and, AV.ofResults, St.trunc, truncVs, truncV, List.getD_cons_zero, List.getD_cons_succ, List.take_zero, List.map_nil, true_and, and_true, List.cons.injEq, exists_eq_left']
def shapesFeedTwice : List (Bool × List Lf) := [(false, [.int .u8]), (false, [.str]), (false, [.int .u8])]
theorem shapesFeedTwice_ok : argShapes T 6 [5, 9, 5] = some shapesFeedTwice := by kernel_rfl
theorem lit_u8' {n : Int} (h : (Lit.int .u8 n).wf = true) : 0 ≤ n ∧ n ≤ 255 := by
  simpa [Lit.wf, IntKind.min, IntKind.max, IntKind.signed, IntKind.bits] using h
theorem law_FeedTwice (xs : List AV) (h : argsFit shapesFeedTwice xs) : PCall P 8 xs (fun x => x = .v (.bool true)) := by
  obtain ⟨_, _, rfl, ⟨_, _, rfl, ⟨w, rfl, hw⟩, rfl⟩, _, _, rfl, ⟨_, _, rfl, ⟨u, rfl, _⟩, rfl⟩, _, _, rfl, ⟨_, _, rfl, ⟨n, rfl, hn⟩, rfl⟩, rfl⟩ := h
  exact law_twice w u n (lit_u8' hw) (lit_u8' hn)
end Go.Proofs.Ytljgfapbbhbbpaa
namespace Go.Proofs.Ytljgfapbbhbbpaa.feedTwice
open Go.ChangeShapes Go.WideShapes Go.ChangeAt Go.RowKit Go.Proofs.Ytljgfapbbhbbpaa.Sym
open Go.ChangeMaps (open_string shut_string)
set_option linter.unusedVariables false
theorem own : ownKnob Try.prog.godebug = none := by kernel_rfl
theorem laidOut : laidOutB Try.prog = true := by kernel_rfl
set_option maxRecDepth 100000 in
theorem lifted (os : Os) (started : os.Started) (H : Type) (enc : TypeId × Value → H) :
    ReturnsInHanded {} Try.checked os 8 .any (Rows.feedTwiceSpec.pre6 enc Try.prog Try.f8 Rows.feedTwiceRow.domain false) (Rows.feedTwiceSpec.post enc Try.prog Try.f8 false true false false) := by
  refine returnsInHanded_of_change_sized (C := Try.checked) own started (by kernel_rfl) Try.func8
    (ChangeSpec.witness6 (enc := enc) (C := Try.checked) false ⟨#[], #[.int .u8 0, .string .empty, .int .u8 0], []⟩ 8 (by kernel_rfl) (by kernel_rfl) (by kernel_rfl) (by kernel_rfl)) ?_
  intro W base args ds gs before hval0 hW hcnd hsz0 _
  have hval : ∀ (j : Nat) t v, Try.f8.params[j]? = some t → args[j]? = some v → Value.okWide Try.prog W .any base t v := hval0
  have hW' := hW
  obtain ⟨p, q, hA0, hV, rfl, hfz, hnd⟩ := hW
  have hA : DataW.TrodAll enc Try.prog W 0 (fun _ => true) true Try.f8.params.toList args.toList ds p := hA0
  have hval2 : ∀ (j : Nat) t v, Try.f8.params.toList[j]? = some t → args.toList[j]? = some v → Value.okWide Try.prog W .any base t v := fun j t v h1 h2 => hval j t v (by simpa using h1) (by simpa using h2)
  rw [Try.params8] at hA hval2
  obtain ⟨xs, hfit, hrel⟩ := open_args tyOk _ _ _ _ _ shapesFeedTwice_ok hval2 hA
  obtain ⟨v0, vs0, d0, ds0, p0, q0, hargs, rfl, rfl, h0, r0⟩ := trodAll_cons hA
  obtain ⟨v1, vs1, d1, ds1, p1, q1, rfl, rfl, rfl, h1, r1⟩ := trodAll_cons r0
  obtain ⟨v2, vs2, d2, ds2, p2, q2, rfl, rfl, rfl, h2, r2⟩ := trodAll_cons r1
  obtain ⟨rfl, rfl, rfl⟩ := trodAll_nil r2
  obtain rfl : args = #[v0, v1, v2] := by cases args; simp_all
  obtain ⟨rfl, rfl⟩ := trodVars_none hV
  have k0 := h0
  have lt0 : ∀ x ∈ p0, x.block < W.heap.size := by obtain ⟨m, hm⟩ := k0; exact DataW.trod_lt m _ _ _ hm
  have k1 := h1
  have lt1 : ∀ x ∈ p1, x.block < W.heap.size := by obtain ⟨m, hm⟩ := k1; exact DataW.trod_lt m _ _ _ hm
  have k2 := h2
  have lt2 : ∀ x ∈ p2, x.block < W.heap.size := by obtain ⟨m, hm⟩ := k2; exact DataW.trod_lt m _ _ _ hm
  clear hA0 hval0 hsz0 hval hval2
  refine (PCall.calls (law_FeedTwice xs hfit) hrel (fun _ _ h => by cases h)).mono ?_
  rintro e W' ⟨y, x, rfl, rfl, hy, bel⟩
  obtain rfl := hy _ rfl
  exact ⟨_, rfl, _, _, _, [], _, [], hW', trodAll_mk1 (shut_bool Try.underlying4 _), (trodAll_cons_mk (Below.trod laidOut (by kernel_rfl) (of_decide_eq_true (by kernel_rfl)) k0 bel lt0) (trodAll_cons_mk (Below.trod laidOut (by kernel_rfl) (of_decide_eq_true (by kernel_rfl)) k1 bel lt1) (trodAll_cons_mk (Below.trod laidOut (by kernel_rfl) (of_decide_eq_true (by kernel_rfl)) k2 bel lt2) trodAll_mk0))), rfl, bel.frame _, fun h => by cases h⟩
theorem over : Rows.feedTwiceRow.holds Try.pinned (OpenSpec.ofChange Rows.feedTwiceSpec) :=
  OpenClaim.holds_of_wide 8 Try.f8 rfl rfl rfl rfl rfl rfl rfl ⟨rfl, rfl, rfl, rfl, rfl⟩ rfl rfl rfl rfl rfl (by kernel_rfl) Try.func8 (by kernel_rfl)
    (of_decide_eq_true (by kernel_rfl)) (by unfold Func.isWrapper; first | (rw [if_pos (by decide +kernel)]; kernel_rfl) | (rw [if_neg (by decide +kernel)]; exact ⟨rfl, rfl⟩))
    (fun os started H enc _ => lifted os started H enc)
theorem proved : Rows.FeedTwiceSaid := over
#print axioms proved
end Go.Proofs.Ytljgfapbbhbbpaa.feedTwice
namespace Go.Proofs.Ytljgfapbbhbbpaa
/-- The row, under a short name, for the claim. -/
theorem feedTwice_holds : Rows.FeedTwiceSaid := feedTwice.proved
end Go.Proofs.Ytljgfapbbhbbpaa
