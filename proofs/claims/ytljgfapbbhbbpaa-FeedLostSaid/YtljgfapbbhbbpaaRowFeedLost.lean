/- The row of FeedLost, out of its contract. Printed by row.py, a program of this session. -/
import Derived.Test.YtljgfapbbhbbpaaMe
import Derived.Test.YtljgfapbbhbbpaaRows
import Derived.Test.YtljgfapbbhbbpaaSymU
namespace Go.Proofs.Ytljgfapbbhbbpaa
open Go Go.Proofs.Ytljgfapbbhbbpaa.Sym
set_option maxRecDepth 100000
set_option linter.unusedSimpArgs false
set_option linter.unusedVariables false

/-! ### Masks -/
theorem bits_set : ∀ m < 256, ∀ w < 8, (∀ k < 8, hasB (setB (m : Nat) (w : Nat)) (k : Nat) = (hasB (m : Nat) (k : Nat) || decide (k = w))) ∧ (0 ≤ setB (m : Nat) (w : Nat) ∧ setB (m : Nat) (w : Nat) < 256) := by decide +kernel
theorem bits_clr : ∀ m < 256, ∀ w < 8, (∀ k < 8, hasB (clrB (m : Nat) (w : Nat)) (k : Nat) = (hasB (m : Nat) (k : Nat) && decide (k ≠ w))) ∧ (0 ≤ clrB (m : Nat) (w : Nat) ∧ clrB (m : Nat) (w : Nat) < 256) := by decide +kernel
theorem bits_zero : ∀ k < 8, hasB 0 (k : Nat) = false := by decide +kernel
abbrev Msk := List (ByteArray × Int)
def mskOk (m : Msk) : Prop := rises_su m ∧ ∀ p ∈ m, 0 ≤ p.2 ∧ p.2 < 256
theorem mask_ok {m : Msk} (h : mskOk m) (u : ByteArray) : 0 ≤ maskOf m u ∧ maskOf m u < 256 := by
  by_cases hk : u ∈ m.map Prod.fst
  · obtain ⟨⟨u', v⟩, hp, rfl⟩ := List.mem_map.1 hk
    rw [maskOf, get_mem ordS eqS_iff h.1 hp]
    exact h.2 _ hp
  · rw [maskOf, get_none ordS eqS_iff h.1 hk]
    exact ⟨Int.le_refl _, by decide⟩
theorem mask_mem {m : Msk} (h : mskOk m) {p : ByteArray × Int} (hp : p ∈ m) : maskOf m p.1 = p.2 := by
  rw [maskOf, get_mem ordS eqS_iff h.1 (k := p.1) (v := p.2) hp]
theorem mask_not {m : Msk} (h : mskOk m) {u : ByteArray} (hk : u ∉ m.map Prod.fst) : maskOf m u = 0 := by
  rw [maskOf, get_none ordS eqS_iff h.1 hk]
theorem msk_with {m : Msk} (h : mskOk m) (u : ByteArray) {v : Int} (hv : 0 ≤ v ∧ v < 256) : mskOk (withG ltS eqS m u v) := by
  refine ⟨with_rises ordS eqS_iff h.1 u v, fun p hp => ?_⟩
  rcases (mem_with ordS eqS_iff h.1).1 hp with rfl | ⟨hp, _⟩
  · exact hv
  · exact h.2 p hp
theorem msk_without {m : Msk} (h : mskOk m) (u : ByteArray) : mskOk (withoutG ltS eqS m u) := by
  refine ⟨without_rises ordS eqS_iff h.1 u, fun p hp => ?_⟩
  rw [without_eq ordS eqS_iff h.1] at hp
  exact h.2 p (List.mem_filter.1 hp).1
theorem mask_with {m : Msk} (h : mskOk m) (u : ByteArray) {v : Int} (hv : 0 ≤ v ∧ v < 256) (u' : ByteArray) : maskOf (withG ltS eqS m u v) u' = if u' = u then v else maskOf m u' := by
  have h' := msk_with h u hv
  by_cases e : u' = u
  · subst e
    rw [if_pos rfl]
    exact mask_mem (p := (u', v)) h' ((mem_with ordS eqS_iff h.1).2 (.inl rfl))
  · rw [if_neg e]
    by_cases hk : u' ∈ m.map Prod.fst
    · obtain ⟨p, hp, rfl⟩ := List.mem_map.1 hk
      rw [mask_mem h hp, mask_mem h' ((mem_with ordS eqS_iff h.1).2 (.inr ⟨hp, e⟩))]
    · rw [mask_not h hk, mask_not h']
      intro hc
      obtain ⟨p, hp, rfl⟩ := List.mem_map.1 hc
      rcases (mem_with ordS eqS_iff h.1).1 hp with rfl | ⟨hp, _⟩
      · exact e rfl
      · exact hk (List.mem_map.2 ⟨p, hp, rfl⟩)
theorem mask_without {m : Msk} (h : mskOk m) (u : ByteArray) (u' : ByteArray) : maskOf (withoutG ltS eqS m u) u' = if u' = u then 0 else maskOf m u' := by
  have h' := msk_without h u
  have he := without_eq ordS eqS_iff h.1 u
  by_cases e : u' = u
  · subst e
    rw [if_pos rfl, mask_not h']
    intro hc
    obtain ⟨p, hp, hpu⟩ := List.mem_map.1 hc
    rw [he] at hp
    have := (List.mem_filter.1 hp).2
    rw [hpu, (eqS_iff _ _).2 rfl] at this
    cases this
  · rw [if_neg e]
    by_cases hk : u' ∈ m.map Prod.fst
    · obtain ⟨p, hp, rfl⟩ := List.mem_map.1 hk
      rw [mask_mem h hp, mask_mem h']
      rw [he]
      refine List.mem_filter.2 ⟨hp, ?_⟩
      cases hc : eqS p.1 u with
      | false => rfl
      | true => exact absurd ((eqS_iff _ _).1 hc) e
    · rw [mask_not h hk, mask_not h']
      intro hc
      obtain ⟨p, hp, rfl⟩ := List.mem_map.1 hc
      rw [he] at hp
      exact hk (List.mem_map.2 ⟨p, (List.mem_filter.1 hp).1, rfl⟩)
theorem to_nat {v : Int} (h : 0 ≤ v ∧ v < 256) : ∃ n : Nat, n < 256 ∧ v = n := ⟨v.toNat, by omega, by omega⟩

theorem watch_ok {m : Msk} (h : mskOk m) (who : Int) (u : ByteArray) : mskOk (watchM m who u) := by
  unfold watchM
  split
  · rename_i hc
    obtain ⟨w, hw, rfl⟩ := cli_iff hc
    obtain ⟨n, hn, hm⟩ := to_nat (mask_ok h u)
    rw [hm]
    exact msk_with h u (bits_set n hn w hw).2
  · exact h
theorem watch_len (m : Msk) (who : Int) (u : ByteArray) : (watchM m who u).length ≤ m.length + 1 := by
  unfold watchM
  split
  · exact with_len _ _ _
  · omega
theorem unwatch_ok {m : Msk} (h : mskOk m) (who : Int) (u : ByteArray) : mskOk (unwatchM m who u) := by
  unfold unwatchM
  split
  · rename_i hc
    obtain ⟨w, hw, rfl⟩ := cli_iff hc
    obtain ⟨n, hn, hm⟩ := to_nat (mask_ok h u)
    split
    · exact h
    · split
      · exact msk_without h u
      · rw [hm]
        exact msk_with h u (bits_clr n hn w hw).2
  · exact h
theorem unwatch_len (m : Msk) (who : Int) (u : ByteArray) : (unwatchM m who u).length ≤ m.length + 1 := by
  unfold unwatchM
  split
  · split
    · omega
    · split
      · exact Nat.le_trans (without_len _ _) (Nat.le_succ _)
      · exact with_len _ _ _
  · omega
/-- Who watches, behind a Watch and an Unwatch. -/
theorem wat_watch {m : Msk} (h : mskOk m) (who : Int) (u : ByteArray) (who' : Int) (u' : ByteArray) : watF (watchM m who u) who' u' = (watF m who' u' || (cli who && (decide (who' = who) && decide (u' = u)))) := by
  unfold watF
  cases hc' : cli who' with
  | false =>
    simp only [Bool.false_and, Bool.false_or]
    cases hc : cli who with
    | false => simp
    | true =>
      have : who' ≠ who := by intro e; rw [e, hc] at hc'; cases hc'
      simp [this]
  | true =>
    simp only [Bool.true_and]
    cases hc : cli who with
    | false => rw [watchM, if_neg (by rw [hc]; decide)]; simp
    | true =>
      rw [watchM, if_pos hc]
      obtain ⟨w, hw, rfl⟩ := cli_iff hc
      obtain ⟨k, hk, rfl⟩ := cli_iff hc'
      obtain ⟨n, hn, hm⟩ := to_nat (mask_ok h u)
      obtain ⟨b1, b2⟩ := bits_set n hn w hw
      have e2 : decide ((k : Int) = (w : Int)) = decide (k = w) := by rw [Bool.eq_iff_iff]; simp; omega
      rw [hm, mask_with h u b2, Bool.true_and, e2]
      by_cases e : u' = u
      · subst e
        rw [if_pos rfl, b1 k hk, hm]; simp
      · rw [if_neg e]; simp [e]
theorem wat_unwatch {m : Msk} (h : mskOk m) (who : Int) (u : ByteArray) (who' : Int) (u' : ByteArray) : watF (unwatchM m who u) who' u' = (watF m who' u' && !(decide (who' = who) && decide (u' = u))) := by
  unfold watF
  cases hc' : cli who' with
  | false => simp
  | true =>
    simp only [Bool.true_and]
    cases hc : cli who with
    | false =>
      rw [unwatchM, if_neg (by rw [hc]; decide)]
      have : who' ≠ who := by intro e; rw [e, hc] at hc'; cases hc'
      simp [this]
    | true =>
      rw [unwatchM, if_pos hc]
      obtain ⟨w, hw, rfl⟩ := cli_iff hc
      obtain ⟨k, hk, rfl⟩ := cli_iff hc'
      obtain ⟨n, hn, hm⟩ := to_nat (mask_ok h u)
      obtain ⟨b1, b2⟩ := bits_clr n hn w hw
      have e2 : decide ((k : Int) = (w : Int)) = decide (k = w) := by rw [Bool.eq_iff_iff]; simp; omega
      rw [e2]
      split
      · rename_i hz
        have hz : maskOf m u = 0 := by simpa using hz
        by_cases e : u' = u
        · subst e
          rw [hz, bits_zero k hk]; simp
        · simp [e]
      · split
        · rename_i hz
          have hz : clrB (maskOf m u) w = 0 := by simpa using hz
          rw [mask_without h u]
          by_cases e : u' = u
          · subst e
            have h1 := b1 k hk
            rw [← hm, hz, bits_zero k hk] at h1
            rw [if_pos rfl, bits_zero k hk, h1]
            simp
          · rw [if_neg e]; simp [e]
        · rw [hm, mask_with h u b2]
          by_cases e : u' = u
          · subst e
            rw [if_pos rfl, b1 k hk, hm]; simp
          · rw [if_neg e]; simp [e]
theorem wat_nil (who : Int) (u : ByteArray) : watF [] who u = false := by
  unfold watF
  cases hc : cli who with
  | false => rfl
  | true =>
    obtain ⟨k, hk, rfl⟩ := cli_iff hc
    have : maskOf [] u = 0 := mask_not (m := []) ⟨List.Pairwise.nil, fun p hp => by cases hp⟩ (by simp)
    rw [this, bits_zero k hk]; rfl
theorem msk_nil : mskOk [] := ⟨List.Pairwise.nil, fun p hp => by cases hp⟩

/-! ### How many -/
theorem nodup_le {α : Type} [DecidableEq α] : ∀ {a b : List α}, a.Nodup → (∀ x ∈ a, x ∈ b) → a.length ≤ b.length
  | [], _, _, _ => Nat.zero_le _
  | x :: a, b, hnd, hs => by
    have hx := hs x List.mem_cons_self
    obtain ⟨h1, h2⟩ := List.nodup_cons.1 hnd
    have hle : a.length ≤ (b.erase x).length := nodup_le h2 fun y hy => (List.mem_erase_of_ne (by rintro rfl; exact h1 hy)).2 (hs y (List.mem_cons_of_mem _ hy))
    have hpos : 0 < b.length := List.length_pos_of_mem hx
    rw [List.length_erase_of_mem hx] at hle
    simp only [List.length_cons]
    omega
theorem nodup_len {α : Type} [DecidableEq α] {a b : List α} (ha : a.Nodup) (hb : b.Nodup) (h : ∀ x, x ∈ a ↔ x ∈ b) : a.length = b.length :=
  Nat.le_antisymm (nodup_le ha fun x hx => (h x).1 hx) (nodup_le hb fun x hx => (h x).2 hx)
theorem cnt_eq {m : Msk} (h : mskOk m) (who : Int) {L : List ByteArray} (hnd : L.Nodup) (hL : ∀ u, u ∈ L ↔ watF m who u = true) : cntM m who = L.length := by
  have hk : (m.map Prod.fst).Nodup := by
    refine List.Pairwise.imp ?_ h.1
    intro a b hab e
    subst e
    rw [ordS.irrefl] at hab
    cases hab
  have e1 : cntM m who = ((m.filter fun p => cli who && hasB p.2 who).map Prod.fst).length := by rw [List.length_map]; rfl
  rw [e1]
  refine nodup_len (List.Nodup.sublist (List.Sublist.map _ List.filter_sublist) hk) hnd fun u => ?_
  rw [hL u, List.mem_map]
  constructor
  · rintro ⟨p, hp, rfl⟩
    obtain ⟨h1, h2⟩ := List.mem_filter.1 hp
    rw [watF, mask_mem h h1]; exact h2
  · intro hw
    by_cases hm : u ∈ m.map Prod.fst
    · obtain ⟨p, hp, rfl⟩ := List.mem_map.1 hm
      rw [watF, mask_mem h hp] at hw
      exact ⟨p, List.mem_filter.2 ⟨hp, hw⟩, rfl⟩
    · exfalso
      rw [watF, mask_not h hm] at hw
      cases hc : cli who with
      | false => rw [hc] at hw; cases hw
      | true =>
        obtain ⟨k, hk, rfl⟩ := cli_iff hc
        rw [bits_zero k hk, Bool.and_false] at hw; cases hw

/-! ### Queues -/
theorem tell1_q (F : Fd) (c : Chg) (seq : Int) {k : Nat} (hk : k < 8) : (tell1 F c seq 8).q k = if watF F.m k c.u = true then putR F.room (F.q k) ⟨c.u, c.old, c.new, seq⟩ else F.q k := by
  unfold tell1
  simp [hk]
theorem tell1_qy {F : Fd} {c : Chg} {seq : Int} {k : Nat} (hk : k < 8) (h : watF F.m k c.u = true) : (tell1 F c seq 8).q k = putR F.room (F.q k) ⟨c.u, c.old, c.new, seq⟩ := by
  rw [tell1_q F c seq hk, if_pos h]
theorem tell1_qn {F : Fd} {c : Chg} {seq : Int} {k : Nat} (hk : k < 8) (h : watF F.m k c.u = false) : (tell1 F c seq 8).q k = F.q k := by
  rw [tell1_q F c seq hk, if_neg (by rw [h]; decide)]
theorem tell_one (F : Fd) (c : Chg) (seq : Int) : tellF F [c] seq = tell1 F c seq 8 := rfl
end Go.Proofs.Ytljgfapbbhbbpaa
namespace Go.Proofs.Ytljgfapbbhbbpaa
open Go Go.Proofs.Ytljgfapbbhbbpaa.Sym
set_option maxRecDepth 100000
set_option linter.unusedSimpArgs false
set_option linter.unusedVariables false

theorem feed_preX {g : FuncId} {args0 : List AV} {K0 K : AV → List AB → Prop} (F : Fd) (r : List AB) (h : ACallX P (fun b => decide (b < 9)) g (feedM F) args0 K0) (ha : args0 = renAll ids17 args0) (hb : (bksAll args0).all (fun b => decide (b < 17)) = true)
    (hr : outOk (kpOf (fun b => decide (b < 9)) ids17 0) ids17 17 r = true)
    (hK : ∀ x m', K0 x m' → ∃ F', m' = feedM F' ∧ K (ren ids17 x) (feedM F' ++ r)) : ACallX P kpF g (feedM F ++ r) args0 K := by
  refine ACallX.keeps (kp := kpOf (fun b => decide (b < 9)) ids17 0) ?_ ?_
  · refine h.frame ids17 (by decide) (by rw [fm_ren]; exact fm_at F r) ha hb (by rfl) ?_ (fun x m' hx => ?_)
    · have e : outOk (kpOf (fun b => decide (b < 9)) ids17 0) ids17 0 (feedM F ++ r) = outOk (kpOf (fun b => decide (b < 9)) ids17 0) ids17 17 r := rfl
      rw [e]; exact hr
    · obtain ⟨F', rfl, hv⟩ := hK x m' hx
      exact ⟨rfl, by rw [fm_ren, fm_put]; exact hv⟩
  · intro b _ hb
    have hb : b < 9 ∨ 17 ≤ b := by simpa [kpF] using hb
    rcases hb with hb | hb
    · have c : b = 0 ∨ b = 1 ∨ b = 2 ∨ b = 3 ∨ b = 4 ∨ b = 5 ∨ b = 6 ∨ b = 7 ∨ b = 8 := by omega
      rcases c with rfl | rfl | rfl | rfl | rfl | rfl | rfl | rfl | rfl <;> rfl
    · exact kpOf_out (by simp; omega)
theorem Watch_at (F : Fd) (r : List AB) (who : Int) (u : ByteArray) (hr : rises_su F.m) (hl : F.m.length ≤ 1000) : ACall P 17 (feedM F ++ r) [.ptr 0 0, i64 who, str u]
    (fun x m' => m' = feedM { F with m := watchM F.m who u } ++ r) := by
  refine feed_pre F r (feed_Watch F who u hr hl) rfl rfl ?_
  rintro x m' rfl
  exact ⟨_, rfl, rfl⟩
theorem Unwatch_at (F : Fd) (r : List AB) (who : Int) (u : ByteArray) (hr : rises_su F.m) (hl : F.m.length ≤ 1000) : ACall P 25 (feedM F ++ r) [.ptr 0 0, i64 who, str u]
    (fun x m' => m' = feedM { F with m := unwatchM F.m who u } ++ r) := by
  refine feed_pre F r (feed_Unwatch F who u hr hl) rfl rfl ?_
  rintro x m' rfl
  exact ⟨_, rfl, rfl⟩
theorem Count_at (F : Fd) (r : List AB) (who : Int) (hl : F.m.length ≤ 1000) : ACall P 31 (feedM F ++ r) [.ptr 0 0, i64 who]
    (fun x m' => x = i64 (cntM F.m who : Nat) ∧ m' = feedM F ++ r) := by
  refine feed_pre F r (feed_Count F who hl) rfl rfl ?_
  rintro x m' ⟨rfl, rfl⟩
  exact ⟨F, rfl, rfl, rfl⟩
theorem chgs_ren (bs : List Nat) (l : List Chg) : renAll bs (chgs l) = chgs l := by
  induction l with
  | nil => rfl
  | cons c l ih => rw [chgs, List.map_cons, renAll, ← chgs, ih]; rfl
theorem evts_ren (bs : List Nat) (l : List Ev) : renAll bs (evts l) = evts l := by
  induction l with
  | nil => rfl
  | cons c l ih => rw [evts, List.map_cons, renAll, ← evts, ih]; rfl
theorem Tell_at (F : Fd) (r : List AB) (l : List Chg) (seq : Int) (hr : rises_su F.m) (hl : F.m.length ≤ 1000) (hll : l.length ≤ 50000) (hq : ∀ k, (F.q k).1.length ≤ 50000)
    (ho : outOk (kpOf (fun b => decide (b < 9)) ids17 0) ids17 17 r = true) : ACallX P kpF 18 (feedM F ++ r) [.ptr 0 0, .sl 7 (chgs l), u64 seq]
    (fun x m' => m' = feedM (tellF F l seq) ++ r) := by
  refine feed_preX F r (feed_Tell F l seq hr hl hll hq).toX rfl rfl ho ?_
  rintro x m' rfl
  exact ⟨_, rfl, rfl⟩
theorem Drain_at (F : Fd) (r : List AB) (who : Int) (hq : ∀ k, (F.q k).1.length ≤ 100000)
    (ho : outOk (kpOf (fun b => decide (b < 9)) ids17 0) ids17 17 r = true) : ACallX P kpF 19 (feedM F ++ r) [.ptr 0 0, i64 who]
    (fun x m' => x = .tup [if cli who = true then .sl 8 (evts (drainL F who)) else .v (.slice none 0 0), bool (drainB F who)] ∧ m' = feedM (F.drain who) ++ r) := by
  refine feed_preX F r (feed_Drain F who hq) rfl rfl ho ?_
  rintro x m' ⟨rfl, rfl⟩
  refine ⟨_, rfl, ?_, rfl⟩
  split <;> rfl

/-! ### The document's example -/
abbrev annS : ByteArray := ⟨#[97, 110, 110]⟩
def annF : Fd := ⟨[], 1, fun _ => ([], false)⟩
def annW : Fd := { annF with m := watchM [] 2 annS }
def annL : List Chg := [⟨annS, ⟨0, 0, 0⟩, ⟨0, 0, 1⟩⟩, ⟨annS, ⟨0, 0, 1⟩, ⟨0, 0, 0⟩⟩]
theorem ann_ok : mskOk annW.m := watch_ok msk_nil 2 annS
theorem ann_len : annW.m.length ≤ 1 := watch_len [] 2 annS
theorem ann_wat : watF annW.m 2 annS = true := by
  show watF (watchM [] 2 annS) 2 annS = true
  rw [wat_watch msk_nil, wat_nil]; rfl
theorem ann_q : (tellF annW annL 7).q 2 = ([⟨annS, ⟨0, 0, 0⟩, ⟨0, 0, 1⟩, 7⟩], true) := by
  have h1 := tell1_qy (F := annW) (c := ⟨annS, ⟨0, 0, 0⟩, ⟨0, 0, 1⟩⟩) (seq := 7) (show 2 < 8 by decide) ann_wat
  have h2 := tell1_qy (F := tell1 annW ⟨annS, ⟨0, 0, 0⟩, ⟨0, 0, 1⟩⟩ 7 8) (c := ⟨annS, ⟨0, 0, 1⟩, ⟨0, 0, 0⟩⟩) (seq := 7) (show 2 < 8 by decide) ann_wat
  rw [h1] at h2
  exact h2
theorem ann_cnt : cntM annW.m 2 = 1 := by
  refine cnt_eq ann_ok 2 (L := [annS]) (by simp) fun u => ?_
  show _ ↔ watF (watchM [] 2 annS) 2 u = true
  rw [wat_watch msk_nil, wat_nil]
  have : cli 2 = true := rfl
  rw [this]
  simp
theorem law09_awake : PCall P 15 [] (fun x => x = bool true) := by
  refine pcall_go tyOk Try.func15 rfl rfl ?_
  intro K hK
  simp only [Try.ntmps15, List.length_nil, Nat.reduceSub, List.replicate, List.nil_append]
  have hnew : ACall P 16 [] [i64 1] (fun x m' => x = .ptr 0 0 ∧ m' = feedM annF ++ []) := feed_New 1
  try simp (maxSteps := 1000000) only [go_region, go_seq, go_ops_nil, go_op, opK_none, opK_some, contK_some, callOf, callK_eq, callJ_nil, callD_fn, fstep, fpre, fstep0, evs, St.ev, St.put, AV.owners, ownersAll, List.set, List.append_nil, true_and, Bool.true_and]
  refine callG_A (Sym.ACall.mono hnew ?_)
  rintro _ _ ⟨rfl, rfl⟩
  try simp (maxSteps := 1000000) only [go_skip, go_region, go_seq, go_cond, go_ops_nil, go_op, opK_none, opK_some, contK_some, condK_f, callOf, callK_eq, callJ_nil, callD_fn, fstep, fpre, fstep0, fbinA, gbin, gnil, isPtrTy, fbin, fbin0, evs, T, St.ev, St.put, AV.owners, ownersAll, List.getD_cons_zero, List.getD_cons_succ, List.set, List.append_nil, true_and, Bool.true_and]
  have hw : ACall P 17 (feedM annF) [.ptr 0 0, i64 2, str annS] (fun x m' => m' = feedM annW) := feed_Watch annF 2 annS msk_nil.1 (by decide)
  refine callG_A (Sym.ACall.mono hw ?_)
  rintro _ _ rfl
  try simp (maxSteps := 1000000) only [go_region, go_seq, go_ops_nil, go_op, opK_none, opK_some, contK_some, callOf, callK_eq, callJ_cons, fstep, fpre, fstep0, ffill, fieldPlaces, fieldsOk, fbuild, evParts, evOwners, fbuildSlice, evs, T, TI.isAgg, TI.zeroOk, TI.zav, setParts, partsOk, St.ev, St.put, St.shutAll, splice, AV.cells, AV.known, AV.flat, AV.pure, pureAll, AV.owners, ownersAll, Value.cells, Value.oneCell', List.getD_cons_zero, List.getD_cons_succ, List.set, List.map_cons, List.map_nil, List.length_cons, List.length_nil, List.all_cons, List.all_nil, List.drop_succ_cons, List.drop_zero, List.take_succ_cons, List.take_zero, List.cons_append, List.nil_append, List.append_nil, List.getElem?_cons_zero, List.getElem?_cons_succ, List.replicate, Option.isSome_some, List.getElem?_toArray, true_and, and_true, Bool.and_true, Bool.true_and, Bool.and_self, Bool.or_false, ↓reduceIte, decide_true, decide_false, Nat.reduceAdd, Nat.reduceMul, Nat.reduceLeDiff, Nat.reduceEqDiff, Nat.reduceLT, Nat.zero_le, Nat.le_refl, Nat.zero_add, fm_len]
  refine callO_shut ?_
  try simp (maxSteps := 1000000) only [callH_fn, evs, St.ev, St.shutAll, St.shut, shutV, shutVs, AB.shut, List.getD_cons_zero, List.getD_cons_succ, List.set, List.map_cons, List.map_nil, List.length_cons, List.length_nil, List.all_cons, List.all_nil, List.drop_zero, List.take_succ_cons, List.take_zero, List.append_nil, List.getElem?_cons_zero, true_and, and_true, Bool.and_true, Bool.true_and, Bool.and_self, ↓reduceIte, decide_true, reduceCtorEq, Nat.reduceAdd, Nat.zero_le, Nat.le_refl, Nat.zero_add, fm_17, fm_s17, fm_shut]
  have ht := Tell_at annW [.gone] annL 7 ann_ok.1 (by have := ann_len; omega) (by decide) (fun k => Nat.zero_le _) (by rfl)
  refine callG_X (kp := kpF) (fun b hb => absurd hb (Nat.not_lt_zero b)) (Sym.ACallX.mono ht ?_)
  rintro _ _ rfl
  try simp (maxSteps := 1000000) only [go_region, go_seq, go_ops_nil, go_op, opK_none, opK_some, contK_some, callOf, callK_eq, callJ_nil, callD_fn, fstep, fpre, fstep0, evs, St.ev, St.put, AV.owners, ownersAll, cutVs, cutV, bks, bksAll, List.getD_cons_zero, List.getD_cons_succ, List.set, List.all_cons, List.all_nil, List.append_nil, true_and, Bool.true_and, Bool.and_self, Bool.or_false, ↓reduceIte, decide_true, decide_false, Nat.reduceLeDiff, Nat.reduceLT, kpF]
  have hq : ∀ k, ((tellF annW annL 7).q k).1.length ≤ 100000 := fun k => by
    have h := (tellF_ok annW annL 7).2.2 k
    exact Nat.le_trans h (show 0 + 2 ≤ 100000 by decide)
  refine callG_X (kp := kpF) (fun b hb => absurd hb (Nat.not_lt_zero b)) (Sym.ACallX.mono (Drain_at (tellF annW annL 7) [.gone] 2 hq rfl) ?_)
  rintro _ _ ⟨rfl, rfl⟩
  rw [show (if cli 2 = true then AV.sl 8 (evts (drainL (tellF annW annL 7) 2)) else .v (.slice none 0 0)) = .sl 8 [.agg [str annS, i64 0, i64 0, i64 0, i64 0, i64 0, i64 1, u64 7]] by
    rw [if_pos (show cli 2 = true from rfl), drainL, if_pos (show cli 2 = true from rfl)]
    show AV.sl 8 (evts ((tellF annW annL 7).q 2).1) = _
    rw [ann_q]; rfl, show drainB (tellF annW annL 7) 2 = true by
    rw [drainB, if_pos (show cli 2 = true from rfl)]
    show ((tellF annW annL 7).q 2).2 = true
    rw [ann_q]]
  have c0 : (((0 : Nat) : Int) == 0) = true := by decide
  have c1 : (((1 : Nat) : Int) == 1) = true := by decide
  have c2 : ((1 : Int) == 1) = true := by decide
  have c7 : ((7 : Int) == 7) = true := by decide
  have g0 : ∀ x : AV, [x].getD (Int.toNat 0) .any = x := fun x => rfl
  have l0 : Int.toNat 0 < 1 := by decide
  have hc : ACall P 31 (feedM ((tellF annW annL 7).drain 2) ++ [.gone]) [.ptr 0 0, i64 2] (fun x m' => x = i64 ((1 : Nat) : Int) ∧ m' = feedM ((tellF annW annL 7).drain 2) ++ [.gone]) := by
    have h := Count_at ((tellF annW annL 7).drain 2) [.gone] 2 (show annW.m.length ≤ 1000 by have := ann_len; omega)
    rw [show cntM ((tellF annW annL 7).drain 2).m 2 = 1 from ann_cnt] at h
    exact h
  try simp (maxSteps := 1000000) only [go_region, go_seq, go_ops_nil, go_op, go_guard, opK_none, opK_some, contK_some, guardK_eq, guardV_tt, callOf, callK_eq, callJ_nil, callD_fn, fstep, fpre, fstep0, fbinA, fbin, fbin0, fload, fcell, ffieldAddr, findexAddr, flen, evs, fpick, T, TI.isAgg, St.ev, St.put, AV.cells, AV.known, AV.owners, ownersAll, cutVs, cutV, bks, bksAll, List.getD_cons_zero, List.getD_cons_succ, List.set, List.length_cons, List.length_nil, List.all_cons, List.all_nil, List.drop_succ_cons, List.drop_zero, List.headD_cons, List.append_nil, List.getElem?_cons_zero, List.getElem?_cons_succ, Option.bind_some, List.getElem?_toArray, true_and, and_true, Bool.and_true, Bool.true_and, Bool.and_self, Bool.or_false, Bool.false_eq_true, ↓reduceIte, decide_true, decide_false, reduceCtorEq, ne_eq, not_false_eq_true, Nat.reduceAdd, Nat.reduceLeDiff, Nat.reduceLT, Nat.zero_add, cond_true, Int.reduceLE, beq_self_eq_true, kpF, c1, g0, l0]
  refine callG_A (Sym.ACall.mono hc ?_)
  rintro _ _ ⟨rfl, rfl⟩
  try simp (maxSteps := 1000000) only [go_ret, go_ops_nil, go_op, go_guard, opK_none, contK_some, guardK_eq, guardV_tt, callOf, fstep, fpre, fstep0, fbinA, fbin, fbin0, fpick, St.ev, St.put, List.getD_cons_zero, List.getD_cons_succ, List.set, List.getElem?_cons_zero, List.getElem?_cons_succ, Option.bind_some, List.getElem?_toArray, true_and, Bool.true_and, cond_true, c1]
  apply hK
  simp only [Try.results15, retK, ares, Bool.and_true, Bool.true_and, AV.ofResults, St.trunc, truncVs, truncV, List.getD_cons_zero, List.take_zero, List.map_nil, true_and, and_true, List.cons.injEq, exists_eq_left']
end Go.Proofs.Ytljgfapbbhbbpaa
namespace Go.Proofs.Ytljgfapbbhbbpaa
open Go Go.Proofs.Ytljgfapbbhbbpaa.Sym
set_option maxRecDepth 100000
set_option linter.unusedSimpArgs false
set_option linter.unusedVariables false

theorem tmod_u8 {w : Int} (n : Nat) (h : 0 ≤ w ∧ w ≤ 255) (hn : 0 < n) : w.tmod (n : Int) = ((w.toNat % n : Nat) : Int) := by
  obtain ⟨k, rfl⟩ := Int.eq_ofNat_of_zero_le h.1
  rw [Int.toNat_natCast, ← Int.ofNat_tmod]
abbrev bobS : ByteArray := ⟨#[98, 111, 98]⟩
def lostE (j : Nat) : Ev := ⟨annS, ⟨0, 0, 0⟩, ⟨0, 0, j⟩, j⟩
def lostQ (room i : Nat) : List Ev × Bool := ((List.range (min i room)).map lostE, decide (room < i))
theorem lost_next (room i : Nat) : putR (room : Int) (lostQ room i) (lostE i) = lostQ room (i + 1) := by
  unfold putR lostQ
  simp only [List.length_map, List.length_range]
  by_cases h : room ≤ i
  · rw [if_pos (by omega)]
    have e1 : min i room = room := by omega
    have e2 : min (i + 1) room = room := by omega
    have e3 : decide (room < i + 1) = true := by simp; omega
    rw [e1, e2, e3]
  · rw [if_neg (by omega)]
    have e1 : min i room = i := by omega
    have e2 : min (i + 1) room = i + 1 := by omega
    have e3 : decide (room < i + 1) = decide (room < i) := by rw [Bool.eq_iff_iff]; simp; omega
    rw [e1, e2, e3, List.range_succ, List.map_append]; rfl
theorem lost_len (room i : Nat) : (lostQ room i).1.length = min i room := by simp [lostQ]
theorem lost_at {room n i : Nat} (h : i < (lostQ room n).1.length) : (lostQ room n).1[i] = lostE i := by
  simp [lostQ]
theorem ann_bob : bobS ≠ annS := by intro h; have := congrArg (fun b => b.data.size) h; have := congrArg (fun b => b.data[0]?) h; simp at this

set_option maxHeartbeats 2000000 in
theorem law_lost (room n who other : Int) (hr : 0 ≤ room ∧ room ≤ 255) (hn : 0 ≤ n ∧ n ≤ 255) (hw : 0 ≤ who ∧ who ≤ 255) (ho : 0 ≤ other ∧ other ≤ 255) :
    PCall P 3 [.v (.int .u8 room), .v (.int .u8 n), .v (.int .u8 who), .v (.int .u8 other)] (fun x => x = .v (.bool true)) := by
  refine pcall_go tyOk Try.func3 rfl rfl ?_
  intro K hK
  simp only [Try.ntmps3, List.length_cons, List.length_nil, Nat.reduceAdd, Nat.reduceSub, List.replicate, List.cons_append, List.nil_append]
  try simp (maxSteps := 1000000) only [go_region, go_seq, go_ops_nil, go_op, opK_none, opK_some, contK_some, callOf, callK_eq, callJ_nil, callD_fn, fstep, fpre, fstep0, evs, St.ev, St.put, ownersAll, List.set, List.append_nil, true_and, Bool.true_and]
  (refine callG_use law09_awake rfl ?_; rintro _ rfl)
  have w1 : IntKind.i64.wrap room = room := wrap_i64 (by omega) (by omega)
  have w2 : IntKind.i64.wrap n = n := wrap_i64 (by omega) (by omega)
  have w3 : IntKind.i64.wrap who = who := wrap_i64 (by omega) (by omega)
  have w4 : IntKind.i64.wrap other = other := wrap_i64 (by omega) (by omega)
  have m1 : room.tmod 17 = ((room.toNat % 17 : Nat) : Int) := tmod_u8 17 hr (by decide)
  have m2 : n.tmod 40 = ((n.toNat % 40 : Nat) : Int) := tmod_u8 40 hn (by decide)
  have m3 : who.tmod 8 = ((who.toNat % 8 : Nat) : Int) := tmod_u8 8 hw (by decide)
  have m4 : other.tmod 8 = ((other.toNat % 8 : Nat) : Int) := tmod_u8 8 ho (by decide)
  have b1 : room.toNat % 17 < 17 := Nat.mod_lt _ (by decide)
  have b2 : n.toNat % 40 < 40 := Nat.mod_lt _ (by decide)
  have b3 : who.toNat % 8 < 8 := Nat.mod_lt _ (by decide)
  have b4 : other.toNat % 8 < 8 := Nat.mod_lt _ (by decide)
  try simp (maxSteps := 1000000) only [go_skip, go_region, go_seq, go_cond, go_ops_nil, go_op, opK_none, opK_some, contK_some, condK_f, callOf, callK_eq, callJ_nil, callD_fn, fstep, fpre, fstep0, fbinA, fbin, fbin0, funary, fconvA, fconvert, evs, T, St.ev, St.put, AV.owners, ownersAll, List.getD_cons_zero, List.getD_cons_succ, List.set, List.append_nil, true_and, and_true, Bool.and_true, Bool.true_and, Bool.not_true, ne_eq, not_false_eq_true, Int.reduceEq, w1, w2, w3, w4, m1, m2, m3, m4]
  generalize room.toNat % 17 = rm at *
  generalize n.toNat % 40 = mn at *
  generalize who.toNat % 8 = a at *
  generalize other.toNat % 8 = b at *
  have ca : cli (a : Int) = true := by simp [cli]; omega
  have cb : cli (b : Int) = true := by simp [cli]; omega
  refine callG_A (Sym.ACall.mono (feed_New rm) ?_)
  rintro _ _ ⟨rfl, rfl⟩
  try simp (maxSteps := 1000000) only [go_region, go_seq, go_ops_nil, go_op, opK_none, opK_some, contK_some, callOf, callK_eq, callJ_nil, callD_fn, fstep, fpre, fstep0, evs, St.ev, St.put, AV.owners, ownersAll, List.getD_cons_zero, List.getD_cons_succ, List.set, List.append_nil, true_and, Bool.true_and]
  refine callG_A (Sym.ACall.mono (feed_Watch ⟨[], max (rm : Int) 0, fun _ => ([], false)⟩ a annS List.Pairwise.nil (Nat.zero_le _)) ?_)
  rintro _ _ rfl
  have hmo : mskOk (watchM [] a annS) := watch_ok msk_nil _ _
  have hml : (watchM [] a annS).length ≤ 1 := watch_len _ _ _
  have hwat : ∀ k' u', watF (watchM [] a annS) k' u' = (decide (k' = a) && decide (u' = annS)) := fun k' u' => by
    rw [wat_watch msk_nil, wat_nil, ca, Bool.true_and, Bool.false_or]
  generalize watchM [] a annS = m at *
  try simp (maxSteps := 1000000) only [go_region, go_seq, go_block, go_loop, go_ops_nil, go_op, opK_none, contK_some, callOf, fstep, fpre, fstep0, St.ev, St.put, List.set, true_and, Bool.true_and]
  refine loopK_rule tyOk (α := Nat × Fd) 17 [9, 10, 11, 12, 13, 14] (fun s => s.1 ≤ mn ∧ s.2.m = m ∧ s.2.room = rm ∧ s.2.q a = lostQ rm s.1 ∧ (∀ j, j < 8 → j ≠ a → s.2.q j = ([], false)) ∧ ∀ j, (s.2.q j).1.length ≤ 2 * s.1)
    (fun s => ⟨[.any, .any, .any, .any, .any, .any, .any, .any, .any, i64 rm, i64 mn, i64 a, i64 b, .ptr 0 0, i64 s.1, .any, .any, .any, .any, .any, .any, .any, .any, .any, .any, .any, .any, .any, .any, .any, .any, .any, .any, .any, .any, .any, .any, .any, .any, .any, .any, .any, .any, .any, .any, .any, .any, .any, .any, .any, .any, .any, .any, .any, .any, .any, .any, .any, .any, .any, .any, .any, .any, .any, .any, .any, .any, .any, .any, .any, .any, .any, .any, .any, .any, .any, .any, .any, .any, .any, .any, .any, .any, .any, .any, .any, .any, .any, .any, .any, .any, .any, .any, .any, .any, .any, .any, .any, .any, .any, .any, .any, .any, .any, .any, .any, .any, .any, .any], feedM s.2⟩)
    (fun s => mn - s.1) (0, ⟨m, max (rm : Int) 0, fun _ => ([], false)⟩) (by decide) ⟨Nat.zero_le _, rfl, (by show max (rm : Int) 0 = rm; omega), rfl, fun _ _ _ => rfl, fun _ => Nat.zero_le _⟩ rfl ?_
  rintro ⟨i, F⟩ ⟨hi, hFm, hFr, hFa, hFo, hFl⟩
  simp only at hi hFm hFr hFa hFo hFl ⊢
  try simp (maxSteps := 1000000) only [go_region, go_seq, go_cond, go_ops_nil, go_op, opK_none, contK_some, callOf, fstep, fpre, fstep0, fbinA, fbin, fbin0, St.ev, St.put, List.getD_cons_zero, List.getD_cons_succ, List.set, true_and, Bool.true_and, ne_eq]
  (first | refine guardV_split ?_ ?_ | refine condK_split ?_ ?_ | refine drawV_split ?_ ?_ | refine condY_split ?_ ?_ | refine guardY_split ?_ ?_) <;> intro h
  · have hlt : i < mn := by have := of_decide_eq_true h; omega
    have ewi : IntKind.i64.wrap ((i : Int) + 1) = ((i + 1 : Nat) : Int) := by rw [wrap_i64 (by omega) (by omega)]; rfl
    have ewu : IntKind.u64.wrap (i : Int) = (i : Int) := wrap_u64 (by omega) (by omega)
    try simp (maxSteps := 1000000) only [go_skip, go_region, go_seq, go_block, go_op, opK_none, opK_some, contK_some, condK_t, callOf, callK_eq, callJ_cons, fstep, fpre, fstep0, ffill, fieldPlaces, fieldsOk, fbuild, evParts, evOwners, fbuildSlice, fconvA, fconvert, evs, T, TI.isAgg, TI.zeroOk, TI.zav, setParts, partsOk, St.ev, St.put, St.shutAll, splice, AV.cells, AV.known, AV.flat, AV.pure, pureAll, AV.owners, ownersAll, Value.cells, Value.oneCell', List.getD_cons_zero, List.getD_cons_succ, List.set, List.map_cons, List.map_nil, List.length_cons, List.length_nil, List.all_cons, List.all_nil, List.drop_succ_cons, List.drop_zero, List.take_succ_cons, List.take_zero, List.cons_append, List.nil_append, List.append_nil, List.getElem?_cons_zero, List.getElem?_cons_succ, List.replicate, Option.isSome_some, List.getElem?_toArray, true_and, and_true, Bool.and_true, Bool.true_and, Bool.and_self, Bool.or_false, ↓reduceIte, decide_true, decide_false, Nat.reduceAdd, Nat.reduceMul, Nat.reduceLeDiff, Nat.reduceEqDiff, Nat.reduceLT, Nat.zero_le, Nat.le_refl, Nat.zero_add, fm_len, ewu]
    refine callO_shut ?_
    try simp (maxSteps := 1000000) only [callH_fn, evs, St.ev, St.shutAll, St.shut, shutV, shutVs, AB.shut, List.getD_cons_zero, List.getD_cons_succ, List.set, List.map_cons, List.map_nil, List.length_cons, List.length_nil, List.all_cons, List.all_nil, List.drop_zero, List.take_succ_cons, List.take_zero, List.append_nil, List.getElem?_cons_zero, true_and, and_true, Bool.and_true, Bool.true_and, Bool.and_self, ↓reduceIte, decide_true, reduceCtorEq, Nat.reduceAdd, Nat.zero_le, Nat.le_refl, Nat.zero_add, fm_17, fm_s17, fm_shut]
    have hT := Tell_at F [.gone] [⟨annS, ⟨0, 0, 0⟩, ⟨0, 0, i⟩⟩, ⟨bobS, ⟨0, 0, 0⟩, ⟨0, 0, 0⟩⟩] i (by rw [hFm]; exact hmo.1) (by rw [hFm]; omega) (by simp) (fun j => by have := hFl j; omega) rfl
    obtain ⟨G1, hG1⟩ : ∃ G, tell1 F ⟨annS, ⟨0, 0, 0⟩, ⟨0, 0, i⟩⟩ i 8 = G := ⟨_, rfl⟩
    have hG1m : G1.m = m := by rw [← hG1]; exact hFm
    have hG2 : tellF F [⟨annS, ⟨0, 0, 0⟩, ⟨0, 0, i⟩⟩, ⟨bobS, ⟨0, 0, 0⟩, ⟨0, 0, 0⟩⟩] i = tell1 G1 ⟨bobS, ⟨0, 0, 0⟩, ⟨0, 0, 0⟩⟩ i 8 := by rw [← hG1]; rfl
    have hl2 := (tellF_ok F [⟨annS, ⟨0, 0, 0⟩, ⟨0, 0, i⟩⟩, ⟨bobS, ⟨0, 0, 0⟩, ⟨0, 0, 0⟩⟩] i)
    rw [hG2] at hT hl2
    have hq1 : ∀ j, j < 8 → G1.q j = if j = a then lostQ rm (i + 1) else ([], false) := fun j hj => by
      rw [← hG1, tell1_q F _ _ hj, hFm, hwat]
      by_cases e : j = a
      · subst e
        rw [if_pos rfl, if_pos (by simp), hFa, hFr]
        exact lost_next rm i
      · rw [if_neg e, if_neg (by simp; omega), hFo j hj e]
    have hq2 : ∀ j, j < 8 → (tell1 G1 ⟨bobS, ⟨0, 0, 0⟩, ⟨0, 0, 0⟩⟩ i 8).q j = if j = a then lostQ rm (i + 1) else ([], false) := fun j hj => by
      rw [tell1_q G1 _ _ hj, hG1m, hwat, if_neg (by simp [ann_bob])]
      exact hq1 j hj
    generalize tell1 G1 ⟨bobS, ⟨0, 0, 0⟩, ⟨0, 0, 0⟩⟩ i 8 = G2 at *
    refine callG_X (kp := kpF) (fun b hb => absurd hb (Nat.not_lt_zero b)) (Sym.ACallX.mono hT ?_)
    rintro _ _ rfl
    try simp (maxSteps := 1000000) only [go_nil, go_region, go_blk, go_ops_nil, go_op, opK_none, contK_some, callOf, fstep, fpre, fstep0, fbinA, fbin, fbin0, St.ev, St.put, cutVs, cutV, bks, bksAll, List.getD_cons_zero, List.getD_cons_succ, List.set, List.all_cons, List.all_nil, List.append_nil, true_and, Bool.true_and, Bool.and_self, Bool.or_false, ↓reduceIte, decide_true, decide_false, Nat.reduceLeDiff, Nat.reduceLT, kpF, ewi]
    simp only [loopX_normal, St.trunc, St.keep, truncVs, truncV, keepV, List.elem_cons, List.elem_nil, Nat.reduceAdd, Nat.reduceBEq, Nat.reduceLeDiff, Nat.zero_add, Bool.false_eq_true, ↓reduceIte]
    refine ⟨(i + 1, G2), ⟨hlt, hl2.1.trans hFm, hl2.2.1.trans hFr, ?_, ?_, fun j => ?_⟩, by simp only; omega, rfl⟩
    · rw [hq2 a b3, if_pos rfl]
    · intro j hj hne
      rw [hq2 j hj, if_neg hne]
    · have h1 := hl2.2.2 j
      have h2 := hFl j
      simp only [List.length_cons, List.length_nil] at h1
      simp only
      omega
  · obtain rfl : i = mn := by have := of_decide_eq_false h; omega
    have hFq : ∀ j, (F.q j).1.length ≤ 100000 := fun j => by have := hFl j; omega
    have hD : ACallX P kpF 19 (feedM F ++ []) [.ptr 0 0, i64 a] (fun x m' => x = .tup [.sl 8 (evts (lostQ rm i).1), bool (decide (rm < i))] ∧ m' = feedM (F.drain a) ++ []) := by
      have h := Drain_at F [] a hFq rfl
      rw [if_pos ca, drainL, if_pos ca, drainB, if_pos ca, Int.toNat_natCast, hFa] at h
      exact h
    try simp (maxSteps := 1000000) only [go_region, go_seq, go_cond, go_exit, exitK_code, exitK_blk, exitK_nil, go_ops_nil, go_op, opK_none, contK_some, condK_f, callOf, fstep, fpre, fstep0, fbinA, fbin, fbin0, St.ev, St.put, List.getD_cons_zero, List.getD_cons_succ, List.set, true_and, Bool.true_and, ↓reduceIte, loopX_exit]
    (first | refine guardV_split ?_ ?_ | refine condK_split ?_ ?_ | refine drawV_split ?_ ?_ | refine condY_split ?_ ?_ | refine guardY_split ?_ ?_) <;> intro hab
    · have hne : b ≠ a := by rintro rfl; simp at hab
      have hB : ACallX P kpF 19 (feedM F ++ []) [.ptr 0 0, i64 b] (fun x m' => x = .tup [.sl 8 [], bool false] ∧ m' = feedM (F.drain b) ++ []) := by
        have h := Drain_at F [] b hFq rfl
        rw [if_pos cb, drainL, if_pos cb, drainB, if_pos cb, Int.toNat_natCast, hFo b b4 hne] at h
        exact h
      have hGa : (F.drain b).q a = lostQ rm i := by
        rw [Fd.drain, if_pos cb, Int.toNat_natCast, Fd.setQ]
        simp only
        rw [if_neg (Ne.symm hne), hFa]
      have hGq : ∀ j, ((F.drain b).q j).1.length ≤ 100000 := fun j => by
        rw [Fd.drain, if_pos cb, Fd.setQ]
        simp only
        split
        · exact Nat.zero_le _
        · exact hFq j
      have hD : ACallX P kpF 19 (feedM (F.drain b) ++ []) [.ptr 0 0, i64 a] (fun x m' => x = .tup [.sl 8 (evts (lostQ rm i).1), bool (decide (rm < i))] ∧ m' = feedM ((F.drain b).drain a) ++ []) := by
        have h := Drain_at (F.drain b) [] a hGq rfl
        rw [if_pos ca, drainL, if_pos ca, drainB, if_pos ca, Int.toNat_natCast, hGa] at h
        exact h
      have c0 : (((0 : Nat) : Int) != 0) = false := by decide
      try simp (maxSteps := 1000000) only [go_region, go_seq, go_op, opK_none, opK_some, contK_some, condK_t, callOf, callK_eq, callJ_nil, callD_fn, fstep, fpre, fstep0, evs, St.ev, St.put, AV.owners, ownersAll, List.getD_cons_zero, List.getD_cons_succ, List.set, List.append_nil, true_and, Bool.true_and]
      refine callG_X (kp := kpF) (fun b hb => absurd hb (Nat.not_lt_zero b)) (Sym.ACallX.mono hB ?_)
      rintro _ _ ⟨rfl, rfl⟩
      try simp (maxSteps := 1000000) only [go_skip, go_region, go_seq, go_cond, go_ops_nil, go_op, go_guard, opK_none, opK_some, contK_some, condK_f, guardK_eq, guardV_ff, callOf, callK_eq, callJ_nil, callD_fn, fstep, fpre, fstep0, fbinA, fbin, fbin0, flen, evs, fpick, T, St.ev, St.put, AV.owners, ownersAll, cutVs, cutV, bks, List.getD_cons_zero, List.getD_cons_succ, List.set, List.length_cons, List.length_nil, List.all_cons, List.all_nil, List.append_nil, List.getElem?_cons_zero, List.getElem?_cons_succ, Option.bind_some, List.getElem?_toArray, true_and, Bool.true_and, Bool.and_self, Bool.or_false, ↓reduceIte, decide_true, decide_false, Nat.reduceAdd, Nat.reduceLeDiff, Nat.reduceLT, Nat.zero_add, cond_false, kpF, c0]
      generalize hL : (lostQ rm i).1 = L at *
      have hLl : L.length = min i rm := by rw [← hL]; exact lost_len rm i
      have hLa : ∀ z (h : z < L.length), L[z] = lostE z := by subst hL; exact fun z h => lost_at h
      refine callG_X (kp := kpF) (fun b hb => absurd hb (Nat.not_lt_zero b)) (Sym.ACallX.mono hD ?_)
      rintro _ _ ⟨rfl, rfl⟩
      try simp (maxSteps := 1000000) only [go_region, go_seq, go_block, go_loop, go_ops_nil, go_op, opK_none, contK_some, callOf, fstep, fpre, fstep0, St.ev, St.put, cutVs, cutV, bks, bksAll, List.getD_cons_zero, List.getD_cons_succ, List.set, List.length_cons, List.length_nil, List.all_cons, List.all_nil, List.append_nil, true_and, Bool.true_and, Bool.and_self, Bool.or_false, ↓reduceIte, decide_true, decide_false, Nat.reduceAdd, Nat.reduceLeDiff, Nat.reduceLT, Nat.zero_add, kpF]
      refine loopK_rule tyOk (α := Nat) 0 [9, 10, 17, 18, 19] (fun z => z ≤ L.length)
        (fun z => ⟨[.any, .any, .any, .any, .any, .any, .any, .any, .any, i64 rm, i64 i, .any, .any, .any, .any, .any, .any, .sl 8 (evts L), bool (decide (rm < i)), i64 z, .any, .any, .any, .any, .any, .any, .any, .any, .any, .any, .any, .any, .any, .any, .any, .any, .any, .any, .any, .any, .any, .any, .any, .any, .any, .any, .any, .any, .any, .any, .any, .any, .any, .any, .any, .any, .any, .any, .any, .any, .any, .any, .any, .any, .any, .any, .any, .any, .any, .any, .any, .any, .any, .any, .any, .any, .any, .any, .any, .any, .any, .any, .any, .any, .any, .any, .any, .any, .any, .any, .any, .any, .any, .any, .any, .any, .any, .any, .any, .any, .any, .any, .any, .any, .any, .any, .any, .any, .any], []⟩)
        (fun z => L.length - z) 0 (Nat.zero_le _) (Nat.zero_le _) rfl ?_
      intro z hz
      try simp (maxSteps := 1000000) only [go_region, go_seq, go_cond, go_ops_nil, go_op, opK_none, contK_some, callOf, fstep, fpre, fstep0, fbinA, fbin, fbin0, flen, T, St.ev, St.put, List.getD_cons_zero, List.getD_cons_succ, List.set, true_and, Bool.true_and, evts_len]
      (first | refine guardV_split ?_ ?_ | refine condK_split ?_ ?_ | refine drawV_split ?_ ?_ | refine condY_split ?_ ?_ | refine guardY_split ?_ ?_) <;> intro h
      · have hlt : z < L.length := by have := of_decide_eq_true h; omega
        have eg : (evts L).getD (Int.toNat (z : Int)) .any = .agg [str annS, i64 0, i64 0, i64 0, i64 0, i64 0, i64 z, u64 z] := by
          have := at_map (f := Ev.av) hlt
          rw [hLa z hlt] at this
          exact this
        have ewi : IntKind.i64.wrap ((z : Int) + 1) = ((z + 1 : Nat) : Int) := by rw [wrap_i64 (by omega) (by omega)]; rfl
        have c1 : (0 : Int) ≤ (z : Int) ∧ Int.toNat (z : Int) < L.length := by omega
        have ci : (((z : Nat) : Int) != ((z : Nat) : Int)) = false := by simp
        have cs : (annS.toList != annS.toList) = false := by simp
        try simp (maxSteps := 1000000) only [go_nil, go_skip, go_region, go_seq, go_cond, go_block, go_blk, go_ops_nil, go_op, go_guard, opK_none, contK_some, condK_t, condK_f, guardK_eq, guardV_ff, callOf, fstep, fpre, fstep0, fbinA, fbin, fbin0, fload, fcell, ffieldAddr, findexAddr, fpick, T, TI.isAgg, St.ev, St.put, AV.cells, AV.known, List.getD_cons_zero, List.getD_cons_succ, List.set, List.length_cons, List.length_nil, List.drop_succ_cons, List.drop_zero, List.headD_cons, List.getElem?_cons_zero, List.getElem?_cons_succ, Option.bind_some, List.getElem?_toArray, true_and, and_true, Bool.and_true, Bool.true_and, Bool.not_true, Bool.false_eq_true, ↓reduceIte, reduceCtorEq, ne_eq, not_false_eq_true, Nat.reduceAdd, Nat.reduceLT, Nat.zero_add, cond_false, beq_self_eq_true, bne_self_eq_false, eg, c1, evts_len, ewi]
        simp only [loopX_normal, St.trunc, St.keep, truncVs, truncV, keepV, List.elem_cons, List.elem_nil, List.take_zero, List.map_nil, Nat.reduceAdd, Nat.reduceBEq, Nat.zero_add, Bool.false_eq_true, ↓reduceIte]
        exact ⟨z + 1, hlt, by omega, rfl⟩
      · have e1 : (((L.length : Nat) : Int) == (if ((i : Nat) : Int) < ((rm : Nat) : Int) then ((i : Nat) : Int) else ((rm : Nat) : Int))) = true := by
          rw [hLl]; split <;> simp <;> omega
        have e2 : (decide (rm < i) == decide (((rm : Nat) : Int) < ((i : Nat) : Int))) = true := by
          have : decide (rm < i) = decide (((rm : Nat) : Int) < ((i : Nat) : Int)) := by rw [Bool.eq_iff_iff]; simp
          rw [this]; simp
        try simp (maxSteps := 1000000) only [go_region, go_seq, go_exit, go_ret, exitK_code, exitK_blk, exitK_nil, go_ops_nil, go_op, go_guard, opK_none, contK_some, condK_f, guardK_eq, guardV_tt, callOf, fstep, fpre, fstep0, fbinA, fbin, fbin0, flen, evs, fminmax, fpick, isBoolTy, T, St.ev, St.put, List.getD_cons_zero, List.getD_cons_succ, List.set, List.getElem?_cons_zero, List.getElem?_cons_succ, Option.bind_some, List.getElem?_toArray, true_and, Bool.true_and, ↓reduceIte, cond_true, cond_false, loopX_exit, evts_len, e1, e2]
        apply hK
        simp only [Try.results3, retK, ares, List.take_nil, Bool.and_true, Bool.true_and, AV.ofResults, St.trunc, truncVs, truncV, List.getD_cons_zero, List.getD_cons_succ, List.map_nil, true_and, and_true, List.cons.injEq, exists_eq_left']
    · try simp (maxSteps := 1000000) only [go_skip, go_region, go_seq, go_op, opK_none, opK_some, contK_some, condK_f, callOf, callK_eq, callJ_nil, callD_fn, fstep, fpre, fstep0, evs, St.ev, St.put, AV.owners, ownersAll, List.getD_cons_zero, List.getD_cons_succ, List.set, List.append_nil, true_and, Bool.true_and]
      generalize hL : (lostQ rm i).1 = L at *
      have hLl : L.length = min i rm := by rw [← hL]; exact lost_len rm i
      have hLa : ∀ z (h : z < L.length), L[z] = lostE z := by subst hL; exact fun z h => lost_at h
      refine callG_X (kp := kpF) (fun b hb => absurd hb (Nat.not_lt_zero b)) (Sym.ACallX.mono hD ?_)
      rintro _ _ ⟨rfl, rfl⟩
      try simp (maxSteps := 1000000) only [go_region, go_seq, go_block, go_loop, go_ops_nil, go_op, opK_none, contK_some, callOf, fstep, fpre, fstep0, St.ev, St.put, cutVs, cutV, bks, List.getD_cons_zero, List.getD_cons_succ, List.set, List.length_cons, List.length_nil, List.all_cons, List.all_nil, List.append_nil, true_and, Bool.true_and, Bool.and_self, Bool.or_false, ↓reduceIte, decide_true, decide_false, Nat.reduceAdd, Nat.reduceLeDiff, Nat.reduceLT, Nat.zero_add, kpF]
      refine loopK_rule tyOk (α := Nat) 0 [9, 10, 17, 18, 19] (fun z => z ≤ L.length)
        (fun z => ⟨[.any, .any, .any, .any, .any, .any, .any, .any, .any, i64 rm, i64 i, .any, .any, .any, .any, .any, .any, .sl 8 (evts L), bool (decide (rm < i)), i64 z, .any, .any, .any, .any, .any, .any, .any, .any, .any, .any, .any, .any, .any, .any, .any, .any, .any, .any, .any, .any, .any, .any, .any, .any, .any, .any, .any, .any, .any, .any, .any, .any, .any, .any, .any, .any, .any, .any, .any, .any, .any, .any, .any, .any, .any, .any, .any, .any, .any, .any, .any, .any, .any, .any, .any, .any, .any, .any, .any, .any, .any, .any, .any, .any, .any, .any, .any, .any, .any, .any, .any, .any, .any, .any, .any, .any, .any, .any, .any, .any, .any, .any, .any, .any, .any, .any, .any, .any, .any], []⟩)
        (fun z => L.length - z) 0 (Nat.zero_le _) (Nat.zero_le _) rfl ?_
      intro z hz
      try simp (maxSteps := 1000000) only [go_region, go_seq, go_cond, go_ops_nil, go_op, opK_none, contK_some, callOf, fstep, fpre, fstep0, fbinA, fbin, fbin0, flen, T, St.ev, St.put, List.getD_cons_zero, List.getD_cons_succ, List.set, true_and, Bool.true_and, evts_len]
      (first | refine guardV_split ?_ ?_ | refine condK_split ?_ ?_ | refine drawV_split ?_ ?_ | refine condY_split ?_ ?_ | refine guardY_split ?_ ?_) <;> intro h
      · have hlt : z < L.length := by have := of_decide_eq_true h; omega
        have eg : (evts L).getD (Int.toNat (z : Int)) .any = .agg [str annS, i64 0, i64 0, i64 0, i64 0, i64 0, i64 z, u64 z] := by
          have := at_map (f := Ev.av) hlt
          rw [hLa z hlt] at this
          exact this
        have ewi : IntKind.i64.wrap ((z : Int) + 1) = ((z + 1 : Nat) : Int) := by rw [wrap_i64 (by omega) (by omega)]; rfl
        have c1 : (0 : Int) ≤ (z : Int) ∧ Int.toNat (z : Int) < L.length := by omega
        have ci : (((z : Nat) : Int) != ((z : Nat) : Int)) = false := by simp
        have cs : (annS.toList != annS.toList) = false := by simp
        try simp (maxSteps := 1000000) only [go_nil, go_skip, go_region, go_seq, go_cond, go_block, go_blk, go_ops_nil, go_op, go_guard, opK_none, contK_some, condK_t, condK_f, guardK_eq, guardV_ff, callOf, fstep, fpre, fstep0, fbinA, fbin, fbin0, fload, fcell, ffieldAddr, findexAddr, fpick, T, TI.isAgg, St.ev, St.put, AV.cells, AV.known, List.getD_cons_zero, List.getD_cons_succ, List.set, List.length_cons, List.length_nil, List.drop_succ_cons, List.drop_zero, List.headD_cons, List.getElem?_cons_zero, List.getElem?_cons_succ, Option.bind_some, List.getElem?_toArray, true_and, and_true, Bool.and_true, Bool.true_and, Bool.not_true, Bool.false_eq_true, ↓reduceIte, reduceCtorEq, ne_eq, not_false_eq_true, Nat.reduceAdd, Nat.reduceLT, Nat.zero_add, cond_false, beq_self_eq_true, bne_self_eq_false, eg, c1, evts_len, ewi]
        simp only [loopX_normal, St.trunc, St.keep, truncVs, truncV, keepV, List.elem_cons, List.elem_nil, List.take_zero, List.map_nil, Nat.reduceAdd, Nat.reduceBEq, Nat.zero_add, Bool.false_eq_true, ↓reduceIte]
        exact ⟨z + 1, hlt, by omega, rfl⟩
      · have e1 : (((L.length : Nat) : Int) == (if ((i : Nat) : Int) < ((rm : Nat) : Int) then ((i : Nat) : Int) else ((rm : Nat) : Int))) = true := by
          rw [hLl]; split <;> simp <;> omega
        have e2 : (decide (rm < i) == decide (((rm : Nat) : Int) < ((i : Nat) : Int))) = true := by
          have : decide (rm < i) = decide (((rm : Nat) : Int) < ((i : Nat) : Int)) := by rw [Bool.eq_iff_iff]; simp
          rw [this]; simp
        try simp (maxSteps := 1000000) only [go_region, go_seq, go_exit, go_ret, exitK_code, exitK_blk, exitK_nil, go_ops_nil, go_op, go_guard, opK_none, contK_some, condK_f, guardK_eq, guardV_tt, callOf, fstep, fpre, fstep0, fbinA, fbin, fbin0, flen, evs, fminmax, fpick, isBoolTy, T, St.ev, St.put, List.getD_cons_zero, List.getD_cons_succ, List.set, List.getElem?_cons_zero, List.getElem?_cons_succ, Option.bind_some, List.getElem?_toArray, true_and, Bool.true_and, ↓reduceIte, cond_true, cond_false, loopX_exit, evts_len, e1, e2]
        apply hK
        simp only [Try.results3, retK, ares, List.take_nil, Bool.and_true, Bool.true_and, AV.ofResults, St.trunc, truncVs, truncV, List.getD_cons_zero, List.getD_cons_succ, List.map_nil, true_and, and_true, List.cons.injEq, exists_eq_left']
def shapesFeedLost : List (Bool × List Lf) := [(false, [.int .u8]), (false, [.int .u8]), (false, [.int .u8]), (false, [.int .u8])]
theorem shapesFeedLost_ok : argShapes T 6 [5, 5, 5, 5] = some shapesFeedLost := by kernel_rfl
theorem lit_u8' {n : Int} (h : (Lit.int .u8 n).wf = true) : 0 ≤ n ∧ n ≤ 255 := by
  simpa [Lit.wf, IntKind.min, IntKind.max, IntKind.signed, IntKind.bits] using h
theorem law_FeedLost (xs : List AV) (h : argsFit shapesFeedLost xs) : PCall P 3 xs (fun x => x = .v (.bool true)) := by
  obtain ⟨_, _, rfl, ⟨_, _, rfl, ⟨a, rfl, ha⟩, rfl⟩, _, _, rfl, ⟨_, _, rfl, ⟨b, rfl, hb⟩, rfl⟩, _, _, rfl, ⟨_, _, rfl, ⟨c, rfl, hc⟩, rfl⟩, _, _, rfl, ⟨_, _, rfl, ⟨d, rfl, hd⟩, rfl⟩, rfl⟩ := h
  exact law_lost a b c d (lit_u8' ha) (lit_u8' hb) (lit_u8' hc) (lit_u8' hd)
end Go.Proofs.Ytljgfapbbhbbpaa
namespace Go.Proofs.Ytljgfapbbhbbpaa.feedLost
open Go.ChangeShapes Go.WideShapes Go.ChangeAt Go.RowKit Go.Proofs.Ytljgfapbbhbbpaa.Sym
open Go.ChangeMaps (open_string shut_string)
set_option linter.unusedVariables false
theorem own : ownKnob Try.prog.godebug = none := by kernel_rfl
theorem laidOut : laidOutB Try.prog = true := by kernel_rfl
set_option maxRecDepth 100000 in
theorem lifted (os : Os) (started : os.Started) (H : Type) (enc : TypeId × Value → H) :
    ReturnsInHanded {} Try.checked os 3 .any (Rows.feedLostSpec.pre6 enc Try.prog Try.f3 Rows.feedLostRow.domain false) (Rows.feedLostSpec.post enc Try.prog Try.f3 false true false false) := by
  refine returnsInHanded_of_change_sized (C := Try.checked) own started (by kernel_rfl) Try.func3
    (ChangeSpec.witness6 (enc := enc) (C := Try.checked) false ⟨#[], #[.int .u8 0, .int .u8 0, .int .u8 0, .int .u8 0], []⟩ 8 (by kernel_rfl) (by kernel_rfl) (by kernel_rfl) (by kernel_rfl)) ?_
  intro W base args ds gs before hval0 hW hcnd hsz0 _
  have hval : ∀ (j : Nat) t v, Try.f3.params[j]? = some t → args[j]? = some v → Value.okWide Try.prog W .any base t v := hval0
  have hW' := hW
  obtain ⟨p, q, hA0, hV, rfl, hfz, hnd⟩ := hW
  have hA : DataW.TrodAll enc Try.prog W 0 (fun _ => true) true Try.f3.params.toList args.toList ds p := hA0
  have hval2 : ∀ (j : Nat) t v, Try.f3.params.toList[j]? = some t → args.toList[j]? = some v → Value.okWide Try.prog W .any base t v := fun j t v h1 h2 => hval j t v (by simpa using h1) (by simpa using h2)
  rw [Try.params3] at hA hval2
  obtain ⟨xs, hfit, hrel⟩ := open_args tyOk _ _ _ _ _ shapesFeedLost_ok hval2 hA
  obtain ⟨v0, vs0, d0, ds0, p0, q0, hargs, rfl, rfl, h0, r0⟩ := trodAll_cons hA
  obtain ⟨v1, vs1, d1, ds1, p1, q1, rfl, rfl, rfl, h1, r1⟩ := trodAll_cons r0
  obtain ⟨v2, vs2, d2, ds2, p2, q2, rfl, rfl, rfl, h2, r2⟩ := trodAll_cons r1
  obtain ⟨v3, vs3, d3, ds3, p3, q3, rfl, rfl, rfl, h3, r3⟩ := trodAll_cons r2
  obtain ⟨rfl, rfl, rfl⟩ := trodAll_nil r3
  obtain rfl : args = #[v0, v1, v2, v3] := by cases args; simp_all
  obtain ⟨rfl, rfl⟩ := trodVars_none hV
  have k0 := h0
  have lt0 : ∀ x ∈ p0, x.block < W.heap.size := by obtain ⟨m, hm⟩ := k0; exact DataW.trod_lt m _ _ _ hm
  have k1 := h1
  have lt1 : ∀ x ∈ p1, x.block < W.heap.size := by obtain ⟨m, hm⟩ := k1; exact DataW.trod_lt m _ _ _ hm
  have k2 := h2
  have lt2 : ∀ x ∈ p2, x.block < W.heap.size := by obtain ⟨m, hm⟩ := k2; exact DataW.trod_lt m _ _ _ hm
  have k3 := h3
  have lt3 : ∀ x ∈ p3, x.block < W.heap.size := by obtain ⟨m, hm⟩ := k3; exact DataW.trod_lt m _ _ _ hm
  clear hA0 hval0 hsz0 hval hval2
  refine (PCall.calls (law_FeedLost xs hfit) hrel (fun _ _ h => by cases h)).mono ?_
  rintro e W' ⟨y, x, rfl, rfl, hy, bel⟩
  obtain rfl := hy _ rfl
  exact ⟨_, rfl, _, _, _, [], _, [], hW', trodAll_mk1 (shut_bool Try.underlying4 _), (trodAll_cons_mk (Below.trod laidOut (by kernel_rfl) (of_decide_eq_true (by kernel_rfl)) k0 bel lt0) (trodAll_cons_mk (Below.trod laidOut (by kernel_rfl) (of_decide_eq_true (by kernel_rfl)) k1 bel lt1) (trodAll_cons_mk (Below.trod laidOut (by kernel_rfl) (of_decide_eq_true (by kernel_rfl)) k2 bel lt2) (trodAll_cons_mk (Below.trod laidOut (by kernel_rfl) (of_decide_eq_true (by kernel_rfl)) k3 bel lt3) trodAll_mk0)))), rfl, bel.frame _, fun h => by cases h⟩
theorem over : Rows.feedLostRow.holds Try.pinned (OpenSpec.ofChange Rows.feedLostSpec) :=
  OpenClaim.holds_of_wide 3 Try.f3 rfl rfl rfl rfl rfl rfl rfl ⟨rfl, rfl, rfl, rfl, rfl⟩ rfl rfl rfl rfl rfl (by kernel_rfl) Try.func3 (by kernel_rfl)
    (of_decide_eq_true (by kernel_rfl)) (by unfold Func.isWrapper; first | (rw [if_pos (by decide +kernel)]; kernel_rfl) | (rw [if_neg (by decide +kernel)]; exact ⟨rfl, rfl⟩))
    (fun os started H enc _ => lifted os started H enc)
theorem proved : Rows.FeedLostSaid := over
#print axioms proved
end Go.Proofs.Ytljgfapbbhbbpaa.feedLost
namespace Go.Proofs.Ytljgfapbbhbbpaa
/-- The row, under a short name, for the claim. -/
theorem feedLost_holds : Rows.FeedLostSaid := feedLost.proved
end Go.Proofs.Ytljgfapbbhbbpaa
