/- Feeds, plainly: masks, who watches whom, how many, what queues hold. -/
import Derived.Test.YtljgfapbbhbbpaaMe
namespace Go.Proofs.Ytljgfapbbhbbpaa
open Go Go.Proofs.Ytljgfapbbhbbpaa.Sym
set_option maxRecDepth 100000
set_option linter.unusedSimpArgs false
set_option linter.unusedVariables false

/-! ### Masks -/
theorem bits_set : ∀ m < 256, ∀ w < 8, (∀ k < 8, hasB (setB (m : Nat) (w : Nat)) (k : Nat) = (hasB (m : Nat) (k : Nat) || decide (k = w))) ∧ (0 ≤ setB (m : Nat) (w : Nat) ∧ setB (m : Nat) (w : Nat) < 256) := by decide +kernel
theorem bits_clr : ∀ m < 256, ∀ w < 8, (∀ k < 8, hasB (clrB (m : Nat) (w : Nat)) (k : Nat) = (hasB (m : Nat) (k : Nat) && decide (k ≠ w))) ∧ (0 ≤ clrB (m : Nat) (w : Nat) ∧ clrB (m : Nat) (w : Nat) < 256) := by decide +kernel
theorem bits_zero : ∀ k < 8, hasB 0 (k : Nat) = false := by decide +kernel
abbrev Msk := List (ByteArray × Int)
def mskOk (m : Msk) : Prop := rises_su m ∧ ∀ p ∈ m, 0 ≤ p.2 ∧ p.2 < 256
theorem mask_ok {m : Msk} (h : mskOk m) (u : ByteArray) : 0 ≤ maskOf m u ∧ maskOf m u < 256 := by
  by_cases hk : u ∈ m.map Prod.fst
  · obtain ⟨⟨u', v⟩, hp, rfl⟩ := List.mem_map.1 hk
    rw [maskOf, get_mem ordS eqS_iff h.1 hp]
    exact h.2 _ hp
  · rw [maskOf, get_none ordS eqS_iff h.1 hk]
    exact ⟨Int.le_refl _, by decide⟩
theorem mask_mem {m : Msk} (h : mskOk m) {p : ByteArray × Int} (hp : p ∈ m) : maskOf m p.1 = p.2 := by
  rw [maskOf, get_mem ordS eqS_iff h.1 (k := p.1) (v := p.2) hp]
theorem mask_not {m : Msk} (h : mskOk m) {u : ByteArray} (hk : u ∉ m.map Prod.fst) : maskOf m u = 0 := by
  rw [maskOf, get_none ordS eqS_iff h.1 hk]
theorem msk_with {m : Msk} (h : mskOk m) (u : ByteArray) {v : Int} (hv : 0 ≤ v ∧ v < 256) : mskOk (withG ltS eqS m u v) := by
  refine ⟨with_rises ordS eqS_iff h.1 u v, fun p hp => ?_⟩
  rcases (mem_with ordS eqS_iff h.1).1 hp with rfl | ⟨hp, _⟩
  · exact hv
  · exact h.2 p hp
theorem msk_without {m : Msk} (h : mskOk m) (u : ByteArray) : mskOk (withoutG ltS eqS m u) := by
  refine ⟨without_rises ordS eqS_iff h.1 u, fun p hp => ?_⟩
  rw [without_eq ordS eqS_iff h.1] at hp
  exact h.2 p (List.mem_filter.1 hp).1
theorem mask_with {m : Msk} (h : mskOk m) (u : ByteArray) {v : Int} (hv : 0 ≤ v ∧ v < 256) (u' : ByteArray) : maskOf (withG ltS eqS m u v) u' = if u' = u then v else maskOf m u' := by
  have h' := msk_with h u hv
  by_cases e : u' = u
  · subst e
    rw [if_pos rfl]
    exact mask_mem (p := (u', v)) h' ((mem_with ordS eqS_iff h.1).2 (.inl rfl))
  · rw [if_neg e]
    by_cases hk : u' ∈ m.map Prod.fst
    · obtain ⟨p, hp, rfl⟩ := List.mem_map.1 hk
      rw [mask_mem h hp, mask_mem h' ((mem_with ordS eqS_iff h.1).2 (.inr ⟨hp, e⟩))]
    · rw [mask_not h hk, mask_not h']
      intro hc
      obtain ⟨p, hp, rfl⟩ := List.mem_map.1 hc
      rcases (mem_with ordS eqS_iff h.1).1 hp with rfl | ⟨hp, _⟩
      · exact e rfl
      · exact hk (List.mem_map.2 ⟨p, hp, rfl⟩)
theorem mask_without {m : Msk} (h : mskOk m) (u : ByteArray) (u' : ByteArray) : maskOf (withoutG ltS eqS m u) u' = if u' = u then 0 else maskOf m u' := by
  have h' := msk_without h u
  have he := without_eq ordS eqS_iff h.1 u
  by_cases e : u' = u
  · subst e
    rw [if_pos rfl, mask_not h']
    intro hc
    obtain ⟨p, hp, hpu⟩ := List.mem_map.1 hc
    rw [he] at hp
    have := (List.mem_filter.1 hp).2
    rw [hpu, (eqS_iff _ _).2 rfl] at this
    cases this
  · rw [if_neg e]
    by_cases hk : u' ∈ m.map Prod.fst
    · obtain ⟨p, hp, rfl⟩ := List.mem_map.1 hk
      rw [mask_mem h hp, mask_mem h']
      rw [he]
      refine List.mem_filter.2 ⟨hp, ?_⟩
      cases hc : eqS p.1 u with
      | false => rfl
      | true => exact absurd ((eqS_iff _ _).1 hc) e
    · rw [mask_not h hk, mask_not h']
      intro hc
      obtain ⟨p, hp, rfl⟩ := List.mem_map.1 hc
      rw [he] at hp
      exact hk (List.mem_map.2 ⟨p, (List.mem_filter.1 hp).1, rfl⟩)
theorem to_nat {v : Int} (h : 0 ≤ v ∧ v < 256) : ∃ n : Nat, n < 256 ∧ v = n := ⟨v.toNat, by omega, by omega⟩

theorem watch_ok {m : Msk} (h : mskOk m) (who : Int) (u : ByteArray) : mskOk (watchM m who u) := by
  unfold watchM
  split
  · rename_i hc
    obtain ⟨w, hw, rfl⟩ := cli_iff hc
    obtain ⟨n, hn, hm⟩ := to_nat (mask_ok h u)
    rw [hm]
    exact msk_with h u (bits_set n hn w hw).2
  · exact h
theorem watch_len (m : Msk) (who : Int) (u : ByteArray) : (watchM m who u).length ≤ m.length + 1 := by
  unfold watchM
  split
  · exact with_len _ _ _
  · omega
theorem unwatch_ok {m : Msk} (h : mskOk m) (who : Int) (u : ByteArray) : mskOk (unwatchM m who u) := by
  unfold unwatchM
  split
  · rename_i hc
    obtain ⟨w, hw, rfl⟩ := cli_iff hc
    obtain ⟨n, hn, hm⟩ := to_nat (mask_ok h u)
    split
    · exact h
    · split
      · exact msk_without h u
      · rw [hm]
        exact msk_with h u (bits_clr n hn w hw).2
  · exact h
theorem unwatch_len (m : Msk) (who : Int) (u : ByteArray) : (unwatchM m who u).length ≤ m.length + 1 := by
  unfold unwatchM
  split
  · split
    · omega
    · split
      · exact Nat.le_trans (without_len _ _) (Nat.le_succ _)
      · exact with_len _ _ _
  · omega
/-- Who watches, behind a Watch and an Unwatch. -/
theorem wat_watch {m : Msk} (h : mskOk m) (who : Int) (u : ByteArray) (who' : Int) (u' : ByteArray) : watF (watchM m who u) who' u' = (watF m who' u' || (cli who && (decide (who' = who) && decide (u' = u)))) := by
  unfold watF
  cases hc' : cli who' with
  | false =>
    simp only [Bool.false_and, Bool.false_or]
    cases hc : cli who with
    | false => simp
    | true =>
      have : who' ≠ who := by intro e; rw [e, hc] at hc'; cases hc'
      simp [this]
  | true =>
    simp only [Bool.true_and]
    cases hc : cli who with
    | false => rw [watchM, if_neg (by rw [hc]; decide)]; simp
    | true =>
      rw [watchM, if_pos hc]
      obtain ⟨w, hw, rfl⟩ := cli_iff hc
      obtain ⟨k, hk, rfl⟩ := cli_iff hc'
      obtain ⟨n, hn, hm⟩ := to_nat (mask_ok h u)
      obtain ⟨b1, b2⟩ := bits_set n hn w hw
      have e2 : decide ((k : Int) = (w : Int)) = decide (k = w) := by rw [Bool.eq_iff_iff]; simp; omega
      rw [hm, mask_with h u b2, Bool.true_and, e2]
      by_cases e : u' = u
      · subst e
        rw [if_pos rfl, b1 k hk, hm]; simp
      · rw [if_neg e]; simp [e]
theorem wat_unwatch {m : Msk} (h : mskOk m) (who : Int) (u : ByteArray) (who' : Int) (u' : ByteArray) : watF (unwatchM m who u) who' u' = (watF m who' u' && !(decide (who' = who) && decide (u' = u))) := by
  unfold watF
  cases hc' : cli who' with
  | false => simp
  | true =>
    simp only [Bool.true_and]
    cases hc : cli who with
    | false =>
      rw [unwatchM, if_neg (by rw [hc]; decide)]
      have : who' ≠ who := by intro e; rw [e, hc] at hc'; cases hc'
      simp [this]
    | true =>
      rw [unwatchM, if_pos hc]
      obtain ⟨w, hw, rfl⟩ := cli_iff hc
      obtain ⟨k, hk, rfl⟩ := cli_iff hc'
      obtain ⟨n, hn, hm⟩ := to_nat (mask_ok h u)
      obtain ⟨b1, b2⟩ := bits_clr n hn w hw
      have e2 : decide ((k : Int) = (w : Int)) = decide (k = w) := by rw [Bool.eq_iff_iff]; simp; omega
      rw [e2]
      split
      · rename_i hz
        have hz : maskOf m u = 0 := by simpa using hz
        by_cases e : u' = u
        · subst e
          rw [hz, bits_zero k hk]; simp
        · simp [e]
      · split
        · rename_i hz
          have hz : clrB (maskOf m u) w = 0 := by simpa using hz
          rw [mask_without h u]
          by_cases e : u' = u
          · subst e
            have h1 := b1 k hk
            rw [← hm, hz, bits_zero k hk] at h1
            rw [if_pos rfl, bits_zero k hk, h1]
            simp
          · rw [if_neg e]; simp [e]
        · rw [hm, mask_with h u b2]
          by_cases e : u' = u
          · subst e
            rw [if_pos rfl, b1 k hk, hm]; simp
          · rw [if_neg e]; simp [e]
theorem wat_nil (who : Int) (u : ByteArray) : watF [] who u = false := by
  unfold watF
  cases hc : cli who with
  | false => rfl
  | true =>
    obtain ⟨k, hk, rfl⟩ := cli_iff hc
    have : maskOf [] u = 0 := mask_not (m := []) ⟨List.Pairwise.nil, fun p hp => by cases hp⟩ (by simp)
    rw [this, bits_zero k hk]; rfl
theorem msk_nil : mskOk [] := ⟨List.Pairwise.nil, fun p hp => by cases hp⟩

/-! ### How many -/
theorem nodup_le {α : Type} [DecidableEq α] : ∀ {a b : List α}, a.Nodup → (∀ x ∈ a, x ∈ b) → a.length ≤ b.length
  | [], _, _, _ => Nat.zero_le _
  | x :: a, b, hnd, hs => by
    have hx := hs x List.mem_cons_self
    obtain ⟨h1, h2⟩ := List.nodup_cons.1 hnd
    have hle : a.length ≤ (b.erase x).length := nodup_le h2 fun y hy => (List.mem_erase_of_ne (by rintro rfl; exact h1 hy)).2 (hs y (List.mem_cons_of_mem _ hy))
    have hpos : 0 < b.length := List.length_pos_of_mem hx
    rw [List.length_erase_of_mem hx] at hle
    simp only [List.length_cons]
    omega
theorem nodup_len {α : Type} [DecidableEq α] {a b : List α} (ha : a.Nodup) (hb : b.Nodup) (h : ∀ x, x ∈ a ↔ x ∈ b) : a.length = b.length :=
  Nat.le_antisymm (nodup_le ha fun x hx => (h x).1 hx) (nodup_le hb fun x hx => (h x).2 hx)
theorem cnt_eq {m : Msk} (h : mskOk m) (who : Int) {L : List ByteArray} (hnd : L.Nodup) (hL : ∀ u, u ∈ L ↔ watF m who u = true) : cntM m who = L.length := by
  have hk : (m.map Prod.fst).Nodup := by
    refine List.Pairwise.imp ?_ h.1
    intro a b hab e
    subst e
    rw [ordS.irrefl] at hab
    cases hab
  have e1 : cntM m who = ((m.filter fun p => cli who && hasB p.2 who).map Prod.fst).length := by rw [List.length_map]; rfl
  rw [e1]
  refine nodup_len (List.Nodup.sublist (List.Sublist.map _ List.filter_sublist) hk) hnd fun u => ?_
  rw [hL u, List.mem_map]
  constructor
  · rintro ⟨p, hp, rfl⟩
    obtain ⟨h1, h2⟩ := List.mem_filter.1 hp
    rw [watF, mask_mem h h1]; exact h2
  · intro hw
    by_cases hm : u ∈ m.map Prod.fst
    · obtain ⟨p, hp, rfl⟩ := List.mem_map.1 hm
      rw [watF, mask_mem h hp] at hw
      exact ⟨p, List.mem_filter.2 ⟨hp, hw⟩, rfl⟩
    · exfalso
      rw [watF, mask_not h hm] at hw
      cases hc : cli who with
      | false => rw [hc] at hw; cases hw
      | true =>
        obtain ⟨k, hk, rfl⟩ := cli_iff hc
        rw [bits_zero k hk, Bool.and_false] at hw; cases hw

/-! ### Queues -/
theorem tell1_q (F : Fd) (c : Chg) (seq : Int) {k : Nat} (hk : k < 8) : (tell1 F c seq 8).q k = if watF F.m k c.u = true then putR F.room (F.q k) ⟨c.u, c.old, c.new, seq⟩ else F.q k := by
  unfold tell1
  simp [hk]
theorem tell1_qy {F : Fd} {c : Chg} {seq : Int} {k : Nat} (hk : k < 8) (h : watF F.m k c.u = true) : (tell1 F c seq 8).q k = putR F.room (F.q k) ⟨c.u, c.old, c.new, seq⟩ := by
  rw [tell1_q F c seq hk, if_pos h]
theorem tell1_qn {F : Fd} {c : Chg} {seq : Int} {k : Nat} (hk : k < 8) (h : watF F.m k c.u = false) : (tell1 F c seq 8).q k = F.q k := by
  rw [tell1_q F c seq hk, if_neg (by rw [h]; decide)]
theorem tell_one (F : Fd) (c : Chg) (seq : Int) : tellF F [c] seq = tell1 F c seq 8 := rfl
end Go.Proofs.Ytljgfapbbhbbpaa
namespace Go.Proofs.Ytljgfapbbhbbpaa
open Go Go.Proofs.Ytljgfapbbhbbpaa.Sym
set_option maxRecDepth 100000
set_option linter.unusedSimpArgs false
set_option linter.unusedVariables false

theorem feed_preX {g : FuncId} {args0 : List AV} {K0 K : AV → List AB → Prop} (F : Fd) (r : List AB) (h : ACallX P (fun b => decide (b < 9)) g (feedM F) args0 K0) (ha : args0 = renAll ids17 args0) (hb : (bksAll args0).all (fun b => decide (b < 17)) = true)
    (hr : outOk (kpOf (fun b => decide (b < 9)) ids17 0) ids17 17 r = true)
    (hK : ∀ x m', K0 x m' → ∃ F', m' = feedM F' ∧ K (ren ids17 x) (feedM F' ++ r)) : ACallX P kpF g (feedM F ++ r) args0 K := by
  refine ACallX.keeps (kp := kpOf (fun b => decide (b < 9)) ids17 0) ?_ ?_
  · refine h.frame ids17 (by decide) (by rw [fm_ren]; exact fm_at F r) ha hb (by rfl) ?_ (fun x m' hx => ?_)
    · have e : outOk (kpOf (fun b => decide (b < 9)) ids17 0) ids17 0 (feedM F ++ r) = outOk (kpOf (fun b => decide (b < 9)) ids17 0) ids17 17 r := rfl
      rw [e]; exact hr
    · obtain ⟨F', rfl, hv⟩ := hK x m' hx
      exact ⟨rfl, by rw [fm_ren, fm_put]; exact hv⟩
  · intro b _ hb
    have hb : b < 9 ∨ 17 ≤ b := by simpa [kpF] using hb
    rcases hb with hb | hb
    · have c : b = 0 ∨ b = 1 ∨ b = 2 ∨ b = 3 ∨ b = 4 ∨ b = 5 ∨ b = 6 ∨ b = 7 ∨ b = 8 := by omega
      rcases c with rfl | rfl | rfl | rfl | rfl | rfl | rfl | rfl | rfl <;> rfl
    · exact kpOf_out (by simp; omega)
theorem Watch_at (F : Fd) (r : List AB) (who : Int) (u : ByteArray) (hr : rises_su F.m) (hl : F.m.length ≤ 1000) : ACall P 17 (feedM F ++ r) [.ptr 0 0, i64 who, str u]
    (fun x m' => m' = feedM { F with m := watchM F.m who u } ++ r) := by
  refine feed_pre F r (feed_Watch F who u hr hl) rfl rfl ?_
  rintro x m' rfl
  exact ⟨_, rfl, rfl⟩
theorem Unwatch_at (F : Fd) (r : List AB) (who : Int) (u : ByteArray) (hr : rises_su F.m) (hl : F.m.length ≤ 1000) : ACall P 25 (feedM F ++ r) [.ptr 0 0, i64 who, str u]
    (fun x m' => m' = feedM { F with m := unwatchM F.m who u } ++ r) := by
  refine feed_pre F r (feed_Unwatch F who u hr hl) rfl rfl ?_
  rintro x m' rfl
  exact ⟨_, rfl, rfl⟩
theorem Count_at (F : Fd) (r : List AB) (who : Int) (hl : F.m.length ≤ 1000) : ACall P 31 (feedM F ++ r) [.ptr 0 0, i64 who]
    (fun x m' => x = i64 (cntM F.m who : Nat) ∧ m' = feedM F ++ r) := by
  refine feed_pre F r (feed_Count F who hl) rfl rfl ?_
  rintro x m' ⟨rfl, rfl⟩
  exact ⟨F, rfl, rfl, rfl⟩
theorem chgs_ren (bs : List Nat) (l : List Chg) : renAll bs (chgs l) = chgs l := by
  induction l with
  | nil => rfl
  | cons c l ih => rw [chgs, List.map_cons, renAll, ← chgs, ih]; rfl
theorem evts_ren (bs : List Nat) (l : List Ev) : renAll bs (evts l) = evts l := by
  induction l with
  | nil => rfl
  | cons c l ih => rw [evts, List.map_cons, renAll, ← evts, ih]; rfl
theorem Tell_at (F : Fd) (r : List AB) (l : List Chg) (seq : Int) (hr : rises_su F.m) (hl : F.m.length ≤ 1000) (hll : l.length ≤ 50000) (hq : ∀ k, (F.q k).1.length ≤ 50000)
    (ho : outOk (kpOf (fun b => decide (b < 9)) ids17 0) ids17 17 r = true) : ACallX P kpF 18 (feedM F ++ r) [.ptr 0 0, .sl 7 (chgs l), u64 seq]
    (fun x m' => m' = feedM (tellF F l seq) ++ r) := by
  refine feed_preX F r (feed_Tell F l seq hr hl hll hq).toX rfl rfl ho ?_
  rintro x m' rfl
  exact ⟨_, rfl, rfl⟩
theorem Drain_at (F : Fd) (r : List AB) (who : Int) (hq : ∀ k, (F.q k).1.length ≤ 100000)
    (ho : outOk (kpOf (fun b => decide (b < 9)) ids17 0) ids17 17 r = true) : ACallX P kpF 19 (feedM F ++ r) [.ptr 0 0, i64 who]
    (fun x m' => x = .tup [if cli who = true then .sl 8 (evts (drainL F who)) else .v (.slice none 0 0), bool (drainB F who)] ∧ m' = feedM (F.drain who) ++ r) := by
  refine feed_preX F r (feed_Drain F who hq) rfl rfl ho ?_
  rintro x m' ⟨rfl, rfl⟩
  refine ⟨_, rfl, ?_, rfl⟩
  split <;> rfl

/-! ### The document's example -/
abbrev annS : ByteArray := ⟨#[97, 110, 110]⟩
def annF : Fd := ⟨[], 1, fun _ => ([], false)⟩
def annW : Fd := { annF with m := watchM [] 2 annS }
def annL : List Chg := [⟨annS, ⟨0, 0, 0⟩, ⟨0, 0, 1⟩⟩, ⟨annS, ⟨0, 0, 1⟩, ⟨0, 0, 0⟩⟩]
theorem ann_ok : mskOk annW.m := watch_ok msk_nil 2 annS
theorem ann_len : annW.m.length ≤ 1 := watch_len [] 2 annS
theorem ann_wat : watF annW.m 2 annS = true := by
  show watF (watchM [] 2 annS) 2 annS = true
  rw [wat_watch msk_nil, wat_nil]; rfl
theorem ann_q : (tellF annW annL 7).q 2 = ([⟨annS, ⟨0, 0, 0⟩, ⟨0, 0, 1⟩, 7⟩], true) := by
  have h1 := tell1_qy (F := annW) (c := ⟨annS, ⟨0, 0, 0⟩, ⟨0, 0, 1⟩⟩) (seq := 7) (show 2 < 8 by decide) ann_wat
  have h2 := tell1_qy (F := tell1 annW ⟨annS, ⟨0, 0, 0⟩, ⟨0, 0, 1⟩⟩ 7 8) (c := ⟨annS, ⟨0, 0, 1⟩, ⟨0, 0, 0⟩⟩) (seq := 7) (show 2 < 8 by decide) ann_wat
  rw [h1] at h2
  exact h2
theorem ann_cnt : cntM annW.m 2 = 1 := by
  refine cnt_eq ann_ok 2 (L := [annS]) (by simp) fun u => ?_
  show _ ↔ watF (watchM [] 2 annS) 2 u = true
  rw [wat_watch msk_nil, wat_nil]
  have : cli 2 = true := rfl
  rw [this]
  simp
theorem law09_awake : PCall P 15 [] (fun x => x = bool true) := by
  refine pcall_go tyOk Try.func15 rfl rfl ?_
  intro K hK
  simp only [Try.ntmps15, List.length_nil, Nat.reduceSub, List.replicate, List.nil_append]
  have hnew : ACall P 16 [] [i64 1] (fun x m' => x = .ptr 0 0 ∧ m' = feedM annF ++ []) := feed_New 1
  try simp (maxSteps := 1000000) only [go_region, go_seq, go_ops_nil, go_op, opK_none, opK_some, contK_some, callOf, callK_eq, callJ_nil, callD_fn, fstep, fpre, fstep0, evs, St.ev, St.put, AV.owners, ownersAll, List.set, List.append_nil, true_and, Bool.true_and]
  refine callG_A (Sym.ACall.mono hnew ?_)
  rintro _ _ ⟨rfl, rfl⟩
  try simp (maxSteps := 1000000) only [go_skip, go_region, go_seq, go_cond, go_ops_nil, go_op, opK_none, opK_some, contK_some, condK_f, callOf, callK_eq, callJ_nil, callD_fn, fstep, fpre, fstep0, fbinA, gbin, gnil, isPtrTy, fbin, fbin0, evs, T, St.ev, St.put, AV.owners, ownersAll, List.getD_cons_zero, List.getD_cons_succ, List.set, List.append_nil, true_and, Bool.true_and]
  have hw : ACall P 17 (feedM annF) [.ptr 0 0, i64 2, str annS] (fun x m' => m' = feedM annW) := feed_Watch annF 2 annS msk_nil.1 (by decide)
  refine callG_A (Sym.ACall.mono hw ?_)
  rintro _ _ rfl
  try simp (maxSteps := 1000000) only [go_region, go_seq, go_ops_nil, go_op, opK_none, opK_some, contK_some, callOf, callK_eq, callJ_cons, fstep, fpre, fstep0, ffill, fieldPlaces, fieldsOk, fbuild, evParts, evOwners, fbuildSlice, evs, T, TI.isAgg, TI.zeroOk, TI.zav, setParts, partsOk, St.ev, St.put, St.shutAll, splice, AV.cells, AV.known, AV.flat, AV.pure, pureAll, AV.owners, ownersAll, Value.cells, Value.oneCell', List.getD_cons_zero, List.getD_cons_succ, List.set, List.map_cons, List.map_nil, List.length_cons, List.length_nil, List.all_cons, List.all_nil, List.drop_succ_cons, List.drop_zero, List.take_succ_cons, List.take_zero, List.cons_append, List.nil_append, List.append_nil, List.getElem?_cons_zero, List.getElem?_cons_succ, List.replicate, Option.isSome_some, List.getElem?_toArray, true_and, and_true, Bool.and_true, Bool.true_and, Bool.and_self, Bool.or_false, ↓reduceIte, decide_true, decide_false, Nat.reduceAdd, Nat.reduceMul, Nat.reduceLeDiff, Nat.reduceEqDiff, Nat.reduceLT, Nat.zero_le, Nat.le_refl, Nat.zero_add, fm_len]
  refine callO_shut ?_
  try simp (maxSteps := 1000000) only [callH_fn, evs, St.ev, St.shutAll, St.shut, shutV, shutVs, AB.shut, List.getD_cons_zero, List.getD_cons_succ, List.set, List.map_cons, List.map_nil, List.length_cons, List.length_nil, List.all_cons, List.all_nil, List.drop_zero, List.take_succ_cons, List.take_zero, List.append_nil, List.getElem?_cons_zero, true_and, and_true, Bool.and_true, Bool.true_and, Bool.and_self, ↓reduceIte, decide_true, reduceCtorEq, Nat.reduceAdd, Nat.zero_le, Nat.le_refl, Nat.zero_add, fm_17, fm_s17, fm_shut]
  have ht := Tell_at annW [.gone] annL 7 ann_ok.1 (by have := ann_len; omega) (by decide) (fun k => Nat.zero_le _) (by rfl)
  refine callG_X (kp := kpF) (fun b hb => absurd hb (Nat.not_lt_zero b)) (Sym.ACallX.mono ht ?_)
  rintro _ _ rfl
  try simp (maxSteps := 1000000) only [go_region, go_seq, go_ops_nil, go_op, opK_none, opK_some, contK_some, callOf, callK_eq, callJ_nil, callD_fn, fstep, fpre, fstep0, evs, St.ev, St.put, AV.owners, ownersAll, cutVs, cutV, bks, bksAll, List.getD_cons_zero, List.getD_cons_succ, List.set, List.all_cons, List.all_nil, List.append_nil, true_and, Bool.true_and, Bool.and_self, Bool.or_false, ↓reduceIte, decide_true, decide_false, Nat.reduceLeDiff, Nat.reduceLT, kpF]
  have hq : ∀ k, ((tellF annW annL 7).q k).1.length ≤ 100000 := fun k => by
    have h := (tellF_ok annW annL 7).2.2 k
    exact Nat.le_trans h (show 0 + 2 ≤ 100000 by decide)
  refine callG_X (kp := kpF) (fun b hb => absurd hb (Nat.not_lt_zero b)) (Sym.ACallX.mono (Drain_at (tellF annW annL 7) [.gone] 2 hq rfl) ?_)
  rintro _ _ ⟨rfl, rfl⟩
  rw [show (if cli 2 = true then AV.sl 8 (evts (drainL (tellF annW annL 7) 2)) else .v (.slice none 0 0)) = .sl 8 [.agg [str annS, i64 0, i64 0, i64 0, i64 0, i64 0, i64 1, u64 7]] by
    rw [if_pos (show cli 2 = true from rfl), drainL, if_pos (show cli 2 = true from rfl)]
    show AV.sl 8 (evts ((tellF annW annL 7).q 2).1) = _
    rw [ann_q]; rfl, show drainB (tellF annW annL 7) 2 = true by
    rw [drainB, if_pos (show cli 2 = true from rfl)]
    show ((tellF annW annL 7).q 2).2 = true
    rw [ann_q]]
  have c0 : (((0 : Nat) : Int) == 0) = true := by decide
  have c1 : (((1 : Nat) : Int) == 1) = true := by decide
  have c2 : ((1 : Int) == 1) = true := by decide
  have c7 : ((7 : Int) == 7) = true := by decide
  have g0 : ∀ x : AV, [x].getD (Int.toNat 0) .any = x := fun x => rfl
  have l0 : Int.toNat 0 < 1 := by decide
  have hc : ACall P 31 (feedM ((tellF annW annL 7).drain 2) ++ [.gone]) [.ptr 0 0, i64 2] (fun x m' => x = i64 ((1 : Nat) : Int) ∧ m' = feedM ((tellF annW annL 7).drain 2) ++ [.gone]) := by
    have h := Count_at ((tellF annW annL 7).drain 2) [.gone] 2 (show annW.m.length ≤ 1000 by have := ann_len; omega)
    rw [show cntM ((tellF annW annL 7).drain 2).m 2 = 1 from ann_cnt] at h
    exact h
  try simp (maxSteps := 1000000) only [go_region, go_seq, go_ops_nil, go_op, go_guard, opK_none, opK_some, contK_some, guardK_eq, guardV_tt, callOf, callK_eq, callJ_nil, callD_fn, fstep, fpre, fstep0, fbinA, fbin, fbin0, fload, fcell, ffieldAddr, findexAddr, flen, evs, fpick, T, TI.isAgg, St.ev, St.put, AV.cells, AV.known, AV.owners, ownersAll, cutVs, cutV, bks, bksAll, List.getD_cons_zero, List.getD_cons_succ, List.set, List.length_cons, List.length_nil, List.all_cons, List.all_nil, List.drop_succ_cons, List.drop_zero, List.headD_cons, List.append_nil, List.getElem?_cons_zero, List.getElem?_cons_succ, Option.bind_some, List.getElem?_toArray, true_and, and_true, Bool.and_true, Bool.true_and, Bool.and_self, Bool.or_false, Bool.false_eq_true, ↓reduceIte, decide_true, decide_false, reduceCtorEq, ne_eq, not_false_eq_true, Nat.reduceAdd, Nat.reduceLeDiff, Nat.reduceLT, Nat.zero_add, cond_true, Int.reduceLE, beq_self_eq_true, kpF, c1, g0, l0]
  refine callG_A (Sym.ACall.mono hc ?_)
  rintro _ _ ⟨rfl, rfl⟩
  try simp (maxSteps := 1000000) only [go_ret, go_ops_nil, go_op, go_guard, opK_none, contK_some, guardK_eq, guardV_tt, callOf, fstep, fpre, fstep0, fbinA, fbin, fbin0, fpick, St.ev, St.put, List.getD_cons_zero, List.getD_cons_succ, List.set, List.getElem?_cons_zero, List.getElem?_cons_succ, Option.bind_some, List.getElem?_toArray, true_and, Bool.true_and, cond_true, c1]
  apply hK
  simp only [Try.results15, retK, ares, Bool.and_true, Bool.true_and, AV.ofResults, St.trunc, truncVs, truncV, List.getD_cons_zero, List.take_zero, List.map_nil, true_and, and_true, List.cons.injEq, exists_eq_left']
end Go.Proofs.Ytljgfapbbhbbpaa
namespace Go.Proofs.Ytljgfapbbhbbpaa
open Go Go.Proofs.Ytljgfapbbhbbpaa.Sym
set_option maxRecDepth 100000
set_option linter.unusedSimpArgs false
set_option linter.unusedVariables false

abbrev Rws := List (List Ev)
def upStep (R : Rws) (best : Option Nat) (i : Nat) : Option Nat :=
  match R.getD i [], best with
  | [], _ => best
  | _ :: _, none => some i
  | e :: _, some b => match R.getD b [] with
    | [] => some i
    | f :: _ => if e.seq < f.seq then some i else some b
def dnStep (R : Rws) (best : Option Nat) (i : Nat) : Option Nat :=
  match R.getD i [], best with
  | [], _ => best
  | _ :: _, none => some i
  | e :: _, some b => match R.getD b [] with
    | [] => some i
    | f :: _ => if e.seq ≤ f.seq then some i else some b
theorem upStep_nil {R : Rws} {o : Option Nat} {i : Nat} (h : R.getD i [] = []) : upStep R o i = o := by
  unfold upStep; rw [h]
theorem upStep_none {R : Rws} {i : Nat} {e : Ev} {t : List Ev} (h : R.getD i [] = e :: t) : upStep R none i = some i := by
  unfold upStep; rw [h]
theorem upStep_some {R : Rws} {i b : Nat} {e f : Ev} {t u : List Ev} (h : R.getD i [] = e :: t) (h2 : R.getD b [] = f :: u) : upStep R (some b) i = if e.seq < f.seq then some i else some b := by
  unfold upStep; rw [h]; simp only [h2]
theorem dnStep_nil {R : Rws} {o : Option Nat} {i : Nat} (h : R.getD i [] = []) : dnStep R o i = o := by
  unfold dnStep; rw [h]
theorem dnStep_none {R : Rws} {i : Nat} {e : Ev} {t : List Ev} (h : R.getD i [] = e :: t) : dnStep R none i = some i := by
  unfold dnStep; rw [h]
theorem dnStep_some {R : Rws} {i b : Nat} {e f : Ev} {t u : List Ev} (h : R.getD i [] = e :: t) (h2 : R.getD b [] = f :: u) : dnStep R (some b) i = if e.seq ≤ f.seq then some i else some b := by
  unfold dnStep; rw [h]; simp only [h2]
def up (R : Rws) : Nat → Option Nat
  | 0 => none
  | n + 1 => upStep R (up R n) n
/-- Of the last k ones. -/
def dn (R : Rws) : Nat → Option Nat
  | 0 => none
  | k + 1 => dnStep R (dn R k) (R.length - 1 - k)
def Best (R : Rws) (S : Nat → Prop) : Option Nat → Prop
  | none => ∀ i, S i → R.getD i [] = []
  | some b => S b ∧ ∃ e t, R.getD b [] = e :: t ∧ ∀ i, S i → ∀ f u, R.getD i [] = f :: u → e.seq < f.seq ∨ (e.seq = f.seq ∧ b ≤ i)
theorem best_unique' {R : Rws} {S : Nat → Prop} {o o' : Option Nat} (h : Best R S o) (h' : Best R S o') : o = o' := by
  cases o with
  | none =>
    cases o' with
    | none => rfl
    | some b =>
      obtain ⟨h1, e, t, h2, _⟩ := h'
      rw [h b h1] at h2; cases h2
  | some b =>
    obtain ⟨h1, e, t, h2, h3⟩ := h
    cases o' with
    | none => rw [h' b h1] at h2; cases h2
    | some b' =>
      obtain ⟨k1, e', t', k2, k3⟩ := h'
      have a1 := h3 b' k1 e' t' k2
      have a2 := k3 b h1 e t h2
      congr 1
      omega
theorem up_best (R : Rws) : ∀ n, Best R (fun i => i < n) (up R n)
  | 0 => fun i hi => absurd hi (Nat.not_lt_zero i)
  | n + 1 => by
    have ih := up_best R n
    rw [up]
    generalize up R n = o at ih
    cases hR : R.getD n [] with
    | nil =>
      rw [upStep_nil hR]
      cases o with
      | none =>
        intro i hi
        rcases Nat.lt_succ_iff_lt_or_eq.1 hi with h | rfl
        · exact ih i h
        · exact hR
      | some b =>
        obtain ⟨h1, e, t, h2, h3⟩ := ih
        refine ⟨Nat.lt_succ_of_lt h1, e, t, h2, fun i hi f u hf => ?_⟩
        rcases Nat.lt_succ_iff_lt_or_eq.1 hi with h | rfl
        · exact h3 i h f u hf
        · rw [hR] at hf; cases hf
    | cons e t =>
      cases o with
      | none =>
        rw [upStep_none hR]
        refine ⟨Nat.lt_succ_self n, e, t, hR, fun i hi f u hf => ?_⟩
        rcases Nat.lt_succ_iff_lt_or_eq.1 hi with h | rfl
        · rw [ih i h] at hf; cases hf
        · rw [hR] at hf; cases hf; exact .inr ⟨rfl, Nat.le_refl _⟩
      | some b =>
        obtain ⟨h1, f, u, h2, h3⟩ := ih
        rw [upStep_some hR h2]
        by_cases hlt : e.seq < f.seq
        · rw [if_pos hlt]
          refine ⟨Nat.lt_succ_self n, e, t, hR, fun i hi g v hg => ?_⟩
          rcases Nat.lt_succ_iff_lt_or_eq.1 hi with h | rfl
          · have := h3 i h g v hg; omega
          · rw [hR] at hg; cases hg; exact .inr ⟨rfl, Nat.le_refl _⟩
        · rw [if_neg hlt]
          refine ⟨Nat.lt_succ_of_lt h1, f, u, h2, fun i hi g v hg => ?_⟩
          rcases Nat.lt_succ_iff_lt_or_eq.1 hi with h | rfl
          · exact h3 i h g v hg
          · rw [hR] at hg; cases hg; omega
theorem dn_best (R : Rws) : ∀ k, k ≤ R.length → Best R (fun i => R.length - k ≤ i ∧ i < R.length) (dn R k)
  | 0, _ => fun i hi => by omega
  | k + 1, hk => by
    have ih := dn_best R k (by omega)
    rw [dn]
    generalize dn R k = o at ih
    have key : ∀ i, (R.length - (k + 1) ≤ i ∧ i < R.length) → (R.length - k ≤ i ∧ i < R.length) ∨ i = R.length - 1 - k := fun i hi => by omega
    cases hR : R.getD (R.length - 1 - k) [] with
    | nil =>
      rw [dnStep_nil hR]
      cases o with
      | none =>
        intro i hi
        rcases key i hi with h | rfl
        · exact ih i h
        · exact hR
      | some b =>
        obtain ⟨h1, e, t, h2, h3⟩ := ih
        refine ⟨⟨by omega, h1.2⟩, e, t, h2, fun i hi f u hf => ?_⟩
        rcases key i hi with h | rfl
        · exact h3 i h f u hf
        · rw [hR] at hf; cases hf
    | cons e t =>
      cases o with
      | none =>
        rw [dnStep_none hR]
        refine ⟨⟨by omega, by omega⟩, e, t, hR, fun i hi f u hf => ?_⟩
        rcases key i hi with h | rfl
        · rw [ih i h] at hf; cases hf
        · rw [hR] at hf; cases hf; exact .inr ⟨rfl, Nat.le_refl _⟩
      | some b =>
        obtain ⟨h1, f, u, h2, h3⟩ := ih
        rw [dnStep_some hR h2]
        by_cases hle : e.seq ≤ f.seq
        · rw [if_pos hle]
          refine ⟨⟨by omega, by omega⟩, e, t, hR, fun i hi g v hg => ?_⟩
          rcases key i hi with h | rfl
          · have := h3 i h g v hg; omega
          · rw [hR] at hg; cases hg; exact .inr ⟨rfl, Nat.le_refl _⟩
        · rw [if_neg hle]
          refine ⟨⟨by omega, h1.2⟩, f, u, h2, fun i hi g v hg => ?_⟩
          rcases key i hi with h | rfl
          · exact h3 i h g v hg
          · rw [hR] at hg; cases hg; omega
def bestOf (R : Rws) : Option Nat := up R R.length
theorem dn_eq (R : Rws) : dn R R.length = bestOf R := by
  refine best_unique' (S := fun i => i < R.length) ?_ (up_best R R.length)
  have := dn_best R R.length (Nat.le_refl _)
  have e : (fun i => R.length - R.length ≤ i ∧ i < R.length) = fun i => i < R.length := by funext i; simp
  rwa [e] at this

def total (R : Rws) : Nat := (R.map List.length).sum
/-- Without the first one of the b-th row. -/
def dropAt (R : Rws) (b : Nat) : Rws := R.set b (R.getD b []).tail
theorem total_drop : ∀ {R : Rws} {b : Nat} {e : Ev} {t : List Ev}, R.getD b [] = e :: t → total R = total (dropAt R b) + 1
  | [], b, e, t, h => by simp at h
  | r :: R, 0, e, t, h => by
    have h : r = e :: t := h
    subst h
    simp only [total, dropAt, List.set, List.getD_cons_zero, List.tail, List.map_cons, List.sum_cons, List.length_cons]; omega
  | r :: R, b + 1, e, t, h => by
    have h : R.getD b [] = e :: t := h
    have ih := total_drop h
    simp only [total, dropAt, List.set, List.getD_cons_succ, List.map_cons, List.sum_cons] at ih ⊢
    omega
def mergeN : Nat → Rws → List Ev
  | 0, _ => []
  | n + 1, R => match bestOf R with
    | none => []
    | some b => match R.getD b [] with
      | [] => []
      | e :: _ => e :: mergeN n (dropAt R b)
def mergeF (R : Rws) : List Ev := mergeN (total R) R
theorem best_some' {R : Rws} {b : Nat} (h : bestOf R = some b) : b < R.length ∧ ∃ e t, R.getD b [] = e :: t ∧ ∀ i, i < R.length → ∀ f u, R.getD i [] = f :: u → e.seq ≤ f.seq := by
  have := up_best R R.length
  rw [bestOf] at h
  rw [h] at this
  obtain ⟨h1, e, t, h2, h3⟩ := this
  exact ⟨h1, e, t, h2, fun i hi f u hf => by have := h3 i hi f u hf; omega⟩
theorem merge_none {R : Rws} (h : bestOf R = none) : mergeF R = [] := by
  unfold mergeF
  cases total R with
  | zero => rfl
  | succ n => rw [mergeN, h]
theorem merge_some {R : Rws} {b : Nat} {e : Ev} {t : List Ev} (h : bestOf R = some b) (h2 : R.getD b [] = e :: t) : mergeF R = e :: mergeF (dropAt R b) := by
  unfold mergeF
  rw [total_drop h2, mergeN, h]
  simp only [h2]
theorem merge_len : ∀ n (R : Rws), total R = n → (mergeF R).length = n
  | 0, R, h => by rw [mergeF, h]; rfl
  | n + 1, R, h => by
    cases hb : bestOf R with
    | none =>
      exfalso
      have hu := up_best R R.length
      rw [bestOf] at hb
      rw [hb] at hu
      have : total R = 0 := by
        clear hb h
        have hz : ∀ r ∈ R, r = [] := fun r hr => by
          obtain ⟨i, hi, rfl⟩ := List.mem_iff_getElem.1 hr
          have := hu i hi
          rwa [List.getD_eq_getElem?_getD, List.getElem?_eq_getElem hi] at this
        clear hu
        induction R with
        | nil => rfl
        | cons r R ih =>
          have h1 := hz r List.mem_cons_self
          have h2 := ih (fun x hx => hz x (List.mem_cons_of_mem _ hx))
          subst h1
          simpa [total] using h2
      omega
    | some b =>
      obtain ⟨h1, e, t, h2, h3⟩ := best_some' hb
      have ht := total_drop h2
      rw [merge_some hb h2, List.length_cons, merge_len n _ (by omega)]
theorem drop_getD {R : Rws} {b i : Nat} (hb : b < R.length) : (dropAt R b).getD i [] = if i = b then (R.getD b []).tail else R.getD i [] := by
  unfold dropAt
  simp only [List.getD_eq_getElem?_getD]
  by_cases h : i = b
  · subst h
    rw [List.getElem?_set_self hb, if_pos rfl]; rfl
  · rw [List.getElem?_set_ne (Ne.symm h), if_neg h]
theorem drop_len (R : Rws) (b : Nat) : (dropAt R b).length = R.length := by simp [dropAt]
/-- What is put together of rising rows rises. -/
theorem merge_rises : ∀ n (R : Rws) (lo : Int), total R = n → (∀ i, ((R.getD i []).map Ev.seq).Pairwise (· ≤ ·) ∧ ∀ e ∈ R.getD i [], lo ≤ e.seq) → ((mergeF R).map Ev.seq).Pairwise (· ≤ ·) ∧ ∀ e ∈ mergeF R, lo ≤ e.seq
  | 0, R, lo, h, _ => by
    have : mergeF R = [] := by rw [mergeF, h]; rfl
    rw [this]; exact ⟨List.Pairwise.nil, fun e he => by cases he⟩
  | n + 1, R, lo, h, hr => by
    cases hb : bestOf R with
    | none => rw [merge_none hb]; exact ⟨List.Pairwise.nil, fun e he => by cases he⟩
    | some b =>
      obtain ⟨h1, e, t, h2, h3⟩ := best_some' hb
      have ht := total_drop h2
      have hlo : lo ≤ e.seq := (hr b).2 e (by rw [h2]; exact List.mem_cons_self)
      have ih := merge_rises n (dropAt R b) e.seq (by omega) (fun i => by
        rw [drop_getD h1]
        split
        · have hp := (hr b).1
          rw [h2, List.map_cons] at hp
          obtain ⟨q1, q2⟩ := List.pairwise_cons.1 hp
          rw [h2]
          exact ⟨q2, fun f hf => q1 _ (List.mem_map.2 ⟨f, hf, rfl⟩)⟩
        · refine ⟨(hr i).1, fun f hf => ?_⟩
          by_cases hi : i < R.length
          · have hp := (hr i).1
            cases hR : R.getD i [] with
            | nil => rw [hR] at hf; cases hf
            | cons g u =>
              have hg := h3 i hi g u hR
              rw [hR] at hf hp
              rcases List.mem_cons.1 hf with rfl | hf
              · exact hg
              · have := (List.pairwise_cons.1 hp).1 _ (List.mem_map.2 ⟨f, hf, rfl⟩)
                omega
          · rw [List.getD_eq_getElem?_getD, List.getElem?_eq_none (by omega)] at hf; cases hf)
      rw [merge_some hb h2]
      refine ⟨?_, fun f hf => ?_⟩
      · rw [List.map_cons]
        refine List.pairwise_cons.2 ⟨fun s hs => ?_, ih.1⟩
        obtain ⟨f, hf, rfl⟩ := List.mem_map.1 hs
        exact ih.2 f hf
      · rcases List.mem_cons.1 hf with rfl | hf
        · exact hlo
        · have := ih.2 f hf; omega
end Go.Proofs.Ytljgfapbbhbbpaa
