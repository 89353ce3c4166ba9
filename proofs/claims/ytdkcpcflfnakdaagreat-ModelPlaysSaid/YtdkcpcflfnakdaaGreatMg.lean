/- A text of the walk that proves a law of this seat; joined by a program. -/
import Derived.Test.YtdkcpcflfnakdaaGreatMf
import Derived.Test.YtdkcpcflfnakdaaGreatMd
import Derived.Test.YtdkcpcflfnakdaaGreatMe
set_option linter.unusedSimpArgs false
set_option linter.unusedVariables false
namespace Go.Proofs.YtdkcpcflfnakdaaGreat
open Go Go.Proofs.YtdkcpcflfnakdaaGreat.Sym
set_option maxRecDepth 100000
set_option maxHeartbeats 1000000
set_option maxHeartbeats 4000000
abbrev nlS : AV := .v (.slice none 0 0)
def tabC (c : Cf) (x y : AV) : List AV := [i64 c.s, i64 c.k, i64 c.q, i64 c.w, i64 c.r, u64 c.e, u64 c.st, u64 c.st, u64 0, bool false, x, y]
def zfd (c : Cf) : List AV := [i64 c.q, nlS, nlS, nlS, nlS, nlS, nlS, nlS, nlS, nlS, bool false, bool false, bool false, bool false, bool false, bool false, bool false, bool false]
def did (i : Nat) : Nat := 5 + 3 * i
def nds (c : Cf) : Nat → List AB
 | 0 => []
 | i + 1 => nds c i ++ [.row 96 1 [nlS], .box (zfd c), .box [.ptr (did i) 0]]
theorem qe5 (c : Cf) : ∀ i, (nds c i).length = 3 * i
 | 0 => rfl
 | i + 1 => by rw [nds, z0c, qe5 c i]; simp; omega
def q4b (i : Nat) : List AV := (List.range i).map fun j => .ptr (did j) 0
def dfdB (i pad : Nat) : AB := match i with
 | 0 => .row 88 1 []
 | _ => .box (q4b i ++ List.replicate pad .any)
theorem qkq (i pad : Nat) : ∀ b ∈ q03 (q4b i ++ List.replicate pad AV.any), ∃ j < i, b = did j := by
 have h1 : ∀ (l : List Nat) b, b ∈ q03 (l.map (fun j => AV.ptr (did j) 0)) → ∃ j ∈ l, b = did j := by
  intro l b hb
  induction l with
  | nil => simp [q03] at hb
  | cons j l ih =>
   simp only [z0r, q03, bks, z0q, z1j] at hb
   rcases hb with rfl | hb
   · exact ⟨j, by simp, rfl⟩
   · obtain ⟨k, hk, e⟩ := ih hb; exact ⟨k, by simp [hk], e⟩
 have h2 : ∀ k, q03 (List.replicate k AV.any) = [] := by
  intro k
  induction k with
  | zero => rfl
  | succ k ih => simp [z3p, q03, bks, ih]
 intro b hb
 rw [q4j, h2, z0i] at hb
 obtain ⟨j, hj, e⟩ := h1 _ b hb
 exact ⟨j, by simpa using hj, e⟩
theorem qxd (i : Nat) : qbf (q4b i) := by
 have : ∀ l : List Nat, qbf (l.map (fun j => AV.ptr (did j) 0)) := by
  intro l
  induction l with
  | nil => trivial
  | cons j l ih => exact ⟨rfl, rfl, ih⟩
 exact this _
theorem qic (i : Nat) : q4b i ++ [.ptr (did i) 0] = q4b (i + 1) := by simp [q4b, z2j]
theorem qu4 (l : List AV) : (∀ x ∈ l, ∃ j, x = .ptr (did j) 0) → ∀ c ∈ q05 l, c ≠ 3 := by
 intro h
 induction l with
 | nil => intro c hc; simp [q05] at hc
 | cons x l ih =>
  obtain ⟨j, rfl⟩ := h x (by simp)
  intro c hc
  simp only [q05, AV.refs, z0q, z1j] at hc
  rcases hc with rfl | hc
  · simp only [did]; omega
  · exact ih (fun y hy => h y (by simp [hy])) c hc
theorem qtl (c : Cf) : ∀ i blk, blk ∈ nds c i → ∀ cs, blk = .box cs → ∀ b ∈ q03 cs, 4 ≤ b ∧ b < 4 + 3 * i
 | 0, blk, h => by simp [nds] at h
 | i + 1, blk, h => by
  intro cs e b hb
  rw [nds, z0q] at h
  rcases h with h | h
  · have := qtl c i blk h cs e b hb; omega
  · simp only [z26, z4z, or_false] at h
    rcases h with rfl | rfl | rfl
    · cases e
    · cases e
      have : q03 (zfd c) = [] := rfl
      rw [this] at hb; cases hb
    · cases e
      simp only [q03, bks, z0i, z1j] at hb
      subst hb
      simp only [did]; omega
theorem qtb (c : Cf) (i : Nat) {f : AB → AB} (h1 : ∀ cs, (∀ b ∈ q03 cs, 4 ≤ b ∧ b < 4 + 3 * i) → f (.box cs) = .box cs) (h2 : ∀ blk, (∀ cs, blk ≠ .box cs) → f blk = blk) : (nds c i).map f = nds c i := by
 refine (z2p (g := _root_.id) fun blk hm => ?_).trans (z5d _)
 by_cases hb : ∃ cs, blk = .box cs
 · obtain ⟨cs, rfl⟩ := hb
   exact h1 cs (qtl c i _ hm cs rfl)
 · exact h2 blk (fun cs hc => hb ⟨cs, hc⟩)
theorem qox (c : Cf) (i : Nat) {k : Nat} (hk : k < 4) : (nds c i).map (AB.kill k) = nds c i :=
 qtb c i (fun cs hc => by simp only [AB.kill]; rw [q45 cs (fun b hb => by have := hc b hb; omega)]) (fun blk hb => by cases blk <;> first | rfl | exact absurd rfl (hb _))
theorem qxt (c : Cf) (i : Nat) {X : List AB} {N : Nat} (h : 4 + 3 * i ≤ N) : (nds c i).map (AB.trunc X N) = nds c i :=
 qtb c i (fun cs hc => by simp only [AB.trunc]; rw [q31 cs (fun b hb => by have := hc b hb; omega)]) (fun blk hb => by cases blk <;> first | rfl | exact absurd rfl (hb _))
theorem dfd_kill (i pad : Nat) {k : Nat} (hk : k < 4) : AB.kill k (dfdB i pad) = dfdB i pad := by
 cases i with
 | zero => rfl
 | succ i =>
  simp only [dfdB, AB.kill]
  rw [q45 _ (fun b hb => by obtain ⟨j, _, rfl⟩ := qkq _ _ b hb; simp only [did]; omega)]
def newD (c : Cf) (i pad : Nat) : List AB := .box (cfgC c) :: .box (tabC c (.own 2 1 0 i) (.own 3 1 0 i)) :: .row 96 1 (List.replicate i nlS) :: dfdB i pad :: nds c i
theorem qkn (c : Cf) (i pad : Nat) (hi : i ≤ 8) {X : List AB} : ((newD c i pad).take 10000).map (AB.trunc X 10000) = newD c i pad := by
 have hl : (newD c i pad).length ≤ 10000 := by simp only [newD, z02, qe5]; omega
 rw [z07 hl]
 have hd : AB.trunc X 10000 (dfdB i pad) = dfdB i pad := by
  cases i with
  | zero => rfl
  | succ i =>
   simp only [dfdB, AB.trunc]
   rw [q31 _ (fun b hb => by obtain ⟨j, _, rfl⟩ := qkq _ _ b hb; simp only [did]; omega)]
 simp only [newD, z0r]
 rw [qxt c i (by omega), hd]
 rfl
def lstD (p q o z : Nat) : Array Bool := #[decide (1 ≤ p), decide (1 ≤ q), decide (2 ≤ q), decide (3 ≤ q), decide (4 ≤ q), decide (1 ≤ o), decide (2 ≤ o), decide (3 ≤ o), decide (4 ≤ o), decide (5 ≤ o), decide (1 ≤ z), decide (2 ≤ z), decide (3 ≤ z), decide (4 ≤ z)]
def rdyD (p q o z : Nat) : List Nat :=
 (if p = 0 then [0] else []) ++ (if q < 4 then [q + 1] else []) ++ (if o < 5 then [o + 5] else []) ++ (if q = 4 ∧ o = 5 ∧ (z = 0 ∨ (p = 1 ∧ z < 4)) then [z + 10] else [])
def S7 (c : Cf) (i pad : Nat) (x17 : AV) (p q o : Nat) : St :=
 ⟨[.any, .ptr 0 0, .any, .ptr 1 0, i64 i, .any, .any, .any, .any, .any, .any, .any, .any, .any, i64 i, .ptr 0 0, i64 c.s, x17, .any, .any, .ptr 1 0, .ptr 1 0, .ptr 1 0, .ptr 1 10, .any, .own ((nds c i).length + 1 + 1 + 1 + 1) 1 0 1, .own 2 1 0 (i + 1), .ptr 1 0, .ptr 1 10, if 1 ≤ p then .ptr 1 0 else .any, if 1 ≤ q then .ptr 1 0 else .any, if 2 ≤ q then .ptr 1 0 else .any, if 3 ≤ q then .ptr 1 11 else .any, if 4 ≤ q then .own 3 1 0 i else .any, if 1 ≤ o then .ptr 0 2 else .any, if 2 ≤ o then i64 c.q else .any, if 3 ≤ o then .agg (zfd c) else .any, if 4 ≤ o then .ptr (did i) 0 else .any, if 5 ≤ o then .own (did i + 1) 1 0 1 else .any, .any, .any, .any, .any],
  .box (cfgC c) :: .box (tabC c (.own 2 1 0 (i + 1)) (.own 3 1 0 i)) :: .row 96 1 (List.replicate i nlS ++ [nlS]) :: dfdB i pad :: (nds c i ++ ([.row 96 1 [nlS]] ++ ((if 4 ≤ o then [.box (zfd c)] else []) ++ (if 5 ≤ o then [.box [.ptr (did i) 0]] else []))))⟩
def Z7 (c : Cf) (i kk : Nat) (x17 : AV) (p z : Nat) : St :=
 ⟨[.any, .ptr 0 0, .any, .ptr 1 0, i64 i, .any, .any, .any, .any, .any, .any, .any, .any, .any, i64 i, .ptr 0 0, i64 c.s, x17, .any, .any, .ptr 1 0, .ptr 1 0, .ptr 1 0, .ptr 1 10, .any, .own ((nds c i).length + 1 + 1 + 1 + 1) 1 0 1, .own 2 1 0 (i + 1), .ptr 1 0, .ptr 1 10, if 1 ≤ p then .ptr 1 0 else .any, .ptr 1 0, .ptr 1 0, .ptr 1 11, .any, .ptr 0 2, i64 c.q, .agg (zfd c), .ptr (did i) 0, .own (did i + 1) 1 0 1, .own 3 1 0 (i + 1), if 2 ≤ z then .ptr 1 0 else .any, if 3 ≤ z then .ptr 1 11 else .any, .any],
  .box (cfgC c) :: .box (tabC c (.own 2 1 0 (i + 1)) (if 4 ≤ z then .own 3 1 0 (i + 1) else .any)) :: .row 96 1 (List.replicate i nlS ++ [nlS]) :: .box (q4b (i + 1) ++ List.replicate kk .any) :: nds c (i + 1)⟩
def InvD (c : Cf) (i pad : Nat) (x17 : AV) (k : Nat) (listed : Array Bool) (s : St) : Prop :=
 ∃ p q o z, p ≤ 1 ∧ q ≤ 4 ∧ o ≤ 5 ∧ z ≤ 4 ∧ (0 < z → q = 4 ∧ o = 5) ∧ (1 < z → p = 1) ∧ k + p + q + o + z = 14 ∧ listed = lstD p q o z ∧ ((z = 0 ∧ s = S7 c i pad x17 p q o) ∨ (0 < z ∧ ∃ kk, s = Z7 c i kk x17 p z))
theorem s7_get {a b d e z y w : AB} {X : List AB} {i : Nat} (hX : X.length = 3 * i) : (a :: b :: d :: e :: (X ++ ([y] ++ ([w] ++ [z]))))[did i + 1]? = some z := by
 rw [show did i + 1 = (3 * i + 2) + 1 + 1 + 1 + 1 by simp only [did]; omega]
 simp only [z03]
 rw [z18 (by omega), hX, show 3 * i + 2 - 3 * i = 2 by omega]
 rfl
theorem doc_made (c : Cf) (n : Nat) (hn : c.s = n) (h1 : 1 ≤ n) (h8 : n ≤ 8) : ACall P 25 [] [c.av] (fun x m' => x = .ptr 1 0 ∧ ∃ pad, m' = newD c n pad) := by
 refine q0j.toA (q1f tyOk Tryz.func25 rfl rfl (N := 0) (M := 10000) (z00 _) (by simp) ?_)
 intro K hK
 simp only [seval, go_sem, Tryz.ntmps25, Cf.av]
 refine q1r (q0c.adoptIn (b := 1) (c := 10) 96 1 rfl rfl) ?_
 simp only [seval, go_sem]
 refine q1r (q0c.adoptIn (b := 1) (c := 11) 88 1 rfl rfl) ?_
 simp only [seval, go_sem]
 refine q0d tyOk (α := Nat × Nat) 10000 [1, 3, 4] (fun q => q.1 ≤ n)
  (fun q => ⟨[.any, .ptr 0 0, .any, .ptr 1 0, i64 q.1, .any, .any, .any, .any, .any, .any, .any, .any, .any, .any, .any, .any, .any, .any, .any, .any, .any, .any, .any, .any, .any, .any, .any, .any, .any, .any, .any, .any, .any, .any, .any, .any, .any, .any, .any, .any, .any, .any], .box (cfgC c) :: .box (tabC c (.own 2 1 0 q.1) (.own 3 1 0 q.1)) :: .row 96 1 (List.replicate q.1 nlS) :: dfdB q.1 q.2 :: nds c q.1⟩)
  (fun q => n - q.1) (0, 0) (z00 _) (z00 _) ?_ ?_
 · rfl
 rintro ⟨i, pad⟩ hi
 simp only at hi
 simp only [seval, go_sem, cfgC, tabC]
 refine q02 ?_ ?_ <;> intro hc
 · have hlt : i < n := by rw [hn] at hc; simpa using hc
   have hk2 := dfd_kill i pad (k := 2) (by decide)
   have hn2 := qox c i (k := 2) (by decide)
   have hge (z : AB) : (nds c i ++ [z])[(nds c i).length]? = some z := by simp
   simp only [AB.kill] at hk2
   simp only [seval, go_sem, z29, hge, z12, hn2, hk2]
   refine ⟨⟨by simp only [maxLen]; omega, by omega⟩, ?_⟩
   refine qfz tyOk (by rfl) ?_
   intro ops hops
   refine ⟨InvD c i pad (.v (.bool (decide ((i : Int) < c.s)))), ?_, ?_, ?_⟩
   rotate_left 2
   · rintro k listed s ⟨p, q, o, z, hp, hq, ho, hz, hzz, hzp, hk, rfl, hs⟩
     have hrd : Region.ready .any ops (lstD p q o z) = rdyD p q o z := by
      subst hops
      by_cases hz0 : z = 0
      · subst hz0
        rcases (show p = 0 ∨ p = 1 by omega) with rfl | rfl <;> rcases (show q = 0 ∨ q = 1 ∨ q = 2 ∨ q = 3 ∨ q = 4 by omega) with rfl | rfl | rfl | rfl | rfl <;> rcases (show o = 0 ∨ o = 1 ∨ o = 2 ∨ o = 3 ∨ o = 4 ∨ o = 5 by omega) with rfl | rfl | rfl | rfl | rfl | rfl <;> kernel_rfl
      · obtain ⟨rfl, rfl⟩ := hzz (by omega)
        by_cases hz1 : z = 1
        · subst hz1
          rcases (show p = 0 ∨ p = 1 by omega) with rfl | rfl <;> kernel_rfl
        · obtain rfl := hzp (by omega)
          rcases (show z = 2 ∨ z = 3 ∨ z = 4 by omega) with rfl | rfl | rfl <;> kernel_rfl
     rw [hrd]
     refine ⟨?_, ?_⟩
     · intro he
       simp only [rdyD, z2u] at he
       obtain ⟨⟨⟨e1, e2⟩, e3⟩, e4⟩ := he
       have g1 : p = 1 := by
        apply z2s hp
        apply z2k
        intro h
        rw [if_pos (by omega)] at e1; cases e1
       have g2 : q = 4 := by
        apply z2s hq
        apply z1x
        intro h
        rw [if_pos h] at e2; cases e2
       have g3 : o = 5 := by
        apply z2s ho
        apply z1x
        intro h
        rw [if_pos h] at e3; cases e3
       rw [if_pos ⟨g2, g3, .inr ⟨g1, by omega⟩⟩] at e4; cases e4
     · intro j hj
       have hj' : (j = 0 ∧ p = 0) ∨ (j = q + 1 ∧ q < 4) ∨ (j = o + 5 ∧ o < 5) ∨ (j = z + 10 ∧ q = 4 ∧ o = 5 ∧ (z = 0 ∨ (p = 1 ∧ z < 4))) := by
        simp only [rdyD, z0q] at hj
        rcases hj with ((hj | hj) | hj) | hj
        · split at hj
          · rename_i h; exact .inl ⟨by simpa using hj, h⟩
          · cases hj
        · split at hj
          · rename_i h; exact .inr (.inl ⟨by simpa using hj, h⟩)
          · cases hj
        · split at hj
          · rename_i h; exact .inr (.inr (.inl ⟨by simpa using hj, h⟩))
          · cases hj
        · split at hj
          · rename_i h; exact .inr (.inr (.inr ⟨by simpa using hj, h⟩))
          · cases hj
       clear hj hrd
       rcases hj' with ⟨rfl, rfl⟩ | ⟨rfl, hlq⟩ | ⟨rfl, hlo⟩ | ⟨rfl, rfl, rfl, hlz⟩
       · by_cases hz0 : z = 0
         · subst hz0
           obtain rfl : s = S7 c i pad _ 0 q o := by rcases hs with ⟨_, h⟩ | ⟨h, _⟩; exact h; omega
           refine q0s tyOk ?_
           unfold q1e
           simp only [hops, z0k, z01]
           refine ⟨trivial, ?_⟩
           simp only [S7, cfgC, tabC, zfd]
           simp only [seval, go_sem]
           all_goals exact ⟨1, q, o, 0, by omega, hq, ho, hz, by omega, by omega, by omega, by simp [lstD], .inl ⟨rfl, by first | rfl | simp [S7, cfgC, tabC, zfd]⟩⟩
         · obtain ⟨rfl, rfl⟩ := hzz (by omega)
           obtain rfl : z = 1 := by omega
           obtain ⟨kk, rfl⟩ : ∃ kk, s = Z7 c i kk _ 0 1 := by rcases hs with ⟨h, _⟩ | ⟨_, h⟩; omega; exact h
           refine q0s tyOk ?_
           unfold q1e
           simp only [hops, z0k, z01]
           refine ⟨trivial, ?_⟩
           simp only [Z7, cfgC, tabC, zfd]
           simp only [seval, go_sem]
           all_goals exact ⟨1, 4, 5, 1, by omega, by omega, by omega, by omega, by omega, by omega, by omega, by simp [lstD], .inr ⟨by omega, kk, by first | rfl | simp [Z7, cfgC, tabC, zfd]⟩⟩
       · have hz0 : z = 0 := by omega
         subst hz0
         obtain rfl : s = S7 c i pad _ p q o := by rcases hs with ⟨_, h⟩ | ⟨h, _⟩; exact h; omega
         rcases (show q = 0 ∨ q = 1 ∨ q = 2 ∨ q = 3 by omega) with rfl | rfl | rfl | rfl
         · refine q0s tyOk ?_
           unfold q1e
           simp only [hops, z0k, z01, z03, z16]
           refine ⟨trivial, ?_⟩
           simp only [S7, cfgC, tabC, zfd]
           simp only [seval, go_sem]
           all_goals exact ⟨p, 1, o, 0, by omega, by omega, ho, hz, by omega, by omega, by omega, by simp [lstD], .inl ⟨rfl, by first | rfl | simp [S7, cfgC, tabC, zfd]⟩⟩
         · refine q0s tyOk ?_
           unfold q1e
           simp only [hops, z0k, z01, z03, Nat.reduceAdd]
           refine ⟨trivial, ?_⟩
           simp only [S7, cfgC, tabC, zfd]
           simp only [seval, go_sem]
           all_goals exact ⟨p, 2, o, 0, by omega, by omega, ho, hz, by omega, by omega, by omega, by simp [lstD], .inl ⟨rfl, by first | rfl | simp [S7, cfgC, tabC, zfd]⟩⟩
         · refine q0s tyOk ?_
           unfold q1e
           simp only [hops, z0k, z01, z03, Nat.reduceAdd]
           refine ⟨trivial, ?_⟩
           simp only [S7, cfgC, tabC, zfd]
           simp only [seval, go_sem]
           all_goals exact ⟨p, 3, o, 0, by omega, by omega, ho, hz, by omega, by omega, by omega, by simp [lstD], .inl ⟨rfl, by first | rfl | simp [S7, cfgC, tabC, zfd]⟩⟩
         · refine q0s tyOk ?_
           unfold q1e
           simp only [hops, z0k, z01, z03, Nat.reduceAdd]
           refine ⟨trivial, ?_⟩
           simp only [S7, cfgC, tabC, zfd]
           simp only [seval, go_sem]
           all_goals exact ⟨p, 4, o, 0, by omega, by omega, ho, hz, by omega, by omega, by omega, by simp [lstD], .inl ⟨rfl, by first | rfl | simp [S7, cfgC, tabC, zfd]⟩⟩
       · have hz0 : z = 0 := by omega
         subst hz0
         obtain rfl : s = S7 c i pad _ p q o := by rcases hs with ⟨_, h⟩ | ⟨h, _⟩; exact h; omega
         rcases (show o = 0 ∨ o = 1 ∨ o = 2 ∨ o = 3 ∨ o = 4 by omega) with rfl | rfl | rfl | rfl | rfl
         · refine q0s tyOk ?_
           unfold q1e
           simp only [hops, z0k, z01, z03, z16]
           refine ⟨trivial, ?_⟩
           simp only [S7, cfgC, tabC, zfd]
           simp only [seval, go_sem]
           all_goals exact ⟨p, q, 1, 0, by omega, by omega, by omega, hz, by omega, by omega, by omega, by simp [lstD], .inl ⟨rfl, by first | rfl | (simp [S7, cfgC, tabC, zfd]; done)⟩⟩
         · refine q0s tyOk ?_
           unfold q1e
           simp only [hops, z0k, z01, z03, Nat.reduceAdd]
           refine ⟨trivial, ?_⟩
           simp only [S7, cfgC, tabC, zfd]
           simp only [seval, go_sem]
           all_goals exact ⟨p, q, 2, 0, by omega, by omega, by omega, hz, by omega, by omega, by omega, by simp [lstD], .inl ⟨rfl, by first | rfl | (simp [S7, cfgC, tabC, zfd]; done)⟩⟩
         · refine q0s tyOk ?_
           unfold q1e
           simp only [hops, z0k, z01, z03, Nat.reduceAdd]
           refine ⟨trivial, ?_⟩
           simp only [S7, cfgC, tabC, zfd]
           simp only [seval, go_sem]
           all_goals exact ⟨p, q, 3, 0, by omega, by omega, by omega, hz, by omega, by omega, by omega, by simp [lstD], .inl ⟨rfl, by first | rfl | (simp [S7, cfgC, tabC, zfd]; done)⟩⟩
         · refine q0s tyOk ?_
           unfold q1e
           simp only [hops, z0k, z01, z03, Nat.reduceAdd]
           refine ⟨trivial, ?_⟩
           simp only [S7, cfgC, tabC, zfd]
           simp only [seval, go_sem]
           all_goals exact ⟨p, q, 4, 0, by omega, by omega, by omega, hz, by omega, by omega, by omega, by simp [lstD], .inl ⟨rfl, by simp [S7, cfgC, tabC, zfd, qe5, did]; try omega⟩⟩
         · refine q0s tyOk ?_
           unfold q1e
           simp only [hops, z0k, z01, z03, Nat.reduceAdd]
           refine ⟨trivial, ?_⟩
           simp only [S7, cfgC, tabC, zfd]
           simp only [seval, go_sem]
           all_goals exact ⟨p, q, 5, 0, by omega, by omega, by omega, hz, by omega, by omega, by omega, by simp [lstD], .inl ⟨rfl, by simp [S7, cfgC, tabC, zfd, qe5, did]; try omega⟩⟩
       · rcases (show z = 0 ∨ (p = 1 ∧ (z = 1 ∨ z = 2 ∨ z = 3)) by omega) with rfl | ⟨rfl, rfl | rfl | rfl⟩
         · obtain rfl : s = S7 c i pad _ p 4 5 := by rcases hs with ⟨_, h⟩ | ⟨h, _⟩; exact h; omega
           refine qph ?_
           unfold nextA
           simp only [hops, z0k, z01, z03, z16]
           refine ⟨trivial, ?_⟩
           unfold qki
           simp only [S7, cfgC, tabC, zfd]
           have hcs : ∃ cs, (dfdB i pad = .box cs ∨ (dfdB i pad = .row 88 1 [] ∧ cs = [])) ∧ i ≤ cs.length ∧ cs.take i = q4b i := by
            cases i with
            | zero => exact ⟨[], .inr ⟨rfl, rfl⟩, z09 _, rfl⟩
            | succ i => exact ⟨_, .inl rfl, by simp [q4b], by rw [z0x (by simp [q4b]), z07 (by simp [q4b])]⟩
           obtain ⟨cs, hcs1, hcs2, hcs3⟩ := hcs
           refine ⟨63, 88, _, _, 3, i, did i + 1, cs, [], .ptr (did i) 0, rfl, rfl, rfl, rfl, rfl, by rfl, by decide, rfl, rfl, z00 _, ?_, hcs2, ?_, ?_, rfl, ?_, by omega, ?_⟩
           · exact hcs1.imp (fun h => by rw [h]; rfl) (fun ⟨h, e⟩ => ⟨by rw [h]; rfl, e⟩)
           · exact s7_get (qe5 c i)
           · rw [hcs3]; exact qxd i
           · rw [hcs3, qic]
             exact qu4 _ (fun x hx => by simp only [q4b, z1b] at hx; obtain ⟨j, _, rfl⟩ := hx; exact ⟨j, rfl⟩)
           · intro kk
             rw [hcs3, qic]
             refine ⟨p, 4, 5, 1, hp, by omega, by omega, by omega, by omega, by omega, by omega, by simp [lstD], .inr ⟨by omega, kk, ?_⟩⟩
             have hkn : (nds c i ++ ([AB.row 96 1 [nlS]] ++ ([AB.box (zfd c)] ++ [AB.box [.ptr (did i) 0]]))).map (AB.kill 3) = nds c (i + 1) := qox c (i + 1) (by decide)
             simp only [zfd] at hkn
             have hf3 : (did i = 3) = False := by simp [did]; omega
             have hf4 : (did i + 1 = 3) = False := by simp [did]; omega
             have hf5 : ((nds c i).length + 1 + 1 + 1 + 1 = 3) = False := by simp
             simp only [St.rehome, St.put, z0r, Nat.reduceLeDiff, ↓reduceIte]
             rw [hkn]
             rcases (show p = 0 ∨ p = 1 by omega) with rfl | rfl
             · simp only [q1d, q0w, AB.kill, hf3, hf4, hf5, z42, z43, Z7, cfgC, tabC, zfd, Nat.reduceLeDiff, Nat.reduceEqDiff, ↓reduceIte]
             · simp only [q1d, q0w, AB.kill, hf3, hf4, hf5, z42, z43, Z7, cfgC, tabC, zfd, Nat.reduceLeDiff, Nat.reduceEqDiff, ↓reduceIte]
         · obtain ⟨kk, rfl⟩ : ∃ kk, s = Z7 c i kk _ 1 1 := by rcases hs with ⟨h, _⟩ | ⟨_, h⟩; omega; exact h
           refine q0s tyOk ?_
           unfold q1e
           simp only [hops, z0k, z01, z03, Nat.reduceAdd]
           refine ⟨trivial, ?_⟩
           simp only [Z7, cfgC, tabC, zfd]
           simp only [seval, go_sem]
           all_goals exact ⟨1, 4, 5, 2, by omega, by omega, by omega, by omega, by omega, by omega, by omega, by simp [lstD], .inr ⟨by omega, kk, by first | rfl | simp [Z7, cfgC, tabC, zfd]⟩⟩
         · obtain ⟨kk, rfl⟩ : ∃ kk, s = Z7 c i kk _ 1 2 := by rcases hs with ⟨h, _⟩ | ⟨_, h⟩; omega; exact h
           refine q0s tyOk ?_
           unfold q1e
           simp only [hops, z0k, z01, z03, Nat.reduceAdd]
           refine ⟨trivial, ?_⟩
           simp only [Z7, cfgC, tabC, zfd]
           simp only [seval, go_sem]
           all_goals exact ⟨1, 4, 5, 3, by omega, by omega, by omega, by omega, by omega, by omega, by omega, by simp [lstD], .inr ⟨by omega, kk, by first | rfl | simp [Z7, cfgC, tabC, zfd]⟩⟩
         · obtain ⟨kk, rfl⟩ : ∃ kk, s = Z7 c i kk _ 1 3 := by rcases hs with ⟨h, _⟩ | ⟨_, h⟩; omega; exact h
           refine q0s tyOk ?_
           unfold q1e
           simp only [hops, z0k, z01, z03, Nat.reduceAdd]
           refine ⟨trivial, ?_⟩
           simp only [Z7, cfgC, tabC, zfd]
           simp only [seval, go_sem]
           all_goals exact ⟨1, 4, 5, 4, by omega, by omega, by omega, by omega, by omega, by omega, by omega, by simp [lstD], .inr ⟨by omega, kk, by first | rfl | simp [Z7, cfgC, tabC, zfd]⟩⟩
   · rw [show ops.size = 14 by rw [hops]; rfl]
     exact ⟨0, 0, 0, 0, by omega, by omega, by omega, by omega, by omega, by omega, by omega, rfl, .inl ⟨rfl, by first | rfl | simp [S7, cfgC, tabC, zfd]⟩⟩
   rintro listed s ⟨p, q, o, z, hp, hq, ho, hz, hzz, hzp, hk, rfl, hs⟩
   obtain rfl : p = 1 := by omega
   obtain rfl : q = 4 := by omega
   obtain rfl : o = 5 := by omega
   obtain rfl : z = 4 := by omega
   obtain ⟨kk, rfl⟩ : ∃ kk, s = Z7 c i kk _ 1 4 := by rcases hs with ⟨h, _⟩ | ⟨_, h⟩; omega; exact h
   refine ⟨by subst hops; kernel_rfl, ?_⟩
   clear hops
   simp only [Z7, cfgC, tabC, zfd]
   have ew : IntKind.i64.wrap ((i : Int) + 1) = ((i + 1 : Nat) : Int) := by rw [wrap_i64 (by omega) (by omega)]; rfl
   simp only [seval, go_sem, ew]
   refine ⟨(i + 1, kk), hlt, by simp only; omega, ?_⟩
   have htr := fun X => qkn c (i + 1) kk (by omega) (X := X)
   simp only [newD, cfgC, tabC, dfdB, List.replicate_succ'] at htr
   simp only [St.trunc, List.replicate_succ', htr]
   simp only [seval, go_sem]
   all_goals rfl
 · have hge : i = n := by have : ¬ ((i : Int) < (n : Int)) := by rw [hn] at hc; simpa using hc
                          omega
   subst hge
   simp only [seval, go_sem]
   apply hK
   simp only [seval, go_sem, Tryz.results25]
   refine ⟨pad, ?_⟩
   exact qkn c i pad (by omega)
def q58 (c : Cf) : Dt := ⟨c, ⟨c.st, 0, false⟩, fun _ => [], fun _ => ⟨c.q, [], fun _ => ([], false)⟩⟩
theorem qor (n : Nat) : dRow n (fun _ => []) = List.replicate n (.sl 5 []) := by
 apply z1e
 intro i
 by_cases hi : i < n <;> simp [dRow, usrs, hi]
def q6c : Nat → List Nat
 | 0 => [1, 2, 3]
 | n + 1 => q6c n ++ [did n]
def ndw (c : Cf) : Nat → List AB
 | 0 => []
 | i + 1 => ndw c i ++ [.row 96 1 [nlS], docB ((q58 c).f i), .box [.ptr (did i) 0]]
theorem qlo : ∀ {a b x y : List AB}, q8r a b → q8r x y → q8r (a ++ x) (b ++ y)
 | [], _, _, _, h, k => by cases h; exact k
 | a :: l, _, _, _, h, k => by obtain ⟨c, n', rfl, h1, h2⟩ := h; exact ⟨c, _, rfl, h1, qlo h2 k⟩
theorem weak_zfd (c : Cf) (i : Nat) : weakB (.box (zfd c)) (docB ((q58 c).f i)) :=
 ⟨_, rfl, _, _, rfl, q0g _, _, _, rfl, q1j 2, _, _, rfl, q1j 8, _, _, rfl, q1j 8, _, _, rfl, q1j 8, _, _, rfl, q1j 8, _, _, rfl, q1j 8, _, _, rfl, q1j 8, _, _, rfl, q1j 8, _, _, rfl, q1j 8,
  _, _, rfl, q0g _, _, _, rfl, q0g _, _, _, rfl, q0g _, _, _, rfl, q0g _, _, _, rfl, q0g _, _, _, rfl, q0g _, _, _, rfl, q0g _, _, _, rfl, q0g _, rfl⟩
theorem qos (c : Cf) : ∀ i, q8r (nds c i) (ndw c i)
 | 0 => rfl
 | i + 1 => qlo (qos c i) ⟨_, _, rfl, q5j _, _, _, rfl, weak_zfd c i, _, _, rfl, q5j _, rfl⟩
theorem doc_New (c : Cf) (n : Nat) (hn : c.s = n) (h1 : 1 ≤ n) (h8 : n ≤ 8) : ACall P 25 [] [c.av] (fun x m' => x = .ptr 0 0 ∧ ∃ pad, m' = docT n pad (q58 c)) := by
 refine ACall.renum (doc_made c n hn h1 h8) ?_
 rintro x m' ⟨rfl, pad, rfl⟩
 refine ⟨.ptr 0 0, docT n pad (q58 c), ?_, rfl, pad, rfl⟩
 refine q2l.trans (s' := ⟨[.ptr 1 0], (newD c n pad).set 2 (.row 96 1 (dRow n fun _ => []))⟩) (q0c.toL (q0c.weakRow (b := 2) (xs := List.replicate n nlS) rfl ?_ ?_ ?_)) ?_
 · rw [qor]
   exact qfv (q1j 5) n
 · rw [qor, q0x]
   intro x hx
   rw [z1h hx]
   rfl
 · intro h
   have := congrArg List.length h
   simp at this
   omega
 refine q2l.trans (s' := ⟨[.ptr 1 0], .box (cfgC c) :: .box (tabC c (.own 2 1 0 n) (.own 3 1 0 n)) :: .row 96 1 (dRow n fun _ => []) :: dfdB n pad :: ndw c n⟩) (q0c.toL (q0c.weak (q2g _) ⟨_, _, rfl, q5j _, _, _, rfl, q5j _, _, _, rfl, q5j _, _, _, rfl, q5j _, qos c n⟩)) ?_
 have key : ∀ k, (q6c k).length = dlen k := by
  intro k
  induction k with
  | zero => rfl
  | succ k ih => rw [q6c, z0c, ih]; simp only [dlen, z20]; omega
 refine q2l.pick (q6c n) ?_ ?_ ?_ ?_ ?_ (fun b hb => absurd hb (z28 b))
 · rcases q2v h1 h8 with rfl | rfl | rfl | rfl | rfl | rfl | rfl | rfl <;> decide +kernel
 · have hrep : ∀ k, q0i (q6c n) (List.replicate k AV.any) = List.replicate k AV.any := by
    intro k
    induction k with
    | zero => rfl
    | succ k ih => rw [z3p, q0i, ih]; rfl
   have happ : ∀ l m, q0i (q6c n) (l ++ m) = q0i (q6c n) l ++ q0i (q6c n) m := by
    intro l m
    induction l with
    | nil => rfl
    | cons x l ih => rw [z1u, q0i, ih]; rfl
   have hp : q0i (q6c n) (q53 n pad) = q4b n ++ List.replicate pad AV.any := by
    rw [q53, happ, hrep]
    congr 1
    rcases q2v h1 h8 with rfl | rfl | rfl | rfl | rfl | rfl | rfl | rfl <;> rfl
   have hd : dfdB n pad = .box (q4b n ++ List.replicate pad AV.any) := by
    cases n with
    | zero => omega
    | succ n => rfl
   have e : renM (q6c n) (docT n pad (q58 c)) = .box (q0i (q6c n) (tabC c (.own 1 1 0 n) (.own 2 1 0 n))) ::
    .row 96 1 (dRow n fun _ => []) :: .box (q4b n ++ List.replicate pad AV.any) :: renM (q6c n) ((List.range n).map fun j => docB ((q58 c).f j)) := by
    rw [← hp]; rfl
   show List.map _ (q6c n) = List.map some (renM (q6c n) (docT n pad (q58 c)))
   rw [e, hd]
   clear hrep happ hp e hd
   generalize List.replicate pad AV.any = Q
   rcases q2v h1 h8 with rfl | rfl | rfl | rfl | rfl | rfl | rfl | rfl <;> kernel_rfl
 · rcases q2v h1 h8 with rfl | rfl | rfl | rfl | rfl | rfl | rfl | rfl <;> exact q2g _
 · rw [key]
   refine z0l.2 fun b hb => ?_
   have hb0 : b = 0 := by simpa [q03, bks] using hb
   subst hb0
   exact decide_eq_true (by simp only [dlen]; omega)
 · rw [key]; exact qfx n pad (q58 c)
end Go.Proofs.YtdkcpcflfnakdaaGreat
namespace Go.Proofs.YtdkcpcflfnakdaaGreat
open Go Go.Proofs.YtdkcpcflfnakdaaGreat.Sym
set_option maxRecDepth 100000
set_option maxHeartbeats 1000000
set_option maxHeartbeats 4000000
structure Alf (F : Fd) (D : Df) : Prop where
 nd : D.pairs.Nodup
 wat : ∀ who u, watF F.m who u = watD D.pairs who u
 r : D.room = F.room
 q : ∀ k, k < 8 → D.q k = F.q k
 q8 : ∀ k, ¬ k < 8 → (D.q k).1 = []
theorem qlx {who : Int} {u : ByteArray} {p : Int × ByteArray} : isP who u p = true ↔ p = (who, u) := by
 rw [isP, z0d, beq_iff_eq]
 constructor
 · rintro ⟨rfl, h⟩
   have : p.2 = u := (q0t _ _).1 h
   rw [← this]
 · rintro rfl
   exact ⟨rfl, (q0t _ _).2 rfl⟩
theorem qby {l : Prd} {who : Int} {u : ByteArray} : watD l who u = true ↔ (who, u) ∈ l := by
 rw [watD, z39]
 constructor
 · rintro ⟨p, hp, h⟩; rw [qlx.1 h] at hp; exact hp
 · intro h; exact ⟨_, h, qlx.2 rfl⟩
theorem Alf.cnt {F : Fd} {D : Df} (h : Alf F D) (ok : q3c F.m) (who : Int) : cntM F.m who = cntD D.pairs who := by
 have := cnt_eq ok who (L := (D.pairs.filter fun p => p.1 == who).map Prod.snd) ?_ ?_
 · rw [this, z0f]; rfl
 · refine List.Pairwise.map (R := fun p q => p ≠ q ∧ p.1 = q.1) _ (fun p q hpq e => hpq.1 (Prod.ext hpq.2 e)) ?_
   refine List.Pairwise.imp_of_mem ?_ (h.nd.filter _)
   intro p q hp hq hne
   have e1 := (z1v.1 hp).2
   have e2 := (z1v.1 hq).2
   exact ⟨hne, (beq_iff_eq.1 e1).trans (beq_iff_eq.1 e2).symm⟩
 · intro u
   rw [h.wat, qby, z1b]
   constructor
   · rintro ⟨p, hp, rfl⟩
     obtain ⟨h1, h2⟩ := z1v.1 hp
     rw [← beq_iff_eq.1 h2]; exact h1
   · intro hm
     exact ⟨_, z1v.2 ⟨hm, by simp⟩, rfl⟩
theorem qwh (l : Prd) (who : Int) (u : ByteArray) : (q4c l who u).length ≤ l.length + 1 := by
 unfold q4c; split <;> simp
theorem Alf.watch {F : Fd} {D : Df} (h : Alf F D) (ok : q3c F.m) (who : Int) (u : ByteArray) : Alf { F with m := q40 F.m who u } { D with pairs := q4c D.pairs who u } := by
 refine ⟨?_, fun who' u' => ?_, h.r, h.q, h.q8⟩
 · show (q4c D.pairs who u).Nodup
   unfold q4c
   split
   · rename_i hc
     simp only [z0d, z2l] at hc
     refine List.nodup_append.2 ⟨h.nd, by simp, ?_⟩
     intro a ha b hb e
     simp at hb
     subst hb
     rw [e] at ha
     rw [qby.2 ha] at hc
     cases hc.2
   · exact h.nd
 · show watF (q40 F.m who u) who' u' = watD (q4c D.pairs who u) who' u'
   rw [qgb ok, h.wat]
   rw [z2b]
   simp only [z1q, z0d, decide_eq_true_eq, qby]
   unfold q4c
   split
   · rename_i hc
     simp only [z0d, z2l] at hc
     simp [hc.1]
   · rename_i hc
     constructor
     · rintro (h1 | ⟨h1, rfl, rfl⟩)
       · exact h1
       · simp only [h1, z0z, z5s, z4n] at hc
         exact qby.1 hc
     · exact .inl
theorem Alf.unwatch {F : Fd} {D : Df} (h : Alf F D) (ok : q3c F.m) (who : Int) (u : ByteArray) : Alf { F with m := q3y F.m who u } { D with pairs := unwD D.pairs who u } := by
 refine ⟨h.nd.filter _, fun who' u' => ?_, h.r, h.q, h.q8⟩
 show watF (q3y F.m who u) who' u' = watD (unwD D.pairs who u) who' u'
 rw [qrh ok, h.wat, z2b]
 simp only [z0d, z2l, qby, unwD, z1v]
 refine and_congr_right fun _ => ?_
 have := qlx (who := who) (u := u) (p := (who', u'))
 rw [← z5s, ← z5s, z0d, decide_eq_true_eq, decide_eq_true_eq, this, z34]
theorem Alf.tell1 {F : Fd} {D : Df} (h : Alf F D) (c : Chg) (seq : Int) : Alf (Go.Proofs.YtdkcpcflfnakdaaGreat.tell1 F c seq 8) (q29 D c seq 8) := by
 refine ⟨h.nd, h.wat, h.r, fun k hk => ?_, fun k hk => ?_⟩
 · rw [qt5 F c seq hk, h.wat]
   simp only [q29, hk, decide_true, z0z]
   rw [h.q k hk, h.r]
 · simp only [q29, hk, decide_false, z23, z0n, if_false]
   exact h.q8 k hk
theorem Alf.tell {F : Fd} {D : Df} (h : Alf F D) (l : List Chg) (seq : Int) : Alf (q6e F l seq) (q7s D l seq) := by
 induction l generalizing F D with
 | nil => exact h
 | cons c l ih => exact ih (h.tell1 c seq)
theorem Alf.drain {F : Fd} {D : Df} (h : Alf F D) (who : Int) : Alf (F.drain who) (D.drain who) := by
 unfold Fd.drain Df.drain
 cases hc : cli who
 · simp only [z0n, if_false]; exact h
 · obtain ⟨k, hk, rfl⟩ := q2u hc
   simp only [if_true, z0g]
   refine ⟨h.nd, h.wat, h.r, fun j hj => ?_, fun j hj => ?_⟩
   · simp only [Df.setQ, Fd.setQ]
     split
     · rfl
     · exact h.q j hj
   · simp only [Df.setQ]
     split
     · rfl
     · exact h.q8 j hj
structure Alk (B : Nat) (M : Md) (D : Dt) : Prop where
 c : D.c = M.c
 t : D.t = M.t
 b : ∀ j, D.b j = M.b j
 f : ∀ j, Alf (M.f j) (D.f j)
 p : ∀ j, (D.f j).pairs.length ≤ B
theorem Alk.mono {B B' : Nat} {M : Md} {D : Dt} (h : Alk B M D) (hb : B ≤ B') : Alk B' M D := ⟨h.c, h.t, h.b, h.f, fun j => z1f (h.p j) hb⟩
theorem qtw {n B : Nat} {M : Md} {D : Dt} (h : Alk B M D) (w : WOk n B M) (hB : B ≤ 150) : DOk n B D :=
 ⟨w.ok.n1, w.ok.n8, by rw [h.c]; exact w.ok.s, fun j => by rw [h.b]; exact w.ok.b j, h.p, fun j k => by
  by_cases hk : k < 8
  · rw [(h.f j).q k hk]; exact w.ok.q j k
  · rw [(h.f j).q8 k hk]; exact z00 _, hB⟩
theorem qpz {B : Nat} {M : Md} {D : Dt} (h : Alk B M D) (s : Nat) (l : List Chg) (seq : Int) : Alk B (M.tell s l seq) (D.tell s l seq) := by
 refine ⟨h.c, h.t, h.b, fun j => ?_, fun j => ?_⟩
 · simp only [Md.tell, Md.setF, Dt.tell, Dt.setF]
   split
   · exact (h.f s).tell l seq
   · exact h.f j
 · simp only [Dt.tell, Dt.setF]
   split
   · rw [(qoi (D.f s) l seq).1]; exact h.p s
   · exact h.p j
theorem qq0 {B : Nat} {M : Md} {D : Dt} (h : Alk B M D) (s : Nat) (b : Bk) : Alk B (M.setB s b) (D.setB s b) := by
 refine ⟨h.c, h.t, fun j => ?_, h.f, h.p⟩
 simp only [Md.setB, Dt.setB]
 split
 · rfl
 · exact h.b j
theorem qje {B : Nat} {M : Md} {D : Dt} (h : Alk B M D) : Alk B M.take D.take := ⟨h.c, by simp only [Md.take, Dt.take, h.t], h.b, h.f, h.p⟩
theorem alk_tick {B : Nat} {M : Md} {D : Dt} (h : Alk B M D) (by_ : Int) : Alk B (M.tick by_) (D.tick by_) := ⟨h.c, by simp only [Md.tick, Dt.tick, h.t], h.b, h.f, h.p⟩
theorem qxn {n B : Nat} {M : Md} {D : Dt} (h : Alk B M D) (s : Int) : Alk B (M.sweep n s) (D.sweep n s) := by
 unfold Md.sweep Dt.sweep
 split
 · exact h
 · rw [h.b, h.t]
   exact qpz (qq0 (qje h) _ _) _ _ _
theorem qpg {n B : Nat} {M : Md} {D : Dt} (h : Alk B M D) (u : ByteArray) : q51 n D u = q4r n M u := by
 unfold q51 q4r; rw [h.b, h.t]
theorem alk_stor {B : Nat} {M : Md} {D : Dt} (h : Alk B M D) (n i : Nat) : q73 D i = q7x n M i := by
 unfold q73 q7x
 congr 1
 exact z2p fun j _ => by rw [h.b]
theorem qxp {n B B' : Nat} {M : Md} {D : Dt} (h : Alk B M D) (w : WOk n B' M) (who : Int) (i : Nat) : q4o D who i = q4s M who i := by
 unfold q4o q4s
 congr 1
 exact z2p fun j _ => ((h.f j).cnt (w.msk j) who).symm
theorem alk_full {n B B' : Nat} {M : Md} {D : Dt} (h : Alk B M D) (w : WOk n B' M) (who : Int) (u : ByteArray) : qlc n D who u = qbm n M who u := by
 unfold qlc qbm
 rw [qxp h w, h.c, (h.f _).wat]
theorem alk_do {n B : Nat} {M : Md} {D : Dt} (h : Alk B M D) (w : WOk n B M) (who : Int) (o : Opb) : Alk (B + 1) (doM n M who o) (qel n D who o) ∧ docR n D who o = doR n M who o := by
 have hm := h.mono (z3e B)
 unfold doM qel doR docR
 split
 · exact ⟨hm, rfl⟩
 rename_i hbad
 split
 · unfold Md.write Dt.write qau
   rw [h.t, h.b, h.c]
   split
   · exact ⟨qje hm, rfl⟩
   · exact ⟨qpz (qq0 (qje hm) _ _) _ _ _, rfl⟩
 split
 · have hi : inB who 0 7 = true := by
    cases hi : inB who 0 7 with
    | true => rfl
    | false => rw [hi, z3c, z2t] at hbad; exact absurd rfl hbad
   obtain ⟨k, hk, rfl⟩ := q2u (qqd hi)
   refine ⟨⟨h.c, h.t, h.b, fun j => ?_, fun j => ?_⟩, ?_⟩
   · simp only [Md.drains, Dt.drains]
     split
     · exact (h.f j).drain k
     · exact h.f j
   · simp only [Dt.drains]
     split
     · unfold Df.drain; split <;> exact z2q (h.p j)
     · exact z2q (h.p j)
   · have e1 : q5v D k n = q3m M k n := by
      unfold q5v q3m
      exact z2p fun j _ => by rw [z0g, (h.f j).q k hk]
     have e2 : qcs D k n = q98 M k n := by
      unfold qcs q98
      congr 1
      funext j
      rw [z0g, (h.f j).q k hk]
     rw [e1, e2]
 split
 · rename_i h1 h2 h3
   rw [h.t]
   split
   · exact ⟨hm, rfl⟩
   · rename_i hc; exact absurd h3 hc
 rw [h.t]
 rename_i hcl
 rw [if_neg hcl, if_neg hcl]
 split
 · rw [alk_full h w]
   refine ⟨?_, rfl⟩
   split
   · exact hm
   · refine ⟨h.c, h.t, h.b, fun j => ?_, fun j => ?_⟩
     · simp only [Md.watchF, Md.setF, Dt.watchF, Dt.setF]
       split
       · exact (h.f _).watch (w.msk _) who o.u
       · exact h.f j
     · simp only [Dt.watchF, Dt.setF]
       split
       · have := qwh (D.f (stN n o.u)).pairs who o.u
         have := h.p (stN n o.u)
         simp only; omega
       · exact z2q (h.p j)
 split
 · refine ⟨⟨h.c, h.t, h.b, fun j => ?_, fun j => ?_⟩, rfl⟩
   · simp only [Md.unwatchF, Md.setF, Dt.unwatchF, Dt.setF]
     split
     · exact (h.f _).unwatch (w.msk _) who o.u
     · exact h.f j
   · simp only [Dt.unwatchF, Dt.setF]
     split
     · exact z2q (z1f (z1n _ _) (h.p _))
     · exact z2q (h.p j)
 split
 · exact ⟨⟨h.c, by simp only [Md.shut, Dt.shut, h.t], h.b, h.f, fun j => z2q (h.p j)⟩, rfl⟩
 · refine ⟨hm, ?_⟩
   have : q51 n D = q4r n M := funext fun u => qpg h u
   rw [this]
theorem qz1 {c : Cf} (hq : 1 ≤ c.q) : Alk 0 (q1z c) (q58 c) := by
 refine ⟨rfl, rfl, fun _ => rfl, fun j => ⟨z24, fun who u => ?_, ?_, fun k _ => rfl, fun k _ => rfl⟩, fun j => z09 _⟩
 · have e : maskOf ([] : Msk) u = 0 := rfl
   show watF [] who u = false
   rw [watF, e]
   cases hc : cli who with
   | false => rfl
   | true =>
    obtain ⟨k, hk, rfl⟩ := q2u hc
    exact qan k hk
 · show c.q = max c.q 0
   omega
end Go.Proofs.YtdkcpcflfnakdaaGreat
namespace Go.Proofs.YtdkcpcflfnakdaaGreat
open Go Go.Proofs.YtdkcpcflfnakdaaGreat.Sym
set_option maxRecDepth 100000
set_option maxHeartbeats 1000000
set_option maxHeartbeats 4000000
theorem qs5 (c : Cf) : c.right = (decide (c.s > 0) && (decide (c.s < 9) && (decide (c.k > 0) && (decide (c.k < 9) && (decide (c.q > 0) && (decide (c.q < 17) && (decide (c.w > 0) && (decide (c.w < 9) && (decide (c.r ≥ 0) && decide (c.r < 5)))))))))) := by
 rw [z2b]
 simp only [Cf.right, inB, z0d, decide_eq_true_eq]
 omega
theorem qsm (c : Cf) : q08 P 23 [c.av] (fun x => x = bool c.right) := by
 refine q09 tyOk Tryz.func23 rfl rfl fun K hK => ?_
 simp only [seval, go_sem, Tryz.ntmps23]
 rw [qs5] at hK
 unfold Cf.av
 generalize e1 : decide (c.s > 0) = b1 at *
 generalize e2 : decide (c.s < 9) = b2 at *
 generalize e3 : decide (c.k > 0) = b3 at *
 generalize e4 : decide (c.k < 9) = b4 at *
 generalize e5 : decide (c.q > 0) = b5 at *
 generalize e6 : decide (c.q < 17) = b6 at *
 generalize e7 : decide (c.w > 0) = b7 at *
 generalize e8 : decide (c.w < 9) = b8 at *
 generalize e9 : decide (c.r ≥ 0) = b9 at *
 generalize e0 : decide (c.r < 5) = b0 at *
 cases b1
 · simp only [seval, go_sem, e1]
   apply hK
   simp only [seval, go_sem, Tryz.results23]
   try rfl
 cases b2
 · simp only [seval, go_sem, e1, e2]
   apply hK
   simp only [seval, go_sem, Tryz.results23]
   try rfl
 cases b3
 · simp only [seval, go_sem, e1, e2, e3]
   apply hK
   simp only [seval, go_sem, Tryz.results23]
   try rfl
 cases b4
 · simp only [seval, go_sem, e1, e2, e3, e4]
   apply hK
   simp only [seval, go_sem, Tryz.results23]
   try rfl
 cases b5
 · simp only [seval, go_sem, e1, e2, e3, e4, e5]
   apply hK
   simp only [seval, go_sem, Tryz.results23]
   try rfl
 cases b6
 · simp only [seval, go_sem, e1, e2, e3, e4, e5, e6]
   apply hK
   simp only [seval, go_sem, Tryz.results23]
   try rfl
 cases b7
 · simp only [seval, go_sem, e1, e2, e3, e4, e5, e6, e7]
   apply hK
   simp only [seval, go_sem, Tryz.results23]
   try rfl
 cases b8
 · simp only [seval, go_sem, e1, e2, e3, e4, e5, e6, e7, e8]
   apply hK
   simp only [seval, go_sem, Tryz.results23]
   try rfl
 cases b9
 · simp only [seval, go_sem, e1, e2, e3, e4, e5, e6, e7, e8, e9]
   apply hK
   simp only [seval, go_sem, Tryz.results23]
   try rfl
 simp only [seval, go_sem, e1, e2, e3, e4, e5, e6, e7, e8, e9, e0]
 apply hK
 simp only [seval, go_sem, Tryz.results23]
 try rfl
theorem qqm (c : Cf) (hr : c.right = false) : q08 P 17 [c.av] (fun x => x = .tup [.v (.pointer none), i64 1]) := by
 have hR := qdp c
 rw [hr] at hR
 refine q09 tyOk Tryz.func17 rfl rfl fun K hK => ?_
 simp only [seval, go_sem, Tryz.ntmps17]
 unfold Cf.av at hR ⊢
 simp only [seval, go_sem]
 (refine q00 hR rfl ?_; rintro _ rfl)
 simp only [seval, go_sem]
 apply hK
 simp only [seval, go_sem, Tryz.results17]
 try rfl
end Go.Proofs.YtdkcpcflfnakdaaGreat
namespace Go.Proofs.YtdkcpcflfnakdaaGreat
open Go Go.Proofs.YtdkcpcflfnakdaaGreat.Sym
set_option maxRecDepth 100000
set_option maxHeartbeats 1000000
set_option maxHeartbeats 2000000
theorem qrg {P : Program} {T : TypeId → Option TI} {L : Nat} {body : Code} {k : List Fr} {s s' : St} {K : AExit → St → Prop} (t : q2l L s s') (h : qek P T L body k s' K) : qek P T L body k s K := fun F n hF Hd B ι a w hB hR Q hq =>
 have ⟨ι1, h1, e1⟩ := t Hd B ι a w hR
 h F n hF Hd B ι1 a w hB h1 Q fun e s2 ι2 a2 w2 k1 k2 k3 => hq e s2 ι2 a2 w2 k1 k2 (e1.trans k3)
mutual
theorem ren_ren {b1 b2 b3 : List Nat} : ∀ x : AV, (∀ b ∈ bks x, b1.getD (b2.getD b 0) 0 = b3.getD b 0) → ren b1 (ren b2 x) = ren b3 x
 | .v _, _ => rfl
 | .agg xs, h => by simp only [ren]; rw [q97 xs h]
 | .tup xs, h => by simp only [ren]; rw [q97 xs h]
 | .sl _ _, _ => rfl
 | .rp _, _ => rfl
 | .own b _ _ _, h => by simp only [ren]; rw [h b (by simp [bks])]
 | .ptr b _, h => by simp only [ren]; rw [h b (by simp [bks])]
 | .ep b _ _ _, h => by simp only [ren]; rw [h b (by simp [bks])]
 | .fn _ caps, h => by simp only [ren]; rw [q97 caps h]
 | .any, _ => rfl
theorem q97 {b1 b2 b3 : List Nat} : ∀ xs : List AV, (∀ b ∈ q03 xs, b1.getD (b2.getD b 0) 0 = b3.getD b 0) → q0i b1 (q0i b2 xs) = q0i b3 xs
 | [], _ => rfl
 | x :: xs, h => by
  simp only [q0i]
  rw [ren_ren x fun b hb => h b (by simp only [q03, z0q]; exact .inl hb), q97 xs fun b hb => h b (by simp only [q03, z0q]; exact .inr hb)]
end
theorem renM_ren {b1 b2 b3 : List Nat} {X : List AB} (hX : X.all (AB.inR X.length) = true) (h : ∀ b, b < X.length → b1.getD (b2.getD b 0) 0 = b3.getD b 0) : renM b1 (renM b2 X) = renM b3 X := by
 apply z1e
 intro i
 rw [q23, q23, q23]
 cases hg : X[i]? with
 | none => rfl
 | some blk =>
  simp only [z19]
  congr 1
  have hk := z0l.1 hX _ (z06 hg)
  cases blk with
  | box cs => simp only [AB.ren]; rw [q97 cs fun b hb => h b (by have := z0l.1 hk b hb; simpa using this)]
  | _ => rfl
theorem renM_app (bs : List Nat) (X Y : List AB) : renM bs (X ++ Y) = renM bs X ++ renM bs Y := by
 apply z1e
 intro i
 rw [q23, List.getElem?_append, List.getElem?_append, q1y, q23, q23]
 split <;> rfl
theorem qr4 {X : List AB} (hX : X.all (AB.inR X.length) = true) {k N : Nat} (h : k + X.length ≤ N) : renM (List.range' 1 N) (at_ k X) = renM (List.range' (1 + k) X.length) X := by
 rw [at_, renM_ren hX]
 intro b hb
 rw [q1m hb, q1m (by omega), q1m hb]
 omega
abbrev dtw (n p pd : Nat) (A : Md) (D : Dt) (r : List AB) : List AB := modM n p A ++ (at_ (mlen n) (docT n pd D) ++ r)
theorem mm_all (n p : Nat) (A : Md) : (modM n p A).all (AB.inR (modM n p A).length) = true := by rw [q0u]; exact qfw n p A
theorem qgy (n p : Nat) (D : Dt) : (docT n p D).all (AB.inR (docT n p D).length) = true := by rw [q0y]; exact qfx n p D
theorem dtw_drop {n p pd : Nat} {A : Md} {D : Dt} {b0 : AB} {live : List Nat} {s s' : St}
 (hm : s.mem = b0 :: (renM (List.range' 1 (mlen n)) (modM n p A) ++ renM (List.range' (mlen n + 1) (dlen n)) (docT n pd D))) (hm' : s'.mem = modM n p A ++ at_ (mlen n) (docT n pd D)) (ht : (s.keep live).tmps = q0i (List.range' 1 (mlen n + dlen n)) s'.tmps)
 (hk : (q03 s'.tmps).all (fun b => decide (b < mlen n + dlen n)) = true) : q2l 0 s s' := by
 have e1 := qr4 (mm_all n p A) (k := 0) (N := mlen n + dlen n) (by rw [q0u]; omega)
 have e2 := qr4 (qgy n pd D) (k := mlen n) (N := mlen n + dlen n) (by rw [q0y]; omega)
 rw [q0u, at_, q0u, qg2, z1y] at e1
 rw [q0y, Nat.add_comm 1] at e2
 have hlen : (renM (List.range' 1 (mlen n)) (modM n p A) ++ renM (List.range' (mlen n + 1) (dlen n)) (docT n pd D)).length = mlen n + dlen n := by rw [z0c, q1y, q1y, q0u, q0y]
 refine q2l.keepPick live (List.range' 1 (mlen n + dlen n)) z2c ?_ ht (by rw [z22]; exact hk) ?_ (fun b hb => absurd hb (z28 b))
 · rw [hm, hm', renM_app, e1, e2]
   apply z1e
   intro i
   rw [z11, z11]
   by_cases hi : i < mlen n + dlen n
   · rw [q38 hi]
     simp only [z19]
     rw [show 1 + i = i + 1 by omega, z03, z05 (by omega)]
     rfl
   · rw [z0p (by simp; omega), z0p (by omega)]
     rfl
 · rw [hm', z22, z4m, z0d]
   refine ⟨z0l.2 fun blk hb => ?_, z0l.2 fun blk hb => ?_⟩
   · have := z0l.1 (qfw n p A) blk hb
     cases blk with
     | box cs => exact z0l.2 fun b hb => by have := z0l.1 this b hb; simp only [decide_eq_true_eq] at this ⊢; omega
     | _ => rfl
   · obtain ⟨i, hi⟩ := z1m hb
     cases blk with
     | box cs => exact z0l.2 fun b hb => by have := (qpm (qgy n pd D) hi b hb).2; rw [q0y] at this; exact decide_eq_true this
     | _ => rfl
section
variable (n p pd : Nat) (A : Md) (D : Dt) (r : List AB)
theorem td_len : (at_ (mlen n) (docT n pd D)).length = dlen n := by rw [q8u, q0y]
theorem td_alen : (at_ (mlen n) (docT n pd D) ++ r).length = dlen n + r.length := by rw [z0c, td_len]
theorem td_add (r' : List AB) : (at_ (mlen n) (docT n pd D) ++ r) ++ r' = at_ (mlen n) (docT n pd D) ++ (r ++ r') := z1r _ _ _
theorem td_at0 : (modM n p A ++ (at_ (mlen n) (docT n pd D) ++ r))[mlen n + dlen n]? = r[0]? := ql6 n p (dlen n) A _ r (q0y n pd D) 0
theorem td_at1 : (modM n p A ++ (at_ (mlen n) (docT n pd D) ++ r))[mlen n + (dlen n + 1)]? = r[1]? := ql6 n p (dlen n) A _ r (q0y n pd D) 1
theorem td_at2 : (modM n p A ++ (at_ (mlen n) (docT n pd D) ++ r))[mlen n + (dlen n + 2)]? = r[2]? := ql6 n p (dlen n) A _ r (q0y n pd D) 2
theorem td_s0 {x : AB} : (modM n p A ++ (at_ (mlen n) (docT n pd D) ++ r)).set (mlen n + dlen n) x = modM n p A ++ (at_ (mlen n) (docT n pd D) ++ r.set 0 x) := tw_s n p (dlen n) A _ r (q0y n pd D) 0 x
theorem td_s1 {x : AB} : (modM n p A ++ (at_ (mlen n) (docT n pd D) ++ r)).set (mlen n + (dlen n + 1)) x = modM n p A ++ (at_ (mlen n) (docT n pd D) ++ r.set 1 x) := tw_s n p (dlen n) A _ r (q0y n pd D) 1 x
theorem td_s2 {x : AB} : (modM n p A ++ (at_ (mlen n) (docT n pd D) ++ r)).set (mlen n + (dlen n + 2)) x = modM n p A ++ (at_ (mlen n) (docT n pd D) ++ r.set 2 x) := tw_s n p (dlen n) A _ r (q0y n pd D) 2 x
theorem td_0 (hn : 1 ≤ n) : (modM n p A ++ (at_ (mlen n) (docT n pd D) ++ r))[mlen n]? = some (.box [i64 D.c.s, i64 D.c.k, i64 D.c.q, i64 D.c.w, i64 D.c.r, u64 D.c.e, u64 D.c.st, u64 D.t.now, u64 D.t.seq, bool D.t.cl, .own (mlen n + 1) 1 0 n, .own (mlen n + 2) 1 0 n]) := by
 have := qqg n p (dlen n) A _ r (q0y n pd D) 0 (by simp only [dlen]; omega)
 rw [z1y] at this
 rw [this, q0y, dm_0n]
 simp only [z19, AB.ren, q0i, ren]
 rw [q1m (by simp only [dlen]; omega), q1m (by simp only [dlen]; omega)]
theorem qkh {X : List AB} : ((modM n p A ++ (at_ (mlen n) (docT n pd D) ++ r)).take (mlen n + dlen n)).map (AB.trunc X (mlen n + dlen n)) = modM n p A ++ at_ (mlen n) (docT n pd D) := by
 have := tw_rn n p (dlen n) A _ r (q0y n pd D) (qfx n pd D) 0 (Y := X)
 simpa using this
theorem td_retn {X : List AB} : ((modM n p A ++ at_ (mlen n) (docT n pd D)).take (mlen n + dlen n)).map (AB.trunc X (mlen n + dlen n)) = modM n p A ++ at_ (mlen n) (docT n pd D) := by
 have := qkh n p pd A D [] (X := X)
 rwa [z0i] at this
theorem qto (k : Nat) : (at_ (mlen n) (docT n pd D) ++ r).map (AB.kill (mlen n + (dlen n + k))) = at_ (mlen n) (docT n pd D) ++ r.map (AB.kill (mlen n + (dlen n + k))) := by
 rw [z12, qtq (qgy n pd D) (by rw [q0y]; omega)]
theorem td_kill0 : (at_ (mlen n) (docT n pd D) ++ r).map (AB.kill (mlen n + dlen n)) = at_ (mlen n) (docT n pd D) ++ r.map (AB.kill (mlen n + dlen n)) := qto n pd D r 0
theorem td_killn : (at_ (mlen n) (docT n pd D)).map (AB.kill (mlen n + dlen n)) = at_ (mlen n) (docT n pd D) := by
 rw [qtq (qgy n pd D) (by rw [q0y]; omega)]
end
attribute [go_sem] td_len td_alen td_add td_at0 td_at1 td_at2 td_s0 td_s1 td_s2 qto td_kill0 td_killn
theorem ptrD (n : Nat) : AV.ptr (mlen n) 0 = ren (List.range' (mlen n) (dlen n)) (.ptr 0 0) := by
 simp only [ren]
 rw [q1m (by simp only [dlen]; omega), z1y]
theorem qed {g : FuncId} {args0 args : List AV} {K0 K : AV → List AB → Prop} {n p pd : Nat} {A : Md} {D : Dt} {r : List AB} (h : ACall P g (docT n pd D) args0 K0) (ha : args = q0i (List.range' (mlen n) (dlen n)) args0) (hb : (q03 args0).all (fun b => decide (b < 3)) = true)
 (hK : ∀ x m', K0 x m' → bks x = [] ∧ ∃ D', m' = docT n pd D' ∧ K x (dtw n p pd A D' r)) : ACall P g (dtw n p pd A D r) args K := by
 have hb' : (q03 args0).all (fun b => decide (b < dlen n)) = true := z0l.2 fun b hm => by have := z0l.1 hb b hm; simp only [decide_eq_true_eq] at this ⊢; simp only [dlen]; omega
 refine tw_in h (q0y n pd D) (qfx n pd D) ha hb' ?_
 intro x X' hx
 obtain ⟨hbx, D', rfl, hv⟩ := hK x X' hx
 exact ⟨q0y n pd D', by rw [qj7 hbx]; exact hv⟩
