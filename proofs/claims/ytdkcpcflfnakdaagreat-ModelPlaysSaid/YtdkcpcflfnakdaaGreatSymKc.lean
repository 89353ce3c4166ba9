/- A text of the walk that proves a law of this seat; joined by a program. -/
import Derived.Test.YtdkcpcflfnakdaaGreatSymKb
set_option linter.unusedSimpArgs false
set_option linter.unusedVariables false
namespace Go.Proofs.YtdkcpcflfnakdaaGreat.Sym
open Go Go.RowKit
variable {L : Nat} {Hd : Nat → Prop} {P : Program}
variable {K : AV → List AB → Prop} {args : List AV} {b sz : Nat} {blk1 : AB} {g : FuncId} {m : List AB} {x0 : AV}
def kp1 (b : Nat) : Nat → Bool := kpOf (fun _ => false) [b] 0
theorem qkr {c : Nat} (h : c ≠ b) : kp1 b c = true := by
 unfold kp1 kpOf
 rw [if_neg (z37 h)]; rfl
mutual
theorem qyb : ∀ x : AV, (bks (q0w b x)).all (kp1 b) = true
 | .v _ => rfl
 | .agg xs => q99 xs
 | .tup xs => q99 xs
 | .sl _ _ => rfl
 | .rp _ => rfl
 | .own b' _ _ _ => by
  simp only [q0w]
  split
  · rfl
  · rename_i h; simp [bks, qkr h]
 | .ptr b' _ => by
  simp only [q0w]
  split
  · rfl
  · rename_i h; simp [bks, qkr h]
 | .ep b' _ _ _ => by
  simp only [q0w]
  split
  · rfl
  · rename_i h; simp [bks, qkr h]
 | .fn _ caps => q99 caps
 | .any => rfl
theorem q99 : ∀ xs : List AV, (q03 (q1d b xs)).all (kp1 b) = true
 | [] => rfl
 | x :: xs => by simp only [q1d, q03, z4m, qyb x, q99 xs, z4v]
end
theorem q7b (bs : List Nat) : ∀ (m : List AB) (b0 : Nat), q5g (kp1 b) bs b0 (m.map (AB.kill b)) = true
 | [], _ => rfl
 | .box cs :: m, b0 => by
  simp only [z0r, AB.kill, q5g, q7b bs m (b0 + 1), q99 cs, z2t, z4v]
 | .row _ _ _ :: m, b0 => q7b bs m (b0 + 1)
 | .rowc _ _ _ _ :: m, b0 => q7b bs m (b0 + 1)
 | .gone :: m, b0 => q7b bs m (b0 + 1)
 | .tr _ _ :: m, b0 => q7b bs m (b0 + 1)
theorem Rel.killMem {B : Nat} {ι : Loc} {s : St} {a : Act} {w : World} (h : Rel Hd B ι s a w) (b : Nat) : Rel Hd B ι { s with mem := s.mem.map (AB.kill b) } a w := by
 refine ⟨by simp [h.len], h.lt, h.inj, h.tmps, ?_, h.marks, h.hid, h.glob⟩
 intro i blk hi
 simp only [z11] at hi
 cases hm : s.mem[i]? with
 | none => rw [hm] at hi; cases hi
 | some blk0 =>
  rw [hm] at hi
  cases hi
  have h0 := h.mem i blk0 hm
  cases blk0 with
  | box cs =>
   obtain ⟨r, t, vs, h1, h2, h3⟩ := h0
   exact ⟨r, t, vs, h1, h2, q4t (Ext.refl (L := 0) ι w) h.lt (fun _ _ _ x => x) _ _ h3⟩
  | _ => exact h0
theorem q0r.toR {args0 : List AV} {blk0 : AB} (h : q0r P (fun _ => false) g [blk0] args0 (fun y m' => y = x0 ∧ m' = [blk1])) (hm : m[b]? = some (AB.ren [b] blk0)) (hkill : AB.kill b (AB.ren [b] blk0) = AB.ren [b] blk0) (ha : args = q0i [b] args0) (hk1 : (q03 args0).all (fun c => decide (c < 1)) = true) (hk2 : AB.inR 1 blk0 = true) :
 q6k P b g m args (AB.ren [b] blk1) (ren [b] x0) := by
 have hm1 : (m.map (AB.kill b))[b]? = some (AB.ren [b] blk0) := by rw [z11, hm, z19, hkill]
 obtain ⟨hE, hF⟩ := h.frame (m := m.map (AB.kill b)) (args := args) (K := fun x m' => x = ren [b] x0 ∧ m' = (m.map (AB.kill b)).set b (AB.ren [b] blk1)) [b] (by simp) (by simp only [z0r, z0o, renM, hm1]) ha (by simpa using hk1) (by simpa using hk2) (q7b [b] m 0)
  (by rintro _ _ ⟨rfl, rfl⟩; exact ⟨rfl, rfl, rfl⟩)
 refine ⟨hE, fun Hd ι w vs hR => (hF Hd ι w vs (hR.killMem b)).mono ?_⟩
 rintro e w' ⟨y, x, ι', m', rfl, hR', hE', hkp, rfl, rfl⟩
 exact ⟨y, ι', rfl, hR', hE', fun b' o hne ho => hkp b' o (qkr hne) ho⟩
mutual
theorem ren_pure {bs : List Nat} : ∀ x : AV, x.pure = true → ren bs x = x
 | .v _, _ => rfl
 | .agg xs, h => by simp only [ren]; rw [q7o xs h]
 | .tup xs, h => by simp only [ren]; rw [q7o xs h]
 | .sl _ _, _ => rfl
 | .rp _, _ => rfl
 | .own _ _ _ _, h => by cases h
 | .ptr _ _, h => by cases h
 | .ep _ _ _ _, h => by cases h
 | .fn _ caps, h => by simp only [ren]; rw [q7o caps h]
 | .any, h => by cases h
theorem q7o {bs : List Nat} : ∀ xs : List AV, q18 xs = true → q0i bs xs = xs
 | [], _ => rfl
 | x :: xs, h => by
  simp only [q18, z0d] at h
  simp only [q0i]
  rw [ren_pure x h.1, q7o xs h.2]
end
mutual
theorem bks_pure : ∀ x : AV, x.pure = true → bks x = []
 | .v _, _ => rfl
 | .agg xs, h => q7p xs h
 | .tup xs, h => q7p xs h
 | .sl _ _, _ => rfl
 | .rp _, _ => rfl
 | .own _ _ _ _, h => by cases h
 | .ptr _ _, h => by cases h
 | .ep _ _ _ _, h => by cases h
 | .fn _ caps, h => q7p caps h
 | .any, h => by cases h
theorem q7p : ∀ xs : List AV, q18 xs = true → q03 xs = []
 | [], _ => rfl
 | x :: xs, h => by
  simp only [q18, z0d] at h
  simp only [q03]
  rw [bks_pure x h.1, q7p xs h.2]; rfl
end
theorem ACall.toGone (h : ACall P g [] args (fun y m' => y = x0 ∧ m' = [blk1])) (hp : q18 args = true) : q0r P (fun _ => false) g [.gone] args (fun y m' => y = x0 ∧ m' = [blk1]) := by
 refine ⟨h.1, fun Hd ι w vs hR => ?_⟩
 have hr : rels Hd ι w args vs := by simpa using hR.tmps
 have hI : ∀ r, Imm Hd ι w r → Imm Hd [] w r := fun r hi => ⟨hi.1, by simp, hi.2.2⟩
 have hr0 : rels Hd [] w args vs := q28 hI args vs (q2o hr hp) hr
 refine (h.2 Hd [] w vs ⟨rfl, (fun r hh => by cases hh), (fun i j r hi => by simp at hi), by simpa using hr0, (fun i blk hi => by simp at hi), ⟨[], rfl, z24, fun r hr => by cases hr⟩,
  (fun r hh => ⟨(hR.hid r hh).1, by simp⟩), hR.glob.free hI⟩).mono ?_
 rintro e w' ⟨y, x, ι', m', rfl, hR', hE', hx, hm⟩
 have hE0 := hE' 0
 exact ⟨y, x, ι', m', rfl, hR', ⟨hE0.os, hE0.tape, hE0.output, hE0.size, fun r hr hn => hE0.imm r hr (by simp), hE0.shape, fun b o hb => absurd hb (z28 b)⟩, fun _ _ hh => (by cases hh), hx, hm⟩
theorem Rel.setGone {B : Nat} {ι : Loc} {s : St} {a : Act} {w : World} (h : Rel Hd B ι s a w) (b : Nat) : Rel Hd B ι { s with mem := s.mem.set b .gone } a w := by
 refine ⟨by simp [h.len], h.lt, h.inj, h.tmps, ?_, h.marks, h.hid, h.glob⟩
 intro i blk hi
 by_cases c : b = i
 · subst c
   by_cases hl : b < s.mem.length
   · simp only [z0m hl, z1d] at hi
     subst hi; exact True.intro
   · have hi' : (s.mem.set b .gone)[b]? = some blk := hi
     rw [z0p (by simp; omega)] at hi'; cases hi'
 · simp only [z0e c] at hi
   exact h.mem i blk hi
theorem q6k.new (h : ACall P g [] args (fun y m' => y = x0 ∧ m' = [blk1])) (hp : q18 args = true) (hb : b < m.length) : q6k P b g m args (AB.ren [b] blk1) (ren [b] x0) := by
 obtain ⟨h1, h2⟩ := (h.toGone hp).toR (m := m.set b .gone) (args := args) (b := b) (by rw [z0m hb]; rfl) rfl (q7o args hp).symm (by rw [q7p args hp]; rfl) rfl
 refine ⟨h1, fun Hd ι w vs hR => (h2 Hd ι w vs (hR.setGone b)).mono ?_⟩
 rintro e w' ⟨y, ι', rfl, k1, k2, k3⟩
 refine ⟨y, ι', rfl, ?_, k2, k3⟩
 rwa [z4b, List.set_set] at k1
theorem q0j.relocate {blk0 : AB} {t : TypeId} {n : Nat} {ys : List AV} (h : q0j P 0 g [blk0] args (fun x m' => (x = .own 0 sz 0 n ∧ ∃ N zs, m' = [.rowc t sz (ys ++ zs) N]) ∨ (x = .own 1 sz 0 n ∧ ∃ b0, m' = [b0, .row t sz ys]))) :
 q0r P (fun _ => false) g [blk0] args (fun x m' => x = .own 0 sz 0 n ∧ m' = [.row t sz ys]) := by
 refine ⟨h.1, fun Hd ι w vs hR => (h.2 Hd ι w vs hR).mono ?_⟩
 have weak : ∀ {ι' : Loc} {w' : World} {i : Nat} {zs : List AV}, q2j Hd ι' w' i (.row t sz (ys ++ zs)) → q2j Hd ι' w' i (.row t sz ys) := by
  rintro ι' w' i zs ⟨hp, hm⟩
  have hp1 : q05 ys = [] := by
   have := q2e hp ys.length
   rwa [z4e] at this
  refine ⟨hp1, ?_⟩
  rcases hm with ⟨r, cells, us, h1, h2, h3, h4⟩ | ⟨h1, h2⟩
  · have h3' := q2c ys.length h3
    rw [z4e] at h3'
    have h4' := q20.drop_take h4 0 ys.length
    rw [z17, Nat.zero_mul, z16] at h4'
    exact .inl ⟨r, cells, _, h1, h2, h3', h4'⟩
  · exact .inr ⟨h1, (z2u.1 h2).1⟩
 rintro e w' ⟨y, x, ι', m', rfl, hR', hE', hx⟩
 rcases hx with ⟨rfl, N, zs, rfl⟩ | ⟨rfl, b0, rfl⟩
 · refine ⟨y, .own 0 sz 0 n, ι', [.row t sz ys], rfl, ⟨hR'.len, hR'.lt, hR'.inj, hR'.tmps, ?_, hR'.marks, hR'.hid, hR'.glob⟩, hE', fun _ _ hh => (by cases hh), rfl, rfl⟩
   intro i blk hi
   cases i with
   | zero => cases hi; exact weak (hR'.mem 0 _ rfl).1
   | succ i => simp at hi
 · have hl : ι'.length = 2 := hR'.len
   obtain ⟨o0, o1, rfl⟩ : ∃ o0 o1, ι' = [o0, o1] := by
    match ι', hl with
    | [o0, o1], _ => exact ⟨o0, o1, rfl⟩
   have hmem : ∀ r : Nat, some r ∈ [o1] → some r ∈ [o0, o1] := fun r hr => by simp at hr; simp [hr]
   have hI : ∀ r, Imm Hd [o0, o1] w' r → Imm Hd [o1] w' r := fun r hi => ⟨hi.1, fun hh => hi.2.1 (hmem r hh), hi.2.2⟩
   have e1 : Ext 0 [o0, o1] w' [o1] w' := ⟨rfl, rfl, rfl, z09 _, fun r _ hn => ⟨fun hh => hn (hmem r hh), rfl⟩, fun _ _ => rfl, fun b o hb => absurd hb (z28 b)⟩
   refine ⟨y, .own 0 sz 0 n, [o1], [.row t sz ys], rfl, ⟨rfl, fun r hr => hR'.lt r (hmem r hr), ?_, ?_, ?_, hR'.marks.ext e1, hR'.hidExt e1, hR'.glob.free hI⟩, hE'.trans e1, fun _ _ hh => (by cases hh), rfl, rfl⟩
   · intro i j r hi hj
     match i, j with
     | 0, 0 => rfl
     | i + 1, _ => simp at hi
     | _, j + 1 => simp at hj
   · obtain ⟨y', z', e2, hxy, rfl⟩ := hR'.tmps
     refine ⟨y', [], e2, ?_, rfl⟩
     rcases hxy with ⟨r, cap, k, t', e3, h1, h2, h3, h4, h5⟩ | ⟨a0, e3, h1, h2, h3⟩
     · exact .inl ⟨r, cap, k, t', e3, h1, h2, by simpa using h3, h4, h5⟩
     · exact .inr ⟨a0, e3, h1, h2, by simpa using h3⟩
   · intro i blk hi
     cases i with
     | zero =>
      cases hi
      obtain ⟨hp, hm⟩ := hR'.mem 1 _ rfl
      refine ⟨hp, ?_⟩
      rcases hm with ⟨r, cells, us, h1, h2, h3, h4⟩ | ⟨h1, h2⟩
      · exact .inl ⟨r, cells, us, by simpa using h1, h2, q28 hI _ _ hp h3, h4⟩
      · exact .inr ⟨by simpa using h1, h2⟩
     | succ i => simp at hi
theorem q0j.room {M : Nat} {t : TypeId} {xs : List AV} {off len : Nat} (hsz : 0 < sz) (h : ∀ N, xs.length ≤ N → len + off ≤ N → q0j P M g [.rowc t sz xs N] (.own 0 sz off len :: args) K) : q0j P M g [.row t sz xs] (.own 0 sz off len :: args) K := by
 refine ⟨(h _ (Nat.le_max_left _ (len + off)) (Nat.le_max_right _ _)).1, fun Hd ι w vs hR => ?_⟩
 have hm := hR.mem 0 _ rfl
 obtain ⟨y, zs, e1, hy, hys⟩ := (show rels Hd ι w (.own 0 sz off len :: args) vs from by simpa using hR.tmps)
 have key : ∃ N, xs.length ≤ N ∧ len + off ≤ N ∧ qa9 ι w 0 sz N := by
  rcases hy with ⟨r, cap, n, t', rfl, h1, h2, h3, h4, h5⟩ | ⟨a0, rfl, h1, h2, h3⟩
  · refine ⟨off + cap, ?_, by omega, .inl ⟨r, t', h3, by rw [h5]; exact h4⟩⟩
    rcases hm.2 with ⟨r', cells, us, k1, k2, k3, k4⟩ | ⟨k1, _⟩
    · obtain rfl : r = r' := by rw [h3] at k1; simpa using k1
      have hs := q6t k2 k4.2.1
      rw [q0k us k4.1, ← q0h k3] at hs
      simp only [World.shape?, k2, z1d, z34] at h4
      rw [h4.2, ← h5] at hs
      exact Nat.le_of_mul_le_mul_right hs hsz
    · rw [h3] at k1; cases k1
  · refine ⟨0, ?_, by omega, .inr ⟨h3, rfl⟩⟩
    rcases hm.2 with ⟨r', cells, us, k1, _⟩ | ⟨_, rfl⟩
    · rw [h3] at k1; cases k1
    · exact z09 _
 obtain ⟨N, h1, h2, h3⟩ := key
 refine (h N h1 h2).2 Hd ι w vs ⟨hR.len, hR.lt, hR.inj, hR.tmps, ?_, hR.marks, hR.hid, hR.glob⟩
 intro i blk hi
 cases i with
 | zero => cases hi; exact ⟨hm, h3⟩
 | succ i => simp at hi
theorem q0j.toA (h : q0j P m.length g m args K) : ACall P g m args K :=
 ⟨h.1, fun Hd ι w vs hR => (h.2 Hd ι w vs hR).mono fun e w' ⟨y, x, ι', m', h1, h2, h3, h4⟩ => ⟨y, x, ι', m', h1, h2, fun L => ⟨h3.os, h3.tape, h3.output, h3.size, h3.imm, h3.shape, fun b o _ ho => h3.keep b o (by rw [← hR.len]; exact (z08.1 ho).1) ho⟩, h4⟩⟩
theorem ACall.empty (h : ∀ (a : Option Addr) (cap : Nat), ACall P g m (.v (.slice a 0 cap) :: args) K) : ACall P g m (.sl sz [] :: args) K := by
 refine ⟨(h none 0).1, fun Hd ι w vs hR => ?_⟩
 obtain ⟨y, zs, e1, hy, hys⟩ := (show rels Hd ι w (.sl sz [] :: args) vs from by simpa using hR.tmps)
 obtain ⟨_, a, cap, us, rfl, _, _, _⟩ := hy
 exact (h a cap).2 Hd ι w vs ⟨hR.len, hR.lt, hR.inj, ⟨_, zs, by simpa using e1, rfl, hys⟩, hR.mem, hR.marks, hR.hid, hR.glob⟩
