/- A text of the walk that proves a law of this seat; joined by a program. -/
import Derived.Test.YtdkcpcflfnakdaaGreatSymI
set_option linter.unusedSimpArgs false
set_option linter.unusedVariables false
namespace Go.Proofs.YtdkcpcflfnakdaaGreat.Sym
open Go Go.RowKit
variable {L : Nat} {Hd : Nat → Prop}
variable {B N : Nat} {P : Program} {a : Act} {s : St} {w : World} {ι : Loc}
mutual
def q0e (m : List AB) (N : Nat) : AV → AV
 | .agg xs => .agg (q06 m N xs)
 | .tup xs => .tup (q06 m N xs)
 | .own b sz off len => if N ≤ b then (match m[b]? with
  | some (.row _ sz' xs) => if sz = sz' ∧ off + len ≤ xs.length then .sl sz ((xs.drop off).take len) else .any
  | _ => .any) else .own b sz off len
 | .ptr b c => if N ≤ b then (match m[b]? with
  | some (.box cs) => if q18 cs = true then .rp (cs.drop c) else .any
  | _ => .any) else .ptr b c
 | .ep b sz i c => if N ≤ b then .any else .ep b sz i c
 | .fn f caps => .fn f (q06 m N caps)
 | x => x
def q06 (m : List AB) (N : Nat) : List AV → List AV
 | [] => []
 | x :: xs => q0e m N x :: q06 m N xs
end
def AB.trunc (m : List AB) (N : Nat) : AB → AB
 | .box cs => .box (q06 m N cs)
 | x => x
def St.trunc (s : St) (N : Nat) : St := ⟨q06 s.mem N s.tmps, (s.mem.take N).map (AB.trunc s.mem N)⟩
theorem q2f {α : Type} {l : List α} {b : Nat} (h : b < N) : (l.take N)[b]? = l[b]? := by rw [z5g, if_pos h]
theorem qjp (ι : Loc) (w : World) (N : Nat) (hL : L ≤ N) : Ext L ι w (ι.take N) w :=
 ⟨rfl, rfl, rfl, z09 _, fun r _ hn => ⟨fun h => hn (z1c h), rfl⟩, fun _ _ => rfl, fun b o hb ho => by rw [q2f (by omega)]; exact ho⟩
mutual
theorem qw7 {m : List AB} (hm : ∀ b blk, m[b]? = some blk → q2j Hd ι w b blk) (hinj : ∀ i j r : Nat, ι[i]? = some (some r) → ι[j]? = some (some r) → i = j) (hlt : ∀ r : Nat, some r ∈ ι → r < w.heap.size) (hnh : ∀ r : Nat, some r ∈ ι → ¬ Hd r) :
 ∀ (x : AV) (y : Value), rel Hd ι w x y → rel Hd (ι.take N) w (q0e m N x) y
 | .v _, _, h => h
 | .agg xs, _, h => by obtain ⟨vs, rfl, h⟩ := h; exact ⟨vs, rfl, q6b hm hinj hlt hnh xs vs h⟩
 | .tup xs, _, h => by obtain ⟨vs, rfl, h⟩ := h; exact ⟨vs, rfl, q6b hm hinj hlt hnh xs vs h⟩
 | .sl sz xs, y, h => q66 (qjp (L := 0) ι w N (z00 _)) hlt (.sl sz xs) y (fun b hb => by rw [AV.refs, h.1] at hb; cases hb) h
 | .rp cs, y, h => q66 (qjp (L := 0) ι w N (z00 _)) hlt (.rp cs) y (fun b hb => by rw [AV.refs, h.1] at hb; cases hb) h
 | .own b sz off len, y, h => by
  simp only [q0e]
  by_cases e : N ≤ b
  · rw [if_pos e]
    cases hb : m[b]? with
    | none => exact True.intro
    | some blk =>
     have hmr := hm b blk hb
     cases blk with
     | box cs => exact True.intro
     | gone => exact True.intro
     | rowc _ _ _ _ => exact True.intro
     | tr _ _ => exact True.intro
     | row t sz' xs =>
      simp only
      by_cases hc : sz = sz' ∧ off + len ≤ xs.length
      · rw [if_pos hc]
        obtain ⟨rfl, hlen⟩ := hc
        obtain ⟨hpu, hmr⟩ := hmr
        have hpu' := q2e (q25 hpu off) len
        have hl : ((xs.drop off).take len).length = len := by simp; omega
        rcases h with ⟨r, cap, n, t', rfl, hcap, hmx, hbr, hs, hn⟩ | ⟨a0, rfl, h1, h2, h3⟩
        · rcases hmr with ⟨r', cells, vs, k1, k2, k3, k4⟩ | ⟨k1, _⟩
          · obtain rfl : r = r' := by rw [hbr] at k1; simpa using k1
            refine ⟨hpu', some ⟨r, off * sz, none⟩, cap, (vs.drop off).take len, by rw [hl], by rw [hl]; exact hcap, q2s (fun r hh => z1c hh) hlt hpu' (q2c _ (q1u _ k3)), .inr ⟨r, off * sz, rfl, ⟨hlt r (z06 hbr), ?_, hnh r (z06 hbr)⟩, ?_⟩⟩
            · intro hh
              obtain ⟨i, hi⟩ := z1m hh
              have hil : i < N := by
               have := (z08.1 hi).1
               simp at this; omega
              rw [q2f hil] at hi
              have := hinj _ _ _ hbr hi
              omega
            · have := q20.drop_take k4 off len
              rw [z16] at this
              exact this
          · rw [hbr] at k1; cases k1
        · subst h1; subst h2
          refine ⟨hpu', a0, 0, [], by rw [hl], by rw [hl]; exact z09 _, ?_, .inl ?_⟩
          · simp [rels]
          · simp
      · rw [if_neg hc]; exact True.intro
  · rw [if_neg e]
    rcases h with ⟨r, cap, n, t', rfl, hcap, hmx, hbr, hs, hn⟩ | ⟨a0, rfl, h1, h2, h3⟩
    · exact .inl ⟨r, cap, n, t', rfl, hcap, hmx, by rw [q2f (by omega)]; exact hbr, hs, hn⟩
    · exact .inr ⟨a0, rfl, h1, h2, by rw [q2f (by omega)]; exact h3⟩
 | .ptr b c, _, h => by
  simp only [q0e]
  by_cases e : N ≤ b
  · rw [if_pos e]
    cases hb : m[b]? with
    | none => exact True.intro
    | some blk =>
     have hmr := hm b blk hb
     cases blk with
     | row _ _ _ => exact True.intro
     | gone => exact True.intro
     | rowc _ _ _ _ => exact True.intro
     | tr _ _ => exact True.intro
     | box cs =>
      simp only
      by_cases hc : q18 cs = true
      · rw [if_pos hc]
        obtain ⟨r, rfl, hbr⟩ := h
        obtain ⟨r', t, vs, k1, k2, k3⟩ := hmr
        obtain rfl : r = r' := by rw [hbr] at k1; simpa using k1
        have hp0 : q05 cs = [] := q2o k3 hc
        have hp1 := q25 hp0 c
        refine ⟨hp1, r, c, vs.toList.drop c, rfl, ⟨hlt r (z06 hbr), ?_, hnh r (z06 hbr)⟩, q2s (fun r hh => z1c hh) hlt hp1 (q1u _ k3), ?_⟩
        · intro hh
          obtain ⟨i, hi⟩ := z1m hh
          have hil : i < N := by
           have := (z08.1 hi).1
           simp at this; omega
          rw [q2f hil] at hi
          have := hinj _ _ _ hbr hi
          omega
        · have := (q1x k2).drop c
          rw [z16] at this
          exact this
      · rw [if_neg hc]; exact True.intro
  · rw [if_neg e]
    obtain ⟨r, rfl, hb⟩ := h
    exact ⟨r, rfl, by rw [q2f (by omega)]; exact hb⟩
 | .ep b sz i c, _, h => by
  simp only [q0e]
  by_cases e : N ≤ b
  · rw [if_pos e]; exact True.intro
  · rw [if_neg e]
    obtain ⟨r, rfl, hb⟩ := h
    exact ⟨r, rfl, by rw [q2f (by omega)]; exact hb⟩
 | .fn f caps, _, h => by obtain ⟨vs, rfl, h⟩ := h; exact ⟨vs, rfl, q6b hm hinj hlt hnh caps vs h⟩
 | .any, _, _ => True.intro
theorem q6b {m : List AB} (hm : ∀ b blk, m[b]? = some blk → q2j Hd ι w b blk) (hinj : ∀ i j r : Nat, ι[i]? = some (some r) → ι[j]? = some (some r) → i = j) (hlt : ∀ r : Nat, some r ∈ ι → r < w.heap.size) (hnh : ∀ r : Nat, some r ∈ ι → ¬ Hd r) :
 ∀ (xs : List AV) (ys : List Value), rels Hd ι w xs ys → rels Hd (ι.take N) w (q06 m N xs) ys
 | [], _, h => h
 | x :: xs, _, h => by
  obtain ⟨y, zs, rfl, h1, h2⟩ := h
  exact ⟨y, zs, rfl, qw7 hm hinj hlt hnh x y h1, q6b hm hinj hlt hnh xs zs h2⟩
end
theorem Rel.trunc (h : Rel Hd B ι s a w) (N : Nat) (hL : L ≤ N) : Rel Hd B (ι.take N) (s.trunc N) a w ∧ Ext L ι w (ι.take N) w := by
 have e := qjp (L := L) ι w N hL
 refine ⟨⟨by simp [St.trunc, h.len], fun r hr => h.lt r (z1c hr), ?_, q6b h.mem h.inj h.lt h.nhid _ _ h.tmps, ?_, h.marks.ext e, h.hidExt e, h.glob.ext e⟩, e⟩
 · have key : ∀ k r : Nat, (ι.take N)[k]? = some (some r) → ι[k]? = some (some r) := by
    intro k r hk
    have hl := (z08.1 hk).1
    rw [q2f (by simp at hl; omega)] at hk
    exact hk
   exact fun i j r hi hj => h.inj i j r (key i r hi) (key j r hj)
 · intro i blk hi
   simp only [St.trunc, z11] at hi
   by_cases c : i < N
   · rw [q2f c] at hi
     cases hm : s.mem[i]? with
     | none => rw [hm] at hi; cases hi
     | some blk0 =>
      rw [hm] at hi
      cases hi
      have h0 := h.mem i blk0 hm
      cases blk0 with
      | box cs =>
       obtain ⟨r, t, vs, h1, h2, h3⟩ := h0
       exact ⟨r, t, vs, by rw [q2f c]; exact h1, h2, q6b h.mem h.inj h.lt h.nhid _ _ h3⟩
      | row t sz xs =>
       obtain ⟨hp, h0⟩ := h0
       refine ⟨hp, ?_⟩
       rcases h0 with ⟨r, cells, vs, h1, h2, h3, h4⟩ | ⟨h1, h2⟩
       · exact .inl ⟨r, cells, vs, by rw [q2f c]; exact h1, h2, q2s (fun r hh => z1c hh) h.lt hp h3, h4⟩
       · exact .inr ⟨by rw [q2f c]; exact h1, h2⟩
      | rowc t sz xs N =>
       obtain ⟨⟨hp, h0⟩, hcap⟩ := h0
       refine ⟨⟨hp, ?_⟩, hcap.move (fun o ho => by rw [q2f c]; exact ho) (fun _ _ => rfl)⟩
       rcases h0 with ⟨r, cells, vs, h1, h2, h3, h4⟩ | ⟨h1, h2⟩
       · exact .inl ⟨r, cells, vs, by rw [q2f c]; exact h1, h2, q2s (fun r hh => z1c hh) h.lt hp h3, h4⟩
       · exact .inr ⟨by rw [q2f c]; exact h1, h2⟩
      | gone => exact True.intro
      | tr _ _ => exact True.intro
   · rw [z0p (by simp; omega)] at hi; cases hi
def keepV (live : List Nat) : Nat → List AV → List AV
 | _, [] => []
 | i, x :: xs => (if live.elem i then x else .any) :: keepV live (i + 1) xs
def St.keep (s : St) (live : List Nat) : St := { s with tmps := keepV live 0 s.tmps }
theorem qn7 (live : List Nat) : ∀ (i : Nat) (xs : List AV) (ys : List Value), rels Hd ι w xs ys → rels Hd ι w (keepV live i xs) ys
 | _, [], _, h => h
 | i, x :: xs, _, h => by
  obtain ⟨y, zs, rfl, h1, h2⟩ := h
  refine ⟨y, zs, rfl, ?_, qn7 live (i + 1) xs zs h2⟩
  split
  · exact h1
  · exact True.intro
theorem Rel.keep (h : Rel Hd B ι s a w) (live : List Nat) : Rel Hd B ι (s.keep live) a w :=
 ⟨h.len, h.lt, h.inj, qn7 live 0 _ _ h.tmps, h.mem, h.marks, h.hid, h.glob⟩
def q72 (P : Program) (T : TypeId → Option TI) (L : Nat) (ops : Array Oper) : List Oper → St → (St → Prop) → Prop
 | [], s, K => K s
 | o :: rest, s, K => match o.guard with
  | none => aop P T L o.op s (fun x s' => q72 P T L ops rest (s'.put o.dst x) K)
  | some (j, want) => match (ops[j]?).bind (·.dst) with
   | some d => match s.tmps.getD d .any with
    | .v (.bool c) => (c = want → aop P T L o.op { s with tmps := s.tmps.set d (.v (.bool want)) } (fun x s' => q72 P T L ops rest (s'.put o.dst x) K)) ∧
     (c = !want → q72 P T L ops rest (({ s with tmps := s.tmps.set d (.v (.bool !want)) } : St).put o.dst (.v undef)) K)
    | .v (.tuple _) => q72 P T L ops rest (s.put o.dst (.v undef)) K
    | _ => False
   | none => False
theorem qej {l : List AV} {d : Nat} {x : AV} (h : l.getD d .any = x) (hx : x ≠ .any) : l.set d x = l := by
 apply z1e
 intro i
 by_cases c : d = i
 · subst c
   by_cases hl : d < l.length
   · rw [z0m hl]
     rw [z04, z05 hl] at h
     rw [z05 hl, ← h]; rfl
   · rw [z04, z0p (by omega)] at h
     exact absurd h.symm hx
 · rw [z0e c]
theorem q9n (h : Rel Hd B ι s a w) {d : Nat} {v : Value} (hc : s.tmps.getD d .any = .v v) : a.tmps[d]? = some v := by
 have hrel := qaz d h.tmps
 rw [hc] at hrel
 have hlen : d < s.tmps.length := by
  apply z2k
  intro hge
  rw [z04, z0p hge] at hc
  cases hc
 have hlen2 : d < a.tmps.size := by
  have e := q0h h.tmps
  rw [z1g] at e
  rw [← e]; exact hlen
 have : a.tmps.toList.getD d undef = v := hrel
 rw [z04, z3d, z2y hlen2] at this
 rw [z2y hlen2]
 simpa using this
theorem qaa {F : Fence} {n : Nat} {T : TypeId → Option TI} (hT : TyOk P T) (hF : Wide F) {ops : Array Oper} {Q : Exit → Act → World → Prop} : ∀ (l : List Oper) {ι : Loc} {s : St} {a : Act} {w : World} {K : St → Prop},
 Rel Hd B ι s a w → q72 P T L ops l s K → (∀ s' ι' a' w', Rel Hd B ι' s' a' w' → Ext L ι w ι' w' → K s' → Q .normal a' w') → wpListIn F n P ops Q l a w
 | [], ι, s, a, w, K, h, hK, hn => hn s ι a w h (Ext.refl _ _) hK
 | o :: rest, ι, s, a, w, K, h, hK, hn => by
  have step : ∀ (s0 : St), Rel Hd B ι s0 a w → aop P T L o.op s0 (fun x s' => q72 P T L ops rest (s'.put o.dst x) K) → o.wpIn F n P a w (wpListIn F n P ops Q rest) Q := by
   intro s0 h0 hK0
   refine q47 hT hF h0 hK0 ?_
   intro x y s' ι' w' hxy hR hE hK'
   exact qaa hT hF rest (hR.put o.dst hxy) hK' (fun s'' ι'' a'' w'' k1 k2 k3 => hn s'' ι'' a'' w'' k1 (hE.trans k2) k3)
  unfold q72 at hK
  split at hK
  · rename_i hg
    unfold wpListIn
    rw [if_pos (by simp [Region.wanted, hg])]
    exact step s h hK
  · rename_i j want hg
    split at hK <;> try exact hK.elim
    rename_i d hd
    split at hK <;> try exact hK.elim
    · rename_i c hc
      have hcv := q9n h hc
      have hy : yielded ops a.tmps j = some c := by
       unfold yielded
       rw [hd]
       simp [hcv]
      have hsame : { s with tmps := s.tmps.set d (.v (.bool c)) } = s := by
       rw [qej hc (by intro hh; cases hh)]
      by_cases hcw : c = want
      · subst hcw
        unfold wpListIn
        rw [if_pos (by simp [Region.wanted, hg, hy])]
        have := hK.1 rfl
        rw [hsame] at this
        exact step s h this
      · have hcn : c = !want := by cases c <;> cases want <;> simp_all
        unfold wpListIn
        rw [if_neg (by simp [Region.wanted, hg, hy, hcw])]
        refine ⟨fun f _ => hF.fn f, ?_⟩
        have hK2 := hK.2 hcn
        rw [← hcn, hsame] at hK2
        exact qaa hT hF rest (h.put o.dst (x := .v undef) (y := undef) rfl) hK2 hn
    · rename_i t hc
      have hcv := q9n h hc
      have hy : yielded ops a.tmps j = none := by
       unfold yielded
       rw [hd]
       simp [hcv]
      unfold wpListIn
      rw [if_neg (by simp [Region.wanted, hg, hy])]
      refine ⟨fun f _ => hF.fn f, ?_⟩
      exact qaa hT hF rest (h.put o.dst (x := .v undef) (y := undef) rfl) hK hn
inductive AExit where
 | normal
 | exit (id : Nat)
 | ret
def AExit.to : AExit → Exit
 | .normal => .normal
 | .exit id => .exit id
 | .ret => .ret
def ASem (P : Program) (L : Nat) (c : Code) (s : St) (K : AExit → St → Prop) : Prop :=
 ∀ (F : Fence) (n : Nat), Wide F → ∀ (Hd : Nat → Prop) (B : Nat) (ι : Loc) (a : Act) (w : World), B ≤ w.heap.size → Rel Hd B ι s a w → ∀ Q : Exit → Act → World → Prop,
  (∀ e s' ι' a' w', K e s' → Rel Hd B ι' s' a' w' → Ext L ι w ι' w' → Q e.to a' w') → c.wpIn F n P Q a w
def AExit.thenK (K : AExit → St → Prop) (next : St → Prop) : AExit → St → Prop
 | .normal, s => next s
 | e, s => K e s
def AExit.inBlock (id : Nat) (K : AExit → St → Prop) : AExit → St → Prop
 | .exit id', s => if id' = id then K .normal s else K (.exit id') s
 | e, s => K e s
def vc (P : Program) (T : TypeId → Option TI) (L : Nat) : Code → St → (AExit → St → Prop) → Prop
 | .skip, s, K => K .normal s
 | .region id ops d, s, K => if d then ASem P L (.region id ops d) s K else q72 P T L ops ops.toList s (K .normal)
 | .seq a b, s, K => vc P T L a s (AExit.thenK K fun s' => vc P T L b s' K)
 | .cond c a b, s, K => match s.ev c with
  | .v (.bool t) => (t = true → vc P T L a s K) ∧ (t = false → vc P T L b s K)
  | _ => False
 | .block id c, s, K => vc P T L c s (AExit.inBlock id K)
 | .exit id, s, K => K (.exit id) s
 | .ret, s, K => K .ret s
 | c, s, K => ASem P L c s K
theorem q82 {T : TypeId → Option TI} (hT : TyOk P T) : ∀ (c : Code) (s : St) (K : AExit → St → Prop), vc P T L c s K → ASem P L c s K := by
 intro c
 induction c with
 | skip => intro s K h F n hF Hd B ι a w hB hR Q hq; exact wpIn_skip (hq .normal s ι a w h hR (Ext.refl _ _))
 | region id ops d =>
  intro s K h
  unfold vc at h
  cases d with
  | true => exact h
  | false =>
   intro F n hF Hd B ι a w hB hR Q hq
   exact wpIn_region_list (qaa hT hF ops.toList hR h (fun s' ι' a' w' k1 k2 k3 => hq .normal s' ι' a' w' k3 k1 k2))
 | seq x y ihx ihy =>
  intro s K h F n hF Hd B ι a w hB hR Q hq
  refine wpIn_seq (ihx s _ h F n hF Hd B ι a w hB hR _ ?_)
  intro e s' ι' a' w' hK hR' hE
  cases e with
  | normal =>
   exact ihy s' K hK F n hF Hd B ι' a' w' (z1f hB hE.size) hR' Q (fun e2 s2 ι2 a2 w2 k1 k2 k3 => hq e2 s2 ι2 a2 w2 k1 k2 (hE.trans k3))
  | exit id => exact hq (.exit id) s' ι' a' w' hK hR' hE
  | ret => exact hq .ret s' ι' a' w' hK hR' hE
 | cond c x y ihx ihy =>
  intro s K h F n hF Hd B ι a w hB hR Q hq
  unfold vc at h
  split at h <;> try exact h.elim
  rename_i t ht
  have hc := hR.ev c
  rw [ht] at hc
  refine wpIn_cond_split (t := t) hc (fun e => ?_) (fun e => ?_)
  · exact ihx s K (h.1 e) F n hF Hd B ι a w hB hR Q hq
  · exact ihy s K (h.2 e) F n hF Hd B ι a w hB hR Q hq
 | block id c ih =>
  intro s K h F n hF Hd B ι a w hB hR Q hq
  refine wpIn_block (ih s _ h F n hF Hd B ι a w hB hR _ ?_)
  intro e s' ι' a' w' hK hR' hE
  cases e with
  | normal => exact hq .normal s' ι' a' w' hK hR' hE
  | exit id' =>
   simp only [AExit.inBlock] at hK
   simp only [AExit.to, Exit.inBlock]
   split at hK
   · rename_i hid; rw [if_pos hid]; exact hq .normal s' ι' a' w' hK hR' hE
   · rename_i hid; rw [if_neg hid]; exact hq (.exit id') s' ι' a' w' hK hR' hE
  | ret => exact hq .ret s' ι' a' w' hK hR' hE
 | exit id => intro s K h F n hF Hd B ι a w hB hR Q hq; exact wpIn_exit (hq (.exit id) s ι a w h hR (Ext.refl _ _))
 | ret => intro s K h F n hF Hd B ι a w hB hR Q hq; exact wpIn_ret (hq .ret s ι a w h hR (Ext.refl _ _))
 | loop c _ => intro s K h; exact h
 | rangeFunc f ps asg bd _ _ => intro s K h; exact h
 | scope c _ => intro s K h; exact h
 | label l => intro s K h; exact h
 | goto l => intro s K h; exact h
 | refuse w => intro s K h; exact h
theorem qdb {F : Fence} {n : Nat} {Q : Exit → Act → World → Prop} {c : Code} (I : Nat → Act → World → Prop) (round : ∀ j a w, I j a w → c.wpIn F n P (Exit.then (fun a' w' => ∃ j', j' < j ∧ I j' a' w') Q) a w) {j : Nat} (h₀ : I j a w) : (Code.loop c).wpIn F n P Q a w := by
 intro b k cs hro hb hr
 have key : ∀ j a w, I j a w → ∃ e a' w', Q e a' w' ∧ ArrivesIn (Machine.fenced P F) P (lone (b.atR a (.code c :: .inLoop c :: k)) cs w) b k cs e a' w' := by
  intro j
  induction j using Nat.strongRecOn with
  | _ j ih =>
   intro a w hI
   obtain ⟨e, a₁, w₁, hq, harr⟩ := round j a w hI b (.inLoop c :: k) cs hro hb hr
   cases e with
   | normal =>
    obtain ⟨j', hlt, hI₁⟩ := hq
    obtain ⟨e₂, a₂, w₂, hq₂, harr₂⟩ := ih j' hlt a₁ w₁ hI₁
    exact ⟨e₂, a₂, w₂, hq₂, .of_steps (StepsIn.trans harr (.one (fenced_calm hb hr rfl) stepR_inLoop)) harr₂⟩
   | exit id => exact ⟨_, a₁, w₁, hq, .pass (x := .inLoop c) rfl (fun _ _ => .inl (by simp)) harr⟩
   | goto l => exact ⟨_, a₁, w₁, hq, .pass (x := .inLoop c) rfl (fun _ _ => .inl (by simp)) harr⟩
   | ret => exact ⟨_, a₁, w₁, hq, .pass (x := .inLoop c) rfl (fun _ _ => .inl (by simp)) harr⟩
   | panic ch => exact ⟨_, a₁, w₁, hq, .pass (x := .inLoop c) rfl (fun _ _ => .inl (by simp)) harr⟩
   | outgrown => exact ⟨_, a₁, w₁, hq, .pass (x := .inLoop c) rfl (fun _ _ => .inl (by simp)) harr⟩
 obtain ⟨e, a', w', hq, harr⟩ := key _ a w h₀
 exact ⟨e, a', w', hq, .of_steps (.one (fenced_calm hb hr rfl) stepR_loop) harr⟩
def ares (P : Program) (T : TypeId → Option TI) (s : St) : List ResultVar → (List AV → Prop) → Prop
 | [], K => K []
 | .tmp t :: rest, K => ares P T s rest fun xs => K (s.tmps.getD t .any :: xs)
 | .cell a t :: rest, K => q50 T t (s.tmps.getD a .any) s fun x => ares P T s rest fun xs => K (x :: xs)
def AV.ofResults : List AV → AV
 | [x] => x
 | xs => .tup xs
def retK (P : Program) (T : TypeId → Option TI) (fn : Func) (N : Nat) (K : AV → List AB → Prop) : AExit → St → Prop
 | .exit _, _ => False
 | _, s => ares P T s fn.results.toList fun xs => ∃ m, (St.trunc ⟨[AV.ofResults xs], s.mem⟩ N).mem = m ∧ ∃ x, (St.trunc ⟨[AV.ofResults xs], s.mem⟩ N).tmps = [x] ∧ K x m
structure Same (w w' : World) : Prop where
 size : w'.heap.size = w.heap.size
 cells : ∀ (r : Nat) (c : Array Value) (t : TypeId) (f : Nat × Nat), w.heap[r]? = some (.cells c t f) → w'.heap[r]? = some (.cells c t f)
