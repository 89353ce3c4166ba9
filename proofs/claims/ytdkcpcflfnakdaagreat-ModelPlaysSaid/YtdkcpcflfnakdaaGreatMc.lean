/- A text of the walk that proves a law of this seat; joined by a program. -/
import Derived.Test.YtdkcpcflfnakdaaGreatMb
import Derived.Test.YtdkcpcflfnakdaaGreatSymZi
set_option linter.unusedSimpArgs false
set_option linter.unusedVariables false
namespace Go.Proofs.YtdkcpcflfnakdaaGreat
open Go Go.Proofs.YtdkcpcflfnakdaaGreat.Sym
set_option maxRecDepth 100000
set_option maxHeartbeats 1000000
structure Fd where
 m : List (ByteArray × Int)
 room : Int
 q : Nat → List Ev × Bool
def q4k (m : List (ByteArray × Int)) : List AV := [.sl 1 (m.map fun p => str p.1), .sl 1 (m.map fun p => u32 p.2), .ptr 1 0, .ptr 2 0, .ptr 3 0, .ptr 4 0, .ptr 5 0, .ptr 6 0, .ptr 7 0, .ptr 8 0]
def qB (F : Fd) (j : Nat) : AB := .box [i64 F.room, .own (9 + j) 8 0 (F.q j).1.length, bool (F.q j).2]
def qR (F : Fd) (j : Nat) : AB := .row 49 8 (evts (F.q j).1)
def q0f (F : Fd) : List AB := [.box (q4k F.m), qB F 0, qB F 1, qB F 2, qB F 3, qB F 4, qB F 5, qB F 6, qB F 7, qR F 0, qR F 1, qR F 2, qR F 3, qR F 4, qR F 5, qR F 6, qR F 7]
section
variable (F : Fd) (r : List AB)
theorem q2m : (q0f F).length = 17 := rfl
theorem fm_0n : (q0f F)[0]? = some (.box (q4k F.m)) := rfl
theorem fm_set0n {m' : List (ByteArray × Int)} : (q0f F).set 0 (.box [.sl 1 (m'.map fun p => str p.1), .sl 1 (m'.map fun p => u32 p.2), .ptr 1 0, .ptr 2 0, .ptr 3 0, .ptr 4 0, .ptr 5 0, .ptr 6 0, .ptr 7 0, .ptr 8 0]) = q0f { F with m := m' } := rfl
theorem fm_0 : (q0f F ++ r)[0]? = some (.box (q4k F.m)) := rfl
theorem fm_set0 {m' : List (ByteArray × Int)} : (q0f F ++ r).set 0 (.box [.sl 1 (m'.map fun p => str p.1), .sl 1 (m'.map fun p => u32 p.2), .ptr 1 0, .ptr 2 0, .ptr 3 0, .ptr 4 0, .ptr 5 0, .ptr 6 0, .ptr 7 0, .ptr 8 0]) = q0f { F with m := m' } ++ r := rfl
theorem fm_17 : (q0f F ++ r)[17]? = r[0]? := rfl
theorem fm_18 : (q0f F ++ r)[18]? = r[1]? := rfl
theorem fm_19 : (q0f F ++ r)[19]? = r[2]? := rfl
theorem fm_20 : (q0f F ++ r)[20]? = r[3]? := rfl
theorem fm_21 : (q0f F ++ r)[21]? = r[4]? := rfl
theorem fm_s17 {x : AB} : (q0f F ++ r).set 17 x = q0f F ++ r.set 0 x := rfl
theorem fm_s18 {x : AB} : (q0f F ++ r).set 18 x = q0f F ++ r.set 1 x := rfl
theorem fm_s19 {x : AB} : (q0f F ++ r).set 19 x = q0f F ++ r.set 2 x := rfl
theorem fm_s20 {x : AB} : (q0f F ++ r).set 20 x = q0f F ++ r.set 3 x := rfl
theorem fm_s21 {x : AB} : (q0f F ++ r).set 21 x = q0f F ++ r.set 4 x := rfl
theorem fm_alen : (q0f F ++ r).length = 17 + r.length := by rw [z0c, q2m]
theorem fm_add (r' : List AB) : (q0f F ++ r) ++ r' = q0f F ++ (r ++ r') := z1r _ _ _
attribute [go_sem] fm_0 fm_0n fm_set0 fm_set0n fm_17 fm_18 fm_19 fm_20 fm_21 fm_s17 fm_s18 fm_s19 fm_s20 fm_s21 fm_alen q2m fm_add
theorem fm_trunc {M : List AB} {n : Nat} (h : 17 ≤ n) : (q0f F).map (AB.trunc M n) = q0f F := by
 have k : ∀ b, b < 17 → ¬ n ≤ b := fun b hb => by omega
 simp only [q0f, q4k, qB, qR, z0r, z0o, AB.trunc, q06, q0e, k 1 (by decide), k 2 (by decide), k 3 (by decide), k 4 (by decide), k 5 (by decide), k 6 (by decide), k 7 (by decide), k 8 (by decide), k (9 + 0) (by decide), k (9 + 1) (by decide), k (9 + 2) (by decide), k (9 + 3) (by decide), k (9 + 4) (by decide), k (9 + 5) (by decide), k (9 + 6) (by decide), k (9 + 7) (by decide), if_false]
theorem fm_tk (k : Nat) : (q0f F ++ r).take (17 + k) = q0f F ++ r.take k := by
 rw [z4y, q2m, z07 (by rw [q2m]; omega), show 17 + k - 17 = k by omega]
theorem fm_ret {M : List AB} : ((q0f F ++ r).take 17).map (AB.trunc M 17) = q0f F := by
 rw [show (17 : Nat) = 17 + 0 from rfl, fm_tk, z13, z0i, fm_trunc F (by decide)]
theorem q5d {M : List AB} : ((q0f F).take 17).map (AB.trunc M 17) = q0f F := by
 have := fm_ret F [] (M := M)
 rwa [z0i] at this
end
def hasB (m k : Int) : Bool := andF .u32 (shrF .u32 m k) 1 == 1
def setB (m k : Int) : Int := orF .u32 m (shlF .u32 1 k)
def clrB (m k : Int) : Int := qm2 .u32 m (shlF .u32 1 k)
def cli (who : Int) : Bool := decide (0 ≤ who) && decide (who < 8)
theorem q2u {who : Int} (h : cli who = true) : ∃ k : Nat, k < 8 ∧ who = k := by
 simp only [cli, z0d, decide_eq_true_eq] at h
 exact ⟨who.toNat, by omega, by omega⟩
theorem q7f (who : Int) : q08 P 74 [i64 who] (fun x => x = bool (cli who)) := by
 refine q09 tyOk Tryz.func74 rfl rfl fun K hK => ?_
 simp only [seval, go_sem, Tryz.ntmps74]
 refine q1v ?_ ?_ <;> intro h
 · simp only [seval, go_sem]
   apply hK
   simp only [seval, go_sem, Tryz.results74]
   rw [cli, h, z0z]
 · simp only [seval, go_sem]
   apply hK
   simp only [seval, go_sem, Tryz.results74]
   rw [cli, h, z23]
def maskOf (m : List (ByteArray × Int)) (u : ByteArray) : Int := (getG ltS eqS 0 m u).1
def watF (m : List (ByteArray × Int)) (who : Int) (u : ByteArray) : Bool := cli who && hasB (maskOf m u) who
theorem qp5 (m : List (ByteArray × Int)) (u : ByteArray) (hr : q33 m) (hl : m.length ≤ 1000) : q08 P 73 [.agg [.sl 1 (m.map fun p => str p.1), .sl 1 (m.map fun p => u32 p.2)], str u]
 (fun x => x = .tup [u32 (maskOf m u), bool (getG ltS eqS 0 m u).2]) := qsi m u hr (by omega)
theorem qfj (F : Fd) (who : Int) (u : ByteArray) (hr : q33 F.m) (hl : F.m.length ≤ 1000) : ACall P 70 (q0f F) [.ptr 0 0, i64 who, str u]
 (fun x m' => x = bool (watF F.m who u) ∧ m' = q0f F) := by
 refine q1a tyOk Tryz.func70 rfl rfl fun K hK => ?_
 rw [q2m] at hK ⊢
 simp only [seval, go_sem, Tryz.ntmps70, q4k]
 (refine q00 (qp5 F.m u hr hl) rfl ?_; rintro _ rfl)
 simp only [seval, go_sem]
 (refine q00 (q7f who) rfl ?_; rintro _ rfl)
 unfold watF at hK
 cases hc : cli who
 · rw [hc] at hK
   simp only [seval, go_sem]
   apply hK
   simp only [seval, go_sem, Tryz.results70]
   rw [q5d, z23]
   exact ⟨rfl, rfl⟩
 · rw [hc] at hK
   obtain ⟨k, hk, rfl⟩ := q2u hc
   have h0 : (0 : Int) ≤ (k : Int) := by omega
   simp only [seval, go_sem, h0]
   apply hK
   simp only [seval, go_sem, Tryz.results70]
   rw [q5d]
   exact ⟨rfl, rfl⟩
theorem qte (m : List (ByteArray × Int)) (u : ByteArray) (v : Int) (hr : q33 m) (hl : m.length ≤ 1000) : q08 P 76 [.agg [.sl 1 (m.map fun p => str p.1), .sl 1 (m.map fun p => u32 p.2)], str u, u32 v]
 (fun x => x = .agg [.sl 1 ((q2p ltS eqS m u v).map fun p => str p.1), .sl 1 ((q2p ltS eqS m u v).map fun p => u32 p.2)]) := qpj m u v hr (by omega)
theorem qua (m : List (ByteArray × Int)) (u : ByteArray) (hr : q33 m) (hl : m.length ≤ 1000) : q08 P 75 [.agg [.sl 1 (m.map fun p => str p.1), .sl 1 (m.map fun p => u32 p.2)], str u]
 (fun x => x = .agg [.sl 1 ((q1l ltS eqS m u).map fun p => str p.1), .sl 1 ((q1l ltS eqS m u).map fun p => u32 p.2)]) := qlm m u hr (by omega)
def q40 (m : List (ByteArray × Int)) (who : Int) (u : ByteArray) : List (ByteArray × Int) := if cli who = true then q2p ltS eqS m u (setB (maskOf m u) who) else m
theorem qtz (F : Fd) (who : Int) (u : ByteArray) (hr : q33 F.m) (hl : F.m.length ≤ 1000) : ACall P 71 (q0f F) [.ptr 0 0, i64 who, str u]
 (fun x m' => m' = q0f { F with m := q40 F.m who u }) := by
 refine q1a tyOk Tryz.func71 rfl rfl fun K hK => ?_
 rw [q2m] at hK ⊢
 simp only [seval, go_sem, Tryz.ntmps71]
 (refine q00 (q7f who) rfl ?_; rintro _ rfl)
 unfold q40 at hK
 cases hc : cli who
 · rw [hc, if_neg (by decide)] at hK
   simp only [seval, go_sem]
   apply hK
   simp only [seval, go_sem, Tryz.results71]
   rw [q5d]
 · rw [hc, if_pos rfl] at hK
   obtain ⟨k, hk, rfl⟩ := q2u hc
   have h0 : (0 : Int) ≤ (k : Int) := by omega
   simp only [seval, go_sem, q4k]
   (refine q00 (qp5 F.m u hr hl) rfl ?_; rintro _ rfl)
   simp only [seval, go_sem]
   refine q0a tyOk (by rfl) (by simp only [q2m]; omega) (by kernel_rfl) rfl ?_
   simp only [seval, go_sem, q4k, h0]
   refine q16 (qte F.m u (setB (maskOf F.m u) k) hr hl) rfl ?_
   simp only [seval, go_sem, q4k]
   refine ⟨by kernel_rfl, ?_⟩
   apply hK
   simp only [seval, go_sem, Tryz.results71]
   rw [q5d]
def q3y (m : List (ByteArray × Int)) (who : Int) (u : ByteArray) : List (ByteArray × Int) :=
 if cli who = true then (if (maskOf m u == 0) = true then m else if (clrB (maskOf m u) who == 0) = true then q1l ltS eqS m u else q2p ltS eqS m u (clrB (maskOf m u) who)) else m
theorem qp4 (F : Fd) (who : Int) (u : ByteArray) (hr : q33 F.m) (hl : F.m.length ≤ 1000) : ACall P 43 (q0f F) [.ptr 0 0, i64 who, str u]
 (fun x m' => m' = q0f { F with m := q3y F.m who u }) := by
 refine q1a tyOk Tryz.func43 rfl rfl fun K hK => ?_
 rw [q2m] at hK ⊢
 simp only [seval, go_sem, Tryz.ntmps43, q4k]
 (refine q00 (qp5 F.m u hr hl) rfl ?_; rintro _ rfl)
 simp only [seval, go_sem]
 (refine q00 (q7f who) rfl ?_; rintro _ rfl)
 unfold q3y at hK
 cases hc : cli who
 · rw [hc, if_neg (by decide)] at hK
   simp only [seval, go_sem]
   apply hK
   simp only [seval, go_sem, Tryz.results43]
   rw [q5d]
 · rw [hc, if_pos rfl] at hK
   obtain ⟨k, hk, rfl⟩ := q2u hc
   have h0 : (0 : Int) ≤ (k : Int) := by omega
   simp only [seval, go_sem]
   refine q02 ?_ ?_ <;> intro h1
   · rw [h1, if_pos rfl] at hK
     simp only [seval, go_sem]
     apply hK
     simp only [seval, go_sem, Tryz.results43]
     rw [q5d]
   · rw [h1, if_neg (by decide)] at hK
     simp only [seval, go_sem, h0]
     refine q02 ?_ ?_ <;> intro h2
     · rw [show (clrB (maskOf F.m u) k == 0) = true from h2, if_pos rfl] at hK
       simp only [seval, go_sem, q4k]
       (refine q00 (qua F.m u hr hl) rfl ?_; rintro _ rfl)
       simp only [seval, go_sem, q4k]
       apply hK
       simp only [seval, go_sem, Tryz.results43]
       rw [q5d]
     · rw [show (clrB (maskOf F.m u) k == 0) = false from h2, if_neg (by decide)] at hK
       simp only [seval, go_sem, q4k]
       (refine q00 (qte F.m u (clrB (maskOf F.m u) k) hr hl) rfl ?_; rintro _ rfl)
       simp only [seval, go_sem, q4k]
       apply hK
       simp only [seval, go_sem, Tryz.results43]
       rw [q5d]
def cntM (m : List (ByteArray × Int)) (who : Int) : Nat := (m.filter fun p => cli who && hasB p.2 who).length
theorem cnt_next {m : List (ByteArray × Int)} {who : Int} {i : Nat} (h : i < m.length) : cntM (m.take (i + 1)) who = cntM (m.take i) who + (if (cli who && hasB m[i].2 who) = true then 1 else 0) := by
 rw [q12 h, cntM, z2n, z0c, ← cntM, z1p]
 split <;> rfl
theorem qq4 (m : List (ByteArray × Int)) (who : Int) : cntM m who ≤ m.length := z1n _ _
theorem qw5 (F : Fd) (who : Int) (hl : F.m.length ≤ 1000) : ACall P 69 (q0f F) [.ptr 0 0, i64 who]
 (fun x m' => x = i64 (cntM F.m who : Nat) ∧ m' = q0f F) := by
 refine qnr tyOk Tryz.func69 rfl rfl fun K hK => ?_
 rw [q2m] at hK ⊢
 simp only [seval, go_sem, Tryz.ntmps69]
 have hall := qrj F.m
 unfold q34 at hall
 simp only [seval, go_sem, q4k]
 (refine q00 hall rfl ?_; rintro _ rfl)
 simp only [seval, go_sem]
 refine q91 tyOk (seq_su F.m (by omega)) (α := Nat) 19 19 [0, 3, 5] ([.ptr 0 0, .any, .any, .ptr 17 0, .any, .ptr 18 0, .any, .any, .any, .any, .any, .any, .any, .any, .any, .any, .any, .any, .any, .any, .any, .any, .any, .any, .any, .any, .any]) (fun xs i => i = xs.length ∧ i ≤ F.m.length)
  (fun i => q0f F ++ [.box [i64 who], .box [i64 (cntM (F.m.take i) who : Nat)]]) 0 rfl rfl
  (fun x hx => by simp only [q4y, z1b] at hx; obtain ⟨p, _, rfl⟩ := hx; rfl) (by decide) (by decide) (by rfl) ⟨rfl, z00 _⟩ rfl ?_ ?_
 · rintro xs x _ hpre ⟨rfl, hle⟩
   obtain ⟨hi, _, rfl⟩ := q7k hpre
   have hn := cnt_next (who := who) hi
   have hc2 := qq4 (F.m.take xs.length) who
   rw [z1l] at hc2
   generalize F.m[xs.length] = p at *
   generalize cntM (F.m.take xs.length) who = n at *
   have ew : IntKind.i64.wrap ((n : Int) + 1) = ((n + 1 : Nat) : Int) := by rw [wrap_i64 (by omega) (by omega)]; rfl
   simp only [seval, go_sem]
   (refine q00 (q7f who) rfl ?_; rintro _ rfl)
   simp only [seval, go_sem]
   cases hc : cli who
   · rw [hc] at hn
     simp only [seval, go_sem]
     simp only [seval, go_sem, q3b]
     all_goals exact ⟨xs.length + 1, ⟨by first | rfl | simp, by omega⟩, by rw [hn]; rfl⟩
   · rw [hc] at hn
     obtain ⟨k, hk, rfl⟩ := q2u hc
     have h0 : (0 : Int) ≤ (k : Int) := by omega
     simp only [seval, go_sem, h0]
     refine q02 ?_ ?_ <;> intro h1
     · rw [show hasB p.2 k = true from h1] at hn
       simp only [seval, go_sem, ew]
       simp only [seval, go_sem, q3b]
       all_goals exact ⟨xs.length + 1, ⟨by first | rfl | simp, by omega⟩, by rw [hn]; rfl⟩
     · rw [show hasB p.2 k = false from h1] at hn
       simp only [seval, go_sem]
       simp only [seval, go_sem, q3b]
       all_goals exact ⟨xs.length + 1, ⟨by first | rfl | simp, by omega⟩, by rw [hn]; rfl⟩
 · rintro _ ⟨rfl, hle⟩
   have e1 : (q4y F.m).length = F.m.length := by simp [q4y]
   rw [e1, z0w]
   simp only [seval, go_sem]
   apply hK
   simp only [seval, go_sem, Tryz.results69]
   rw [fm_ret]
end Go.Proofs.YtdkcpcflfnakdaaGreat
namespace Go.Proofs.YtdkcpcflfnakdaaGreat
open Go Go.Proofs.YtdkcpcflfnakdaaGreat.Sym
set_option maxRecDepth 100000
set_option maxHeartbeats 1000000
theorem q0r.keeps {g : FuncId} {kp kp' : Nat → Bool} {m : List AB} {args : List AV} {K : AV → List AB → Prop} (h : q0r P kp g m args K) (hk : ∀ b, b < m.length → kp' b = true → kp b = true) : q0r P kp' g m args K :=
 ⟨h.1, fun Hd ι w vs hR => (h.2 Hd ι w vs hR).mono fun e w' ⟨y, x, ι', m', h1, h2, h3, h5, h4⟩ => ⟨y, x, ι', m', h1, h2, h3, fun b o hb ho => h5 b o (hk b (by have := (z08.1 ho).1; rw [hR.len] at this; exact this) hb) ho, h4⟩⟩
def Fd.setQ (F : Fd) (k : Nat) (v : List Ev × Bool) : Fd := { F with q := fun j => if j = k then v else F.q j }
theorem qtm {g : FuncId} {args0 : List AV} {K0 K : AV → List AB → Prop} (F : Fd) (r : List AB) {k : Nat} (hk : k < 8) (h : q0r P (fun i => i != 1) g (q92 F.room (F.q k).1 (F.q k).2) args0 K0) (hb : (q03 args0).all (fun b => decide (b < 2)) = true)
 (hr : q5g (kpOf (fun i => i != 1) [1 + k, 9 + k] 0) [1 + k, 9 + k] 17 r = true)
 (hK : ∀ x m', K0 x m' → ∃ v, m' = q92 F.room v.1 v.2 ∧ K (ren [1 + k, 9 + k] x) (q0f (F.setQ k v) ++ r)) : q0r P (fun b => b != 9 + k) g (q0f F ++ r) (q0i [1 + k, 9 + k] args0) K := by
 have key : ∀ b, (b != 9 + k) = true → kpOf (fun i => i != 1) [1 + k, 9 + k] 0 b = true := by
  intro b hb
  have hb : b ≠ 9 + k := by simpa using hb
  simp only [kpOf]
  split
  · rfl
  · rw [if_neg (z37 hb)]
 refine q0r.keeps (kp := kpOf (fun i => i != 1) [1 + k, 9 + k] 0) ?_ (fun b _ hb => key b hb)
 have c : k = 0 ∨ k = 1 ∨ k = 2 ∨ k = 3 ∨ k = 4 ∨ k = 5 ∨ k = 6 ∨ k = 7 := by omega
 rcases c with rfl | rfl | rfl | rfl | rfl | rfl | rfl | rfl
 all_goals
  refine h.frame _ (by decide) rfl rfl hb rfl hr (fun x m' hx => ?_)
  obtain ⟨v, rfl, hv⟩ := hK x m' hx
  exact ⟨rfl, hv⟩
abbrev qf5 : List Nat := [0, 1, 2, 3, 4, 5, 6, 7, 8, 9, 10, 11, 12, 13, 14, 15, 16]
theorem fm_ren (F : Fd) : renM qf5 (q0f F) = q0f F := by
 simp only [q0f, q4k, qB, qR, renM, AB.ren, ren, q0i, z0u, z0v, Nat.reduceAdd]
theorem fm_at (F : Fd) (r : List AB) : qf5.map (fun b => (q0f F ++ r)[b]?) = (q0f F).map some := rfl
theorem fm_put (F F' : Fd) (r : List AB) : putL (q0f F ++ r) qf5 (q0f F') = q0f F' ++ r := by
 simp only [q0f, qf5, putL, z1u, z21, z42, z43]
theorem feed_pre {g : FuncId} {args0 : List AV} {K0 K : AV → List AB → Prop} (F : Fd) (r : List AB) (h : ACall P g (q0f F) args0 K0) (ha : args0 = q0i qf5 args0) (hb : (q03 args0).all (fun b => decide (b < 17)) = true)
 (hK : ∀ x m', K0 x m' → ∃ F', m' = q0f F' ∧ K (ren qf5 x) (q0f F' ++ r)) : ACall P g (q0f F ++ r) args0 K := by
 refine h.frame qf5 (by decide) (by rw [fm_ren]; exact fm_at F r) ha hb (by rfl) (fun x m' hx => ?_)
 obtain ⟨F', rfl, hv⟩ := hK x m' hx
 exact ⟨rfl, by rw [fm_ren, fm_put]; exact hv⟩
theorem qse (F : Fd) (r : List AB) (who : Int) (u : ByteArray) (hr : q33 F.m) (hl : F.m.length ≤ 1000) : ACall P 70 (q0f F ++ r) [.ptr 0 0, i64 who, str u]
 (fun x m' => x = bool (watF F.m who u) ∧ m' = q0f F ++ r) := by
 refine feed_pre F r (qfj F who u hr hl) rfl rfl ?_
 rintro x m' ⟨rfl, rfl⟩
 exact ⟨F, rfl, rfl, rfl⟩
theorem queue_at (m : List (ByteArray × Int)) {k : Nat} (hk : k < 8) : ∃ tl, List.drop (2 + k * 1) [AV.sl 1 (m.map fun p => str p.1), .sl 1 (m.map fun p => u32 p.2), .ptr 1 0, .ptr 2 0, .ptr 3 0, .ptr 4 0, .ptr 5 0, .ptr 6 0, .ptr 7 0, .ptr 8 0] = .ptr (1 + k) 0 :: tl := by
 have c : k = 0 ∨ k = 1 ∨ k = 2 ∨ k = 3 ∨ k = 4 ∨ k = 5 ∨ k = 6 ∨ k = 7 := by omega
 rcases c with rfl | rfl | rfl | rfl | rfl | rfl | rfl | rfl <;> exact ⟨_, rfl⟩
def Fd.drain (F : Fd) (who : Int) : Fd := if cli who = true then F.setQ who.toNat ([], false) else F
def qkk (F : Fd) (who : Int) : List Ev := if cli who = true then (F.q who.toNat).1 else []
def qkl (F : Fd) (who : Int) : Bool := if cli who = true then (F.q who.toNat).2 else false
theorem qul (F : Fd) (who : Int) (hq : ∀ k, (F.q k).1.length ≤ 100000) : q0r P (fun b => decide (b < 9)) 67 (q0f F) [.ptr 0 0, i64 who]
 (fun x m' => x = .tup [if cli who = true then .sl 8 (evts (qkk F who)) else .v (.slice none 0 0), bool (qkl F who)] ∧ m' = q0f (F.drain who)) := by
 have h : q0j P 9 67 (q0f F) [.ptr 0 0, i64 who]
  (fun x m' => x = .tup [if cli who = true then .sl 8 (evts (qkk F who)) else .v (.slice none 0 0), bool (qkl F who)] ∧ m' = q0f (F.drain who)) := by
  refine q3a tyOk Tryz.func67 rfl rfl (by rw [q2m]; decide) fun K hK => ?_
  rw [q2m] at hK
  simp only [seval, go_sem, Tryz.ntmps67]
  (refine q00 (q7f who) rfl ?_; rintro _ rfl)
  unfold qkk qkl Fd.drain at hK
  cases hc : cli who
  · rw [hc] at hK
    simp only [seval, go_sem]
    apply hK
    simp only [seval, go_sem, Tryz.results67]
    rw [q5d]
    first | done | exact ⟨rfl, rfl⟩
  · rw [hc] at hK
    obtain ⟨k, hk, rfl⟩ := q2u hc
    have h0 : (0 : Int) ≤ (k : Int) := by omega
    obtain ⟨tl, htl⟩ := queue_at F.m hk
    simp only [seval, go_sem, q4k, h0, hk, z0g, htl]
    refine ⟨z5p _, ?_⟩
    refine q3k (kp := fun b => b != 9 + k) (fun b hb => by simp; omega) (qtm F [] hk (qvn F.room (F.q k).1 (F.q k).2 (hq k)) rfl rfl ?_)
    rintro x m' ⟨rfl, rfl⟩
    refine ⟨([], false), rfl, ?_⟩
    simp only [seval, go_sem]
    simp only [if_true, z0g] at hK
    apply hK
    simp only [seval, go_sem, Tryz.results67]
    rw [q5d]
    first | done | exact ⟨rfl, rfl⟩
 exact h.toX
def tell1 (F : Fd) (c : Chg) (seq : Int) (n : Nat) : Fd := { F with q := fun k => if (decide (k < n) && watF F.m k c.u) = true then putR F.room (F.q k) ⟨c.u, c.old, c.new, seq⟩ else F.q k }
theorem tell1_0 (F : Fd) (c : Chg) (seq : Int) : tell1 F c seq 0 = F := by
 simp only [tell1, z28, decide_false, z23, z0n, if_false]
theorem qqq (F : Fd) (c : Chg) (seq : Int) (j : Nat) : (tell1 F c seq j).q j = F.q j := by
 simp [tell1]
theorem tell1_no {F : Fd} {c : Chg} {seq : Int} {j : Nat} (h : watF F.m j c.u = false) : tell1 F c seq (j + 1) = tell1 F c seq j := by
 unfold tell1
 congr 1
 funext k
 by_cases e : k = j
 · subst e; rw [h]; simp
 · have : decide (k < j + 1) = decide (k < j) := by rw [z2b]; simp; omega
   rw [this]
theorem qya {F : Fd} {c : Chg} {seq : Int} {j : Nat} (h : watF F.m j c.u = true) : tell1 F c seq (j + 1) = (tell1 F c seq j).setQ j (putR F.room (F.q j) ⟨c.u, c.old, c.new, seq⟩) := by
 unfold tell1 Fd.setQ
 congr 1
 funext k
 by_cases e : k = j
 · subst e; rw [h]; simp
 · have : decide (k < j + 1) = decide (k < j) := by rw [z2b]; simp; omega
   rw [this]; simp [e]
theorem qoj (room : Int) (q : List Ev × Bool) (e : Ev) : (putR room q e).1.length ≤ q.1.length + 1 := by
 unfold putR; split <;> simp
theorem qwm (F : Fd) (c : Chg) (seq : Int) (n k : Nat) : ((tell1 F c seq n).q k).1.length ≤ (F.q k).1.length + 1 := by
 unfold tell1
 simp only
 split
 · exact qoj _ _ _
 · omega
def q6e (F : Fd) (l : List Chg) (seq : Int) : Fd := l.foldl (fun F c => tell1 F c seq 8) F
theorem quq {F : Fd} {l : List Chg} {seq : Int} {i : Nat} (h : i < l.length) : q6e F (l.take (i + 1)) seq = tell1 (q6e F (l.take i) seq) l[i] seq 8 := by
 rw [q12 h, q6e, z3k]; rfl
theorem qov (F : Fd) (l : List Chg) (seq : Int) : (q6e F l seq).m = F.m ∧ (q6e F l seq).room = F.room ∧ ∀ k, ((q6e F l seq).q k).1.length ≤ (F.q k).1.length + l.length := by
 induction l generalizing F with
 | nil => exact ⟨rfl, rfl, fun k => z09 _⟩
 | cons c l ih =>
  obtain ⟨h1, h2, h3⟩ := ih (tell1 F c seq 8)
  refine ⟨h1, h2, fun k => ?_⟩
  have := h3 k
  have := qwm F c seq 8 k
  simp only [z02]
  exact z1f (h3 k) (by omega)
theorem ptr_at {k : Nat} (hk : k < 8) : ∃ tl, List.drop (k * 1) [AV.ptr 1 0, .ptr 2 0, .ptr 3 0, .ptr 4 0, .ptr 5 0, .ptr 6 0, .ptr 7 0, .ptr 8 0] = .ptr (1 + k) 0 :: tl := by
 have c : k = 0 ∨ k = 1 ∨ k = 2 ∨ k = 3 ∨ k = 4 ∨ k = 5 ∨ k = 6 ∨ k = 7 := by omega
 rcases c with rfl | rfl | rfl | rfl | rfl | rfl | rfl | rfl <;> exact ⟨_, rfl⟩
theorem qxf (room : Int) (l : List Ev) (lost : Bool) (e : Ev) (hl : l.length ≤ 100000) : q0r P (fun i => i != 1) 93 (q92 room l lost) [.ptr 0 0, e.av]
 (fun x m' => (∃ b, x = bool b) ∧ m' = q92 room (putR room (l, lost) e).1 (putR room (l, lost) e).2) :=
 q0r.keeps (ring_Put room l lost e hl).toX fun b hb hk => by
  have hb : b < 2 := hb
  have hk : b ≠ 1 := by simpa using hk
  exact decide_eq_true (by omega)
theorem qxa (F : Fd) (l : List Chg) (seq : Int) (hr : q33 F.m) (hl : F.m.length ≤ 1000) (hll : l.length ≤ 50000) (hq : ∀ k, (F.q k).1.length ≤ 50000) : q0j P 9 64 (q0f F) [.ptr 0 0, .sl 7 (chgs l), u64 seq]
 (fun x m' => m' = q0f (q6e F l seq)) := by
 refine q3a tyOk Tryz.func64 rfl rfl (by rw [q2m]; decide) fun K hK => ?_
 rw [q2m] at hK
 simp only [seval, go_sem, Tryz.ntmps64, q5s]
 refine q0d tyOk (α := Nat) 17 [0, 2, 10, 11, 12] (fun i => i ≤ l.length)
  (fun i => ⟨[.ptr 0 0, .any, u64 seq, .any, .any, .any, .any, .any, .any, .any, .sl 7 (chgs l), i64 l.length, i64 i, .any, .any, .any, .any, .any, .any, .any, .any, .any, .any, .any, .any, .any, .any, .any, .any, .any, .any, .any, .any, .any, .any, .any, .any, .any, .any, .any, .any], q0f (q6e F (l.take i) seq)⟩)
  (fun i => l.length - i) 0 (by decide) (z00 _) rfl ?_
 intro i hi
 simp only [seval, go_sem]
 refine q02 ?_ ?_ <;> intro h
 · have hlt : i < l.length := by simpa using h
   have eg : (chgs l).getD (Int.toNat (i : Int)) .any = .agg [str l[i].u, i64 l[i].old.st, i64 l[i].old.pr, i64 l[i].old.n, i64 l[i].new.st, i64 l[i].new.pr, i64 l[i].new.n] := q2d hlt
   have ew : IntKind.i64.wrap ((i : Int) + 1) = ((i + 1 : Nat) : Int) := by rw [wrap_i64 (by omega) (by omega)]; rfl
   have c1 : (0 : Int) ≤ (i : Int) ∧ Int.toNat (i : Int) < l.length := by omega
   have hn := quq (F := F) (seq := seq) hlt
   obtain ⟨ok1, ok2, ok3⟩ := qov F (l.take i) seq
   have ok3 : ∀ k, ((q6e F (l.take i) seq).q k).1.length ≤ 99999 := fun k => by
    have h1 := ok3 k
    have h2 := hq k
    rw [z1l] at h1
    omega
   rw [← ok1] at hr hl
   generalize q6e F (l.take i) seq = G at *
   generalize l[i] = c at *
   simp only [seval, go_sem, q4k, eg, c1, q5s]
   refine q0d tyOk (α := Nat) 18 [0, 2, 7, 10, 11, 12, 19, 20] (fun j => j ≤ 8)
    (fun j => ⟨[.ptr 0 0, .any, u64 seq, .any, .any, .any, .any, .ptr 17 0, .any, .any, .sl 7 (chgs l), i64 l.length, i64 i, .any, .any, .any, .any, .any, .any, .agg [.ptr 1 0, .ptr 2 0, .ptr 3 0, .ptr 4 0, .ptr 5 0, .ptr 6 0, .ptr 7 0, .ptr 8 0], i64 j, .any, .any, .any, .any, .any, .any, .any, .any, .any, .any, .any, .any, .any, .any, .any, .any, .any, .any, .any, .any],
     q0f (tell1 G c seq j) ++ [.box [str c.u, i64 c.old.st, i64 c.old.pr, i64 c.old.n, i64 c.new.st, i64 c.new.pr, i64 c.new.n]]⟩)
    (fun j => 8 - j) 0 (by decide) (z00 _) ?_ ?_
   · rw [tell1_0]; rfl
   intro j hj
   simp only [seval, go_sem]
   refine q02 ?_ ?_ <;> intro hj2
   · have hj3 : j < 8 := by have := of_decide_eq_true hj2; omega
     have ewj : IntKind.i64.wrap ((j : Int) + 1) = ((j + 1 : Nat) : Int) := by rw [wrap_i64 (by omega) (by omega)]; rfl
     obtain ⟨tl, htl⟩ := ptr_at hj3
     simp only [seval, go_sem, z0g, htl]
     refine ⟨⟨⟨by omega, by omega⟩, by omega⟩, ?_⟩
     refine q17 ((qse (tell1 G c seq j) [.box [str c.u, i64 c.old.st, i64 c.old.pr, i64 c.old.n, i64 c.new.st, i64 c.new.pr, i64 c.new.n]] j c.u hr hl).mono ?_)
     rintro _ _ ⟨rfl, rfl⟩
     simp only [seval, go_sem]
     change qbk P T 9 (.v (.bool (watF G.m j c.u))) _ _ _ _ _
     cases hw : watF G.m j c.u
     · simp only [seval, go_sem, ewj]
       simp only [seval, go_sem, q01]
       all_goals exact ⟨j + 1, hj3, by omega, by rw [tell1_no hw]; rfl⟩
     · simp only [seval, go_sem]
       refine q3k (kp := fun b => b != 9 + j) (fun b hb => by simp; omega) (qtm (tell1 G c seq j) _ hj3 (qxf (tell1 G c seq j).room ((tell1 G c seq j).q j).1 ((tell1 G c seq j).q j).2 ⟨c.u, c.old, c.new, seq⟩ (by rw [qqq]; have := ok3 j; omega)) rfl (by simp [q5g, q03, bks]) ?_)
       rintro x m' ⟨⟨b, rfl⟩, rfl⟩
       refine ⟨_, rfl, ?_⟩
       have hset : (tell1 G c seq j).setQ j (putR (tell1 G c seq j).room (((tell1 G c seq j).q j).1, ((tell1 G c seq j).q j).2) ⟨c.u, c.old, c.new, seq⟩) = tell1 G c seq (j + 1) := by
        rw [qya hw, qqq]; rfl
       rw [hset]
       have nq : ∀ b, b < 9 ∨ b = 17 ∨ b = 1 + j → (b != 9 + j) = true := fun b hb => by simp; omega
       simp only [seval, go_sem, ewj, nq 0 (by omega), nq 1 (by omega), nq 2 (by omega), nq 3 (by omega), nq 4 (by omega), nq 5 (by omega), nq 6 (by omega), nq 7 (by omega), nq 8 (by omega), nq 17 (by omega), nq (1 + j) (.inr (.inr rfl))]
       simp only [seval, go_sem, q01]
       all_goals exact ⟨j + 1, hj3, by omega, by rfl⟩
   · have hje : j = 8 := by have := of_decide_eq_false hj2; omega
     subst hje
     simp only [seval, go_sem, ew]
     simp only [seval, go_sem, q01]
     all_goals exact ⟨i + 1, hlt, by omega, by rw [hn]; rfl⟩
 · obtain rfl : i = l.length := by have := of_decide_eq_false h; omega
   rw [z0w]
   simp only [seval, go_sem]
   apply hK
   simp only [seval, go_sem, Tryz.results64]
   rw [q5d]
end Go.Proofs.YtdkcpcflfnakdaaGreat
namespace Go.Proofs.YtdkcpcflfnakdaaGreat
open Go Go.Proofs.YtdkcpcflfnakdaaGreat.Sym
set_option maxRecDepth 100000
set_option maxHeartbeats 1000000
def newM (room : Int) : Nat → List AB
 | 0 => [.box [.v (.slice none 0 0), .v (.slice none 0 0), .v (.pointer none), .v (.pointer none), .v (.pointer none), .v (.pointer none), .v (.pointer none), .v (.pointer none), .v (.pointer none), .v (.pointer none)]]
 | 1 => [.box [.v (.slice none 0 0), .v (.slice none 0 0), .ptr 1 0, .v (.pointer none), .v (.pointer none), .v (.pointer none), .v (.pointer none), .v (.pointer none), .v (.pointer none), .v (.pointer none)], .box [i64 room, .v (.slice none 0 0), bool false]]
 | 2 => [.box [.v (.slice none 0 0), .v (.slice none 0 0), .ptr 1 0, .ptr 2 0, .v (.pointer none), .v (.pointer none), .v (.pointer none), .v (.pointer none), .v (.pointer none), .v (.pointer none)], .box [i64 room, .v (.slice none 0 0), bool false], .box [i64 room, .v (.slice none 0 0), bool false]]
 | 3 => [.box [.v (.slice none 0 0), .v (.slice none 0 0), .ptr 1 0, .ptr 2 0, .ptr 3 0, .v (.pointer none), .v (.pointer none), .v (.pointer none), .v (.pointer none), .v (.pointer none)], .box [i64 room, .v (.slice none 0 0), bool false], .box [i64 room, .v (.slice none 0 0), bool false], .box [i64 room, .v (.slice none 0 0), bool false]]
 | 4 => [.box [.v (.slice none 0 0), .v (.slice none 0 0), .ptr 1 0, .ptr 2 0, .ptr 3 0, .ptr 4 0, .v (.pointer none), .v (.pointer none), .v (.pointer none), .v (.pointer none)], .box [i64 room, .v (.slice none 0 0), bool false], .box [i64 room, .v (.slice none 0 0), bool false], .box [i64 room, .v (.slice none 0 0), bool false], .box [i64 room, .v (.slice none 0 0), bool false]]
 | 5 => [.box [.v (.slice none 0 0), .v (.slice none 0 0), .ptr 1 0, .ptr 2 0, .ptr 3 0, .ptr 4 0, .ptr 5 0, .v (.pointer none), .v (.pointer none), .v (.pointer none)], .box [i64 room, .v (.slice none 0 0), bool false], .box [i64 room, .v (.slice none 0 0), bool false], .box [i64 room, .v (.slice none 0 0), bool false], .box [i64 room, .v (.slice none 0 0), bool false], .box [i64 room, .v (.slice none 0 0), bool false]]
 | 6 => [.box [.v (.slice none 0 0), .v (.slice none 0 0), .ptr 1 0, .ptr 2 0, .ptr 3 0, .ptr 4 0, .ptr 5 0, .ptr 6 0, .v (.pointer none), .v (.pointer none)], .box [i64 room, .v (.slice none 0 0), bool false], .box [i64 room, .v (.slice none 0 0), bool false], .box [i64 room, .v (.slice none 0 0), bool false], .box [i64 room, .v (.slice none 0 0), bool false], .box [i64 room, .v (.slice none 0 0), bool false], .box [i64 room, .v (.slice none 0 0), bool false]]
 | 7 => [.box [.v (.slice none 0 0), .v (.slice none 0 0), .ptr 1 0, .ptr 2 0, .ptr 3 0, .ptr 4 0, .ptr 5 0, .ptr 6 0, .ptr 7 0, .v (.pointer none)], .box [i64 room, .v (.slice none 0 0), bool false], .box [i64 room, .v (.slice none 0 0), bool false], .box [i64 room, .v (.slice none 0 0), bool false], .box [i64 room, .v (.slice none 0 0), bool false], .box [i64 room, .v (.slice none 0 0), bool false], .box [i64 room, .v (.slice none 0 0), bool false], .box [i64 room, .v (.slice none 0 0), bool false]]
 | _ => [.box [.v (.slice none 0 0), .v (.slice none 0 0), .ptr 1 0, .ptr 2 0, .ptr 3 0, .ptr 4 0, .ptr 5 0, .ptr 6 0, .ptr 7 0, .ptr 8 0], .box [i64 room, .v (.slice none 0 0), bool false], .box [i64 room, .v (.slice none 0 0), bool false], .box [i64 room, .v (.slice none 0 0), bool false], .box [i64 room, .v (.slice none 0 0), bool false], .box [i64 room, .v (.slice none 0 0), bool false], .box [i64 room, .v (.slice none 0 0), bool false], .box [i64 room, .v (.slice none 0 0), bool false], .box [i64 room, .v (.slice none 0 0), bool false]]
theorem qwn (room : Int) : ACall P 65 [] [i64 room] (fun x m' => x = .ptr 0 0 ∧ m' = [.box [i64 (max room 0), .v (.slice none 0 0), bool false]]) := by
 refine q0j.toA (q1f tyOk Tryz.func65 rfl rfl (N := 0) (M := 1) (z00 _) (by simp) ?_)
 intro K hK
 simp only [seval, go_sem, Tryz.ntmps65]
 apply hK
 simp only [seval, go_sem, Tryz.results65]
 rw [show (if 0 > room then 0 else room) = max room 0 by omega]
theorem qwz (room : Int) : ACall P 38 [] [i64 room] (fun x m' => x = .ptr 0 0 ∧ m' = newM (max room 0) 8) := by
 refine q0j.toA (q1f tyOk Tryz.func38 rfl rfl (N := 0) (M := 9) (z00 _) (by simp) ?_)
 intro K hK
 simp only [seval, go_sem, Tryz.ntmps38]
 refine q0d tyOk (α := Nat) 9 [0, 3, 7] (fun i => i ≤ 8)
  (fun i => ⟨[i64 room, .any, .any, .ptr 0 0, .any, .any, .any, i64 i, .any, .any, .any, .any, .any, .any, .any, .any, .any, .any, .any], newM (max room 0) i⟩)
  (fun i => 8 - i) 0 (by decide) (z00 _) rfl ?_
 intro i hi
 simp only [seval, go_sem]
 refine q02 ?_ ?_ <;> intro h
 · have hlt : i < 8 := by have := of_decide_eq_true h; omega
   have c : i = 0 ∨ i = 1 ∨ i = 2 ∨ i = 3 ∨ i = 4 ∨ i = 5 ∨ i = 6 ∨ i = 7 := by omega
   rcases c with rfl | rfl | rfl | rfl | rfl | rfl | rfl | rfl
   all_goals
    simp only [newM]
    simp only [seval, go_sem]
    refine q0a tyOk (by rfl) (by simp only [z02, z0a, Nat.reduceAdd, z00]) (by kernel_rfl) rfl ?_
    simp only [seval, go_sem]
    refine qnw (qwn room) rfl rfl ?_
    simp only [seval, go_sem, Int.reduceToNat]
    refine ⟨by kernel_rfl, ?_⟩
    simp only [seval, go_sem, q01]
    refine ⟨_ + 1, hlt, by omega, rfl⟩
 · obtain rfl : i = 8 := by have := of_decide_eq_false h; omega
   simp only [seval, go_sem]
   apply hK
   simp only [seval, go_sem, Tryz.results38]
   all_goals rfl
theorem qx0 (room : Int) : q0c ⟨[.ptr 0 0], [.box [.v (.slice none 0 0), .v (.slice none 0 0), .ptr 1 0, .ptr 2 0, .ptr 3 0, .ptr 4 0, .ptr 5 0, .ptr 6 0, .ptr 7 0, .ptr 8 0], .box [i64 room, .v (.slice none 0 0), bool false], .box [i64 room, .v (.slice none 0 0), bool false], .box [i64 room, .v (.slice none 0 0), bool false], .box [i64 room, .v (.slice none 0 0), bool false], .box [i64 room, .v (.slice none 0 0), bool false], .box [i64 room, .v (.slice none 0 0), bool false], .box [i64 room, .v (.slice none 0 0), bool false], .box [i64 room, .v (.slice none 0 0), bool false]]⟩ ⟨[.ptr 0 0], [.box [.sl 1 [], .v (.slice none 0 0), .ptr 1 0, .ptr 2 0, .ptr 3 0, .ptr 4 0, .ptr 5 0, .ptr 6 0, .ptr 7 0, .ptr 8 0], .box [i64 room, .v (.slice none 0 0), bool false], .box [i64 room, .v (.slice none 0 0), bool false], .box [i64 room, .v (.slice none 0 0), bool false], .box [i64 room, .v (.slice none 0 0), bool false], .box [i64 room, .v (.slice none 0 0), bool false], .box [i64 room, .v (.slice none 0 0), bool false], .box [i64 room, .v (.slice none 0 0), bool false], .box [i64 room, .v (.slice none 0 0), bool false]]⟩ :=
 q0c.asSlIn (s := ⟨[.ptr 0 0], [.box [.v (.slice none 0 0), .v (.slice none 0 0), .ptr 1 0, .ptr 2 0, .ptr 3 0, .ptr 4 0, .ptr 5 0, .ptr 6 0, .ptr 7 0, .ptr 8 0], .box [i64 room, .v (.slice none 0 0), bool false], .box [i64 room, .v (.slice none 0 0), bool false], .box [i64 room, .v (.slice none 0 0), bool false], .box [i64 room, .v (.slice none 0 0), bool false], .box [i64 room, .v (.slice none 0 0), bool false], .box [i64 room, .v (.slice none 0 0), bool false], .box [i64 room, .v (.slice none 0 0), bool false], .box [i64 room, .v (.slice none 0 0), bool false]]⟩) (b := 0) (c := 0) 1 rfl rfl
theorem qx1 (room : Int) : q0c ⟨[.ptr 0 0], [.box [.sl 1 [], .v (.slice none 0 0), .ptr 1 0, .ptr 2 0, .ptr 3 0, .ptr 4 0, .ptr 5 0, .ptr 6 0, .ptr 7 0, .ptr 8 0], .box [i64 room, .v (.slice none 0 0), bool false], .box [i64 room, .v (.slice none 0 0), bool false], .box [i64 room, .v (.slice none 0 0), bool false], .box [i64 room, .v (.slice none 0 0), bool false], .box [i64 room, .v (.slice none 0 0), bool false], .box [i64 room, .v (.slice none 0 0), bool false], .box [i64 room, .v (.slice none 0 0), bool false], .box [i64 room, .v (.slice none 0 0), bool false]]⟩ ⟨[.ptr 0 0], [.box [.sl 1 [], .sl 1 [], .ptr 1 0, .ptr 2 0, .ptr 3 0, .ptr 4 0, .ptr 5 0, .ptr 6 0, .ptr 7 0, .ptr 8 0], .box [i64 room, .v (.slice none 0 0), bool false], .box [i64 room, .v (.slice none 0 0), bool false], .box [i64 room, .v (.slice none 0 0), bool false], .box [i64 room, .v (.slice none 0 0), bool false], .box [i64 room, .v (.slice none 0 0), bool false], .box [i64 room, .v (.slice none 0 0), bool false], .box [i64 room, .v (.slice none 0 0), bool false], .box [i64 room, .v (.slice none 0 0), bool false]]⟩ :=
 q0c.asSlIn (s := ⟨[.ptr 0 0], [.box [.sl 1 [], .v (.slice none 0 0), .ptr 1 0, .ptr 2 0, .ptr 3 0, .ptr 4 0, .ptr 5 0, .ptr 6 0, .ptr 7 0, .ptr 8 0], .box [i64 room, .v (.slice none 0 0), bool false], .box [i64 room, .v (.slice none 0 0), bool false], .box [i64 room, .v (.slice none 0 0), bool false], .box [i64 room, .v (.slice none 0 0), bool false], .box [i64 room, .v (.slice none 0 0), bool false], .box [i64 room, .v (.slice none 0 0), bool false], .box [i64 room, .v (.slice none 0 0), bool false], .box [i64 room, .v (.slice none 0 0), bool false]]⟩) (b := 0) (c := 1) 1 rfl rfl
theorem qx2 (room : Int) : q0c ⟨[.ptr 0 0], [.box [.sl 1 [], .sl 1 [], .ptr 1 0, .ptr 2 0, .ptr 3 0, .ptr 4 0, .ptr 5 0, .ptr 6 0, .ptr 7 0, .ptr 8 0], .box [i64 room, .v (.slice none 0 0), bool false], .box [i64 room, .v (.slice none 0 0), bool false], .box [i64 room, .v (.slice none 0 0), bool false], .box [i64 room, .v (.slice none 0 0), bool false], .box [i64 room, .v (.slice none 0 0), bool false], .box [i64 room, .v (.slice none 0 0), bool false], .box [i64 room, .v (.slice none 0 0), bool false], .box [i64 room, .v (.slice none 0 0), bool false]]⟩ ⟨[.ptr 0 0], [.box [.sl 1 [], .sl 1 [], .ptr 1 0, .ptr 2 0, .ptr 3 0, .ptr 4 0, .ptr 5 0, .ptr 6 0, .ptr 7 0, .ptr 8 0], .box [i64 room, .own 9 8 0 0, bool false], .box [i64 room, .v (.slice none 0 0), bool false], .box [i64 room, .v (.slice none 0 0), bool false], .box [i64 room, .v (.slice none 0 0), bool false], .box [i64 room, .v (.slice none 0 0), bool false], .box [i64 room, .v (.slice none 0 0), bool false], .box [i64 room, .v (.slice none 0 0), bool false], .box [i64 room, .v (.slice none 0 0), bool false], .row 49 8 []]⟩ :=
 q0c.adoptIn (s := ⟨[.ptr 0 0], [.box [.sl 1 [], .sl 1 [], .ptr 1 0, .ptr 2 0, .ptr 3 0, .ptr 4 0, .ptr 5 0, .ptr 6 0, .ptr 7 0, .ptr 8 0], .box [i64 room, .v (.slice none 0 0), bool false], .box [i64 room, .v (.slice none 0 0), bool false], .box [i64 room, .v (.slice none 0 0), bool false], .box [i64 room, .v (.slice none 0 0), bool false], .box [i64 room, .v (.slice none 0 0), bool false], .box [i64 room, .v (.slice none 0 0), bool false], .box [i64 room, .v (.slice none 0 0), bool false], .box [i64 room, .v (.slice none 0 0), bool false]]⟩) (b := 1) (c := 1) 49 8 rfl rfl
theorem qx3 (room : Int) : q0c ⟨[.ptr 0 0], [.box [.sl 1 [], .sl 1 [], .ptr 1 0, .ptr 2 0, .ptr 3 0, .ptr 4 0, .ptr 5 0, .ptr 6 0, .ptr 7 0, .ptr 8 0], .box [i64 room, .own 9 8 0 0, bool false], .box [i64 room, .v (.slice none 0 0), bool false], .box [i64 room, .v (.slice none 0 0), bool false], .box [i64 room, .v (.slice none 0 0), bool false], .box [i64 room, .v (.slice none 0 0), bool false], .box [i64 room, .v (.slice none 0 0), bool false], .box [i64 room, .v (.slice none 0 0), bool false], .box [i64 room, .v (.slice none 0 0), bool false], .row 49 8 []]⟩ ⟨[.ptr 0 0], [.box [.sl 1 [], .sl 1 [], .ptr 1 0, .ptr 2 0, .ptr 3 0, .ptr 4 0, .ptr 5 0, .ptr 6 0, .ptr 7 0, .ptr 8 0], .box [i64 room, .own 9 8 0 0, bool false], .box [i64 room, .own 10 8 0 0, bool false], .box [i64 room, .v (.slice none 0 0), bool false], .box [i64 room, .v (.slice none 0 0), bool false], .box [i64 room, .v (.slice none 0 0), bool false], .box [i64 room, .v (.slice none 0 0), bool false], .box [i64 room, .v (.slice none 0 0), bool false], .box [i64 room, .v (.slice none 0 0), bool false], .row 49 8 [], .row 49 8 []]⟩ :=
 q0c.adoptIn (s := ⟨[.ptr 0 0], [.box [.sl 1 [], .sl 1 [], .ptr 1 0, .ptr 2 0, .ptr 3 0, .ptr 4 0, .ptr 5 0, .ptr 6 0, .ptr 7 0, .ptr 8 0], .box [i64 room, .own 9 8 0 0, bool false], .box [i64 room, .v (.slice none 0 0), bool false], .box [i64 room, .v (.slice none 0 0), bool false], .box [i64 room, .v (.slice none 0 0), bool false], .box [i64 room, .v (.slice none 0 0), bool false], .box [i64 room, .v (.slice none 0 0), bool false], .box [i64 room, .v (.slice none 0 0), bool false], .box [i64 room, .v (.slice none 0 0), bool false], .row 49 8 []]⟩) (b := 2) (c := 1) 49 8 rfl rfl
theorem qx4 (room : Int) : q0c ⟨[.ptr 0 0], [.box [.sl 1 [], .sl 1 [], .ptr 1 0, .ptr 2 0, .ptr 3 0, .ptr 4 0, .ptr 5 0, .ptr 6 0, .ptr 7 0, .ptr 8 0], .box [i64 room, .own 9 8 0 0, bool false], .box [i64 room, .own 10 8 0 0, bool false], .box [i64 room, .v (.slice none 0 0), bool false], .box [i64 room, .v (.slice none 0 0), bool false], .box [i64 room, .v (.slice none 0 0), bool false], .box [i64 room, .v (.slice none 0 0), bool false], .box [i64 room, .v (.slice none 0 0), bool false], .box [i64 room, .v (.slice none 0 0), bool false], .row 49 8 [], .row 49 8 []]⟩ ⟨[.ptr 0 0], [.box [.sl 1 [], .sl 1 [], .ptr 1 0, .ptr 2 0, .ptr 3 0, .ptr 4 0, .ptr 5 0, .ptr 6 0, .ptr 7 0, .ptr 8 0], .box [i64 room, .own 9 8 0 0, bool false], .box [i64 room, .own 10 8 0 0, bool false], .box [i64 room, .own 11 8 0 0, bool false], .box [i64 room, .v (.slice none 0 0), bool false], .box [i64 room, .v (.slice none 0 0), bool false], .box [i64 room, .v (.slice none 0 0), bool false], .box [i64 room, .v (.slice none 0 0), bool false], .box [i64 room, .v (.slice none 0 0), bool false], .row 49 8 [], .row 49 8 [], .row 49 8 []]⟩ :=
 q0c.adoptIn (s := ⟨[.ptr 0 0], [.box [.sl 1 [], .sl 1 [], .ptr 1 0, .ptr 2 0, .ptr 3 0, .ptr 4 0, .ptr 5 0, .ptr 6 0, .ptr 7 0, .ptr 8 0], .box [i64 room, .own 9 8 0 0, bool false], .box [i64 room, .own 10 8 0 0, bool false], .box [i64 room, .v (.slice none 0 0), bool false], .box [i64 room, .v (.slice none 0 0), bool false], .box [i64 room, .v (.slice none 0 0), bool false], .box [i64 room, .v (.slice none 0 0), bool false], .box [i64 room, .v (.slice none 0 0), bool false], .box [i64 room, .v (.slice none 0 0), bool false], .row 49 8 [], .row 49 8 []]⟩) (b := 3) (c := 1) 49 8 rfl rfl
theorem qx5 (room : Int) : q0c ⟨[.ptr 0 0], [.box [.sl 1 [], .sl 1 [], .ptr 1 0, .ptr 2 0, .ptr 3 0, .ptr 4 0, .ptr 5 0, .ptr 6 0, .ptr 7 0, .ptr 8 0], .box [i64 room, .own 9 8 0 0, bool false], .box [i64 room, .own 10 8 0 0, bool false], .box [i64 room, .own 11 8 0 0, bool false], .box [i64 room, .v (.slice none 0 0), bool false], .box [i64 room, .v (.slice none 0 0), bool false], .box [i64 room, .v (.slice none 0 0), bool false], .box [i64 room, .v (.slice none 0 0), bool false], .box [i64 room, .v (.slice none 0 0), bool false], .row 49 8 [], .row 49 8 [], .row 49 8 []]⟩ ⟨[.ptr 0 0], [.box [.sl 1 [], .sl 1 [], .ptr 1 0, .ptr 2 0, .ptr 3 0, .ptr 4 0, .ptr 5 0, .ptr 6 0, .ptr 7 0, .ptr 8 0], .box [i64 room, .own 9 8 0 0, bool false], .box [i64 room, .own 10 8 0 0, bool false], .box [i64 room, .own 11 8 0 0, bool false], .box [i64 room, .own 12 8 0 0, bool false], .box [i64 room, .v (.slice none 0 0), bool false], .box [i64 room, .v (.slice none 0 0), bool false], .box [i64 room, .v (.slice none 0 0), bool false], .box [i64 room, .v (.slice none 0 0), bool false], .row 49 8 [], .row 49 8 [], .row 49 8 [], .row 49 8 []]⟩ :=
 q0c.adoptIn (s := ⟨[.ptr 0 0], [.box [.sl 1 [], .sl 1 [], .ptr 1 0, .ptr 2 0, .ptr 3 0, .ptr 4 0, .ptr 5 0, .ptr 6 0, .ptr 7 0, .ptr 8 0], .box [i64 room, .own 9 8 0 0, bool false], .box [i64 room, .own 10 8 0 0, bool false], .box [i64 room, .own 11 8 0 0, bool false], .box [i64 room, .v (.slice none 0 0), bool false], .box [i64 room, .v (.slice none 0 0), bool false], .box [i64 room, .v (.slice none 0 0), bool false], .box [i64 room, .v (.slice none 0 0), bool false], .box [i64 room, .v (.slice none 0 0), bool false], .row 49 8 [], .row 49 8 [], .row 49 8 []]⟩) (b := 4) (c := 1) 49 8 rfl rfl
theorem qx6 (room : Int) : q0c ⟨[.ptr 0 0], [.box [.sl 1 [], .sl 1 [], .ptr 1 0, .ptr 2 0, .ptr 3 0, .ptr 4 0, .ptr 5 0, .ptr 6 0, .ptr 7 0, .ptr 8 0], .box [i64 room, .own 9 8 0 0, bool false], .box [i64 room, .own 10 8 0 0, bool false], .box [i64 room, .own 11 8 0 0, bool false], .box [i64 room, .own 12 8 0 0, bool false], .box [i64 room, .v (.slice none 0 0), bool false], .box [i64 room, .v (.slice none 0 0), bool false], .box [i64 room, .v (.slice none 0 0), bool false], .box [i64 room, .v (.slice none 0 0), bool false], .row 49 8 [], .row 49 8 [], .row 49 8 [], .row 49 8 []]⟩ ⟨[.ptr 0 0], [.box [.sl 1 [], .sl 1 [], .ptr 1 0, .ptr 2 0, .ptr 3 0, .ptr 4 0, .ptr 5 0, .ptr 6 0, .ptr 7 0, .ptr 8 0], .box [i64 room, .own 9 8 0 0, bool false], .box [i64 room, .own 10 8 0 0, bool false], .box [i64 room, .own 11 8 0 0, bool false], .box [i64 room, .own 12 8 0 0, bool false], .box [i64 room, .own 13 8 0 0, bool false], .box [i64 room, .v (.slice none 0 0), bool false], .box [i64 room, .v (.slice none 0 0), bool false], .box [i64 room, .v (.slice none 0 0), bool false], .row 49 8 [], .row 49 8 [], .row 49 8 [], .row 49 8 [], .row 49 8 []]⟩ :=
 q0c.adoptIn (s := ⟨[.ptr 0 0], [.box [.sl 1 [], .sl 1 [], .ptr 1 0, .ptr 2 0, .ptr 3 0, .ptr 4 0, .ptr 5 0, .ptr 6 0, .ptr 7 0, .ptr 8 0], .box [i64 room, .own 9 8 0 0, bool false], .box [i64 room, .own 10 8 0 0, bool false], .box [i64 room, .own 11 8 0 0, bool false], .box [i64 room, .own 12 8 0 0, bool false], .box [i64 room, .v (.slice none 0 0), bool false], .box [i64 room, .v (.slice none 0 0), bool false], .box [i64 room, .v (.slice none 0 0), bool false], .box [i64 room, .v (.slice none 0 0), bool false], .row 49 8 [], .row 49 8 [], .row 49 8 [], .row 49 8 []]⟩) (b := 5) (c := 1) 49 8 rfl rfl
theorem qx7 (room : Int) : q0c ⟨[.ptr 0 0], [.box [.sl 1 [], .sl 1 [], .ptr 1 0, .ptr 2 0, .ptr 3 0, .ptr 4 0, .ptr 5 0, .ptr 6 0, .ptr 7 0, .ptr 8 0], .box [i64 room, .own 9 8 0 0, bool false], .box [i64 room, .own 10 8 0 0, bool false], .box [i64 room, .own 11 8 0 0, bool false], .box [i64 room, .own 12 8 0 0, bool false], .box [i64 room, .own 13 8 0 0, bool false], .box [i64 room, .v (.slice none 0 0), bool false], .box [i64 room, .v (.slice none 0 0), bool false], .box [i64 room, .v (.slice none 0 0), bool false], .row 49 8 [], .row 49 8 [], .row 49 8 [], .row 49 8 [], .row 49 8 []]⟩ ⟨[.ptr 0 0], [.box [.sl 1 [], .sl 1 [], .ptr 1 0, .ptr 2 0, .ptr 3 0, .ptr 4 0, .ptr 5 0, .ptr 6 0, .ptr 7 0, .ptr 8 0], .box [i64 room, .own 9 8 0 0, bool false], .box [i64 room, .own 10 8 0 0, bool false], .box [i64 room, .own 11 8 0 0, bool false], .box [i64 room, .own 12 8 0 0, bool false], .box [i64 room, .own 13 8 0 0, bool false], .box [i64 room, .own 14 8 0 0, bool false], .box [i64 room, .v (.slice none 0 0), bool false], .box [i64 room, .v (.slice none 0 0), bool false], .row 49 8 [], .row 49 8 [], .row 49 8 [], .row 49 8 [], .row 49 8 [], .row 49 8 []]⟩ :=
 q0c.adoptIn (s := ⟨[.ptr 0 0], [.box [.sl 1 [], .sl 1 [], .ptr 1 0, .ptr 2 0, .ptr 3 0, .ptr 4 0, .ptr 5 0, .ptr 6 0, .ptr 7 0, .ptr 8 0], .box [i64 room, .own 9 8 0 0, bool false], .box [i64 room, .own 10 8 0 0, bool false], .box [i64 room, .own 11 8 0 0, bool false], .box [i64 room, .own 12 8 0 0, bool false], .box [i64 room, .own 13 8 0 0, bool false], .box [i64 room, .v (.slice none 0 0), bool false], .box [i64 room, .v (.slice none 0 0), bool false], .box [i64 room, .v (.slice none 0 0), bool false], .row 49 8 [], .row 49 8 [], .row 49 8 [], .row 49 8 [], .row 49 8 []]⟩) (b := 6) (c := 1) 49 8 rfl rfl
theorem qwl (room : Int) : q0c ⟨[.ptr 0 0], [.box [.sl 1 [], .sl 1 [], .ptr 1 0, .ptr 2 0, .ptr 3 0, .ptr 4 0, .ptr 5 0, .ptr 6 0, .ptr 7 0, .ptr 8 0], .box [i64 room, .own 9 8 0 0, bool false], .box [i64 room, .own 10 8 0 0, bool false], .box [i64 room, .own 11 8 0 0, bool false], .box [i64 room, .own 12 8 0 0, bool false], .box [i64 room, .own 13 8 0 0, bool false], .box [i64 room, .own 14 8 0 0, bool false], .box [i64 room, .v (.slice none 0 0), bool false], .box [i64 room, .v (.slice none 0 0), bool false], .row 49 8 [], .row 49 8 [], .row 49 8 [], .row 49 8 [], .row 49 8 [], .row 49 8 []]⟩ ⟨[.ptr 0 0], [.box [.sl 1 [], .sl 1 [], .ptr 1 0, .ptr 2 0, .ptr 3 0, .ptr 4 0, .ptr 5 0, .ptr 6 0, .ptr 7 0, .ptr 8 0], .box [i64 room, .own 9 8 0 0, bool false], .box [i64 room, .own 10 8 0 0, bool false], .box [i64 room, .own 11 8 0 0, bool false], .box [i64 room, .own 12 8 0 0, bool false], .box [i64 room, .own 13 8 0 0, bool false], .box [i64 room, .own 14 8 0 0, bool false], .box [i64 room, .own 15 8 0 0, bool false], .box [i64 room, .v (.slice none 0 0), bool false], .row 49 8 [], .row 49 8 [], .row 49 8 [], .row 49 8 [], .row 49 8 [], .row 49 8 [], .row 49 8 []]⟩ :=
 q0c.adoptIn (s := ⟨[.ptr 0 0], [.box [.sl 1 [], .sl 1 [], .ptr 1 0, .ptr 2 0, .ptr 3 0, .ptr 4 0, .ptr 5 0, .ptr 6 0, .ptr 7 0, .ptr 8 0], .box [i64 room, .own 9 8 0 0, bool false], .box [i64 room, .own 10 8 0 0, bool false], .box [i64 room, .own 11 8 0 0, bool false], .box [i64 room, .own 12 8 0 0, bool false], .box [i64 room, .own 13 8 0 0, bool false], .box [i64 room, .own 14 8 0 0, bool false], .box [i64 room, .v (.slice none 0 0), bool false], .box [i64 room, .v (.slice none 0 0), bool false], .row 49 8 [], .row 49 8 [], .row 49 8 [], .row 49 8 [], .row 49 8 [], .row 49 8 []]⟩) (b := 7) (c := 1) 49 8 rfl rfl
theorem qx8 (room : Int) : q0c ⟨[.ptr 0 0], [.box [.sl 1 [], .sl 1 [], .ptr 1 0, .ptr 2 0, .ptr 3 0, .ptr 4 0, .ptr 5 0, .ptr 6 0, .ptr 7 0, .ptr 8 0], .box [i64 room, .own 9 8 0 0, bool false], .box [i64 room, .own 10 8 0 0, bool false], .box [i64 room, .own 11 8 0 0, bool false], .box [i64 room, .own 12 8 0 0, bool false], .box [i64 room, .own 13 8 0 0, bool false], .box [i64 room, .own 14 8 0 0, bool false], .box [i64 room, .own 15 8 0 0, bool false], .box [i64 room, .v (.slice none 0 0), bool false], .row 49 8 [], .row 49 8 [], .row 49 8 [], .row 49 8 [], .row 49 8 [], .row 49 8 [], .row 49 8 []]⟩ ⟨[.ptr 0 0], [.box [.sl 1 [], .sl 1 [], .ptr 1 0, .ptr 2 0, .ptr 3 0, .ptr 4 0, .ptr 5 0, .ptr 6 0, .ptr 7 0, .ptr 8 0], .box [i64 room, .own 9 8 0 0, bool false], .box [i64 room, .own 10 8 0 0, bool false], .box [i64 room, .own 11 8 0 0, bool false], .box [i64 room, .own 12 8 0 0, bool false], .box [i64 room, .own 13 8 0 0, bool false], .box [i64 room, .own 14 8 0 0, bool false], .box [i64 room, .own 15 8 0 0, bool false], .box [i64 room, .own 16 8 0 0, bool false], .row 49 8 [], .row 49 8 [], .row 49 8 [], .row 49 8 [], .row 49 8 [], .row 49 8 [], .row 49 8 [], .row 49 8 []]⟩ :=
 q0c.adoptIn (s := ⟨[.ptr 0 0], [.box [.sl 1 [], .sl 1 [], .ptr 1 0, .ptr 2 0, .ptr 3 0, .ptr 4 0, .ptr 5 0, .ptr 6 0, .ptr 7 0, .ptr 8 0], .box [i64 room, .own 9 8 0 0, bool false], .box [i64 room, .own 10 8 0 0, bool false], .box [i64 room, .own 11 8 0 0, bool false], .box [i64 room, .own 12 8 0 0, bool false], .box [i64 room, .own 13 8 0 0, bool false], .box [i64 room, .own 14 8 0 0, bool false], .box [i64 room, .own 15 8 0 0, bool false], .box [i64 room, .v (.slice none 0 0), bool false], .row 49 8 [], .row 49 8 [], .row 49 8 [], .row 49 8 [], .row 49 8 [], .row 49 8 [], .row 49 8 []]⟩) (b := 8) (c := 1) 49 8 rfl rfl
theorem feed_New (room : Int) : ACall P 38 [] [i64 room] (fun x m' => x = .ptr 0 0 ∧ m' = q0f ⟨[], max room 0, fun _ => ([], false)⟩) := by
 refine ACall.weaken (qwz room) ?_
 rintro x m' ⟨rfl, rfl⟩
 refine ⟨_, _, ?_, rfl, rfl⟩
 refine q0c.trans (qx0 _) ?_
 refine q0c.trans (qx1 _) ?_
 refine q0c.trans (qx2 _) ?_
 refine q0c.trans (qx3 _) ?_
 refine q0c.trans (qx4 _) ?_
 refine q0c.trans (qx5 _) ?_
 refine q0c.trans (qx6 _) ?_
 refine q0c.trans (qx7 _) ?_
 refine q0c.trans (qwl _) ?_
 refine q0c.trans (qx8 _) ?_
 exact q0c.refl _
end Go.Proofs.YtdkcpcflfnakdaaGreat
namespace Go.Proofs.YtdkcpcflfnakdaaGreat
open Go Go.Proofs.YtdkcpcflfnakdaaGreat.Sym
set_option maxRecDepth 100000
set_option maxHeartbeats 1000000
theorem qpd : ∀ m < 256, ∀ w < 8, (∀ k < 8, hasB (setB (m : Nat) (w : Nat)) (k : Nat) = (hasB (m : Nat) (k : Nat) || decide (k = w))) ∧ (0 ≤ setB (m : Nat) (w : Nat) ∧ setB (m : Nat) (w : Nat) < 256) := by decide +kernel
theorem qop : ∀ m < 256, ∀ w < 8, (∀ k < 8, hasB (clrB (m : Nat) (w : Nat)) (k : Nat) = (hasB (m : Nat) (k : Nat) && decide (k ≠ w))) ∧ (0 ≤ clrB (m : Nat) (w : Nat) ∧ clrB (m : Nat) (w : Nat) < 256) := by decide +kernel
theorem qan : ∀ k < 8, hasB 0 (k : Nat) = false := by decide +kernel
abbrev Msk := List (ByteArray × Int)
def q3c (m : Msk) : Prop := q33 m ∧ ∀ p ∈ m, 0 ≤ p.2 ∧ p.2 < 256
theorem qh8 {m : Msk} (h : q3c m) (u : ByteArray) : 0 ≤ maskOf m u ∧ maskOf m u < 256 := by
 by_cases hk : u ∈ m.map Prod.fst
 · obtain ⟨⟨u', v⟩, hp, rfl⟩ := z1b.1 hk
   rw [maskOf, qhb ordS q0t h.1 hp]
   exact h.2 _ hp
 · rw [maskOf, qem ordS q0t h.1 hk]
   exact ⟨Int.le_refl _, by decide⟩
theorem q87 {m : Msk} (h : q3c m) {p : ByteArray × Int} (hp : p ∈ m) : maskOf m p.1 = p.2 := by
 rw [maskOf, qhb ordS q0t h.1 (k := p.1) (v := p.2) hp]
theorem qa3 {m : Msk} (h : q3c m) {u : ByteArray} (hk : u ∉ m.map Prod.fst) : maskOf m u = 0 := by
 rw [maskOf, qem ordS q0t h.1 hk]
theorem qj0 {m : Msk} (h : q3c m) (u : ByteArray) {v : Int} (hv : 0 ≤ v ∧ v < 256) : q3c (q2p ltS eqS m u v) := by
 refine ⟨qlb ordS q0t h.1 u v, fun p hp => ?_⟩
 rcases (qcf ordS q0t h.1).1 hp with rfl | ⟨hp, _⟩
 · exact hv
 · exact h.2 p hp
theorem qi1 {m : Msk} (h : q3c m) (u : ByteArray) : q3c (q1l ltS eqS m u) := by
 refine ⟨qfi ordS q0t h.1 u, fun p hp => ?_⟩
 rw [q5r ordS q0t h.1] at hp
 exact h.2 p (z1v.1 hp).1
theorem qmy {m : Msk} (h : q3c m) (u : ByteArray) {v : Int} (hv : 0 ≤ v ∧ v < 256) (u' : ByteArray) : maskOf (q2p ltS eqS m u v) u' = if u' = u then v else maskOf m u' := by
 have h' := qj0 h u hv
 by_cases e : u' = u
 · subst e
   rw [if_pos rfl]
   exact q87 (p := (u', v)) h' ((qcf ordS q0t h.1).2 (.inl rfl))
 · rw [if_neg e]
   by_cases hk : u' ∈ m.map Prod.fst
   · obtain ⟨p, hp, rfl⟩ := z1b.1 hk
     rw [q87 h hp, q87 h' ((qcf ordS q0t h.1).2 (.inr ⟨hp, e⟩))]
   · rw [qa3 h hk, qa3 h']
     intro hc
     obtain ⟨p, hp, rfl⟩ := z1b.1 hc
     rcases (qcf ordS q0t h.1).1 hp with rfl | ⟨hp, _⟩
     · exact e rfl
     · exact hk (z1b.2 ⟨p, hp, rfl⟩)
theorem qqk {m : Msk} (h : q3c m) (u : ByteArray) (u' : ByteArray) : maskOf (q1l ltS eqS m u) u' = if u' = u then 0 else maskOf m u' := by
 have h' := qi1 h u
 have he := q5r ordS q0t h.1 u
 by_cases e : u' = u
 · subst e
   rw [if_pos rfl, qa3 h']
   intro hc
   obtain ⟨p, hp, hpu⟩ := z1b.1 hc
   rw [he] at hp
   have := (z1v.1 hp).2
   rw [hpu, (q0t _ _).2 rfl] at this
   cases this
 · rw [if_neg e]
   by_cases hk : u' ∈ m.map Prod.fst
   · obtain ⟨p, hp, rfl⟩ := z1b.1 hk
     rw [q87 h hp, q87 h']
     rw [he]
     refine z1v.2 ⟨hp, ?_⟩
     cases hc : eqS p.1 u with
     | false => rfl
     | true => exact absurd ((q0t _ _).1 hc) e
   · rw [qa3 h hk, qa3 h']
     intro hc
     obtain ⟨p, hp, rfl⟩ := z1b.1 hc
     rw [he] at hp
     exact hk (z1b.2 ⟨p, (z1v.1 hp).1, rfl⟩)
theorem qk0 {v : Int} (h : 0 ≤ v ∧ v < 256) : ∃ n : Nat, n < 256 ∧ v = n := ⟨v.toNat, by omega, by omega⟩
theorem watch_ok {m : Msk} (h : q3c m) (who : Int) (u : ByteArray) : q3c (q40 m who u) := by
 unfold q40
 split
 · rename_i hc
   obtain ⟨w, hw, rfl⟩ := q2u hc
   obtain ⟨n, hn, hm⟩ := qk0 (qh8 h u)
   rw [hm]
   exact qj0 h u (qpd n hn w hw).2
 · exact h
theorem qwt (m : Msk) (who : Int) (u : ByteArray) : (q40 m who u).length ≤ m.length + 1 := by
 unfold q40
 split
 · exact qj2 _ _ _
 · omega
theorem qu0 {m : Msk} (h : q3c m) (who : Int) (u : ByteArray) : q3c (q3y m who u) := by
 unfold q3y
 split
 · rename_i hc
   obtain ⟨w, hw, rfl⟩ := q2u hc
   obtain ⟨n, hn, hm⟩ := qk0 (qh8 h u)
   split
   · exact h
   · split
     · exact qi1 h u
     · rw [hm]
       exact qj0 h u (qop n hn w hw).2
 · exact h
theorem qs4 (m : Msk) (who : Int) (u : ByteArray) : (q3y m who u).length ≤ m.length + 1 := by
 unfold q3y
 split
 · split
   · omega
   · split
     · exact z1f (qii _ _) (z3e _)
     · exact qj2 _ _ _
 · omega
theorem qgb {m : Msk} (h : q3c m) (who : Int) (u : ByteArray) (who' : Int) (u' : ByteArray) : watF (q40 m who u) who' u' = (watF m who' u' || (cli who && (decide (who' = who) && decide (u' = u)))) := by
 unfold watF
 cases hc' : cli who' with
 | false =>
  simp only [z23, z2g]
  cases hc : cli who with
  | false => simp
  | true =>
   have : who' ≠ who := by intro e; rw [e, hc] at hc'; cases hc'
   simp [this]
 | true =>
  simp only [z0z]
  cases hc : cli who with
  | false => rw [q40, if_neg (by rw [hc]; decide)]; simp
  | true =>
   rw [q40, if_pos hc]
   obtain ⟨w, hw, rfl⟩ := q2u hc
   obtain ⟨k, hk, rfl⟩ := q2u hc'
   obtain ⟨n, hn, hm⟩ := qk0 (qh8 h u)
   obtain ⟨b1, b2⟩ := qpd n hn w hw
   have e2 : decide ((k : Int) = (w : Int)) = decide (k = w) := by rw [z2b]; simp; omega
   rw [hm, qmy h u b2, z0z, e2]
   by_cases e : u' = u
   · subst e
     rw [if_pos rfl, b1 k hk, hm]; simp
   · rw [if_neg e]; simp [e]
theorem qrh {m : Msk} (h : q3c m) (who : Int) (u : ByteArray) (who' : Int) (u' : ByteArray) : watF (q3y m who u) who' u' = (watF m who' u' && !(decide (who' = who) && decide (u' = u))) := by
 unfold watF
 cases hc' : cli who' with
 | false => simp
 | true =>
  simp only [z0z]
  cases hc : cli who with
  | false =>
   rw [q3y, if_neg (by rw [hc]; decide)]
   have : who' ≠ who := by intro e; rw [e, hc] at hc'; cases hc'
   simp [this]
  | true =>
   rw [q3y, if_pos hc]
   obtain ⟨w, hw, rfl⟩ := q2u hc
   obtain ⟨k, hk, rfl⟩ := q2u hc'
   obtain ⟨n, hn, hm⟩ := qk0 (qh8 h u)
   obtain ⟨b1, b2⟩ := qop n hn w hw
   have e2 : decide ((k : Int) = (w : Int)) = decide (k = w) := by rw [z2b]; simp; omega
   rw [e2]
   split
   · rename_i hz
     have hz : maskOf m u = 0 := by simpa using hz
     by_cases e : u' = u
     · subst e
       rw [hz, qan k hk]; simp
     · simp [e]
   · split
     · rename_i hz
       have hz : clrB (maskOf m u) w = 0 := by simpa using hz
       rw [qqk h u]
       by_cases e : u' = u
       · subst e
         have h1 := b1 k hk
         rw [← hm, hz, qan k hk] at h1
         rw [if_pos rfl, qan k hk, h1]
         simp
       · rw [if_neg e]; simp [e]
     · rw [hm, qmy h u b2]
       by_cases e : u' = u
       · subst e
         rw [if_pos rfl, b1 k hk, hm]; simp
       · rw [if_neg e]; simp [e]
theorem qha : q3c [] := ⟨List.Pairwise.nil, fun p hp => by cases hp⟩
theorem qjr {α : Type} [DecidableEq α] : ∀ {a b : List α}, a.Nodup → (∀ x ∈ a, x ∈ b) → a.length ≤ b.length
 | [], _, _, _ => z00 _
 | x :: a, b, hnd, hs => by
  have hx := hs x z3b
  obtain ⟨h1, h2⟩ := z3h.1 hnd
  have hle : a.length ≤ (b.erase x).length := qjr h2 fun y hy => (List.mem_erase_of_ne (by rintro rfl; exact h1 hy)).2 (hs y (z3g _ hy))
  have hpos : 0 < b.length := List.length_pos_of_mem hx
  rw [List.length_erase_of_mem hx] at hle
  simp only [z02]
  omega
theorem qz0 {α : Type} [DecidableEq α] {a b : List α} (ha : a.Nodup) (hb : b.Nodup) (h : ∀ x, x ∈ a ↔ x ∈ b) : a.length = b.length :=
 z2s (qjr ha fun x hx => (h x).1 hx) (qjr hb fun x hx => (h x).2 hx)
theorem cnt_eq {m : Msk} (h : q3c m) (who : Int) {L : List ByteArray} (hnd : L.Nodup) (hL : ∀ u, u ∈ L ↔ watF m who u = true) : cntM m who = L.length := by
 have hk : (m.map Prod.fst).Nodup := by
  refine List.Pairwise.imp ?_ h.1
  intro a b hab e
  subst e
  rw [ordS.irrefl] at hab
  cases hab
 have e1 : cntM m who = ((m.filter fun p => cli who && hasB p.2 who).map Prod.fst).length := by rw [z0f]; rfl
 rw [e1]
 refine qz0 (List.Nodup.sublist (List.Sublist.map _ z2w) hk) hnd fun u => ?_
 rw [hL u, z1b]
 constructor
 · rintro ⟨p, hp, rfl⟩
   obtain ⟨h1, h2⟩ := z1v.1 hp
   rw [watF, q87 h h1]; exact h2
 · intro hw
   by_cases hm : u ∈ m.map Prod.fst
   · obtain ⟨p, hp, rfl⟩ := z1b.1 hm
     rw [watF, q87 h hp] at hw
     exact ⟨p, z1v.2 ⟨hp, hw⟩, rfl⟩
   · exfalso
     rw [watF, qa3 h hm] at hw
     cases hc : cli who with
     | false => rw [hc] at hw; cases hw
     | true =>
      obtain ⟨k, hk, rfl⟩ := q2u hc
      rw [qan k hk, z2r] at hw; cases hw
theorem qt5 (F : Fd) (c : Chg) (seq : Int) {k : Nat} (hk : k < 8) : (tell1 F c seq 8).q k = if watF F.m k c.u = true then putR F.room (F.q k) ⟨c.u, c.old, c.new, seq⟩ else F.q k := by
 unfold tell1
 simp [hk]
theorem tell1_qy {F : Fd} {c : Chg} {seq : Int} {k : Nat} (hk : k < 8) (h : watF F.m k c.u = true) : (tell1 F c seq 8).q k = putR F.room (F.q k) ⟨c.u, c.old, c.new, seq⟩ := by
 rw [qt5 F c seq hk, if_pos h]
theorem tell_one (F : Fd) (c : Chg) (seq : Int) : q6e F [c] seq = tell1 F c seq 8 := rfl
end Go.Proofs.YtdkcpcflfnakdaaGreat
namespace Go.Proofs.YtdkcpcflfnakdaaGreat
open Go Go.Proofs.YtdkcpcflfnakdaaGreat.Sym
set_option maxRecDepth 100000
set_option maxHeartbeats 1000000
end Go.Proofs.YtdkcpcflfnakdaaGreat
namespace Go.Proofs.YtdkcpcflfnakdaaGreat
open Go Go.Proofs.YtdkcpcflfnakdaaGreat.Sym
set_option maxRecDepth 100000
set_option maxHeartbeats 1000000
abbrev Rws := List (List Ev)
def qaw (R : Rws) (best : Option Nat) (i : Nat) : Option Nat :=
 match R.getD i [], best with
 | [], _ => best
 | _ :: _, none => some i
 | e :: _, some b => match R.getD b [] with
  | [] => some i
  | f :: _ => if e.seq < f.seq then some i else some b
def qay (R : Rws) (best : Option Nat) (i : Nat) : Option Nat :=
 match R.getD i [], best with
 | [], _ => best
 | _ :: _, none => some i
 | e :: _, some b => match R.getD b [] with
  | [] => some i
  | f :: _ => if e.seq ≤ f.seq then some i else some b
theorem qlk {R : Rws} {o : Option Nat} {i : Nat} (h : R.getD i [] = []) : qaw R o i = o := by
 unfold qaw; rw [h]
theorem qie {R : Rws} {i : Nat} {e : Ev} {t : List Ev} (h : R.getD i [] = e :: t) : qaw R none i = some i := by
 unfold qaw; rw [h]
theorem qi6 {R : Rws} {i b : Nat} {e f : Ev} {t u : List Ev} (h : R.getD i [] = e :: t) (h2 : R.getD b [] = f :: u) : qaw R (some b) i = if e.seq < f.seq then some i else some b := by
 unfold qaw; rw [h]; simp only [h2]
theorem ql0 {R : Rws} {o : Option Nat} {i : Nat} (h : R.getD i [] = []) : qay R o i = o := by
 unfold qay; rw [h]
theorem qih {R : Rws} {i : Nat} {e : Ev} {t : List Ev} (h : R.getD i [] = e :: t) : qay R none i = some i := by
 unfold qay; rw [h]
theorem qil {R : Rws} {i b : Nat} {e f : Ev} {t u : List Ev} (h : R.getD i [] = e :: t) (h2 : R.getD b [] = f :: u) : qay R (some b) i = if e.seq ≤ f.seq then some i else some b := by
 unfold qay; rw [h]; simp only [h2]
def up (R : Rws) : Nat → Option Nat
 | 0 => none
 | n + 1 => qaw R (up R n) n
def dn (R : Rws) : Nat → Option Nat
 | 0 => none
 | k + 1 => qay R (dn R k) (R.length - 1 - k)
def Best (R : Rws) (S : Nat → Prop) : Option Nat → Prop
 | none => ∀ i, S i → R.getD i [] = []
 | some b => S b ∧ ∃ e t, R.getD b [] = e :: t ∧ ∀ i, S i → ∀ f u, R.getD i [] = f :: u → e.seq < f.seq ∨ (e.seq = f.seq ∧ b ≤ i)
theorem qr6 {R : Rws} {S : Nat → Prop} {o o' : Option Nat} (h : Best R S o) (h' : Best R S o') : o = o' := by
 cases o with
 | none =>
  cases o' with
  | none => rfl
  | some b =>
   obtain ⟨h1, e, t, h2, _⟩ := h'
   rw [h b h1] at h2; cases h2
 | some b =>
  obtain ⟨h1, e, t, h2, h3⟩ := h
  cases o' with
  | none => rw [h' b h1] at h2; cases h2
  | some b' =>
   obtain ⟨k1, e', t', k2, k3⟩ := h'
   have a1 := h3 b' k1 e' t' k2
   have a2 := k3 b h1 e t h2
   congr 1
   omega
theorem qdz (R : Rws) : ∀ n, Best R (fun i => i < n) (up R n)
 | 0 => fun i hi => absurd hi (z28 i)
 | n + 1 => by
  have ih := qdz R n
  rw [up]
  generalize up R n = o at ih
  cases hR : R.getD n [] with
  | nil =>
   rw [qlk hR]
   cases o with
   | none =>
    intro i hi
    rcases z3i.1 hi with h | rfl
    · exact ih i h
    · exact hR
   | some b =>
    obtain ⟨h1, e, t, h2, h3⟩ := ih
    refine ⟨Nat.lt_succ_of_lt h1, e, t, h2, fun i hi f u hf => ?_⟩
    rcases z3i.1 hi with h | rfl
    · exact h3 i h f u hf
    · rw [hR] at hf; cases hf
  | cons e t =>
   cases o with
   | none =>
    rw [qie hR]
    refine ⟨z3r n, e, t, hR, fun i hi f u hf => ?_⟩
    rcases z3i.1 hi with h | rfl
    · rw [ih i h] at hf; cases hf
    · rw [hR] at hf; cases hf; exact .inr ⟨rfl, z09 _⟩
   | some b =>
    obtain ⟨h1, f, u, h2, h3⟩ := ih
    rw [qi6 hR h2]
    by_cases hlt : e.seq < f.seq
    · rw [if_pos hlt]
      refine ⟨z3r n, e, t, hR, fun i hi g v hg => ?_⟩
      rcases z3i.1 hi with h | rfl
      · have := h3 i h g v hg; omega
      · rw [hR] at hg; cases hg; exact .inr ⟨rfl, z09 _⟩
    · rw [if_neg hlt]
      refine ⟨Nat.lt_succ_of_lt h1, f, u, h2, fun i hi g v hg => ?_⟩
      rcases z3i.1 hi with h | rfl
      · exact h3 i h g v hg
      · rw [hR] at hg; cases hg; omega
theorem qme (R : Rws) : ∀ k, k ≤ R.length → Best R (fun i => R.length - k ≤ i ∧ i < R.length) (dn R k)
 | 0, _ => fun i hi => by omega
 | k + 1, hk => by
  have ih := qme R k (by omega)
  rw [dn]
  generalize dn R k = o at ih
  have key : ∀ i, (R.length - (k + 1) ≤ i ∧ i < R.length) → (R.length - k ≤ i ∧ i < R.length) ∨ i = R.length - 1 - k := fun i hi => by omega
  cases hR : R.getD (R.length - 1 - k) [] with
  | nil =>
   rw [ql0 hR]
   cases o with
   | none =>
    intro i hi
    rcases key i hi with h | rfl
    · exact ih i h
    · exact hR
   | some b =>
    obtain ⟨h1, e, t, h2, h3⟩ := ih
    refine ⟨⟨by omega, h1.2⟩, e, t, h2, fun i hi f u hf => ?_⟩
    rcases key i hi with h | rfl
    · exact h3 i h f u hf
    · rw [hR] at hf; cases hf
  | cons e t =>
   cases o with
   | none =>
    rw [qih hR]
    refine ⟨⟨by omega, by omega⟩, e, t, hR, fun i hi f u hf => ?_⟩
    rcases key i hi with h | rfl
    · rw [ih i h] at hf; cases hf
    · rw [hR] at hf; cases hf; exact .inr ⟨rfl, z09 _⟩
   | some b =>
    obtain ⟨h1, f, u, h2, h3⟩ := ih
    rw [qil hR h2]
    by_cases hle : e.seq ≤ f.seq
    · rw [if_pos hle]
      refine ⟨⟨by omega, by omega⟩, e, t, hR, fun i hi g v hg => ?_⟩
      rcases key i hi with h | rfl
      · have := h3 i h g v hg; omega
      · rw [hR] at hg; cases hg; exact .inr ⟨rfl, z09 _⟩
    · rw [if_neg hle]
      refine ⟨⟨by omega, h1.2⟩, f, u, h2, fun i hi g v hg => ?_⟩
      rcases key i hi with h | rfl
      · exact h3 i h g v hg
      · rw [hR] at hg; cases hg; omega
def q5b (R : Rws) : Option Nat := up R R.length
theorem dn_eq (R : Rws) : dn R R.length = q5b R := by
 refine qr6 (S := fun i => i < R.length) ?_ (qdz R R.length)
 have := qme R R.length (z09 _)
 have e : (fun i => R.length - R.length ≤ i ∧ i < R.length) = fun i => i < R.length := by funext i; simp
 rwa [e] at this
def total (R : Rws) : Nat := (R.map List.length).sum
def q5a (R : Rws) (b : Nat) : Rws := R.set b (R.getD b []).tail
theorem q8n : ∀ {R : Rws} {b : Nat} {e : Ev} {t : List Ev}, R.getD b [] = e :: t → total R = total (q5a R b) + 1
 | [], b, e, t, h => by simp at h
 | r :: R, 0, e, t, h => by
  have h : r = e :: t := h
  subst h
  simp only [total, q5a, List.set, z0u, List.tail, z0r, z4w, z02]; omega
 | r :: R, b + 1, e, t, h => by
  have h : R.getD b [] = e :: t := h
  have ih := q8n h
  simp only [total, q5a, List.set, z0v, z0r, z4w] at ih ⊢
  omega
def qld : Nat → Rws → List Ev
 | 0, _ => []
 | n + 1, R => match q5b R with
  | none => []
  | some b => match R.getD b [] with
   | [] => []
   | e :: _ => e :: qld n (q5a R b)
def q3q (R : Rws) : List Ev := qld (total R) R
theorem qen {R : Rws} {b : Nat} (h : q5b R = some b) : b < R.length ∧ ∃ e t, R.getD b [] = e :: t ∧ ∀ i, i < R.length → ∀ f u, R.getD i [] = f :: u → e.seq ≤ f.seq := by
 have := qdz R R.length
 rw [q5b] at h
 rw [h] at this
 obtain ⟨h1, e, t, h2, h3⟩ := this
 exact ⟨h1, e, t, h2, fun i hi f u hf => by have := h3 i hi f u hf; omega⟩
theorem ql1 {R : Rws} (h : q5b R = none) : q3q R = [] := by
 unfold q3q
 cases total R with
 | zero => rfl
 | succ n => rw [qld, h]
theorem qeo {R : Rws} {b : Nat} {e : Ev} {t : List Ev} (h : q5b R = some b) (h2 : R.getD b [] = e :: t) : q3q R = e :: q3q (q5a R b) := by
 unfold q3q
 rw [q8n h2, qld, h]
 simp only [h2]
theorem q8b : ∀ n (R : Rws), total R = n → (q3q R).length = n
 | 0, R, h => by rw [q3q, h]; rfl
 | n + 1, R, h => by
  cases hb : q5b R with
  | none =>
   exfalso
   have hu := qdz R R.length
   rw [q5b] at hb
   rw [hb] at hu
   have : total R = 0 := by
    clear hb h
    have hz : ∀ r ∈ R, r = [] := fun r hr => by
     obtain ⟨i, hi, rfl⟩ := z3v.1 hr
     have := hu i hi
     rwa [z04, z05 hi] at this
    clear hu
    induction R with
    | nil => rfl
    | cons r R ih =>
     have h1 := hz r z3b
     have h2 := ih (fun x hx => hz x (z3g _ hx))
     subst h1
     simpa [total] using h2
   omega
  | some b =>
   obtain ⟨h1, e, t, h2, h3⟩ := qen hb
   have ht := q8n h2
   rw [qeo hb h2, z02, q8b n _ (by omega)]
theorem qwo {R : Rws} {b i : Nat} (hb : b < R.length) : (q5a R b).getD i [] = if i = b then (R.getD b []).tail else R.getD i [] := by
 unfold q5a
 simp only [z04]
 by_cases h : i = b
 · subst h
   rw [z0m hb, if_pos rfl]; rfl
 · rw [z0e (z37 h), if_neg h]
end Go.Proofs.YtdkcpcflfnakdaaGreat
namespace Go.Proofs.YtdkcpcflfnakdaaGreat
open Go Go.Proofs.YtdkcpcflfnakdaaGreat.Sym
set_option maxRecDepth 100000
set_option maxHeartbeats 1000000
theorem ev_beq (e f : Ev) : (e.u.toList == f.u.toList && (e.old.st == f.old.st && (e.old.pr == f.old.pr && (e.old.n == f.old.n && (e.new.st == f.new.st && (e.new.pr == f.new.pr && (e.new.n == f.new.n && e.seq == f.seq))))))) = decide (e = f) := by
 obtain ⟨u, ⟨a, b, c⟩, ⟨d, g, h⟩, s⟩ := e
 obtain ⟨u', ⟨a', b', c'⟩, ⟨d', g', h'⟩, s'⟩ := f
 have hu : (u.toList == u'.toList) = decide (u = u') := by
  rw [z2b]; simp only [beq_iff_eq, decide_eq_true_eq]; exact ⟨fun h => (q0t _ _).1 (by simp [eqS, h]), fun h => by rw [h]⟩
 rw [hu, z2b]
 simp [and_assoc]
theorem take_ev {a b : List Ev} {i : Nat} (h1 : i < a.length) (h2 : i < b.length) : (a.take (i + 1) = b.take (i + 1)) ↔ (a.take i = b.take i ∧ a[i] = b[i]) := by
 rw [q12 h1, q12 h2]
 constructor
 · intro h
   have hl : (a.take i).length = (b.take i).length := by simp; omega
   have := List.append_inj h hl
   exact ⟨this.1, by simpa using this.2⟩
 · rintro ⟨h, h'⟩; rw [h, h']
theorem qw3 (a b : List Ev) (ha : a.length ≤ 100000) (hb : b.length ≤ 100000) : q08 P 59 [.sl 8 (evts a), .sl 8 (evts b)] (fun x => x = bool (decide (a = b))) := by
 refine q09 tyOk Tryz.func59 rfl rfl fun K hK => ?_
 simp only [seval, go_sem, Tryz.ntmps59, q1p]
 refine q02 ?_ ?_ <;> intro h <;> simp only [seval, go_sem]
 · apply hK
   simp only [seval, go_sem, Tryz.results59]
   have : decide (a = b) = false := by
    rw [decide_eq_false_iff_not]; rintro rfl; simp at h
   rw [this]
 · have hl : a.length = b.length := by simp at h; omega
   refine q0d tyOk (α := Nat) 0 [0, 1, 5] (fun i => i ≤ a.length ∧ a.take i = b.take i)
    (fun i => ⟨[.sl 8 (evts a), .sl 8 (evts b), .any, .any, .any, i64 i, .any, .any, .any, .any, .any, .any, .any, .any, .any, .any, .any, .any, .any, .any, .any, .any, .any, .any, .any, .any], []⟩)
    (fun i => a.length - i) 0 (z00 _) ⟨z00 _, rfl⟩ rfl ?_
   intro i ⟨hi, he⟩
   simp only [seval, go_sem, q1p]
   refine q02 ?_ ?_ <;> intro h <;> simp only [seval, go_sem]
   · have hlt : i < a.length := by have := of_decide_eq_true h; omega
     have hlt2 : i < b.length := by omega
     have eg : (evts a).getD (Int.toNat (i : Int)) .any = .agg [str a[i].u, i64 a[i].old.st, i64 a[i].old.pr, i64 a[i].old.n, i64 a[i].new.st, i64 a[i].new.pr, i64 a[i].new.n, u64 a[i].seq] := q2d (f := Ev.av) hlt
     have eg2 : (evts b).getD (Int.toNat (i : Int)) .any = .agg [str b[i].u, i64 b[i].old.st, i64 b[i].old.pr, i64 b[i].old.n, i64 b[i].new.st, i64 b[i].new.pr, i64 b[i].new.n, u64 b[i].seq] := q2d (f := Ev.av) hlt2
     have ew : IntKind.i64.wrap ((i : Int) + 1) = ((i + 1 : Nat) : Int) := by rw [wrap_i64 (by omega) (by omega)]; rfl
     have c1 : (0 : Int) ≤ (i : Int) ∧ Int.toNat (i : Int) < a.length := by omega
     have c2 : (0 : Int) ≤ (i : Int) ∧ Int.toNat (i : Int) < b.length := by omega
     have hte := take_ev hlt hlt2
     generalize a[i] = e at *
     generalize b[i] = f at *
     refine q0a tyOk (by rfl) (by simp only [z0a, z09]) (by kernel_rfl) rfl ?_
     simp only [seval, go_sem, eg, eg2, c1, c2, q1p]
     refine ⟨by kernel_rfl, ?_⟩
     simp only [seval, go_sem, ev_beq]
     refine q02 ?_ ?_ <;> intro h2
     · simp only [seval, go_sem]
       apply hK
       simp only [seval, go_sem, Tryz.results59]
       have : decide (a = b) = false := by
        rw [decide_eq_false_iff_not]; rintro rfl
        have := (hte.1 rfl).2
        rw [this] at h2; simp at h2
       rw [this]
     · simp only [seval, go_sem, ew]
       simp only [seval, go_sem, q01]
       all_goals exact ⟨i + 1, ⟨hlt, hte.2 ⟨he, by simpa using h2⟩⟩, by omega, rfl⟩
   · obtain rfl : i = a.length := by have := of_decide_eq_false h; omega
     apply hK
     simp only [seval, go_sem, Tryz.results59]
     rw [z0w, hl, z0w] at he
     rw [decide_eq_true he]
def rws (R : Rws) : List AV := R.map fun r => .sl 8 (evts r)
theorem q3i (R : Rws) : (rws R).length = R.length := by simp [rws]
theorem qeb {R : Rws} {i : Nat} (h : i < R.length) : (rws R).getD (Int.toNat (i : Int)) .any = .sl 8 (evts (R.getD i [])) := by
 have := q2d (f := fun r : List Ev => AV.sl 8 (evts r)) h
 rw [z04 (l := R), z05 h]
 exact this
def ints (l : List Nat) : List AV := l.map fun a : Nat => i64 a
theorem qjo (l : List Nat) : (ints l).length = l.length := by simp [ints]
theorem qmj {l : List Nat} {i : Nat} (h : i < l.length) : (ints l).getD (Int.toNat (i : Int)) .any = i64 (l.getD i 0) := by
 have := q2d (f := fun a : Nat => i64 a) h
 rw [show l.getD i 0 = l[i] by rw [z04, z05 h]; rfl]
 exact this
theorem ints_set (l : List Nat) (i v : Nat) : (ints l).set i (i64 v) = ints (l.set i v) := by rw [ints, ints, z4b]
def remF (R : Rws) (at_ : List Nat) : Rws := (List.range R.length).map fun i => (R.getD i []).drop (at_.getD i 0)
theorem qta (R : Rws) (at_ : List Nat) : (remF R at_).length = R.length := by simp [remF]
theorem qc1 {R : Rws} {at_ : List Nat} {i : Nat} (h : i < R.length) : (remF R at_).getD i [] = (R.getD i []).drop (at_.getD i 0) := by
 simp [remF, z04, h]
theorem rem_zero (R : Rws) : remF R (List.replicate R.length 0) = R := by
 apply z4g
 · simp [remF]
 · intro i h1 h2
   simp [remF, z04, h2]
theorem rem_next {R : Rws} {at_ : List Nat} {b : Nat} (hl : at_.length = R.length) (hb : b < R.length) : remF R (at_.set b (at_.getD b 0 + 1)) = q5a (remF R at_) b := by
 apply z4g
 · simp [remF, q5a]
 · intro i h1 h2
   have hi : i < R.length := by simpa [remF] using h1
   have e1 : (remF R (at_.set b (at_.getD b 0 + 1)))[i] = (R.getD i []).drop ((at_.set b (at_.getD b 0 + 1)).getD i 0) := by
    have := qc1 (at_ := at_.set b (at_.getD b 0 + 1)) hi
    rwa [z04, z05 h1] at this
   have e2 : (q5a (remF R at_) b)[i] = (q5a (remF R at_) b).getD i [] := by rw [z04, z05 h2]; rfl
   rw [e1, e2, qwo (by rw [qta]; exact hb)]
   by_cases h : i = b
   · subst h
     rw [if_pos rfl, qc1 hi, List.tail_drop, z04, z0m (by omega)]; rfl
   · rw [if_neg h, qc1 hi, z04, z0e (z37 h), ← z04]
def bI : Option Nat → Int
 | none => -1
 | some b => b
theorem qjh {R : Rws} {at_ : List Nat} {i : Nat} (hi : i < R.length) {e : Ev} {t : List Ev} (h : (remF R at_).getD i [] = e :: t) :
 at_.getD i 0 < (R.getD i []).length ∧ ∀ (hlt : at_.getD i 0 < (R.getD i []).length), (R.getD i [])[at_.getD i 0] = e := by
 rw [qc1 hi] at h
 have hlt : at_.getD i 0 < (R.getD i []).length := by
  apply z2k
  intro hc
  rw [z14 hc] at h; cases h
 refine ⟨hlt, fun _ => ?_⟩
 rw [z2i hlt] at h
 cases h; rfl
theorem rem_nil {R : Rws} {at_ : List Nat} {i : Nat} (hi : i < R.length) (h : (remF R at_).getD i [] = []) : ¬ at_.getD i 0 < (R.getD i []).length := by
 rw [qc1 hi] at h
 have := congrArg List.length h
 rw [z31, z0a] at this
 omega
theorem ev_at {r : List Ev} {k : Nat} {e : Ev} (h : k < r.length) (he : ∀ (h : k < r.length), r[k] = e) : (evts r).getD (Int.toNat (k : Int)) .any = .agg [str e.u, i64 e.old.st, i64 e.old.pr, i64 e.old.n, i64 e.new.st, i64 e.new.pr, i64 e.new.n, u64 e.seq] := by
 have := q2d (f := Ev.av) h
 rw [he h] at this
 exact this
set_option maxHeartbeats 2000000 in
theorem qvs (R : Rws) (hR : R.length ≤ 1000) (ht : total R ≤ 100000) (hr : ∀ i, (R.getD i []).length ≤ 100000) : q08 P 68 [.sl 1 (rws R)] (fun x => x = .sl 8 (evts (q3q R))) := by
 refine q09 tyOk Tryz.func68 rfl rfl fun K hK => ?_
 simp only [seval, go_sem, Tryz.ntmps68, q3i]
 refine ⟨⟨by omega, by omega, by simp only [z0g]; omega⟩, ?_⟩
 refine q1r (q0c.adopt (i := 3) 49 8 rfl) ?_
 refine q0d tyOk (α := List Ev × List Nat) 2 [0, 3, 4] (fun s => s.2.length = R.length ∧ s.1 ++ q3q (remF R s.2) = q3q R)
  (fun s => ⟨[.sl 1 (rws R), .any, .any, .own 1 8 0 s.1.length, .own 0 1 0 R.length, .any, .any, .any, .any, .any, .any, .any, .any, .any, .any, .any, .any, .any, .any, .any, .any, .any, .any, .any, .any, .any, .any, .any, .any, .any, .any, .any, .any, .any, .any, .any, .any, .any, .any, .any, .any, .any, .any, .any, .any, .any, .any, .any, .any, .any, .any, .any, .any, .any, .any, .any, .any, .any, .any, .any, .any, .any, .any, .any, .any, .any, .any, .any, .any, .any, .any, .any, .any, .any, .any, .any, .any, .any], [.row 3 1 (ints s.2), .row 49 8 (evts s.1)]⟩)
  (fun s => total (remF R s.2)) ([], List.replicate R.length 0) (z00 _) ⟨by simp, by rw [rem_zero]; rfl⟩ (by simp only [ints, List.map_replicate]; rfl) ?_
 rintro ⟨out, at_⟩ ⟨hl, hm⟩
 simp only at hl hm ⊢
 have hlen := congrArg List.length hm
 rw [z0c, q8b _ _ rfl, q8b _ _ rfl] at hlen
 have hRm : (remF R at_).length = R.length := qta R at_
 obtain ⟨Rm, hRe⟩ : ∃ Rm, remF R at_ = Rm := ⟨_, rfl⟩
 have hal : ∀ j, j < R.length → at_.getD j 0 < R.length + 100001 + at_.getD j 0 := fun j hj => by omega
 simp only [seval, go_sem, q3i]
 refine q0d tyOk (α := Nat) 2 [0, 3, 4, 5, 11, 12] (fun i => i ≤ R.length)
  (fun i => ⟨[.sl 1 (rws R), .any, .any, .own 1 8 0 out.length, .own 0 1 0 R.length, i64 (bI (up Rm i)), .any, .any, .any, .any, .any, i64 R.length, i64 i, .any, .any, .any, .any, .any, .any, .any, .any, .any, .any, .any, .any, .any, .any, .any, .any, .any, .any, .any, .any, .any, .any, .any, .any, .any, .any, .any, .any, .any, .any, .any, .any, .any, .any, .any, .any, .any, .any, .any, .any, .any, .any, .any, .any, .any, .any, .any, .any, .any, .any, .any, .any, .any, .any, .any, .any, .any, .any, .any, .any, .any, .any, .any, .any, .any], [.row 3 1 (ints at_), .row 49 8 (evts out)]⟩)
  (fun i => R.length - i) 0 (z00 _) (z00 _) rfl ?_
 intro i hi
 simp only [seval, go_sem]
 refine q02 ?_ ?_ <;> intro h
 · have hlt : i < R.length := by have := of_decide_eq_true h; omega
   have eg := qeb hlt
   have ea := qmj (l := at_) (i := i) (by omega)
   have ew : IntKind.i64.wrap ((i : Int) + 1) = ((i + 1 : Nat) : Int) := by rw [wrap_i64 (by omega) (by omega)]; rfl
   have c1 : (0 : Int) ≤ (i : Int) ∧ Int.toNat (i : Int) < R.length := by omega
   have c2 : Int.toNat (i : Int) < at_.length := by omega
   have hup : up Rm (i + 1) = qaw Rm (up Rm i) i := rfl
   have hub := qdz Rm i
   simp only [seval, go_sem]
   refine q0a tyOk (by rfl) (by simp only [z02, z0a, Nat.reduceAdd, z00]) (by kernel_rfl) rfl ?_
   simp only [seval, go_sem, eg, ea, c1, c2, q3i, qjo, q1p]
   cases hRi : Rm.getD i [] with
   | nil =>
    have hz : decide (((at_.getD i 0 : Nat) : Int) < (((R.getD i []).length : Nat) : Int)) = false := decide_eq_false (by
     have := rem_nil hlt (hRe ▸ hRi); omega)
    rw [qlk hRi] at hup
    simp only [seval, go_sem, hz]
    refine ⟨by kernel_rfl, ?_⟩
    simp only [seval, go_sem, ew]
    simp only [seval, go_sem, q01]
    all_goals exact ⟨i + 1, hlt, by omega, by rw [hup]⟩
   | cons e t =>
    obtain ⟨p1, p2⟩ := qjh hlt (hRe ▸ hRi)
    have hz : decide (((at_.getD i 0 : Nat) : Int) < (((R.getD i []).length : Nat) : Int)) = true := decide_eq_true (by omega)
    have eev := ev_at p1 p2
    have c3 : (0 : Int) ≤ ((at_.getD i 0 : Nat) : Int) ∧ Int.toNat ((at_.getD i 0 : Nat) : Int) < (R.getD i []).length := by omega
    cases hu : up Rm i with
    | none =>
     rw [hu, qie hRi] at hup
     have hz2 : decide (bI none < 0) = true := by decide
     simp only [seval, go_sem, hz, hz2]
     refine ⟨by kernel_rfl, ?_⟩
     simp only [seval, go_sem, ew]
     simp only [seval, go_sem, q01]
     all_goals exact ⟨i + 1, hlt, by omega, by rw [hup]; rfl⟩
    | some b =>
     rw [hu] at hub
     obtain ⟨u1, f, u, u2, u3⟩ := hub
     rw [hu, qi6 hRi u2] at hup
     have hbl : b < R.length := by have : b < i := u1; omega
     have hz2 : decide ((b : Int) < 0) = false := decide_eq_false (by omega)
     have hbi : bI (some b) = (b : Int) := rfl
     obtain ⟨q1, q2⟩ := qjh hbl (hRe ▸ u2)
     have eev2 := ev_at q1 q2
     have eg2 := qeb hbl
     have ea2 := qmj (l := at_) (i := b) (by omega)
     have d1 : (0 : Int) ≤ (b : Int) ∧ Int.toNat (b : Int) < R.length := by omega
     have d2 : Int.toNat (b : Int) < at_.length := by omega
     have d3 : (0 : Int) ≤ ((at_.getD b 0 : Nat) : Int) ∧ Int.toNat ((at_.getD b 0 : Nat) : Int) < (R.getD b []).length := by omega
     simp only [seval, go_sem, hz, hz2, hbi, eg, ea, c1, c2, c3, eev, eg2, ea2, d1, d2, d3, eev2, q3i, qjo, q1p]
     refine ⟨by kernel_rfl, ?_⟩
     refine q02 ?_ ?_ <;> intro h3
     · have h3' : e.seq < f.seq := of_decide_eq_true h3
       rw [if_pos h3'] at hup
       simp only [seval, go_sem, ew]
       simp only [seval, go_sem, q01]
       all_goals exact ⟨i + 1, hlt, by omega, by rw [hup]; rfl⟩
     · have h3' : ¬ e.seq < f.seq := of_decide_eq_false h3
       rw [if_neg h3'] at hup
       simp only [seval, go_sem, ew]
       simp only [seval, go_sem, q01]
       all_goals exact ⟨i + 1, hlt, by omega, by rw [hup]; rfl⟩
 · obtain rfl : i = R.length := by have := of_decide_eq_false h; omega
   have hbo : up Rm R.length = q5b Rm := by rw [q5b, ← hRe, hRm]
   rw [hbo]
   cases hb : q5b Rm with
   | none =>
    have hmn := ql1 hb
    rw [hRe, hmn, z0i] at hm
    have hz2 : decide (bI none < 0) = true := by decide
    simp only [seval, go_sem, hz2]
    apply hK
    simp only [Tryz.results68, retK, ares, z0t, z0z, AV.ofResults, St.trunc, q06, q0e, z0u, z0v, z13, z17, z0o, z01, z03, Nat.reduceLeDiff, true_and, and_true, ↓reduceIte, z0h, exists_eq_left']
    rw [q1b (q1p out), hm]
   | some b =>
    obtain ⟨b1, e, t, b2, b3⟩ := qen hb
    have hbl : b < R.length := by rw [← hRe, hRm] at b1; exact b1
    have hz2 : decide ((b : Int) < 0) = false := decide_eq_false (by omega)
    have hbi : bI (some b) = (b : Int) := rfl
    obtain ⟨q1, q2⟩ := qjh hbl (hRe ▸ b2)
    have eev := ev_at q1 q2
    have eg := qeb hbl
    have ea := qmj (l := at_) (i := b) (by omega)
    have d1 : (0 : Int) ≤ (b : Int) ∧ Int.toNat (b : Int) < R.length := by omega
    have d2 : Int.toNat (b : Int) < at_.length := by omega
    have d3 : (0 : Int) ≤ ((at_.getD b 0 : Nat) : Int) ∧ Int.toNat ((at_.getD b 0 : Nat) : Int) < (R.getD b []).length := by omega
    have hrb := hr b
    have ew : IntKind.i64.wrap (((at_.getD b 0 : Nat) : Int) + 1) = ((at_.getD b 0 + 1 : Nat) : Int) := by rw [wrap_i64 (by omega) (by omega)]; rfl
    have hms := qeo hb b2
    have htd := q8n b2
    have hnx := rem_next hl hbl
    rw [hRe] at hnx
    simp only [seval, go_sem, hz2, hbi]
    refine q0a tyOk (by rfl) (by simp only [z02, z0a, Nat.reduceAdd, z00]) (by kernel_rfl) rfl ?_
    simp only [seval, go_sem, eg, ea, d1, d2, d3, eev, q3i, qjo, q1p]
    refine ⟨⟨by simp only [maxLen]; omega, by omega⟩, ?_⟩
    refine ⟨by kernel_rfl, ?_⟩
    simp only [seval, go_sem, ew]
    simp only [seval, go_sem, q01]
    refine ⟨(out ++ [e], at_.set b (at_.getD b 0 + 1)), ⟨by rw [z56]; exact hl, ?_⟩, ?_, ?_⟩
    · simp only
      rw [hnx, z1r, z53, ← hms, ← hRe]
      exact hm
    · simp only
      rw [hnx, hRe]; omega
    · simp only [qgr, z0c, z20, z0g]
      rw [← ints_set]
end Go.Proofs.YtdkcpcflfnakdaaGreat
namespace Go.Proofs.YtdkcpcflfnakdaaGreat
open Go Go.Proofs.YtdkcpcflfnakdaaGreat.Sym
set_option maxRecDepth 100000
set_option maxHeartbeats 1000000
structure Cf where
 s : Int
 k : Int
 q : Int
 w : Int
 r : Int
 e : Int
 st : Int
structure Tm where
 now : Int
 seq : Int
 cl : Bool
 deriving DecidableEq
structure Md where
 c : Cf
 t : Tm
 b : Nat → Bk
 f : Nat → Fd
def fb (j : Nat) : Nat := 3 + 17 * j
def mlen (n : Nat) : Nat := 3 + 17 * n
def ptrs (n pad : Nat) : List AV := (List.range n).map (fun j => .ptr (fb j) 0) ++ List.replicate pad .any
def q4z (n : Nat) (b : Nat → Bk) : List AV := (List.range n).map fun j => q0n (b j)
def fblk (o : Nat) (F : Fd) : List AB := renM (List.range' o 17) (q0f F)
def qao (f : Nat → Fd) : Nat → Nat → List AB
 | 0, _ => []
 | n + 1, j => fblk (fb j) (f j) ++ qao f n (j + 1)
def modM (n pad : Nat) (M : Md) : List AB :=
 .box [i64 M.c.s, i64 M.c.k, i64 M.c.q, i64 M.c.w, i64 M.c.r, u64 M.c.e, u64 M.c.st, u64 M.t.now, u64 M.t.seq, bool M.t.cl, .own 1 2 0 n, .own 2 1 0 n] ::
  .row 87 2 (q4z n M.b) :: .box (ptrs n pad) :: qao M.f n 0
def Md.setF (M : Md) (s : Nat) (F : Fd) : Md := { M with f := fun j => if j = s then F else M.f j }
def Md.setB (M : Md) (s : Nat) (b : Bk) : Md := { M with b := fun j => if j = s then b else M.b j }
theorem q7y (o : Nat) (F : Fd) : (fblk o F).length = 17 := by rw [fblk, q1y, q2m]
theorem qkz (f : Nat → Fd) : ∀ n j, (qao f n j).length = 17 * n
 | 0, _ => rfl
 | n + 1, j => by rw [qao, z0c, q7y, qkz f n (j + 1)]; omega
theorem qjv (f : Nat → Fd) : ∀ n j s i, s < n → i < 17 → (qao f n j)[17 * s + i]? = ((q0f (f (j + s)))[i]?).map (AB.ren (List.range' (fb (j + s)) 17))
 | 0, _, _, _, h, _ => by omega
 | n + 1, j, 0, i, _, hi => by
  rw [qao, z0j (by rw [q7y]; omega), fblk, q23]
  simp only [Nat.mul_zero, z16, z1y]
 | n + 1, j, s + 1, i, h, hi => by
  rw [qao, z18 (by rw [q7y]; omega), q7y, show 17 * (s + 1) + i - 17 = 17 * s + i by omega, qjv f n (j + 1) s i (by omega) hi, show j + 1 + s = j + (s + 1) by omega]
section
variable (n pad : Nat) (M : Md) (r : List AB)
theorem q0u : (modM n pad M).length = mlen n := by simp only [modM, z02, qkz, mlen]; omega
theorem q4h : (modM n pad M ++ r).length = mlen n + r.length := by rw [z0c, q0u]
theorem mm_add (r' : List AB) : (modM n pad M ++ r) ++ r' = modM n pad M ++ (r ++ r') := z1r _ _ _
theorem mm_0 : (modM n pad M ++ r)[0]? = some (.box [i64 M.c.s, i64 M.c.k, i64 M.c.q, i64 M.c.w, i64 M.c.r, u64 M.c.e, u64 M.c.st, u64 M.t.now, u64 M.t.seq, bool M.t.cl, .own 1 2 0 n, .own 2 1 0 n]) := rfl
theorem mm_1 : (modM n pad M ++ r)[1]? = some (.row 87 2 (q4z n M.b)) := rfl
theorem mm_2 : (modM n pad M ++ r)[2]? = some (.box (ptrs n pad)) := rfl
theorem mm_0n : (modM n pad M)[0]? = some (.box [i64 M.c.s, i64 M.c.k, i64 M.c.q, i64 M.c.w, i64 M.c.r, u64 M.c.e, u64 M.c.st, u64 M.t.now, u64 M.t.seq, bool M.t.cl, .own 1 2 0 n, .own 2 1 0 n]) := rfl
theorem mm_1n : (modM n pad M)[1]? = some (.row 87 2 (q4z n M.b)) := rfl
theorem mm_2n : (modM n pad M)[2]? = some (.box (ptrs n pad)) := rfl
theorem q6w (k : Nat) : (modM n pad M ++ r)[mlen n + k]? = r[k]? := by
 rw [z18 (by rw [q0u]; omega), q0u, show mlen n + k - mlen n = k by omega]
theorem mm_at0 : (modM n pad M ++ r)[mlen n]? = r[0]? := q6w n pad M r 0
theorem mm_at1 : (modM n pad M ++ r)[mlen n + 1]? = r[1]? := q6w n pad M r 1
theorem mm_at2 : (modM n pad M ++ r)[mlen n + 2]? = r[2]? := q6w n pad M r 2
theorem mm_at3 : (modM n pad M ++ r)[mlen n + 3]? = r[3]? := q6w n pad M r 3
theorem mm_at4 : (modM n pad M ++ r)[mlen n + 4]? = r[4]? := q6w n pad M r 4
theorem mm_s (k : Nat) (x : AB) : (modM n pad M ++ r).set (mlen n + k) x = modM n pad M ++ r.set k x := by
 rw [z4c _ _ (by rw [q0u]; omega), q0u, show mlen n + k - mlen n = k by omega]
theorem mm_s0 {x : AB} : (modM n pad M ++ r).set (mlen n) x = modM n pad M ++ r.set 0 x := mm_s n pad M r 0 x
theorem mm_s1 {x : AB} : (modM n pad M ++ r).set (mlen n + 1) x = modM n pad M ++ r.set 1 x := mm_s n pad M r 1 x
theorem mm_s2 {x : AB} : (modM n pad M ++ r).set (mlen n + 2) x = modM n pad M ++ r.set 2 x := mm_s n pad M r 2 x
theorem mm_s3 {x : AB} : (modM n pad M ++ r).set (mlen n + 3) x = modM n pad M ++ r.set 3 x := mm_s n pad M r 3 x
theorem mm_setT {a b : Int} {c : Bool} : (modM n pad M ++ r).set 0 (.box [i64 M.c.s, i64 M.c.k, i64 M.c.q, i64 M.c.w, i64 M.c.r, u64 M.c.e, u64 M.c.st, u64 a, u64 b, bool c, .own 1 2 0 n, .own 2 1 0 n]) = modM n pad { M with t := ⟨a, b, c⟩ } ++ r := rfl
theorem mm_setTn {a b : Int} {c : Bool} : (modM n pad M).set 0 (.box [i64 M.c.s, i64 M.c.k, i64 M.c.q, i64 M.c.w, i64 M.c.r, u64 M.c.e, u64 M.c.st, u64 a, u64 b, bool c, .own 1 2 0 n, .own 2 1 0 n]) = modM n pad { M with t := ⟨a, b, c⟩ } := rfl
end
theorem q8f (n : Nat) (b : Nat → Bk) : (q4z n b).length = n := by simp [q4z]
theorem bk_at {n s : Nat} (b : Nat → Bk) (h : s < n) : (q4z n b).getD (Int.toNat (s : Int)) .any = .agg [.sl 1 ((b s).map fun p => str p.1), .sl 4 ((b s).map fun p => En.av p.2)] := by
 simp [q4z, z04, h, q0n]
theorem bk_set {n s : Nat} (b : Nat → Bk) (v : Bk) (h : s < n) : (q4z n b).set (Int.toNat (s : Int)) (.agg [.sl 1 (v.map fun p => str p.1), .sl 4 (v.map fun p => En.av p.2)]) = q4z n (fun j => if j = s then v else b j) := by
 apply z1e
 intro i
 simp only [q4z, z5k, z11, z0g, z0f, List.length_range]
 by_cases e : s = i
 · subst e
   simp [h, q0n]
 · rw [if_neg e]
   by_cases hi : i < n
   · simp [hi, z37 e]
   · simp [hi]
theorem qtf {n pad s : Nat} (M : Md) (r : List AB) (v : Bk) (h : s < n) : (modM n pad M ++ r).set 1 (.row 87 2 ((q4z n M.b).set (Int.toNat (s : Int)) (.agg [.sl 1 (v.map fun p => str p.1), .sl 4 (v.map fun p => En.av p.2)]))) = modM n pad (M.setB s v) ++ r := by
 rw [bk_set M.b v h]; rfl
theorem ptr_drop {n pad s : Nat} (h : s < n) : (List.drop (s * 1) (ptrs n pad)).headD .any = .ptr (fb s) 0 ∧ 0 < (List.drop (s * 1) (ptrs n pad)).length := by
 have hl : s * 1 < (ptrs n pad).length := by simp [ptrs]; omega
 refine ⟨?_, by rw [z31]; omega⟩
 rw [z2i hl, z44]
 simp only [ptrs, z4t]
 rw [z32 (by simpa using h)]
 simp
def kpM (n b : Nat) : Bool := decide (b < 3) || decide (mlen n ≤ b) || decide ((b - 3) % 17 < 9)
def AB.calm (n : Nat) : AB → Bool
 | .box cs => (q03 cs).all (fun b => decide (b < 3) || decide (mlen n ≤ b))
 | _ => true
theorem q39 {o k b : Nat} : b ∈ List.range' o k ↔ o ≤ b ∧ b < o + k := by rw [List.mem_range'_1]
theorem q38 {o k i : Nat} (h : i < k) : (List.range' o k)[i]? = some (o + i) := by rw [List.getElem?_range' h]; simp
theorem q6q {kp : Nat → Bool} {bs : List Nat} : ∀ {m : List AB} {b0 : Nat}, (∀ i cs, m[i]? = some (.box cs) → b0 + i ∈ bs ∨ (q03 cs).all kp = true) → q5g kp bs b0 m = true
 | [], _, _ => rfl
 | .box cs :: m, b0, h => by
  rw [q5g, z0d, z1q]
  refine ⟨(h 0 cs rfl).imp (fun h => by simpa using h) _root_.id, q6q fun i cs' hi => ?_⟩
  have := h (i + 1) cs' hi
  rwa [show b0 + (i + 1) = b0 + 1 + i by omega] at this
 | .row _ _ _ :: m, b0, h => q6q (m := m) (b0 := b0 + 1) fun i cs' hi => by have := h (i + 1) cs' hi; rwa [show b0 + (i + 1) = b0 + 1 + i by omega] at this
 | .rowc _ _ _ _ :: m, b0, h => q6q (m := m) (b0 := b0 + 1) fun i cs' hi => by have := h (i + 1) cs' hi; rwa [show b0 + (i + 1) = b0 + 1 + i by omega] at this
 | .gone :: m, b0, h => q6q (m := m) (b0 := b0 + 1) fun i cs' hi => by have := h (i + 1) cs' hi; rwa [show b0 + (i + 1) = b0 + 1 + i by omega] at this
 | .tr _ _ :: m, b0, h => q6q (m := m) (b0 := b0 + 1) fun i cs' hi => by have := h (i + 1) cs' hi; rwa [show b0 + (i + 1) = b0 + 1 + i by omega] at this
mutual
theorem bks_ren {o k : Nat} : ∀ (x : AV), (bks x).all (fun b => decide (b < k)) = true → ∀ b ∈ bks (ren (List.range' o k) x), ∃ c < k, b = o + c ∧ c ∈ bks x
 | .v _, _, b, hb => by simp [ren, bks] at hb
 | .agg xs, h, b, hb => q4v xs h b hb
 | .tup xs, h, b, hb => q4v xs h b hb
 | .sl _ _, _, b, hb => by simp [ren, bks] at hb
 | .rp _, _, b, hb => by simp [ren, bks] at hb
 | .own c _ _ _, h, b, hb => by
  simp only [bks, z35, z3t, z0t, decide_eq_true_eq] at h
  simp only [ren, bks, z1j, q1m h] at hb
  exact ⟨c, h, hb, by simp [bks]⟩
 | .ptr c _, h, b, hb => by
  simp only [bks, z35, z3t, z0t, decide_eq_true_eq] at h
  simp only [ren, bks, z1j, q1m h] at hb
  exact ⟨c, h, hb, by simp [bks]⟩
 | .ep c _ _ _, h, b, hb => by
  simp only [bks, z35, z3t, z0t, decide_eq_true_eq] at h
  simp only [ren, bks, z1j, q1m h] at hb
  exact ⟨c, h, hb, by simp [bks]⟩
 | .fn f caps, h, b, hb => q4v caps h b hb
 | .any, _, b, hb => by simp [ren, bks] at hb
theorem q4v {o k : Nat} : ∀ (xs : List AV), (q03 xs).all (fun b => decide (b < k)) = true → ∀ b ∈ q03 (q0i (List.range' o k) xs), ∃ c < k, b = o + c ∧ c ∈ q03 xs
 | [], _, b, hb => by simp [q0i, q03] at hb
 | x :: xs, h, b, hb => by
  simp only [q03, z4m, z0d] at h
  simp only [q0i, q03, z0q] at hb ⊢
  rcases hb with hb | hb
  · obtain ⟨c, h1, h2, h3⟩ := bks_ren x h.1 b hb; exact ⟨c, h1, h2, .inl h3⟩
  · obtain ⟨c, h1, h2, h3⟩ := q4v xs h.2 b hb; exact ⟨c, h1, h2, .inr h3⟩
end
theorem qqi (n pad : Nat) : ∀ b ∈ q03 (ptrs n pad), ∃ j < n, b = fb j := by
 have h1 : ∀ (l : List Nat) b, b ∈ q03 (l.map (fun j => AV.ptr (fb j) 0)) → ∃ j ∈ l, b = fb j := by
  intro l b hb
  induction l with
  | nil => simp [q03] at hb
  | cons j l ih =>
   simp only [z0r, q03, bks, z0q, z1j] at hb
   rcases hb with rfl | hb
   · exact ⟨j, by simp, rfl⟩
   · obtain ⟨k, hk, e⟩ := ih hb; exact ⟨k, by simp [hk], e⟩
 have h2 : ∀ k, q03 (List.replicate k AV.any) = [] := by
  intro k
  induction k with
  | zero => rfl
  | succ k ih => simp [z3p, q03, bks, ih]
 intro b hb
 rw [ptrs, q4j, h2, z0i] at hb
 obtain ⟨j, hj, e⟩ := h1 _ b hb
 exact ⟨j, by simpa using hj, e⟩
theorem qj9 (F : Fd) : (q0f F).all (AB.inR 17) = true := by rfl
theorem qj8 {F : Fd} {i : Nat} {cs : List AV} (h : (q0f F)[i]? = some (.box cs)) : (q03 cs).all (fun b => decide (b < 17)) = true := by
 have := z0l.1 (qj9 F) _ (z06 h)
 exact this
theorem q9j {n pad s i : Nat} (M : Md) (r : List AB) (h : s < n) (hi : i < 17) : (modM n pad M ++ r)[fb s + i]? = ((q0f (M.f s))[i]?).map (AB.ren (List.range' (fb s) 17)) := by
 have h2 := q0u n pad M
 rw [z0j (by rw [h2]; simp only [mlen, fb]; omega), modM, show fb s + i = 17 * s + i + 1 + 1 + 1 by simp only [fb]; omega]
 simp only [z03]
 rw [qjv M.f n 0 s i h hi, z16]
theorem qjg {n pad i : Nat} {M : Md} {r : List AB} : i < 3 ∨ (∃ s j, s < n ∧ j < 17 ∧ i = fb s + j) ∨ mlen n ≤ i := by
 by_cases h1 : i < 3
 · exact .inl h1
 · by_cases h2 : mlen n ≤ i
   · exact .inr (.inr h2)
   · refine .inr (.inl ⟨(i - 3) / 17, (i - 3) % 17, ?_, Nat.mod_lt _ (by decide), ?_⟩)
     · simp only [mlen] at h2; omega
     · simp only [fb]; omega
theorem mm_put {n pad s : Nat} (M : Md) (r : List AB) (F' : Fd) (h : s < n) : putL (modM n pad M ++ r) (List.range' (fb s) 17) (renM (List.range' (fb s) 17) (q0f F')) = modM n pad (M.setF s F') ++ r := by
 apply z1e
 intro i
 have hmem : ∀ j, j < 17 → fb s + j < (modM n pad M ++ r).length := fun j hj => by rw [q4h]; simp only [fb, mlen]; omega
 by_cases hi : i ∈ List.range' (fb s) 17
 · obtain ⟨a, b⟩ := q39.1 hi
   have hj : i - fb s < 17 := by omega
   have hg : (q0f F')[i - fb s]? = some ((q0f F')[i - fb s]'(by rw [q2m]; exact hj)) := z05 _
   rw [q9m _ _ _ (i - fb s) i (AB.ren (List.range' (fb s) 17) ((q0f F')[i - fb s]'(by rw [q2m]; exact hj))) z2c (by rw [q38 hj]; congr 1; omega) (by rw [q23, hg]; rfl) (by have := hmem _ hj; rwa [show fb s + (i - fb s) = i by omega] at this)]
   have := q9j (M.setF s F') r h hj (pad := pad)
   rw [show fb s + (i - fb s) = i by omega] at this
   rw [this]
   simp only [Md.setF, if_true]
   rw [hg]; rfl
 · rw [q6m _ _ _ _ hi]
   rcases qjg (n := n) (pad := pad) (i := i) (M := M) (r := r) with h1 | ⟨s', j, h1, h2, rfl⟩ | h1
   · have c : i = 0 ∨ i = 1 ∨ i = 2 := by omega
     rcases c with rfl | rfl | rfl <;> rfl
   · rw [q9j M r h1 h2, q9j (M.setF s F') r h1 h2]
     have hne : s' ≠ s := by
      rintro rfl
      exact hi (q39.2 ⟨by omega, by omega⟩)
     simp only [Md.setF, if_neg hne]
   · obtain ⟨k, rfl⟩ := z2a h1
     rw [q6w, q6w]
theorem qth {g : FuncId} {args0 args : List AV} {K0 K : AV → List AB → Prop} {n pad s : Nat} (M : Md) (r : List AB) (hs : s < n) (h : q0r P (fun b => decide (b < 9)) g (q0f (M.f s)) args0 K0) (ha : args = q0i (List.range' (fb s) 17) args0) (hb : (q03 args0).all (fun b => decide (b < 17)) = true) (hr : r.all (AB.calm n) = true)
 (hK : ∀ x m', K0 x m' → ∃ F', m' = q0f F' ∧ K (ren (List.range' (fb s) 17) x) (modM n pad (M.setF s F') ++ r)) : q0r P (kpM n) g (modM n pad M ++ r) args K := by
 have hin : ∀ b, b < 3 ∨ mlen n ≤ b → b ∉ List.range' (fb s) 17 := fun b hb hm => by
  obtain ⟨h1, h2⟩ := q39.1 hm
  simp only [fb, mlen] at *
  omega
 have hkp : ∀ b, kpM n b = true → kpOf (fun b => decide (b < 9)) (List.range' (fb s) 17) 0 b = true := by
  intro b hb
  by_cases hm : b ∈ List.range' (fb s) 17
  · obtain ⟨h1, h2⟩ := q39.1 hm
    rw [qh9 (j := b - fb s) z2c (by rw [q38 (by omega)]; congr 1; omega)]
    simp only [kpM, z1q, decide_eq_true_eq] at hb
    simp only [decide_eq_true_eq]
    simp only [fb, mlen] at *
    omega
  · exact q9q hm
 refine q0r.keeps (kp := kpOf (fun b => decide (b < 9)) (List.range' (fb s) 17) 0) ?_ (fun b _ hb => hkp b hb)
 refine h.frame (List.range' (fb s) 17) z2c ?_ ha (by rw [z22]; exact hb) (by rw [z22]; exact qj9 _) ?_ ?_
 · apply z1e
   intro i
   by_cases hi : i < 17
   · rw [z11, q38 hi, z11, q23]
     simp only [z19]
     rw [q9j M r hs hi]
     have hg : (q0f (M.f s))[i]? = some ((q0f (M.f s))[i]'(by rw [q2m]; exact hi)) := z05 _
     rw [hg]; rfl
   · rw [z0p (by simp; omega), z0p (by simp [q1y, q2m]; omega)]
 · refine q6q fun i cs hi => ?_
   rw [z16]
   by_cases hm : i ∈ List.range' (fb s) 17
   · exact .inl hm
   refine .inr (z0l.2 fun b hb => ?_)
   rcases qjg (n := n) (pad := pad) (i := i) (M := M) (r := r) with h1 | ⟨s', j, h1, h2, rfl⟩ | h1
   · have c : i = 0 ∨ i = 1 ∨ i = 2 := by omega
     rcases c with rfl | rfl | rfl
     · rw [mm_0] at hi; cases hi
       simp only [q03, bks, z21, z0i, z4z, or_false, z1u, z26] at hb
       exact q9q (hin b (.inl (by omega)))
     · rw [mm_1] at hi; cases hi
     · rw [mm_2] at hi; cases hi
       obtain ⟨j, hj, rfl⟩ := qqi n pad b hb
       refine hkp _ ?_
       have hf : (fb j - 3) % 17 < 9 := by simp only [fb]; omega
       simp only [kpM, hf, decide_true, z2t]
   · rw [q9j M r h1 h2] at hi
     cases hg : (q0f (M.f s'))[j]? with
     | none => rw [hg] at hi; cases hi
     | some blk =>
      rw [hg] at hi
      simp only [z19, z1d] at hi
      cases blk with
      | box cs0 =>
       simp only [AB.ren, AB.box.injEq] at hi
       subst hi
       obtain ⟨c, hc, rfl, _⟩ := q4v cs0 (qj8 hg) b hb
       have hne : s' ≠ s := by
        rintro rfl
        exact hm (q39.2 ⟨by omega, by omega⟩)
       exact q9q fun hmm => by
        obtain ⟨q1, q2⟩ := q39.1 hmm
        simp only [fb] at q1 q2
        omega
      | row _ _ _ => simp [AB.ren] at hi
      | rowc _ _ _ _ => simp [AB.ren] at hi
      | gone => simp [AB.ren] at hi
      | tr _ _ => simp [AB.ren] at hi
   · obtain ⟨k, rfl⟩ := z2a h1
     rw [q6w] at hi
     have := z0l.1 hr _ (z06 hi)
     have := z0l.1 this b hb
     simp only [z1q, decide_eq_true_eq] at this
     exact q9q (hin b this)
 · intro x m' hx
   obtain ⟨F', rfl, hv⟩ := hK x m' hx
   exact ⟨rfl, by rw [mm_put M r F' hs]; exact hv⟩
theorem qei {g : FuncId} {args0 args : List AV} {K0 K : AV → List AB → Prop} {n pad s : Nat} (M : Md) (r : List AB) (hs : s < n) (h : ACall P g (q0f (M.f s)) args0 K0) (ha : args = q0i (List.range' (fb s) 17) args0) (hb : (q03 args0).all (fun b => decide (b < 17)) = true)
 (hK : ∀ x m', K0 x m' → ∃ F', m' = q0f F' ∧ K (ren (List.range' (fb s) 17) x) (modM n pad (M.setF s F') ++ r)) : ACall P g (modM n pad M ++ r) args K := by
 refine h.frame (List.range' (fb s) 17) z2c ?_ ha (by rw [z22]; exact hb) (by rw [z22]; exact qj9 _) ?_
 · apply z1e
   intro i
   by_cases hi : i < 17
   · rw [z11, q38 hi, z11, q23]
     simp only [z19]
     rw [q9j M r hs hi]
     have hg : (q0f (M.f s))[i]? = some ((q0f (M.f s))[i]'(by rw [q2m]; exact hi)) := z05 _
     rw [hg]; rfl
   · rw [z0p (by simp; omega), z0p (by simp [q1y, q2m]; omega)]
 · intro x m' hx
   obtain ⟨F', rfl, hv⟩ := hK x m' hx
   exact ⟨rfl, by rw [mm_put M r F' hs]; exact hv⟩
theorem qnl (M : Md) (s : Nat) : M.setF s (M.f s) = M := by
 cases M with
 | mk c t b f =>
  simp only [Md.setF, Md.mk.injEq, true_and]
  funext j
  split
  · rename_i h; rw [h]
  · rfl
end Go.Proofs.YtdkcpcflfnakdaaGreat
namespace Go.Proofs.YtdkcpcflfnakdaaGreat
open Go Go.Proofs.YtdkcpcflfnakdaaGreat.Sym
set_option maxRecDepth 100000
set_option maxHeartbeats 1000000
def qp8 (h : Int) (c : UInt8) : Int := IntKind.u64.wrap (xorF .u64 h (IntKind.u64.wrap (c.toNat : Int)) * 1099511628211)
def qhg (u : ByteArray) : Nat → Int
 | 0 => 14695981039346656037
 | i + 1 => qp8 (qhg u i) (u.data.getD i 0)
def qcy (u : ByteArray) : Int := qhg u u.size
theorem hashF_ok (u : ByteArray) : 0 ≤ qcy u ∧ qcy u < 18446744073709551616 := by
 unfold qcy
 cases u.size with
 | zero => simp only [qhg]; omega
 | succ i =>
  simp only [qhg, qp8]
  rw [z2z]
  omega
theorem hash_Of (u : ByteArray) (hl : u.size ≤ 1000000) : q08 P 100 [str u] (fun x => x = u64 (qcy u)) := by
 refine q09 tyOk Tryz.func100 rfl rfl fun K hK => ?_
 simp only [seval, go_sem, Tryz.ntmps100]
 refine q0d tyOk (α := Nat) 0 [0, 3, 6, 7] (fun i => i ≤ u.size)
  (fun i => ⟨[str u, .any, .any, u64 (qhg u i), .any, .any, i64 u.size, i64 i, .any, .any, .any, .any, .any, .any, .any, .any, .any, .any, .any, .any], []⟩)
  (fun i => u.size - i) 0 (z00 _) (z00 _) rfl ?_
 intro i hi
 simp only [seval, go_sem]
 refine q02 ?_ ?_ <;> intro h <;> simp only [seval, go_sem]
 · have hlt : i < u.size := by simpa using h
   have c1 : (0 : Int) ≤ (i : Int) ∧ Int.toNat (i : Int) < u.size := by omega
   have ew : IntKind.i64.wrap ((i : Int) + 1) = ((i + 1 : Nat) : Int) := by rw [wrap_i64 (by omega) (by omega)]; rfl
   simp only [seval, go_sem, c1, ew]
   simp only [seval, go_sem, q01]
   all_goals exact ⟨i + 1, hlt, by omega, rfl⟩
 · have hge : i = u.size := by have : ¬ ((i : Int) < (u.size : Int)) := by simpa using h
                               omega
   subst hge
   apply hK
   simp only [seval, go_sem, Tryz.results100]
   all_goals rfl
def strI (n : Int) (u : ByteArray) : Int := (qcy u).tmod n
theorem qm0 {n : Int} (h1 : 1 ≤ n) (h2 : n ≤ 1000) (u : ByteArray) : 0 ≤ strI n u ∧ strI n u < n := by
 have := hashF_ok u
 unfold strI
 rw [Int.tmod_eq_emod_of_nonneg this.1]
 exact ⟨Int.emod_nonneg _ (by omega), Int.emod_lt_of_pos _ (by omega)⟩
theorem qsf (u : ByteArray) (n : Int) (hl : u.size ≤ 1000000) (h1 : 1 ≤ n) (h2 : n ≤ 1000) : q08 P 72 [str u, i64 n] (fun x => x = i64 (strI n u)) := by
 refine q09 tyOk Tryz.func72 rfl rfl fun K hK => ?_
 simp only [seval, go_sem, Tryz.ntmps72]
 have d1 : decide (n < 1) = false := decide_eq_false (by omega)
 have w1 : IntKind.u64.wrap n = n := by rw [z2z]; omega
 have hs := qm0 h1 h2 u
 have w2 : IntKind.i64.wrap ((qcy u).tmod n) = strI n u := (by rw [z4f]; unfold strI at *; omega)
 have hn : ¬ n = 0 := by omega
 simp only [seval, go_sem, d1]
 (refine q00 (hash_Of u hl) rfl ?_; rintro _ rfl)
 simp only [seval, go_sem, w1, w2, hn]
 apply hK
 simp only [seval, go_sem, Tryz.results72]
def q2q (u : ByteArray) : Bool := (!(u.toList == ByteArray.toList ⟨#[]⟩)) && decide ((u.size : Int) ≤ 16)
theorem q5m (u : ByteArray) : q08 P 34 [str u] (fun x => x = bool (q2q u)) := by
 refine q09 tyOk Tryz.func34 rfl rfl fun K hK => ?_
 simp only [seval, go_sem, Tryz.ntmps34]
 unfold q2q at hK
 refine q1v ?_ ?_ <;> intro h
 · rw [h] at hK
   simp only [seval, go_sem]
   apply hK
   simp only [seval, go_sem, Tryz.results34]
   try rw [z0z]
 · rw [h] at hK
   simp only [seval, go_sem]
   apply hK
   simp only [seval, go_sem, Tryz.results34]
   try rw [z23]
theorem qzf (t : Tm) (by_ : Int) : q08 P 77 [.agg [u64 t.now, u64 t.seq, bool t.cl], u64 by_] (fun x => x = .agg [u64 (addW t.now by_), u64 t.seq, bool t.cl]) := by
 refine q09 tyOk Tryz.func77 rfl rfl fun K hK => ?_
 simp only [seval, go_sem, Tryz.ntmps77]
 (refine q00 (qiy t.now by_) rfl ?_; rintro _ rfl)
 simp only [seval, go_sem]
 apply hK
 simp only [seval, go_sem, Tryz.results77]
theorem qwp (t : Tm) : q08 P 44 [.agg [u64 t.now, u64 t.seq, bool t.cl]] (fun x => x = .agg [u64 t.now, u64 t.seq, bool true]) := by
 refine q09 tyOk Tryz.func44 rfl rfl fun K hK => ?_
 simp only [seval, go_sem, Tryz.ntmps44]
 apply hK
 simp only [seval, go_sem, Tryz.results44]
theorem qwj (t : Tm) : q08 P 90 [.agg [u64 t.now, u64 t.seq, bool t.cl]] (fun x => x = .tup [.agg [u64 t.now, u64 (addW t.seq 1), bool t.cl], u64 (addW t.seq 1)]) := by
 refine q09 tyOk Tryz.func90 rfl rfl fun K hK => ?_
 simp only [seval, go_sem, Tryz.ntmps90]
 (refine q00 (qiy t.seq 1) rfl ?_; rintro _ rfl)
 simp only [seval, go_sem]
 refine q0a tyOk (by rfl) (by simp only [z02, z0a, Nat.reduceAdd, z00]) (by kernel_rfl) rfl ?_
 simp only [seval, go_sem]
 refine ⟨by kernel_rfl, ?_⟩
 apply hK
 simp only [seval, go_sem, Tryz.results90]
def inB (n low high : Int) : Bool := decide (low ≤ n) && decide (n ≤ high)
theorem q36 (n low high : Int) : q08 P 36 [i64 n, i64 low, i64 high] (fun x => x = bool (inB n low high)) := by
 refine q09 tyOk Tryz.func36 rfl rfl fun K hK => ?_
 simp only [seval, go_sem, Tryz.ntmps36]
 unfold inB at hK
 refine q1v ?_ ?_ <;> intro h
 · have h : decide (low ≤ n) = true := h
   rw [h] at hK
   simp only [seval, go_sem]
   apply hK
   simp only [seval, go_sem, Tryz.results36]
   try rw [z0z]
 · have h : decide (low ≤ n) = false := h
   rw [h] at hK
   simp only [seval, go_sem]
   apply hK
   simp only [seval, go_sem, Tryz.results36]
   try rw [z23]
def Cf.av (c : Cf) : AV := .agg [i64 c.s, i64 c.k, i64 c.q, i64 c.w, i64 c.r, u64 c.e, u64 c.st]
def Cf.right (c : Cf) : Bool := inB c.s 1 8 && inB c.k 1 8 && inB c.q 1 16 && inB c.w 1 8 && inB c.r 0 4
theorem qdp (c : Cf) : q08 P 24 [c.av] (fun x => x = bool c.right) := by
 refine q09 tyOk Tryz.func24 rfl rfl fun K hK => ?_
 simp only [seval, go_sem, Tryz.ntmps24]
 unfold Cf.right at hK
 have h1 := q36 c.s 1 8
 have h2 := q36 c.k 1 8
 have h3 := q36 c.q 1 16
 have h4 := q36 c.w 1 8
 have h5 := q36 c.r 0 4
 generalize inB c.s 1 8 = b1 at *
 generalize inB c.k 1 8 = b2 at *
 generalize inB c.q 1 16 = b3 at *
 generalize inB c.w 1 8 = b4 at *
 generalize inB c.r 0 4 = b5 at *
 simp only [seval, go_sem, Cf.av]
 (refine q00 h1 rfl ?_; rintro _ rfl)
 cases b1
 · simp only [seval, go_sem]
   apply hK
   simp only [seval, go_sem, Tryz.results24]
   simp only [z23, z2r, z0z]
 simp only [seval, go_sem]
 (refine q00 h2 rfl ?_; rintro _ rfl)
 cases b2
 · simp only [seval, go_sem]
   apply hK
   simp only [seval, go_sem, Tryz.results24]
   simp only [z23, z2r, z0z]
 simp only [seval, go_sem]
 (refine q00 h3 rfl ?_; rintro _ rfl)
 cases b3
 · simp only [seval, go_sem]
   apply hK
   simp only [seval, go_sem, Tryz.results24]
   simp only [z23, z2r, z0z]
 simp only [seval, go_sem]
 (refine q00 h4 rfl ?_; rintro _ rfl)
 cases b4
 · simp only [seval, go_sem]
   apply hK
   simp only [seval, go_sem, Tryz.results24]
   simp only [z23, z2r, z0z]
 simp only [seval, go_sem]
 (refine q00 h5 rfl ?_; rintro _ rfl)
 simp only [seval, go_sem]
 apply hK
 simp only [seval, go_sem, Tryz.results24]
