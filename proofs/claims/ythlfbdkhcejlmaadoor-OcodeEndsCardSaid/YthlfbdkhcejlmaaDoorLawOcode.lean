/- The document's example, and bytes that are handed in. -/
import Derived.Test.YthlfbdkhcejlmaaDoorOcode5
namespace Go.Proofs.YthlfbdkhcejlmaaDoor
open Go Go.Proofs.YthlfbdkhcejlmaaDoor.Sym
set_option maxRecDepth 100000
set_option linter.unusedSimpArgs false
set_option linter.unusedVariables false

theorem bytes_nil : Bytes [] := by intro n h; cases h
theorem readF_nil : readF [] = ⟨1, 1, 1, 1, 0, 0, 0, [[]], []⟩ := by decide +kernel

theorem read_nil : PCall P 11 [.v (.slice none 0 0)] (fun x => x = (readF []).av) :=
  (ocode_Read [] (by decide) bytes_nil).weakArgs ⟨_, _, rfl, weak_nil 1, rfl⟩

theorem law12_awake : PCall P 9 [] (fun x => x = bool true) := by
  refine pcall_go tyOk Tryd.func9 rfl rfl ?_
  intro K hK
  simp only [Tryd.ntmps9, List.length_nil, Nat.reduceSub, List.replicate, List.nil_append]
  try simp (maxSteps := 1000000) only [go_region, go_seq, go_ops_nil, go_op, opK_none, opK_some, contK_some, callOf, callK_eq, callJ_nil, callD_fn, fstep, fpre, fstep0, evs, St.ev, St.put, AV.owners, ownersAll, List.set, List.append_nil, true_and, Bool.true_and]
  (refine callG_use read_nil rfl ?_; rintro _ rfl)
  rw [readF_nil]
  have c1 : (((1 : Nat) : Int) == 1) = true := by decide
  have c0 : (((0 : Nat) : Int) == 0) = true := by decide
  try simp (maxSteps := 1000000) only [go_region, go_seq, go_ops_nil, go_op, go_guard, opK_none, opK_some, contK_some, guardK_eq, guardV_tt, callOf, callK_eq, callJ_nil, callD_fn, fstep, fpre, fstep0, fbinA, fbin, fbin0, fload, fcell, fstore, ffieldAddr, findexAddr, flen, evs, fpick, T, TI.isAgg, St.ev, St.put, splice, AV.cells, AV.known, AV.flat, AV.owners, ownersAll, Value.oneCell', List.getD_cons_zero, List.getD_cons_succ, List.set, List.map_cons, List.map_nil, List.length_cons, List.length_nil, List.all_cons, List.all_nil, List.drop_succ_cons, List.drop_zero, List.take_zero, List.headD_cons, List.nil_append, List.append_nil, List.getElem?_cons_zero, List.getElem?_cons_succ, Option.bind_some, List.getElem?_toArray, true_and, and_true, Bool.and_true, Bool.true_and, Bool.and_self, Bool.false_eq_true, ↓reduceIte, reduceCtorEq, ne_eq, not_false_eq_true, Nat.reduceAdd, Nat.reduceLT, Nat.le_refl, Nat.add_zero, Nat.zero_add, cond_true, Int.reduceLE, beq_self_eq_true, Scr.av, opav, c1, c0, Int.toNat]
  (refine callG_use (ocode_User 3 (by decide)) rfl ?_; rintro _ rfl)
  try simp (maxSteps := 1000000) only [go_ret, go_ops_nil, go_op, go_guard, opK_none, contK_some, guardK_eq, guardV_tt, callOf, fstep, fpre, fstep0, fbinA, fbin, fbin0, fpick, St.ev, St.put, List.getD_cons_zero, List.getD_cons_succ, List.set, List.getElem?_cons_zero, List.getElem?_cons_succ, Option.bind_some, List.getElem?_toArray, true_and, Bool.true_and, cond_true]
  apply hK
  simp only [Tryd.results9, retK, ares, Bool.and_true, Bool.true_and, AV.ofResults, St.trunc, truncVs, truncV, List.getD_cons_zero, List.take_zero, List.map_nil, true_and, and_true, List.cons.injEq, exists_eq_left']
  have e3 : un 3 = ⟨#[117, 51]⟩ := by rfl
  rw [e3, beq_self_eq_true]

theorem lit_u8 {n : Int} (h : (Lit.int .u8 n).wf = true) : 0 ≤ n ∧ n ≤ 255 := by
  simp [Lit.wf, IntKind.min, IntKind.max, IntKind.signed, IntKind.bits] at h
  omega
theorem fits_bytes {ys : List AV} (h : ∀ y ∈ ys, ∃ zs, fitsAll [.int .u8] zs ∧ y = pack false zs) : ∃ l : List Int, ys = bav l ∧ Bytes l := by
  induction ys with
  | nil => exact ⟨[], rfl, bytes_nil⟩
  | cons y ys ih =>
    obtain ⟨l, rfl, hl⟩ := ih (fun z hz => h z (List.mem_cons_of_mem _ hz))
    obtain ⟨zs, ⟨x, r, rfl, ⟨n, rfl, hn⟩, rfl⟩, rfl⟩ := h y List.mem_cons_self
    refine ⟨n :: l, rfl, fun m hm => ?_⟩
    rcases List.mem_cons.1 hm with rfl | hm
    · exact lit_u8 hn
    · exact hl m hm

/-- What any op that is read is. -/
structure Opn.fine (o : Opn) : Prop where
  kind : 0 ≤ o.kind ∧ o.kind ≤ 10
  id : 0 ≤ o.id ∧ o.id ≤ 3
  st : 0 ≤ o.st ∧ o.st ≤ 10
  pr : 0 ≤ o.pr ∧ o.pr ≤ 9
  user : ∃ b : Nat, b < 10 ∧ o.user = un b
  users : o.users.length ≤ 9
  only : o.kind ≠ 5 → o.users = []
theorem un_digit {b : Int} (hb : 0 ≤ b) : ∃ d : Nat, d < 10 ∧ un b = un d := by
  have h1 := Int.tmod_nonneg 10 hb
  have h2 := Int.tmod_lt_of_pos b (show (0 : Int) < 10 by decide)
  refine ⟨(b.tmod 10).toNat, by omega, ?_⟩
  have e : ((b.tmod 10).toNat : Int).tmod 10 = b.tmod 10 := by
    rw [Int.toNat_of_nonneg h1]
    exact Int.tmod_eq_of_lt h1 h2
  rw [un, un, e]
theorem opAt_fine {l : List Int} (hb : Bytes l) (q : Nat) : (opAt l q).1.fine := by
  have hk := rem_wrap (rd_bd hb q).1 (show (0 : Int) < 11 by decide) (by decide)
  have hi := rem_wrap (rd_bd hb (q + 2)).1 (show (0 : Int) < 4 by decide) (by decide)
  have hs := rem_wrap (rd_bd hb (q + 3)).1 (show (0 : Int) < 11 by decide) (by decide)
  have hp := rem_wrap (rd_bd hb (q + 4)).1 (show (0 : Int) < 10 by decide) (by decide)
  have hu := rem_wrap (rd_bd hb (q + 2)).1 (show (0 : Int) < 10 by decide) (by decide)
  have hd := un_digit (rd_bd hb (q + 1)).1
  have h10 : ((rd l (q + 2)).tmod 10).toNat ≤ 9 := by have := hu.2; have := hu.1; generalize (rd l (q + 2)).tmod 10 = z at *; omega
  have hk' : 0 ≤ (rd l q).tmod 11 ∧ (rd l q).tmod 11 ≤ 10 := ⟨hk.1, by have := hk.2; generalize (rd l q).tmod 11 = z at *; omega⟩
  have hi' : 0 ≤ (rd l (q + 2)).tmod 4 ∧ (rd l (q + 2)).tmod 4 ≤ 3 := ⟨hi.1, by have := hi.2; generalize (rd l (q + 2)).tmod 4 = z at *; omega⟩
  have hs' : 0 ≤ (rd l (q + 3)).tmod 11 ∧ (rd l (q + 3)).tmod 11 ≤ 10 := ⟨hs.1, by have := hs.2; generalize (rd l (q + 3)).tmod 11 = z at *; omega⟩
  have hp' : 0 ≤ (rd l (q + 4)).tmod 10 ∧ (rd l (q + 4)).tmod 10 ≤ 9 := ⟨hp.1, by have := hp.2; generalize (rd l (q + 4)).tmod 10 = z at *; omega⟩
  have z3 : (0 : Int) ≤ 0 ∧ (0 : Int) ≤ 3 := by decide
  have z9 : (0 : Int) ≤ 0 ∧ (0 : Int) ≤ 9 := by decide
  have z10 : (0 : Int) ≤ 0 ∧ (0 : Int) ≤ 10 := by decide
  simp only [opAt]
  split
  · exact ⟨hk', hi', hs', hp', hd, Nat.zero_le _, fun _ => rfl⟩
  · split
    · exact ⟨hk', hi', z10, z9, hd, Nat.zero_le _, fun _ => rfl⟩
    · split
      · exact ⟨hk', hi', z10, z9, hd, Nat.zero_le _, fun _ => rfl⟩
      · split
        · rename_i h5
          exact ⟨hk', z3, z10, z9, hd, by simp only [unsAt, List.length_map, List.length_range]; exact h10, fun h => absurd h5 h⟩
        · exact ⟨hk', z3, z10, z9, hd, Nat.zero_le _, fun _ => rfl⟩
theorem opsF_fine {l : List Int} (hb : Bytes l) (q : Nat) : ∀ i, ∀ o ∈ (opsF l q i).1, o.fine
  | 0, o, h => by cases h
  | i + 1, o, h => by
    rw [opsF] at h
    simp only [List.mem_append, List.mem_singleton] at h
    rcases h with h | rfl
    · exact opsF_fine hb q i o h
    · exact opAt_fine hb _
theorem clientsF_fine {l : List Int} (hb : Bytes l) (q : Nat) : ∀ i, ∀ c ∈ (clientsF l q i).1, c.length ≤ 40 ∧ ∀ o ∈ c, o.fine
  | 0, o, h => by cases h
  | i + 1, o, h => by
    rw [clientsF] at h
    simp only [List.mem_append, List.mem_singleton] at h
    rcases h with h | rfl
    · exact clientsF_fine hb q i o h
    · exact ⟨by rw [opsF_len]; exact many_bd hb _, opsF_fine hb _ _⟩

/-- What is read is small. -/
theorem readF_fine {l : List Int} (hb : Bytes l) : (1 ≤ (readF l).clients.length ∧ (readF l).clients.length ≤ 8) ∧ (∀ c ∈ (readF l).clients, c.length ≤ 40 ∧ ∀ o ∈ c, o.fine) ∧ (readF l).picks.length ≤ 20000 := by
  refine ⟨?_, ?_, ?_⟩
  · simp only [readF, clientsF_len]
    have := rem_wrap (rd_bd hb 7).1 (show (0 : Int) < 8 by decide) (by decide)
    generalize (rd l 7).tmod 8 = z at *
    omega
  · exact clientsF_fine hb _ _
  · simp only [readF, picksF, List.length_map, List.length_range, nPicks]
    omega
end Go.Proofs.YthlfbdkhcejlmaaDoor
