/- Are two ops alike? -/
import Derived.Test.YtinkcffklomneaaDoorMf
namespace Go.Proofs.YtinkcffklomneaaDoor
open Go Go.Proofs.YtinkcffklomneaaDoor.Sym
set_option maxRecDepth 100000
set_option linter.unusedSimpArgs false
set_option linter.unusedVariables false
theorem str_beq (u v : ByteArray) : (u.toList == v.toList) = decide (u = v) := by
  rw [Bool.eq_iff_iff, beq_iff_eq, decide_eq_true_eq]
  constructor
  · intro h
    rw [ByteArray.toList_eq, ByteArray.toList_eq] at h
    exact ByteArray.ext (Array.ext' h)
  · rintro rfl; rfl
theorem take_eq_snoc {α : Type} {a b : List α} {i : Nat} (h1 : i < a.length) (h2 : i < b.length) : (a.take (i + 1) = b.take (i + 1)) ↔ (a.take i = b.take i ∧ a[i] = b[i]) := by
  rw [List.take_succ_eq_append_getElem h1, List.take_succ_eq_append_getElem h2]
  constructor
  · intro h
    have hl : (a.take i).length = (b.take i).length := by simp; omega
    have := List.append_inj h hl
    exact ⟨this.1, by simpa using this.2⟩
  · rintro ⟨h, h'⟩; rw [h, h']
set_option maxHeartbeats 8000000 in
theorem law11_same (x y : Opv) (hx : 1 ≤ x.kind ∧ x.kind ≤ 9) (hxl : x.users.length ≤ 20) (hyl : y.users.length ≤ 20) : PCall P 19 [x.av, y.av] (fun z => ∃ b, z = bool b ∧ (b = true ↔ sameO x y)) := by
  refine pcall_go tyOk Tryd.func19 rfl rfl ?_
  intro K hK
  simp only [Tryd.ntmps19, List.length_cons, List.length_nil, Nat.reduceAdd, Nat.reduceSub, List.replicate, List.cons_append, List.nil_append]
  by_cases hxy : x.kind = y.kind
  · have d0 : (x.kind != y.kind) = false := by rw [bne, beq_iff_eq.2 hxy]; rfl
    rcases (by omega : x.kind = 1 ∨ x.kind = 2 ∨ x.kind = 3 ∨ x.kind = 4 ∨ x.kind = 5 ∨ x.kind = 6 ∨ x.kind = 7 ∨ x.kind = 8 ∨ x.kind = 9) with hk | hk | hk | hk | hk | hk | hk | hk | hk
    · have c1 : (x.kind == 1) = true := by simp [hk]
      have c2 : (x.kind == 2) = false := by simp [hk]
      have c3 : (x.kind == 3) = false := by simp [hk]
      have c4 : (x.kind == 4) = false := by simp [hk]
      have c5 : (x.kind == 5) = false := by simp [hk]
      have c6 : (x.kind == 6) = false := by simp [hk]
      have c7 : (x.kind == 7) = false := by simp [hk]
      have c8 : (x.kind == 8) = false := by simp [hk]
      have c9 : (x.kind == 9) = false := by simp [hk]
      have hky : y.kind = 1 := by omega
      try simp (maxSteps := 1000000) only [go_skip, go_region, go_seq, go_cond, go_block, go_ops_nil, go_op, go_guard, opK_none, contK_some, condK_t, condK_f, guardK_eq, callOf, fstep, fpre, fstep0, fbinA, fbin, fbin0, fload, fcell, ffieldAddr, T, TI.isAgg, St.ev, St.put, AV.cells, AV.known, List.getD_cons_zero, List.getD_cons_succ, List.set, List.length_cons, List.length_nil, List.drop_succ_cons, List.drop_zero, List.headD_cons, List.cons_append, List.nil_append, List.getElem?_cons_zero, List.getElem?_cons_succ, Option.bind_some, List.getElem?_toArray, true_and, Bool.true_and, Bool.false_eq_true, ↓reduceIte, reduceCtorEq, ne_eq, not_false_eq_true, Nat.reduceAdd, Nat.reduceLT, Nat.add_zero, Nat.zero_add, d0, c1]
      cases h0 : (x.user.toList == y.user.toList)
      · have p0 : ¬ x.user = y.user := fun e => by rw [e] at h0; simp at h0
        try simp (maxSteps := 1000000) only [go_ret, go_ops_nil, go_op, go_guard, opK_none, contK_some, guardK_eq, guardV_ft, undef, callOf, fstep, fpre, fstep0, fpick, St.ev, St.put, List.getD_cons_zero, List.getD_cons_succ, List.set, List.getElem?_cons_zero, List.getElem?_cons_succ, Option.bind_some, List.getElem?_toArray, true_and, Bool.true_and, Bool.false_eq_true, ↓reduceIte]
        apply hK
        simp only [Tryd.results19, retK, ares, Bool.and_true, Bool.true_and, AV.ofResults, St.trunc, truncVs, truncV, List.getD_cons_zero, List.getD_cons_succ, List.take_zero, List.map_nil, true_and, and_true, List.cons.injEq, exists_eq_left']
        exact ⟨false, rfl, by simp [sameO, hk, hky, p0]⟩
      · have p0 : x.user = y.user := by rw [str_beq] at h0; exact of_decide_eq_true h0
        cases h1 : (x.id == y.id)
        · have p1 : ¬ x.id = y.id := fun e => by rw [e] at h1; simp at h1
          try simp (maxSteps := 1000000) only [go_ret, go_ops_nil, go_op, go_guard, opK_none, contK_some, guardK_eq, guardV_tt, guardV_ft, undef, callOf, fstep, fpre, fstep0, fbinA, fbin, fbin0, fload, fcell, ffieldAddr, fpick, T, TI.isAgg, St.ev, St.put, List.getD_cons_zero, List.getD_cons_succ, List.set, List.length_cons, List.length_nil, List.drop_succ_cons, List.drop_zero, List.headD_cons, List.getElem?_cons_zero, List.getElem?_cons_succ, Option.bind_some, List.getElem?_toArray, true_and, Bool.true_and, Bool.false_eq_true, ↓reduceIte, reduceCtorEq, ne_eq, not_false_eq_true, Nat.reduceAdd, Nat.reduceLT, Nat.zero_add, cond_true, h1]
          apply hK
          simp only [Tryd.results19, retK, ares, Bool.and_true, Bool.true_and, AV.ofResults, St.trunc, truncVs, truncV, List.getD_cons_zero, List.getD_cons_succ, List.take_zero, List.map_nil, true_and, and_true, List.cons.injEq, exists_eq_left']
          exact ⟨false, rfl, by simp [sameO, hk, hky, p0, p1]⟩
        · have p1 : x.id = y.id := beq_iff_eq.1 h1
          cases h2 : (x.st == y.st)
          · have p2 : ¬ x.st = y.st := fun e => by rw [e] at h2; simp at h2
            try simp (maxSteps := 1000000) only [go_ret, go_ops_nil, go_op, go_guard, opK_none, contK_some, guardK_eq, guardV_tt, guardV_ft, undef, callOf, fstep, fpre, fstep0, fbinA, fbin, fbin0, fload, fcell, ffieldAddr, fpick, T, TI.isAgg, St.ev, St.put, List.getD_cons_zero, List.getD_cons_succ, List.set, List.length_cons, List.length_nil, List.drop_succ_cons, List.drop_zero, List.headD_cons, List.getElem?_cons_zero, List.getElem?_cons_succ, Option.bind_some, List.getElem?_toArray, true_and, Bool.true_and, Bool.false_eq_true, ↓reduceIte, reduceCtorEq, ne_eq, not_false_eq_true, Nat.reduceAdd, Nat.reduceLT, Nat.zero_add, cond_true, h1, h2]
            apply hK
            simp only [Tryd.results19, retK, ares, Bool.and_true, Bool.true_and, AV.ofResults, St.trunc, truncVs, truncV, List.getD_cons_zero, List.getD_cons_succ, List.take_zero, List.map_nil, true_and, and_true, List.cons.injEq, exists_eq_left']
            exact ⟨false, rfl, by simp [sameO, hk, hky, p0, p1, p2]⟩
          · have p2 : x.st = y.st := beq_iff_eq.1 h2
            cases h3 : (x.pr == y.pr)
            · have p3 : ¬ x.pr = y.pr := fun e => by rw [e] at h3; simp at h3
              try simp (maxSteps := 1000000) only [go_ret, go_ops_nil, go_op, go_guard, opK_none, contK_some, guardK_eq, guardV_tt, guardV_ft, undef, callOf, fstep, fpre, fstep0, fbinA, fbin, fbin0, fload, fcell, ffieldAddr, fpick, T, TI.isAgg, St.ev, St.put, List.getD_cons_zero, List.getD_cons_succ, List.set, List.length_cons, List.length_nil, List.drop_succ_cons, List.drop_zero, List.headD_cons, List.getElem?_cons_zero, List.getElem?_cons_succ, Option.bind_some, List.getElem?_toArray, true_and, Bool.true_and, Bool.false_eq_true, ↓reduceIte, reduceCtorEq, ne_eq, not_false_eq_true, Nat.reduceAdd, Nat.reduceLT, Nat.zero_add, cond_true, h1, h2, h3]
              apply hK
              simp only [Tryd.results19, retK, ares, Bool.and_true, Bool.true_and, AV.ofResults, St.trunc, truncVs, truncV, List.getD_cons_zero, List.getD_cons_succ, List.take_zero, List.map_nil, true_and, and_true, List.cons.injEq, exists_eq_left']
              exact ⟨false, rfl, by simp [sameO, hk, hky, p0, p1, p2, p3]⟩
            · have p3 : x.pr = y.pr := beq_iff_eq.1 h3
              cases h4 : ((x.ttl : Int) == (y.ttl : Int))
              · have p4 : ¬ x.ttl = y.ttl := fun e => by rw [e] at h4; simp at h4
                try simp (maxSteps := 1000000) only [go_ret, go_ops_nil, go_op, go_guard, opK_none, contK_some, guardK_eq, guardV_tt, callOf, fstep, fpre, fstep0, fbinA, fbin, fbin0, fload, fcell, ffieldAddr, fpick, T, TI.isAgg, St.ev, St.put, List.getD_cons_zero, List.getD_cons_succ, List.set, List.length_cons, List.length_nil, List.drop_succ_cons, List.drop_zero, List.headD_cons, List.getElem?_cons_zero, List.getElem?_cons_succ, Option.bind_some, List.getElem?_toArray, true_and, Bool.true_and, Bool.false_eq_true, ↓reduceIte, reduceCtorEq, ne_eq, not_false_eq_true, Nat.reduceAdd, Nat.reduceLT, Nat.zero_add, cond_true, h1, h2, h3, h4]
                apply hK
                simp only [Tryd.results19, retK, ares, Bool.and_true, Bool.true_and, AV.ofResults, St.trunc, truncVs, truncV, List.getD_cons_zero, List.getD_cons_succ, List.take_zero, List.map_nil, true_and, and_true, List.cons.injEq, exists_eq_left']
                exact ⟨false, rfl, by simp [sameO, hk, hky, p0, p1, p2, p3, p4]⟩
              · have p4 : x.ttl = y.ttl := by have := beq_iff_eq.1 h4; omega
                try simp (maxSteps := 1000000) only [go_ret, go_ops_nil, go_op, go_guard, opK_none, contK_some, guardK_eq, guardV_tt, callOf, fstep, fpre, fstep0, fbinA, fbin, fbin0, fload, fcell, ffieldAddr, fpick, T, TI.isAgg, St.ev, St.put, List.getD_cons_zero, List.getD_cons_succ, List.set, List.length_cons, List.length_nil, List.drop_succ_cons, List.drop_zero, List.headD_cons, List.getElem?_cons_zero, List.getElem?_cons_succ, Option.bind_some, List.getElem?_toArray, true_and, Bool.true_and, Bool.false_eq_true, ↓reduceIte, reduceCtorEq, ne_eq, not_false_eq_true, Nat.reduceAdd, Nat.reduceLT, Nat.zero_add, cond_true, h1, h2, h3, h4]
                apply hK
                simp only [Tryd.results19, retK, ares, Bool.and_true, Bool.true_and, AV.ofResults, St.trunc, truncVs, truncV, List.getD_cons_zero, List.getD_cons_succ, List.take_zero, List.map_nil, true_and, and_true, List.cons.injEq, exists_eq_left']
                exact ⟨true, rfl, by simp [sameO, hk, hky, p0, p1, p2, p3, p4]⟩
    · have c1 : (x.kind == 1) = false := by simp [hk]
      have c2 : (x.kind == 2) = true := by simp [hk]
      have c3 : (x.kind == 3) = false := by simp [hk]
      have c4 : (x.kind == 4) = false := by simp [hk]
      have c5 : (x.kind == 5) = false := by simp [hk]
      have c6 : (x.kind == 6) = false := by simp [hk]
      have c7 : (x.kind == 7) = false := by simp [hk]
      have c8 : (x.kind == 8) = false := by simp [hk]
      have c9 : (x.kind == 9) = false := by simp [hk]
      have hky : y.kind = 2 := by omega
      try simp (maxSteps := 1000000) only [go_skip, go_region, go_seq, go_cond, go_block, go_ops_nil, go_op, go_guard, opK_none, contK_some, condK_t, condK_f, guardK_eq, callOf, fstep, fpre, fstep0, fbinA, fbin, fbin0, fload, fcell, ffieldAddr, T, TI.isAgg, St.ev, St.put, AV.cells, AV.known, List.getD_cons_zero, List.getD_cons_succ, List.set, List.length_cons, List.length_nil, List.drop_succ_cons, List.drop_zero, List.headD_cons, List.cons_append, List.nil_append, List.getElem?_cons_zero, List.getElem?_cons_succ, Option.bind_some, List.getElem?_toArray, true_and, Bool.true_and, Bool.false_eq_true, ↓reduceIte, reduceCtorEq, ne_eq, not_false_eq_true, Nat.reduceAdd, Nat.reduceLT, Nat.add_zero, Nat.zero_add, d0, c1, c2]
      cases h0 : (x.user.toList == y.user.toList)
      · have p0 : ¬ x.user = y.user := fun e => by rw [e] at h0; simp at h0
        try simp (maxSteps := 1000000) only [go_ret, go_ops_nil, go_op, go_guard, opK_none, contK_some, guardK_eq, guardV_ft, undef, callOf, fstep, fpre, fstep0, fpick, St.ev, St.put, List.getD_cons_zero, List.getD_cons_succ, List.set, List.getElem?_cons_zero, List.getElem?_cons_succ, Option.bind_some, List.getElem?_toArray, true_and, Bool.true_and, Bool.false_eq_true, ↓reduceIte]
        apply hK
        simp only [Tryd.results19, retK, ares, Bool.and_true, Bool.true_and, AV.ofResults, St.trunc, truncVs, truncV, List.getD_cons_zero, List.getD_cons_succ, List.take_zero, List.map_nil, true_and, and_true, List.cons.injEq, exists_eq_left']
        exact ⟨false, rfl, by simp [sameO, hk, hky, p0]⟩
      · have p0 : x.user = y.user := by rw [str_beq] at h0; exact of_decide_eq_true h0
        cases h1 : (x.id == y.id)
        · have p1 : ¬ x.id = y.id := fun e => by rw [e] at h1; simp at h1
          try simp (maxSteps := 1000000) only [go_ret, go_ops_nil, go_op, go_guard, opK_none, contK_some, guardK_eq, guardV_tt, guardV_ft, undef, callOf, fstep, fpre, fstep0, fbinA, fbin, fbin0, fload, fcell, ffieldAddr, fpick, T, TI.isAgg, St.ev, St.put, List.getD_cons_zero, List.getD_cons_succ, List.set, List.length_cons, List.length_nil, List.drop_succ_cons, List.drop_zero, List.headD_cons, List.getElem?_cons_zero, List.getElem?_cons_succ, Option.bind_some, List.getElem?_toArray, true_and, Bool.true_and, Bool.false_eq_true, ↓reduceIte, reduceCtorEq, ne_eq, not_false_eq_true, Nat.reduceAdd, Nat.reduceLT, Nat.zero_add, cond_true, h1]
          apply hK
          simp only [Tryd.results19, retK, ares, Bool.and_true, Bool.true_and, AV.ofResults, St.trunc, truncVs, truncV, List.getD_cons_zero, List.getD_cons_succ, List.take_zero, List.map_nil, true_and, and_true, List.cons.injEq, exists_eq_left']
          exact ⟨false, rfl, by simp [sameO, hk, hky, p0, p1]⟩
        · have p1 : x.id = y.id := beq_iff_eq.1 h1
          cases h2 : ((x.ttl : Int) == (y.ttl : Int))
          · have p2 : ¬ x.ttl = y.ttl := fun e => by rw [e] at h2; simp at h2
            try simp (maxSteps := 1000000) only [go_ret, go_ops_nil, go_op, go_guard, opK_none, contK_some, guardK_eq, guardV_tt, callOf, fstep, fpre, fstep0, fbinA, fbin, fbin0, fload, fcell, ffieldAddr, fpick, T, TI.isAgg, St.ev, St.put, List.getD_cons_zero, List.getD_cons_succ, List.set, List.length_cons, List.length_nil, List.drop_succ_cons, List.drop_zero, List.headD_cons, List.getElem?_cons_zero, List.getElem?_cons_succ, Option.bind_some, List.getElem?_toArray, true_and, Bool.true_and, Bool.false_eq_true, ↓reduceIte, reduceCtorEq, ne_eq, not_false_eq_true, Nat.reduceAdd, Nat.reduceLT, Nat.zero_add, cond_true, h1, h2]
            apply hK
            simp only [Tryd.results19, retK, ares, Bool.and_true, Bool.true_and, AV.ofResults, St.trunc, truncVs, truncV, List.getD_cons_zero, List.getD_cons_succ, List.take_zero, List.map_nil, true_and, and_true, List.cons.injEq, exists_eq_left']
            exact ⟨false, rfl, by simp [sameO, hk, hky, p0, p1, p2]⟩
          · have p2 : x.ttl = y.ttl := by have := beq_iff_eq.1 h2; omega
            try simp (maxSteps := 1000000) only [go_ret, go_ops_nil, go_op, go_guard, opK_none, contK_some, guardK_eq, guardV_tt, callOf, fstep, fpre, fstep0, fbinA, fbin, fbin0, fload, fcell, ffieldAddr, fpick, T, TI.isAgg, St.ev, St.put, List.getD_cons_zero, List.getD_cons_succ, List.set, List.length_cons, List.length_nil, List.drop_succ_cons, List.drop_zero, List.headD_cons, List.getElem?_cons_zero, List.getElem?_cons_succ, Option.bind_some, List.getElem?_toArray, true_and, Bool.true_and, Bool.false_eq_true, ↓reduceIte, reduceCtorEq, ne_eq, not_false_eq_true, Nat.reduceAdd, Nat.reduceLT, Nat.zero_add, cond_true, h1, h2]
            apply hK
            simp only [Tryd.results19, retK, ares, Bool.and_true, Bool.true_and, AV.ofResults, St.trunc, truncVs, truncV, List.getD_cons_zero, List.getD_cons_succ, List.take_zero, List.map_nil, true_and, and_true, List.cons.injEq, exists_eq_left']
            exact ⟨true, rfl, by simp [sameO, hk, hky, p0, p1, p2]⟩
    · have c1 : (x.kind == 1) = false := by simp [hk]
      have c2 : (x.kind == 2) = false := by simp [hk]
      have c3 : (x.kind == 3) = true := by simp [hk]
      have c4 : (x.kind == 4) = false := by simp [hk]
      have c5 : (x.kind == 5) = false := by simp [hk]
      have c6 : (x.kind == 6) = false := by simp [hk]
      have c7 : (x.kind == 7) = false := by simp [hk]
      have c8 : (x.kind == 8) = false := by simp [hk]
      have c9 : (x.kind == 9) = false := by simp [hk]
      have hky : y.kind = 3 := by omega
      try simp (maxSteps := 1000000) only [go_skip, go_region, go_seq, go_cond, go_block, go_ops_nil, go_op, go_guard, opK_none, contK_some, condK_t, condK_f, guardK_eq, callOf, fstep, fpre, fstep0, fbinA, fbin, fbin0, fload, fcell, ffieldAddr, T, TI.isAgg, St.ev, St.put, AV.cells, AV.known, List.getD_cons_zero, List.getD_cons_succ, List.set, List.length_cons, List.length_nil, List.drop_succ_cons, List.drop_zero, List.headD_cons, List.cons_append, List.nil_append, List.getElem?_cons_zero, List.getElem?_cons_succ, Option.bind_some, List.getElem?_toArray, true_and, Bool.true_and, Bool.false_eq_true, ↓reduceIte, reduceCtorEq, ne_eq, not_false_eq_true, Nat.reduceAdd, Nat.reduceLT, Nat.add_zero, Nat.zero_add, d0, c1, c2, c3]
      cases h0 : (x.user.toList == y.user.toList)
      · have p0 : ¬ x.user = y.user := fun e => by rw [e] at h0; simp at h0
        try simp (maxSteps := 1000000) only [go_ret, go_ops_nil, go_op, go_guard, opK_none, contK_some, guardK_eq, guardV_ft, undef, callOf, fstep, fpre, fstep0, fpick, St.ev, St.put, List.getD_cons_zero, List.getD_cons_succ, List.set, List.getElem?_cons_zero, List.getElem?_cons_succ, Option.bind_some, List.getElem?_toArray, true_and, Bool.true_and, Bool.false_eq_true, ↓reduceIte]
        apply hK
        simp only [Tryd.results19, retK, ares, Bool.and_true, Bool.true_and, AV.ofResults, St.trunc, truncVs, truncV, List.getD_cons_zero, List.getD_cons_succ, List.take_zero, List.map_nil, true_and, and_true, List.cons.injEq, exists_eq_left']
        exact ⟨false, rfl, by simp [sameO, hk, hky, p0]⟩
      · have p0 : x.user = y.user := by rw [str_beq] at h0; exact of_decide_eq_true h0
        cases h1 : (x.id == y.id)
        · have p1 : ¬ x.id = y.id := fun e => by rw [e] at h1; simp at h1
          try simp (maxSteps := 1000000) only [go_ret, go_ops_nil, go_op, go_guard, opK_none, contK_some, guardK_eq, guardV_tt, callOf, fstep, fpre, fstep0, fbinA, fbin, fbin0, fload, fcell, ffieldAddr, fpick, T, TI.isAgg, St.ev, St.put, List.getD_cons_zero, List.getD_cons_succ, List.set, List.length_cons, List.length_nil, List.drop_succ_cons, List.drop_zero, List.headD_cons, List.getElem?_cons_zero, List.getElem?_cons_succ, Option.bind_some, List.getElem?_toArray, true_and, Bool.true_and, Bool.false_eq_true, ↓reduceIte, reduceCtorEq, ne_eq, not_false_eq_true, Nat.reduceAdd, Nat.reduceLT, Nat.zero_add, cond_true, h1]
          apply hK
          simp only [Tryd.results19, retK, ares, Bool.and_true, Bool.true_and, AV.ofResults, St.trunc, truncVs, truncV, List.getD_cons_zero, List.getD_cons_succ, List.take_zero, List.map_nil, true_and, and_true, List.cons.injEq, exists_eq_left']
          exact ⟨false, rfl, by simp [sameO, hk, hky, p0, p1]⟩
        · have p1 : x.id = y.id := beq_iff_eq.1 h1
          try simp (maxSteps := 1000000) only [go_ret, go_ops_nil, go_op, go_guard, opK_none, contK_some, guardK_eq, guardV_tt, callOf, fstep, fpre, fstep0, fbinA, fbin, fbin0, fload, fcell, ffieldAddr, fpick, T, TI.isAgg, St.ev, St.put, List.getD_cons_zero, List.getD_cons_succ, List.set, List.length_cons, List.length_nil, List.drop_succ_cons, List.drop_zero, List.headD_cons, List.getElem?_cons_zero, List.getElem?_cons_succ, Option.bind_some, List.getElem?_toArray, true_and, Bool.true_and, Bool.false_eq_true, ↓reduceIte, reduceCtorEq, ne_eq, not_false_eq_true, Nat.reduceAdd, Nat.reduceLT, Nat.zero_add, cond_true, h1]
          apply hK
          simp only [Tryd.results19, retK, ares, Bool.and_true, Bool.true_and, AV.ofResults, St.trunc, truncVs, truncV, List.getD_cons_zero, List.getD_cons_succ, List.take_zero, List.map_nil, true_and, and_true, List.cons.injEq, exists_eq_left']
          exact ⟨true, rfl, by simp [sameO, hk, hky, p0, p1]⟩
    · have c1 : (x.kind == 1) = false := by simp [hk]
      have c2 : (x.kind == 2) = false := by simp [hk]
      have c3 : (x.kind == 3) = false := by simp [hk]
      have c4 : (x.kind == 4) = true := by simp [hk]
      have c5 : (x.kind == 5) = false := by simp [hk]
      have c6 : (x.kind == 6) = false := by simp [hk]
      have c7 : (x.kind == 7) = false := by simp [hk]
      have c8 : (x.kind == 8) = false := by simp [hk]
      have c9 : (x.kind == 9) = false := by simp [hk]
      have hky : y.kind = 4 := by omega
      try simp (maxSteps := 1000000) only [go_skip, go_region, go_seq, go_cond, go_block, go_blk, go_ret, go_ops_nil, go_op, opK_none, contK_some, condK_f, callOf, fstep, fpre, fstep0, fbinA, fbin, fbin0, fload, fcell, ffieldAddr, T, TI.isAgg, St.ev, St.put, AV.cells, AV.known, List.getD_cons_zero, List.getD_cons_succ, List.set, List.length_cons, List.length_nil, List.drop_succ_cons, List.drop_zero, List.headD_cons, List.cons_append, List.nil_append, List.getElem?_cons_zero, List.getElem?_cons_succ, List.getElem?_toArray, true_and, Bool.true_and, Bool.false_eq_true, ↓reduceIte, reduceCtorEq, ne_eq, not_false_eq_true, Nat.reduceAdd, Nat.reduceLT, Nat.add_zero, Nat.zero_add, d0, c1, c2, c3, c5, c8, c9]
      cases h0 : (x.user.toList == y.user.toList)
      · have p0 : ¬ x.user = y.user := fun e => by rw [e] at h0; simp at h0
        skip
        apply hK
        simp only [Tryd.results19, retK, ares, Bool.and_true, Bool.true_and, AV.ofResults, St.trunc, truncVs, truncV, List.getD_cons_zero, List.getD_cons_succ, List.take_zero, List.map_nil, true_and, and_true, List.cons.injEq, exists_eq_left']
        exact ⟨false, rfl, by simp [sameO, hk, hky, p0]⟩
      · have p0 : x.user = y.user := by rw [str_beq] at h0; exact of_decide_eq_true h0
        skip
        apply hK
        simp only [Tryd.results19, retK, ares, Bool.and_true, Bool.true_and, AV.ofResults, St.trunc, truncVs, truncV, List.getD_cons_zero, List.getD_cons_succ, List.take_zero, List.map_nil, true_and, and_true, List.cons.injEq, exists_eq_left']
        exact ⟨true, rfl, by simp [sameO, hk, hky, p0]⟩
    · have c1 : (x.kind == 1) = false := by simp [hk]
      have c2 : (x.kind == 2) = false := by simp [hk]
      have c3 : (x.kind == 3) = false := by simp [hk]
      have c4 : (x.kind == 4) = false := by simp [hk]
      have c5 : (x.kind == 5) = true := by simp [hk]
      have c6 : (x.kind == 6) = false := by simp [hk]
      have c7 : (x.kind == 7) = false := by simp [hk]
      have c8 : (x.kind == 8) = false := by simp [hk]
      have c9 : (x.kind == 9) = false := by simp [hk]
      have hky : y.kind = 5 := by omega
      by_cases hl : x.users.length = y.users.length
      · have dl : ((x.users.length : Int) != (y.users.length : Int)) = false := by rw [bne, hl, beq_self_eq_true]; rfl
        try simp (maxSteps := 1000000) only [go_skip, go_region, go_seq, go_cond, go_block, go_loop, go_ops_nil, go_op, opK_none, contK_some, condK_t, condK_f, callOf, fstep, fpre, fstep0, fbinA, fbin, fbin0, fload, fcell, ffieldAddr, flen, T, TI.isAgg, St.ev, St.put, AV.cells, AV.known, List.getD_cons_zero, List.getD_cons_succ, List.set, List.length_cons, List.length_nil, List.drop_succ_cons, List.drop_zero, List.headD_cons, List.cons_append, List.nil_append, List.getElem?_cons_zero, List.getElem?_cons_succ, List.getElem?_toArray, true_and, Bool.true_and, Bool.false_eq_true, ↓reduceIte, reduceCtorEq, ne_eq, not_false_eq_true, Nat.reduceAdd, Nat.reduceLT, Nat.add_zero, Nat.zero_add, d0, c1, c2, c3, c5, strs_len, dl]
        refine loopK_rule tyOk (α := Nat) 2 [2, 3, 5] (fun i => i ≤ x.users.length ∧ x.users.take i = y.users.take i)
          (fun i => ⟨[.any, .any, .ptr 0 0, .ptr 1 0, .any, i64 i, .any, .any, .any, .any, .any, .any, .any, .any, .any, .any, .any, .any, .any, .any, .any, .any, .any, .any, .any, .any, .any, .any, .any, .any, .any, .any, .any, .any, .any, .any, .any, .any, .any, .any, .any, .any, .any, .any, .any, .any, .any, .any, .any, .any, .any, .any, .any, .any, .any, .any, .any, .any, .any, .any, .any, .any, .any, .any, .any, .any, .any, .any, .any, .any, .any, .any, .any, .any, .any, .any, .any, .any, .any, .any, .any, .any, .any, .any, .any, .any, .any, .any, .any, .any, .any, .any, .any, .any, .any, .any, .any, .any, .any, .any, .any, .any, .any, .any, .any, .any, .any, .any, .any, .any, .any, .any, .any, .any, .any, .any, .any, .any], [.box x.cells, .box y.cells]⟩)
          (fun i => x.users.length - i) 0 (by simp) ⟨Nat.zero_le _, rfl⟩ rfl ?_
        rintro i ⟨hi, he⟩
        try simp (maxSteps := 1000000) only [go_region, go_seq, go_cond, go_ops_nil, go_op, opK_none, contK_some, callOf, fstep, fpre, fstep0, fbinA, fbin, fbin0, fload, fcell, ffieldAddr, flen, T, TI.isAgg, St.ev, St.put, List.getD_cons_zero, List.getD_cons_succ, List.set, List.length_cons, List.length_nil, List.drop_succ_cons, List.drop_zero, List.headD_cons, List.getElem?_cons_zero, List.getElem?_cons_succ, List.getElem?_toArray, true_and, Bool.true_and, Bool.false_eq_true, ↓reduceIte, reduceCtorEq, ne_eq, not_false_eq_true, Nat.reduceLT, Nat.zero_add, strs_len]
        (first | refine guardV_split ?_ ?_ | refine condK_split ?_ ?_ | refine drawV_split ?_ ?_ | refine condY_split ?_ ?_ | refine guardY_split ?_ ?_) <;> intro hf <;> try simp (maxSteps := 1000000) only [go_skip, go_region, go_seq, go_block, go_exit, go_ret, go_draws, exitK_code, exitK_blk, exitK_nil, go_ops_nil, go_op, opK_none, contK_some, condK_t, condK_f, callOf, fstep, fpre, fstep0, St.ev, St.put, List.set, true_and, Bool.true_and, ↓reduceIte, loopX_exit]
        · have hlt : i < x.users.length := by simpa using hf
          have hlt2 : i < y.users.length := by omega
          have eg := strs_get hlt
          have eg2 := strs_get hlt2
          have ew : IntKind.i64.wrap ((i : Int) + 1) = ((i + 1 : Nat) : Int) := by rw [wrap_i64 (by omega) (by omega)]; rfl
          have b1 : (0 : Int) ≤ (i : Int) ∧ Int.toNat (i : Int) < x.users.length := by omega
          have b2 : (0 : Int) ≤ (i : Int) ∧ Int.toNat (i : Int) < y.users.length := by omega
          have hte := take_eq_snoc hlt hlt2
          have hne : ¬ x.users[i] = y.users[i] → ¬ sameO x y := fun hn hs => hn (by have := hs.2.2.2.2.2 hk; simp only [this])
          generalize x.users[i] = u at *
          generalize y.users[i] = v at *
          refine draw_rule tyOk (by rfl) (by simp only [List.length_cons, List.length_nil, Nat.reduceAdd, Nat.zero_le]) (by kernel_rfl) rfl ?_
          try simp (maxSteps := 1000000) only [go_cond, callOf, fstep0, fbinA, fbin, fbin0, fload, fcell, ffieldAddr, findexAddr, T, TI.isAgg, St.ev, St.put, AV.cells, AV.known, Value.cells, List.getD_cons_zero, List.getD_cons_succ, List.set, List.map_cons, List.map_nil, List.length_cons, List.length_nil, List.drop_succ_cons, List.drop_zero, List.headD_cons, List.append_nil, List.getElem?_cons_zero, List.getElem?_cons_succ, List.replicate, List.getElem?_toArray, true_and, and_true, Bool.and_true, Bool.true_and, Bool.false_eq_true, ↓reduceIte, reduceCtorEq, ne_eq, not_false_eq_true, Nat.reduceAdd, Nat.reduceLT, Nat.add_zero, Nat.zero_add, newCount, drawR_nil, drawR_op, drawP_none, drawQ_some, dstep, isFree, St.app, bump, isNew, eg, eg2, b1, b2, strs_len]
          refine ⟨by kernel_rfl, ?_⟩
          skip
          cases huv : u.toList == v.toList
          · have hn : ¬ u = v := fun e => by rw [e] at huv; simp at huv
            try simp (maxSteps := 1000000) only [go_region, go_seq, go_ret, go_ops_nil, go_op, opK_none, contK_some, condK_t, callOf, fstep, fpre, fstep0, St.ev, St.put, List.set, true_and, Bool.true_and, Bool.not_false, loopX_ret]
            apply hK
            simp only [Tryd.results19, retK, ares, Bool.and_true, Bool.true_and, AV.ofResults, St.trunc, truncVs, truncV, List.getD_cons_zero, List.getD_cons_succ, List.take_zero, List.map_nil, true_and, and_true, List.cons.injEq, exists_eq_left']
            exact ⟨false, rfl, ⟨fun h => (by cases h), fun h => absurd h (hne hn)⟩⟩
          · have hn : u = v := by rw [str_beq] at huv; exact of_decide_eq_true huv
            try simp (maxSteps := 1000000) only [go_nil, go_skip, go_region, go_blk, go_ops_nil, go_op, opK_none, contK_some, condK_f, callOf, fstep, fpre, fstep0, fbinA, fbin, fbin0, St.ev, St.put, List.getD_cons_zero, List.getD_cons_succ, List.set, true_and, Bool.true_and, Bool.not_true, ew]
            simp only [loopX_normal, St.trunc, St.keep, truncVs, truncV, AB.trunc, keepV, List.elem_cons, List.elem_nil, List.take_succ_cons, List.take_zero, List.map_cons, List.map_nil, Nat.reduceAdd, Nat.reduceBEq, Nat.reduceLeDiff, Nat.zero_add, Bool.false_eq_true, ↓reduceIte]
            exact ⟨i + 1, ⟨hlt, hte.2 ⟨he, hn⟩⟩, by omega, rfl⟩
        · obtain rfl : i = x.users.length := by have := of_decide_eq_false hf; omega
          rw [List.take_length, hl, List.take_length] at he
          apply hK
          simp only [Tryd.results19, retK, ares, Bool.and_true, Bool.true_and, AV.ofResults, St.trunc, truncVs, truncV, List.getD_cons_zero, List.getD_cons_succ, List.take_zero, List.map_nil, true_and, and_true, List.cons.injEq, exists_eq_left']
          exact ⟨true, rfl, by simp [sameO, hk, hky, he]⟩
      · have dl : ((x.users.length : Int) != (y.users.length : Int)) = true := by
          rw [bne, Bool.not_eq_true', beq_eq_false_iff_ne]; omega
        try simp (maxSteps := 1000000) only [go_skip, go_region, go_seq, go_cond, go_block, go_ret, go_ops_nil, go_op, opK_none, contK_some, condK_t, condK_f, callOf, fstep, fpre, fstep0, fbinA, fbin, fbin0, fload, fcell, ffieldAddr, flen, T, TI.isAgg, St.ev, St.put, AV.cells, AV.known, List.getD_cons_zero, List.getD_cons_succ, List.set, List.length_cons, List.length_nil, List.drop_succ_cons, List.drop_zero, List.headD_cons, List.cons_append, List.nil_append, List.getElem?_cons_zero, List.getElem?_cons_succ, List.getElem?_toArray, true_and, Bool.true_and, Bool.false_eq_true, ↓reduceIte, reduceCtorEq, ne_eq, not_false_eq_true, Nat.reduceAdd, Nat.reduceLT, Nat.add_zero, Nat.zero_add, d0, c1, c2, c3, c5, strs_len, dl]
        apply hK
        simp only [Tryd.results19, retK, ares, Bool.and_true, Bool.true_and, AV.ofResults, St.trunc, truncVs, truncV, List.getD_cons_zero, List.getD_cons_succ, List.take_zero, List.map_nil, true_and, and_true, List.cons.injEq, exists_eq_left']
        exact ⟨false, rfl, ⟨fun h => (by cases h), fun h => absurd (congrArg List.length (h.2.2.2.2.2 hk)) hl⟩⟩
    · have c1 : (x.kind == 1) = false := by simp [hk]
      have c2 : (x.kind == 2) = false := by simp [hk]
      have c3 : (x.kind == 3) = false := by simp [hk]
      have c4 : (x.kind == 4) = false := by simp [hk]
      have c5 : (x.kind == 5) = false := by simp [hk]
      have c6 : (x.kind == 6) = true := by simp [hk]
      have c7 : (x.kind == 7) = false := by simp [hk]
      have c8 : (x.kind == 8) = false := by simp [hk]
      have c9 : (x.kind == 9) = false := by simp [hk]
      have hky : y.kind = 6 := by omega
      try simp (maxSteps := 1000000) only [go_skip, go_region, go_seq, go_cond, go_block, go_blk, go_ret, go_ops_nil, go_op, opK_none, contK_some, condK_f, callOf, fstep, fpre, fstep0, fbinA, fbin, fbin0, fload, fcell, ffieldAddr, T, TI.isAgg, St.ev, St.put, AV.cells, AV.known, List.getD_cons_zero, List.getD_cons_succ, List.set, List.length_cons, List.length_nil, List.drop_succ_cons, List.drop_zero, List.headD_cons, List.cons_append, List.nil_append, List.getElem?_cons_zero, List.getElem?_cons_succ, List.getElem?_toArray, true_and, Bool.true_and, Bool.false_eq_true, ↓reduceIte, reduceCtorEq, ne_eq, not_false_eq_true, Nat.reduceAdd, Nat.reduceLT, Nat.add_zero, Nat.zero_add, d0, c1, c2, c3, c5, c8, c9]
      cases h0 : (x.user.toList == y.user.toList)
      · have p0 : ¬ x.user = y.user := fun e => by rw [e] at h0; simp at h0
        skip
        apply hK
        simp only [Tryd.results19, retK, ares, Bool.and_true, Bool.true_and, AV.ofResults, St.trunc, truncVs, truncV, List.getD_cons_zero, List.getD_cons_succ, List.take_zero, List.map_nil, true_and, and_true, List.cons.injEq, exists_eq_left']
        exact ⟨false, rfl, by simp [sameO, hk, hky, p0]⟩
      · have p0 : x.user = y.user := by rw [str_beq] at h0; exact of_decide_eq_true h0
        skip
        apply hK
        simp only [Tryd.results19, retK, ares, Bool.and_true, Bool.true_and, AV.ofResults, St.trunc, truncVs, truncV, List.getD_cons_zero, List.getD_cons_succ, List.take_zero, List.map_nil, true_and, and_true, List.cons.injEq, exists_eq_left']
        exact ⟨true, rfl, by simp [sameO, hk, hky, p0]⟩
    · have c1 : (x.kind == 1) = false := by simp [hk]
      have c2 : (x.kind == 2) = false := by simp [hk]
      have c3 : (x.kind == 3) = false := by simp [hk]
      have c4 : (x.kind == 4) = false := by simp [hk]
      have c5 : (x.kind == 5) = false := by simp [hk]
      have c6 : (x.kind == 6) = false := by simp [hk]
      have c7 : (x.kind == 7) = true := by simp [hk]
      have c8 : (x.kind == 8) = false := by simp [hk]
      have c9 : (x.kind == 9) = false := by simp [hk]
      have hky : y.kind = 7 := by omega
      try simp (maxSteps := 1000000) only [go_skip, go_region, go_seq, go_cond, go_block, go_blk, go_ret, go_ops_nil, go_op, opK_none, contK_some, condK_f, callOf, fstep, fpre, fstep0, fbinA, fbin, fbin0, fload, fcell, ffieldAddr, T, TI.isAgg, St.ev, St.put, AV.cells, AV.known, List.getD_cons_zero, List.getD_cons_succ, List.set, List.length_cons, List.length_nil, List.drop_succ_cons, List.drop_zero, List.headD_cons, List.cons_append, List.nil_append, List.getElem?_cons_zero, List.getElem?_cons_succ, List.getElem?_toArray, true_and, Bool.true_and, Bool.false_eq_true, ↓reduceIte, reduceCtorEq, ne_eq, not_false_eq_true, Nat.reduceAdd, Nat.reduceLT, Nat.add_zero, Nat.zero_add, d0, c1, c2, c3, c5, c8, c9]
      cases h0 : (x.user.toList == y.user.toList)
      · have p0 : ¬ x.user = y.user := fun e => by rw [e] at h0; simp at h0
        skip
        apply hK
        simp only [Tryd.results19, retK, ares, Bool.and_true, Bool.true_and, AV.ofResults, St.trunc, truncVs, truncV, List.getD_cons_zero, List.getD_cons_succ, List.take_zero, List.map_nil, true_and, and_true, List.cons.injEq, exists_eq_left']
        exact ⟨false, rfl, by simp [sameO, hk, hky, p0]⟩
      · have p0 : x.user = y.user := by rw [str_beq] at h0; exact of_decide_eq_true h0
        skip
        apply hK
        simp only [Tryd.results19, retK, ares, Bool.and_true, Bool.true_and, AV.ofResults, St.trunc, truncVs, truncV, List.getD_cons_zero, List.getD_cons_succ, List.take_zero, List.map_nil, true_and, and_true, List.cons.injEq, exists_eq_left']
        exact ⟨true, rfl, by simp [sameO, hk, hky, p0]⟩
    · have c1 : (x.kind == 1) = false := by simp [hk]
      have c2 : (x.kind == 2) = false := by simp [hk]
      have c3 : (x.kind == 3) = false := by simp [hk]
      have c4 : (x.kind == 4) = false := by simp [hk]
      have c5 : (x.kind == 5) = false := by simp [hk]
      have c6 : (x.kind == 6) = false := by simp [hk]
      have c7 : (x.kind == 7) = false := by simp [hk]
      have c8 : (x.kind == 8) = true := by simp [hk]
      have c9 : (x.kind == 9) = false := by simp [hk]
      have hky : y.kind = 8 := by omega
      try simp (maxSteps := 1000000) only [go_skip, go_region, go_seq, go_cond, go_block, go_ret, go_ops_nil, go_op, opK_none, contK_some, condK_t, condK_f, callOf, fstep, fpre, fstep0, fbinA, fbin, fbin0, fload, fcell, ffieldAddr, T, TI.isAgg, St.ev, St.put, AV.cells, AV.known, List.getD_cons_zero, List.getD_cons_succ, List.set, List.length_cons, List.length_nil, List.drop_zero, List.headD_cons, List.cons_append, List.nil_append, List.getElem?_cons_zero, List.getElem?_cons_succ, List.getElem?_toArray, true_and, Bool.true_and, Bool.false_eq_true, ↓reduceIte, reduceCtorEq, ne_eq, not_false_eq_true, Nat.reduceAdd, Nat.reduceLT, Nat.add_zero, Nat.zero_add, d0, c1, c2, c3, c5, c8]
      skip
      apply hK
      simp only [Tryd.results19, retK, ares, Bool.and_true, Bool.true_and, AV.ofResults, St.trunc, truncVs, truncV, List.getD_cons_zero, List.getD_cons_succ, List.take_zero, List.map_nil, true_and, and_true, List.cons.injEq, exists_eq_left']
      exact ⟨true, rfl, by simp [sameO, hk, hky]⟩
    · have c1 : (x.kind == 1) = false := by simp [hk]
      have c2 : (x.kind == 2) = false := by simp [hk]
      have c3 : (x.kind == 3) = false := by simp [hk]
      have c4 : (x.kind == 4) = false := by simp [hk]
      have c5 : (x.kind == 5) = false := by simp [hk]
      have c6 : (x.kind == 6) = false := by simp [hk]
      have c7 : (x.kind == 7) = false := by simp [hk]
      have c8 : (x.kind == 8) = false := by simp [hk]
      have c9 : (x.kind == 9) = true := by simp [hk]
      have hky : y.kind = 9 := by omega
      try simp (maxSteps := 1000000) only [go_skip, go_region, go_seq, go_cond, go_block, go_ret, go_ops_nil, go_op, opK_none, contK_some, condK_t, condK_f, callOf, fstep, fpre, fstep0, fbinA, fbin, fbin0, fload, fcell, ffieldAddr, T, TI.isAgg, St.ev, St.put, AV.cells, AV.known, List.getD_cons_zero, List.getD_cons_succ, List.set, List.length_cons, List.length_nil, List.drop_zero, List.headD_cons, List.cons_append, List.nil_append, List.getElem?_cons_zero, List.getElem?_cons_succ, List.getElem?_toArray, true_and, Bool.true_and, Bool.false_eq_true, ↓reduceIte, reduceCtorEq, ne_eq, not_false_eq_true, Nat.reduceAdd, Nat.reduceLT, Nat.add_zero, Nat.zero_add, d0, c1, c2, c3, c5, c8, c9]
      skip
      apply hK
      simp only [Tryd.results19, retK, ares, Bool.and_true, Bool.true_and, AV.ofResults, St.trunc, truncVs, truncV, List.getD_cons_zero, List.getD_cons_succ, List.take_zero, List.map_nil, true_and, and_true, List.cons.injEq, exists_eq_left']
      exact ⟨true, rfl, by simp [sameO, hk, hky]⟩
  · have d0 : (x.kind != y.kind) = true := by rw [bne, beq_eq_false_iff_ne.2 hxy]; rfl
    try simp (maxSteps := 1000000) only [go_region, go_seq, go_cond, go_ret, go_ops_nil, go_op, opK_none, contK_some, condK_t, callOf, fstep, fpre, fstep0, fbinA, fbin, fbin0, fload, fcell, ffieldAddr, T, TI.isAgg, St.ev, St.put, AV.cells, AV.known, List.getD_cons_zero, List.getD_cons_succ, List.set, List.length_cons, List.length_nil, List.drop_zero, List.headD_cons, List.cons_append, List.nil_append, List.getElem?_cons_zero, List.getElem?_cons_succ, List.getElem?_toArray, true_and, Bool.true_and, Bool.false_eq_true, ↓reduceIte, reduceCtorEq, ne_eq, not_false_eq_true, Nat.reduceAdd, Nat.reduceLT, Nat.add_zero, Nat.zero_add, d0]
    apply hK
    simp only [Tryd.results19, retK, ares, Bool.and_true, Bool.true_and, AV.ofResults, St.trunc, truncVs, truncV, List.getD_cons_zero, List.getD_cons_succ, List.take_zero, List.map_nil, true_and, and_true, List.cons.injEq, exists_eq_left']
    exact ⟨false, rfl, ⟨fun h => (by cases h), fun h => absurd h.1 hxy⟩⟩
end Go.Proofs.YtinkcffklomneaaDoor
