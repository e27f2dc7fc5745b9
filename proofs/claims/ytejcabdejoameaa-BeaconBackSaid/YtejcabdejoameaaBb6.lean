/- What is proved on the way to BeaconBack, part 6: an interpreter of the code, its soundness, and what the functions answer. -/
import Derived.Calls
import Derived.Orders
import Derived.RowKit3
import Derived.KernelRfl
import Derived.WalkKit
import Derived.Laws.IdiomStrings
import Derived.Laws.StructEq
import Derived.LoopN
import Derived.Test.YtejcabdejoameaaRows
import Derived.ProofKit
import Derived.OpenShut
import Derived.Test.YtejcabdejoameaaBb5
/- Beacons: which is better. -/
set_option linter.unusedSimpArgs false
set_option maxHeartbeats 4000000
namespace Go.Proofs.Ytejcabdejoameaa.AI
open Go

theorem f150e (a b c d e f g h i j k : Int) (s : ByteArray) (H : Heap) : AC tbl 150 [.agg #[.int .i64 a, .int .i64 b, .int .i64 c, .int .i64 d, .int .i64 e, .int .i64 f, .int .i64 g, .int .i64 h, .int .i64 i, .int .i64 j, .int .i64 k, .string s]] H =
    some (.int .i64 (if (⟨a, b, c, d, e, f, g, h, i, j, k, s⟩ : Fr).Ok then 0 else 1), H) := f150 ⟨a, b, c, d, e, f, g, h, i, j, k, s⟩ H
theorem f151e (a b c d e f g h i j k : Int) (s : ByteArray) (H : Heap) : AC tbl 151 [.agg #[.int .i64 a, .int .i64 b, .int .i64 c, .int .i64 d, .int .i64 e, .int .i64 f, .int .i64 g, .int .i64 h, .int .i64 i, .int .i64 j, .int .i64 k, .string s]] H =
    some (.int .i64 (if (⟨a, b, c, d, e, f, g, h, i, j, k, s⟩ : Fr).Ok then 0 else 1), H) := f151 ⟨a, b, c, d, e, f, g, h, i, j, k, s⟩ H

/-- A right beacon. -/
def Fr.Bcn (f : Fr) : Prop := f.kind = 3 ∧ f.Ok
instance (f : Fr) : Decidable f.Bcn := by unfold Fr.Bcn; infer_instance
theorem ite01 {p : Prop} {hp : Decidable p} : ((@ite Int p hp 0 1) = 0) = p := by
  by_cases h : p <;> simp [h]
theorem fr_eta (f : Fr) : (⟨f.kind, f.source, f.target, f.list, f.seq, f.flow, f.number, f.error, f.slot, f.rank, f.epoch, f.data⟩ : Fr) = f := rfl

theorem f149_0 (f : Fr) : AC tbl 149 [f.v] [] = some (.bool (decide f.Bcn), []) := by
  apply AC_eq
  apply AC_wp (F := F149) rfl (by simp [F149]) (.inr rfl)
  unfold F149 Fr.v
  by_cases hk : f.kind = 3
  · have e : f.Bcn = (⟨3, f.source, f.target, f.list, f.seq, f.flow, f.number, f.error, f.slot, f.rank, f.epoch, f.data⟩ : Fr).Ok := by
      unfold Fr.Bcn
      rw [show (f.kind = 3) = True by simp [hk], true_and, ← hk, fr_eta]
    simp only [e]
    (repeat' (first | simp only [↓yaa, ↓yab, ↓yac, ↓yad, ↓yae, ↓yaf, ↓yag, ↓yah, ↓yai, ↓ydb, ↓ydc, ↓ydd, ↓yde, ↓ydf, ↓ydg, ↓yao, ↓yap, ↓ydh, ↓ydi, ↓ydj, ↓ydk, ↓ydl, ↓ydm, ↓ydn, ↓ydo, ↓ydp, ↓yax, yay, yaz, yba, ybb, ybc, ybd, ybe, ybf, ybg, ybh, ybi, ybj, ybk, ybl, ybm, ybn, ybo, ybp, ybq, ybr, ybs, ybt, ybu, ybv, ares, tup, ybw, ybx, yby, argsE, dval, aop, ev, evs, evo, evp, fillL, addrOf, intOf?, ybz, yca, ycb, ycc, ycd, yce, ycf, zah, zag, reduceIte, Nat.reduceEqDiff, ycg, ych, yci, ycj, yck, ycl, ycm, ycn, yco, ycp, ycq, ycr, zap, zao, reduceCtorEq, zbb, zbc, zba, zaz, Nat.reduceAdd, Nat.reduceMul, zaq, zar, eqPtr, zae, zaf, zab, zaa, zac, zad, hload, hstore, zal, zam, Nat.reduceAdd, Nat.reduceLeDiff, zbb, zas, zat, one, zau, zaw, zav, splice, zaj, zak, zab, zaa, ycs, yct, ycu, ycv, ycw, ycx, ycy, ycz, zan, zai, zax, zay, and_self, true_and, and_true, lenV, yda, Nat.le_refl, if_true, ydq, ydr, yds, ne_eq, not_true_eq_false, not_false_eq_true, ← decide_not, Decidable.not_not, ydt, ydu, ydz, ydv, ydw, List.drop_zero, eq_self, Bool.false_eq_true, List.getElem?_toArray, yea, yeb, List.nil_append, List.cons_append, Bool.false_and, Int.reduceEq, Int.reduceLT, Int.reduceLE, Int.reduceNe, zbc, zbb, yec, yed, yee, yef, ydx, ydy, f150e, take12, list12, ite01, *] | refine yeg (fun _ => ?_) (fun _ => ?_) | refine yeh (fun _ => ?_) (fun _ => ?_) | refine yei (fun _ => ?_) (fun _ => ?_) | refine yej (fun _ => ?_) (fun _ => ?_) | refine yek (fun _ => ?_) (fun _ => ?_) | refine yel (fun _ => ?_) (fun _ => ?_)))
  · have e : f.Bcn = False := by unfold Fr.Bcn; simp [hk]
    simp only [e]
    (repeat' (first | simp only [↓yaa, ↓yab, ↓yac, ↓yad, ↓yae, ↓yaf, ↓yag, ↓yah, ↓yai, ↓ydb, ↓ydc, ↓ydd, ↓yde, ↓ydf, ↓ydg, ↓yao, ↓yap, ↓ydh, ↓ydi, ↓ydj, ↓ydk, ↓ydl, ↓ydm, ↓ydn, ↓ydo, ↓ydp, ↓yax, yay, yaz, yba, ybb, ybc, ybd, ybe, ybf, ybg, ybh, ybi, ybj, ybk, ybl, ybm, ybn, ybo, ybp, ybq, ybr, ybs, ybt, ybu, ybv, ares, tup, ybw, ybx, yby, argsE, dval, aop, ev, evs, evo, evp, fillL, addrOf, intOf?, ybz, yca, ycb, ycc, ycd, yce, ycf, zah, zag, reduceIte, Nat.reduceEqDiff, ycg, ych, yci, ycj, yck, ycl, ycm, ycn, yco, ycp, ycq, ycr, zap, zao, reduceCtorEq, zbb, zbc, zba, zaz, Nat.reduceAdd, Nat.reduceMul, zaq, zar, eqPtr, zae, zaf, zab, zaa, zac, zad, hload, hstore, zal, zam, Nat.reduceAdd, Nat.reduceLeDiff, zbb, zas, zat, one, zau, zaw, zav, splice, zaj, zak, zab, zaa, ycs, yct, ycu, ycv, ycw, ycx, ycy, ycz, zan, zai, zax, zay, and_self, true_and, and_true, lenV, yda, Nat.le_refl, if_true, ydq, ydr, yds, ne_eq, not_true_eq_false, not_false_eq_true, ← decide_not, Decidable.not_not, ydt, ydu, ydz, ydv, ydw, List.drop_zero, eq_self, Bool.false_eq_true, List.getElem?_toArray, yea, yeb, List.nil_append, List.cons_append, Bool.false_and, Int.reduceEq, Int.reduceLT, Int.reduceLE, Int.reduceNe, zbc, zbb, yec, yed, yee, yef, ydx, ydy, f150e, take12, list12, ite01, *] | refine yeg (fun _ => ?_) (fun _ => ?_) | refine yeh (fun _ => ?_) (fun _ => ?_) | refine yei (fun _ => ?_) (fun _ => ?_) | refine yej (fun _ => ?_) (fun _ => ?_) | refine yek (fun _ => ?_) (fun _ => ?_) | refine yel (fun _ => ?_) (fun _ => ?_)))
theorem f149 (f : Fr) (H : Heap) : AC tbl 149 [f.v] H = some (.bool (decide f.Bcn), H) := AC_iso (F := F149) rfl (by simp [F149]) rfl rfl rfl (f149_0 f) H
theorem f152_0 (f : Fr) : AC tbl 152 [f.v] [] = some (.bool (decide f.Bcn), []) := by
  apply AC_eq
  apply AC_wp (F := F152) rfl (by simp [F152]) (.inr rfl)
  unfold F152 Fr.v
  by_cases hk : f.kind = 3
  · have e : f.Bcn = (⟨3, f.source, f.target, f.list, f.seq, f.flow, f.number, f.error, f.slot, f.rank, f.epoch, f.data⟩ : Fr).Ok := by
      unfold Fr.Bcn
      rw [show (f.kind = 3) = True by simp [hk], true_and, ← hk, fr_eta]
    simp only [e]
    (repeat' (first | simp only [↓yaa, ↓yab, ↓yac, ↓yad, ↓yae, ↓yaf, ↓yag, ↓yah, ↓yai, ↓ydb, ↓ydc, ↓ydd, ↓yde, ↓ydf, ↓ydg, ↓yao, ↓yap, ↓ydh, ↓ydi, ↓ydj, ↓ydk, ↓ydl, ↓ydm, ↓ydn, ↓ydo, ↓ydp, ↓yax, yay, yaz, yba, ybb, ybc, ybd, ybe, ybf, ybg, ybh, ybi, ybj, ybk, ybl, ybm, ybn, ybo, ybp, ybq, ybr, ybs, ybt, ybu, ybv, ares, tup, ybw, ybx, yby, argsE, dval, aop, ev, evs, evo, evp, fillL, addrOf, intOf?, ybz, yca, ycb, ycc, ycd, yce, ycf, zah, zag, reduceIte, Nat.reduceEqDiff, ycg, ych, yci, ycj, yck, ycl, ycm, ycn, yco, ycp, ycq, ycr, zap, zao, reduceCtorEq, zbb, zbc, zba, zaz, Nat.reduceAdd, Nat.reduceMul, zaq, zar, eqPtr, zae, zaf, zab, zaa, zac, zad, hload, hstore, zal, zam, Nat.reduceAdd, Nat.reduceLeDiff, zbb, zas, zat, one, zau, zaw, zav, splice, zaj, zak, zab, zaa, ycs, yct, ycu, ycv, ycw, ycx, ycy, ycz, zan, zai, zax, zay, and_self, true_and, and_true, lenV, yda, Nat.le_refl, if_true, ydq, ydr, yds, ne_eq, not_true_eq_false, not_false_eq_true, ← decide_not, Decidable.not_not, ydt, ydu, ydz, ydv, ydw, List.drop_zero, eq_self, Bool.false_eq_true, List.getElem?_toArray, yea, yeb, List.nil_append, List.cons_append, Bool.false_and, Int.reduceEq, Int.reduceLT, Int.reduceLE, Int.reduceNe, zbc, zbb, yec, yed, yee, yef, ydx, ydy, f151e, take12, list12, ite01, *] | refine yeg (fun _ => ?_) (fun _ => ?_) | refine yeh (fun _ => ?_) (fun _ => ?_) | refine yei (fun _ => ?_) (fun _ => ?_) | refine yej (fun _ => ?_) (fun _ => ?_) | refine yek (fun _ => ?_) (fun _ => ?_) | refine yel (fun _ => ?_) (fun _ => ?_)))
  · have e : f.Bcn = False := by unfold Fr.Bcn; simp [hk]
    simp only [e]
    (repeat' (first | simp only [↓yaa, ↓yab, ↓yac, ↓yad, ↓yae, ↓yaf, ↓yag, ↓yah, ↓yai, ↓ydb, ↓ydc, ↓ydd, ↓yde, ↓ydf, ↓ydg, ↓yao, ↓yap, ↓ydh, ↓ydi, ↓ydj, ↓ydk, ↓ydl, ↓ydm, ↓ydn, ↓ydo, ↓ydp, ↓yax, yay, yaz, yba, ybb, ybc, ybd, ybe, ybf, ybg, ybh, ybi, ybj, ybk, ybl, ybm, ybn, ybo, ybp, ybq, ybr, ybs, ybt, ybu, ybv, ares, tup, ybw, ybx, yby, argsE, dval, aop, ev, evs, evo, evp, fillL, addrOf, intOf?, ybz, yca, ycb, ycc, ycd, yce, ycf, zah, zag, reduceIte, Nat.reduceEqDiff, ycg, ych, yci, ycj, yck, ycl, ycm, ycn, yco, ycp, ycq, ycr, zap, zao, reduceCtorEq, zbb, zbc, zba, zaz, Nat.reduceAdd, Nat.reduceMul, zaq, zar, eqPtr, zae, zaf, zab, zaa, zac, zad, hload, hstore, zal, zam, Nat.reduceAdd, Nat.reduceLeDiff, zbb, zas, zat, one, zau, zaw, zav, splice, zaj, zak, zab, zaa, ycs, yct, ycu, ycv, ycw, ycx, ycy, ycz, zan, zai, zax, zay, and_self, true_and, and_true, lenV, yda, Nat.le_refl, if_true, ydq, ydr, yds, ne_eq, not_true_eq_false, not_false_eq_true, ← decide_not, Decidable.not_not, ydt, ydu, ydz, ydv, ydw, List.drop_zero, eq_self, Bool.false_eq_true, List.getElem?_toArray, yea, yeb, List.nil_append, List.cons_append, Bool.false_and, Int.reduceEq, Int.reduceLT, Int.reduceLE, Int.reduceNe, zbc, zbb, yec, yed, yee, yef, ydx, ydy, f151e, take12, list12, ite01, *] | refine yeg (fun _ => ?_) (fun _ => ?_) | refine yeh (fun _ => ?_) (fun _ => ?_) | refine yei (fun _ => ?_) (fun _ => ?_) | refine yej (fun _ => ?_) (fun _ => ?_) | refine yek (fun _ => ?_) (fun _ => ?_) | refine yel (fun _ => ?_) (fun _ => ?_)))
theorem f152 (f : Fr) (H : Heap) : AC tbl 152 [f.v] H = some (.bool (decide f.Bcn), H) := AC_iso (F := F152) rfl (by simp [F152]) rfl rfl rfl (f152_0 f) H

/-- Is the first one better? -/
def Fr.better (a b : Fr) : Prop := a.Bcn ∧ b.Bcn ∧ (b.epoch < a.epoch ∨ a.epoch = b.epoch ∧ (a.rank < b.rank ∨ a.rank = b.rank ∧ a.source < b.source))
instance (a b : Fr) : Decidable (a.better b) := by unfold Fr.better; infer_instance
theorem f129_0 (x y : Fr) : AC tbl 129 [x.v, y.v] [] = some (.bool (decide (x.better y)), []) := by
  apply AC_eq
  apply AC_wp (F := F129) rfl (by simp [F129]) (.inr rfl)
  have hx := f149 x
  have hy := f149 y
  unfold F129
  by_cases bx : x.Bcn
  · by_cases bY : y.Bcn
    · have e : x.better y = (y.epoch < x.epoch ∨ x.epoch = y.epoch ∧ (x.rank < y.rank ∨ x.rank = y.rank ∧ x.source < y.source)) := by unfold Fr.better; simp [bx, bY]
      simp only [bx, bY, zbb] at hx hy
      simp only [e]
      clear bx bY e
      unfold Fr.v at *
      (repeat' (first | simp only [↓yaa, ↓yab, ↓yac, ↓yad, ↓yae, ↓yaf, ↓yag, ↓yah, ↓yai, ↓ydb, ↓ydc, ↓ydd, ↓yde, ↓ydf, ↓ydg, ↓yao, ↓yap, ↓ydh, ↓ydi, ↓ydj, ↓ydk, ↓ydl, ↓ydm, ↓ydn, ↓ydo, ↓ydp, ↓yax, yay, yaz, yba, ybb, ybc, ybd, ybe, ybf, ybg, ybh, ybi, ybj, ybk, ybl, ybm, ybn, ybo, ybp, ybq, ybr, ybs, ybt, ybu, ybv, ares, tup, ybw, ybx, yby, argsE, dval, aop, ev, evs, evo, evp, fillL, addrOf, intOf?, ybz, yca, ycb, ycc, ycd, yce, ycf, zah, zag, reduceIte, Nat.reduceEqDiff, ycg, ych, yci, ycj, yck, ycl, ycm, ycn, yco, ycp, ycq, ycr, zap, zao, reduceCtorEq, zbb, zbc, zba, zaz, Nat.reduceAdd, Nat.reduceMul, zaq, zar, eqPtr, zae, zaf, zab, zaa, zac, zad, hload, hstore, zal, zam, Nat.reduceAdd, Nat.reduceLeDiff, zbb, zas, zat, one, zau, zaw, zav, splice, zaj, zak, zab, zaa, ycs, yct, ycu, ycv, ycw, ycx, ycy, ycz, zan, zai, zax, zay, and_self, true_and, and_true, lenV, yda, Nat.le_refl, if_true, ydq, ydr, yds, ne_eq, not_true_eq_false, not_false_eq_true, ← decide_not, Decidable.not_not, ydt, ydu, ydz, ydv, ydw, List.drop_zero, eq_self, Bool.false_eq_true, List.getElem?_toArray, yea, yeb, List.nil_append, List.cons_append, Bool.false_and, Int.reduceEq, Int.reduceLT, Int.reduceLE, Int.reduceNe, zbc, zbb, yec, yed, yee, yef, ydx, ydy, take12, list12, *] | refine yeg (fun _ => ?_) (fun _ => ?_) | refine yeh (fun _ => ?_) (fun _ => ?_) | refine yei (fun _ => ?_) (fun _ => ?_) | refine yej (fun _ => ?_) (fun _ => ?_) | refine yek (fun _ => ?_) (fun _ => ?_) | refine yel (fun _ => ?_) (fun _ => ?_)))
      all_goals ((try simp only [true_and, and_true, false_and, and_false, or_true, true_or, false_or, or_false, not_true_eq_false, not_false_eq_true, and_self, or_self]) <;> first | rfl | (exact vb_t (by omega)) | (exact vb_f (by omega)) | (exact vb_iff (by omega)) | (exfalso; omega))
    · have e : x.better y = False := by unfold Fr.better; simp [bY]
      simp only [bx, bY, zbb, zbc] at hx hy
      simp only [e]
      clear bx bY e
      unfold Fr.v at *
      (repeat' (first | simp only [↓yaa, ↓yab, ↓yac, ↓yad, ↓yae, ↓yaf, ↓yag, ↓yah, ↓yai, ↓ydb, ↓ydc, ↓ydd, ↓yde, ↓ydf, ↓ydg, ↓yao, ↓yap, ↓ydh, ↓ydi, ↓ydj, ↓ydk, ↓ydl, ↓ydm, ↓ydn, ↓ydo, ↓ydp, ↓yax, yay, yaz, yba, ybb, ybc, ybd, ybe, ybf, ybg, ybh, ybi, ybj, ybk, ybl, ybm, ybn, ybo, ybp, ybq, ybr, ybs, ybt, ybu, ybv, ares, tup, ybw, ybx, yby, argsE, dval, aop, ev, evs, evo, evp, fillL, addrOf, intOf?, ybz, yca, ycb, ycc, ycd, yce, ycf, zah, zag, reduceIte, Nat.reduceEqDiff, ycg, ych, yci, ycj, yck, ycl, ycm, ycn, yco, ycp, ycq, ycr, zap, zao, reduceCtorEq, zbb, zbc, zba, zaz, Nat.reduceAdd, Nat.reduceMul, zaq, zar, eqPtr, zae, zaf, zab, zaa, zac, zad, hload, hstore, zal, zam, Nat.reduceAdd, Nat.reduceLeDiff, zbb, zas, zat, one, zau, zaw, zav, splice, zaj, zak, zab, zaa, ycs, yct, ycu, ycv, ycw, ycx, ycy, ycz, zan, zai, zax, zay, and_self, true_and, and_true, lenV, yda, Nat.le_refl, if_true, ydq, ydr, yds, ne_eq, not_true_eq_false, not_false_eq_true, ← decide_not, Decidable.not_not, ydt, ydu, ydz, ydv, ydw, List.drop_zero, eq_self, Bool.false_eq_true, List.getElem?_toArray, yea, yeb, List.nil_append, List.cons_append, Bool.false_and, Int.reduceEq, Int.reduceLT, Int.reduceLE, Int.reduceNe, zbc, zbb, yec, yed, yee, yef, ydx, ydy, take12, list12, *] | refine yeg (fun _ => ?_) (fun _ => ?_) | refine yeh (fun _ => ?_) (fun _ => ?_) | refine yei (fun _ => ?_) (fun _ => ?_) | refine yej (fun _ => ?_) (fun _ => ?_) | refine yek (fun _ => ?_) (fun _ => ?_) | refine yel (fun _ => ?_) (fun _ => ?_)))
  · have e : x.better y = False := by unfold Fr.better; simp [bx]
    simp only [bx, zbc] at hx
    simp only [e]
    clear bx e
    unfold Fr.v at *
    (repeat' (first | simp only [↓yaa, ↓yab, ↓yac, ↓yad, ↓yae, ↓yaf, ↓yag, ↓yah, ↓yai, ↓ydb, ↓ydc, ↓ydd, ↓yde, ↓ydf, ↓ydg, ↓yao, ↓yap, ↓ydh, ↓ydi, ↓ydj, ↓ydk, ↓ydl, ↓ydm, ↓ydn, ↓ydo, ↓ydp, ↓yax, yay, yaz, yba, ybb, ybc, ybd, ybe, ybf, ybg, ybh, ybi, ybj, ybk, ybl, ybm, ybn, ybo, ybp, ybq, ybr, ybs, ybt, ybu, ybv, ares, tup, ybw, ybx, yby, argsE, dval, aop, ev, evs, evo, evp, fillL, addrOf, intOf?, ybz, yca, ycb, ycc, ycd, yce, ycf, zah, zag, reduceIte, Nat.reduceEqDiff, ycg, ych, yci, ycj, yck, ycl, ycm, ycn, yco, ycp, ycq, ycr, zap, zao, reduceCtorEq, zbb, zbc, zba, zaz, Nat.reduceAdd, Nat.reduceMul, zaq, zar, eqPtr, zae, zaf, zab, zaa, zac, zad, hload, hstore, zal, zam, Nat.reduceAdd, Nat.reduceLeDiff, zbb, zas, zat, one, zau, zaw, zav, splice, zaj, zak, zab, zaa, ycs, yct, ycu, ycv, ycw, ycx, ycy, ycz, zan, zai, zax, zay, and_self, true_and, and_true, lenV, yda, Nat.le_refl, if_true, ydq, ydr, yds, ne_eq, not_true_eq_false, not_false_eq_true, ← decide_not, Decidable.not_not, ydt, ydu, ydz, ydv, ydw, List.drop_zero, eq_self, Bool.false_eq_true, List.getElem?_toArray, yea, yeb, List.nil_append, List.cons_append, Bool.false_and, Int.reduceEq, Int.reduceLT, Int.reduceLE, Int.reduceNe, zbc, zbb, yec, yed, yee, yef, ydx, ydy, take12, list12, *] | refine yeg (fun _ => ?_) (fun _ => ?_) | refine yeh (fun _ => ?_) (fun _ => ?_) | refine yei (fun _ => ?_) (fun _ => ?_) | refine yej (fun _ => ?_) (fun _ => ?_) | refine yek (fun _ => ?_) (fun _ => ?_) | refine yel (fun _ => ?_) (fun _ => ?_)))
theorem f129 (x y : Fr) (H : Heap) : AC tbl 129 [x.v, y.v] H = some (.bool (decide (x.better y)), H) := AC_iso (F := F129) rfl (by simp [F129]) rfl rfl rfl (f129_0 x y) H
theorem f133_0 (x y : Fr) : AC tbl 133 [x.v, y.v] [] = some (.bool (decide (x.better y)), []) := by
  apply AC_eq
  apply AC_wp (F := F133) rfl (by simp [F133]) (.inr rfl)
  have hx := f152 x
  have hy := f152 y
  unfold F133
  by_cases bx : x.Bcn
  · by_cases bY : y.Bcn
    · have e : x.better y = (y.epoch < x.epoch ∨ x.epoch = y.epoch ∧ (x.rank < y.rank ∨ x.rank = y.rank ∧ x.source < y.source)) := by unfold Fr.better; simp [bx, bY]
      simp only [bx, bY, zbb] at hx hy
      simp only [e]
      clear bx bY e
      unfold Fr.v at *
      (repeat' (first | simp only [↓yaa, ↓yab, ↓yac, ↓yad, ↓yae, ↓yaf, ↓yag, ↓yah, ↓yai, ↓ydb, ↓ydc, ↓ydd, ↓yde, ↓ydf, ↓ydg, ↓yao, ↓yap, ↓ydh, ↓ydi, ↓ydj, ↓ydk, ↓ydl, ↓ydm, ↓ydn, ↓ydo, ↓ydp, ↓yax, yay, yaz, yba, ybb, ybc, ybd, ybe, ybf, ybg, ybh, ybi, ybj, ybk, ybl, ybm, ybn, ybo, ybp, ybq, ybr, ybs, ybt, ybu, ybv, ares, tup, ybw, ybx, yby, argsE, dval, aop, ev, evs, evo, evp, fillL, addrOf, intOf?, ybz, yca, ycb, ycc, ycd, yce, ycf, zah, zag, reduceIte, Nat.reduceEqDiff, ycg, ych, yci, ycj, yck, ycl, ycm, ycn, yco, ycp, ycq, ycr, zap, zao, reduceCtorEq, zbb, zbc, zba, zaz, Nat.reduceAdd, Nat.reduceMul, zaq, zar, eqPtr, zae, zaf, zab, zaa, zac, zad, hload, hstore, zal, zam, Nat.reduceAdd, Nat.reduceLeDiff, zbb, zas, zat, one, zau, zaw, zav, splice, zaj, zak, zab, zaa, ycs, yct, ycu, ycv, ycw, ycx, ycy, ycz, zan, zai, zax, zay, and_self, true_and, and_true, lenV, yda, Nat.le_refl, if_true, ydq, ydr, yds, ne_eq, not_true_eq_false, not_false_eq_true, ← decide_not, Decidable.not_not, ydt, ydu, ydz, ydv, ydw, List.drop_zero, eq_self, Bool.false_eq_true, List.getElem?_toArray, yea, yeb, List.nil_append, List.cons_append, Bool.false_and, Int.reduceEq, Int.reduceLT, Int.reduceLE, Int.reduceNe, zbc, zbb, yec, yed, yee, yef, ydx, ydy, take12, list12, *] | refine yeg (fun _ => ?_) (fun _ => ?_) | refine yeh (fun _ => ?_) (fun _ => ?_) | refine yei (fun _ => ?_) (fun _ => ?_) | refine yej (fun _ => ?_) (fun _ => ?_) | refine yek (fun _ => ?_) (fun _ => ?_) | refine yel (fun _ => ?_) (fun _ => ?_)))
      all_goals ((try simp only [true_and, and_true, false_and, and_false, or_true, true_or, false_or, or_false, not_true_eq_false, not_false_eq_true, and_self, or_self]) <;> first | rfl | (exact vb_t (by omega)) | (exact vb_f (by omega)) | (exact vb_iff (by omega)) | (exfalso; omega))
    · have e : x.better y = False := by unfold Fr.better; simp [bY]
      simp only [bx, bY, zbb, zbc] at hx hy
      simp only [e]
      clear bx bY e
      unfold Fr.v at *
      (repeat' (first | simp only [↓yaa, ↓yab, ↓yac, ↓yad, ↓yae, ↓yaf, ↓yag, ↓yah, ↓yai, ↓ydb, ↓ydc, ↓ydd, ↓yde, ↓ydf, ↓ydg, ↓yao, ↓yap, ↓ydh, ↓ydi, ↓ydj, ↓ydk, ↓ydl, ↓ydm, ↓ydn, ↓ydo, ↓ydp, ↓yax, yay, yaz, yba, ybb, ybc, ybd, ybe, ybf, ybg, ybh, ybi, ybj, ybk, ybl, ybm, ybn, ybo, ybp, ybq, ybr, ybs, ybt, ybu, ybv, ares, tup, ybw, ybx, yby, argsE, dval, aop, ev, evs, evo, evp, fillL, addrOf, intOf?, ybz, yca, ycb, ycc, ycd, yce, ycf, zah, zag, reduceIte, Nat.reduceEqDiff, ycg, ych, yci, ycj, yck, ycl, ycm, ycn, yco, ycp, ycq, ycr, zap, zao, reduceCtorEq, zbb, zbc, zba, zaz, Nat.reduceAdd, Nat.reduceMul, zaq, zar, eqPtr, zae, zaf, zab, zaa, zac, zad, hload, hstore, zal, zam, Nat.reduceAdd, Nat.reduceLeDiff, zbb, zas, zat, one, zau, zaw, zav, splice, zaj, zak, zab, zaa, ycs, yct, ycu, ycv, ycw, ycx, ycy, ycz, zan, zai, zax, zay, and_self, true_and, and_true, lenV, yda, Nat.le_refl, if_true, ydq, ydr, yds, ne_eq, not_true_eq_false, not_false_eq_true, ← decide_not, Decidable.not_not, ydt, ydu, ydz, ydv, ydw, List.drop_zero, eq_self, Bool.false_eq_true, List.getElem?_toArray, yea, yeb, List.nil_append, List.cons_append, Bool.false_and, Int.reduceEq, Int.reduceLT, Int.reduceLE, Int.reduceNe, zbc, zbb, yec, yed, yee, yef, ydx, ydy, take12, list12, *] | refine yeg (fun _ => ?_) (fun _ => ?_) | refine yeh (fun _ => ?_) (fun _ => ?_) | refine yei (fun _ => ?_) (fun _ => ?_) | refine yej (fun _ => ?_) (fun _ => ?_) | refine yek (fun _ => ?_) (fun _ => ?_) | refine yel (fun _ => ?_) (fun _ => ?_)))
  · have e : x.better y = False := by unfold Fr.better; simp [bx]
    simp only [bx, zbc] at hx
    simp only [e]
    clear bx e
    unfold Fr.v at *
    (repeat' (first | simp only [↓yaa, ↓yab, ↓yac, ↓yad, ↓yae, ↓yaf, ↓yag, ↓yah, ↓yai, ↓ydb, ↓ydc, ↓ydd, ↓yde, ↓ydf, ↓ydg, ↓yao, ↓yap, ↓ydh, ↓ydi, ↓ydj, ↓ydk, ↓ydl, ↓ydm, ↓ydn, ↓ydo, ↓ydp, ↓yax, yay, yaz, yba, ybb, ybc, ybd, ybe, ybf, ybg, ybh, ybi, ybj, ybk, ybl, ybm, ybn, ybo, ybp, ybq, ybr, ybs, ybt, ybu, ybv, ares, tup, ybw, ybx, yby, argsE, dval, aop, ev, evs, evo, evp, fillL, addrOf, intOf?, ybz, yca, ycb, ycc, ycd, yce, ycf, zah, zag, reduceIte, Nat.reduceEqDiff, ycg, ych, yci, ycj, yck, ycl, ycm, ycn, yco, ycp, ycq, ycr, zap, zao, reduceCtorEq, zbb, zbc, zba, zaz, Nat.reduceAdd, Nat.reduceMul, zaq, zar, eqPtr, zae, zaf, zab, zaa, zac, zad, hload, hstore, zal, zam, Nat.reduceAdd, Nat.reduceLeDiff, zbb, zas, zat, one, zau, zaw, zav, splice, zaj, zak, zab, zaa, ycs, yct, ycu, ycv, ycw, ycx, ycy, ycz, zan, zai, zax, zay, and_self, true_and, and_true, lenV, yda, Nat.le_refl, if_true, ydq, ydr, yds, ne_eq, not_true_eq_false, not_false_eq_true, ← decide_not, Decidable.not_not, ydt, ydu, ydz, ydv, ydw, List.drop_zero, eq_self, Bool.false_eq_true, List.getElem?_toArray, yea, yeb, List.nil_append, List.cons_append, Bool.false_and, Int.reduceEq, Int.reduceLT, Int.reduceLE, Int.reduceNe, zbc, zbb, yec, yed, yee, yef, ydx, ydy, take12, list12, *] | refine yeg (fun _ => ?_) (fun _ => ?_) | refine yeh (fun _ => ?_) (fun _ => ?_) | refine yei (fun _ => ?_) (fun _ => ?_) | refine yej (fun _ => ?_) (fun _ => ?_) | refine yek (fun _ => ?_) (fun _ => ?_) | refine yel (fun _ => ?_) (fun _ => ?_)))
theorem f133 (x y : Fr) (H : Heap) : AC tbl 133 [x.v, y.v] H = some (.bool (decide (x.better y)), H) := AC_iso (F := F133) rfl (by simp [F133]) rfl rfl rfl (f133_0 x y) H

end Go.Proofs.Ytejcabdejoameaa.AI

/- The arguments of the laws over offers, frames and tables. -/
set_option linter.unusedSimpArgs false
namespace Go.Proofs.Ytejcabdejoameaa.AI
open Go Go.ChangeShapes Go.WideShapes Go.ChangeAt Go.RowKit

abbrev LI : Leaf := .int .i64
structure Fr.I64 (f : Fr) : Prop where
  kind : Is64 f.kind
  source : Is64 f.source
  target : Is64 f.target
  list : Is64 f.list
  seq : Is64 f.seq
  flow : Is64 f.flow
  number : Is64 f.number
  error : Is64 f.error
  slot : Is64 f.slot
  rank : Is64 f.rank
  epoch : Is64 f.epoch
def frLeaves : List Leaf := [LI, LI, LI, LI, LI, LI, LI, LI, LI, LI, LI, .str]
theorem fr_open {W : World} {cs : List Value} (hl : cs.length = frLeaves.length) (h : ∀ (i : Nat) (l : Leaf) (c : Value), frLeaves[i]? = some l → cs[i]? = some c → isL W l c) : ∃ f : Fr, cs = f.cells ∧ f.I64 := by
  match cs, hl with
  | [c0, c1, c2, c3, c4, c5, c6, c7, c8, c9, c10, c11], _ =>
    obtain ⟨n0, rfl, w0⟩ := h 0 LI c0 rfl rfl
    obtain ⟨n1, rfl, w1⟩ := h 1 LI c1 rfl rfl
    obtain ⟨n2, rfl, w2⟩ := h 2 LI c2 rfl rfl
    obtain ⟨n3, rfl, w3⟩ := h 3 LI c3 rfl rfl
    obtain ⟨n4, rfl, w4⟩ := h 4 LI c4 rfl rfl
    obtain ⟨n5, rfl, w5⟩ := h 5 LI c5 rfl rfl
    obtain ⟨n6, rfl, w6⟩ := h 6 LI c6 rfl rfl
    obtain ⟨n7, rfl, w7⟩ := h 7 LI c7 rfl rfl
    obtain ⟨n8, rfl, w8⟩ := h 8 LI c8 rfl rfl
    obtain ⟨n9, rfl, w9⟩ := h 9 LI c9 rfl rfl
    obtain ⟨n10, rfl, w10⟩ := h 10 LI c10 rfl rfl
    obtain ⟨s, rfl, _⟩ := h 11 .str c11 rfl rfl
    exact ⟨⟨n0, n1, n2, n3, n4, n5, n6, n7, n8, n9, n10, s⟩, rfl, ⟨i64_wf w0, i64_wf w1, i64_wf w2, i64_wf w3, i64_wf w4, i64_wf w5, i64_wf w6, i64_wf w7, i64_wf w8, i64_wf w9, i64_wf w10⟩⟩

def offLeaves : List Leaf := [LI, .bool, .str, LI, LI, LI, .sl [LI]]
theorem off_open {W : World} {cs : List Value} (hl : cs.length = offLeaves.length) (h : ∀ (i : Nat) (l : Leaf) (c : Value), offLeaves[i]? = some l → cs[i]? = some c → isL W l c) :
    ∃ (root : Int) (opn : Bool) (run : ByteArray) (ver first til : Int) (c : Value), cs = [.int .i64 root, .bool opn, .string run, .int .i64 ver, .int .i64 first, .int .i64 til, c] ∧ isL W (.sl [LI]) c ∧ Is64 root ∧ Is64 ver ∧ Is64 first ∧ Is64 til := by
  match cs, hl with
  | [c0, c1, c2, c3, c4, c5, c6], _ =>
    obtain ⟨n0, rfl, w0⟩ := h 0 LI c0 rfl rfl
    obtain ⟨b, rfl⟩ := h 1 .bool c1 rfl rfl
    obtain ⟨s, rfl, _⟩ := h 2 .str c2 rfl rfl
    obtain ⟨n3, rfl, w3⟩ := h 3 LI c3 rfl rfl
    obtain ⟨n4, rfl, w4⟩ := h 4 LI c4 rfl rfl
    obtain ⟨n5, rfl, w5⟩ := h 5 LI c5 rfl rfl
    exact ⟨n0, b, s, n3, n4, n5, c6, rfl, h 6 (.sl [LI]) c6 rfl rfl, i64_wf w0, i64_wf w3, i64_wf w4, i64_wf w5⟩

/-- A nil slice has nothing. -/
def NilOk (a : Option Addr) (z n : Nat) : Prop := a = none → z = 0 ∧ n = 0
theorem ints_slice {H : Heap} {rows : List (List Value)} {av : Value} {blk : Option Blk} (h : AbsSlice H.length [LI] rows av blk) (hr : ∀ r ∈ rows, RowOf [LI] r) :
    ∃ (l : List Int) (a : Option Addr) (z : Nat), av = .slice a l.length z ∧ SI (H ++ [blk]) a z l ∧ (∀ x ∈ l, Is64 x) ∧ NilOk a z l.length := by
  obtain ⟨l, rfl, hl⟩ := rows_list (cells := fun x : Int => [Value.int .i64 x]) (ok := Is64) (fun r hm => by
    obtain ⟨h1, h2⟩ := hr r hm
    match r, h1 with
    | [c], _ =>
      obtain ⟨n, rfl, w⟩ := h2 0 LI c rfl rfl
      exact ⟨n, rfl, i64_wf w⟩)
  rcases h with ⟨rfl, h0⟩ | ⟨rfl, h0⟩
  · have : l = [] := by simpa using h0
    subst this
    exact ⟨[], none, 0, rfl, SI.nil, hl, fun _ => ⟨rfl, rfl⟩⟩
  · refine ⟨l, some ⟨H.length, 0, none⟩, 1, by simp, ?_, hl, fun h => by simp at h⟩
    rcases h0 with h0 | h0
    · have : l = [] := by simpa using h0
      subst this; exact SI.nil
    · subst h0
      intro i x hx
      refine ⟨H.length, 0, false, _, rfl, rfl, hget_push, ?_⟩
      have : ∀ (m : List Int), (m.map fun x : Int => [Value.int .i64 x]).flatten = m.map fun x => .int .i64 x := by
        intro m; induction m with
        | nil => rfl
        | cons a m ih => simp [ih]
      rw [this, zaz, List.getElem?_map, hx]; rfl

/-- An offer among the arguments. -/
theorem off_arg {W : World} {B : Map} {H : Heap} {cs : List Value} (hl : cs.length = offLeaves.length) (h : ∀ (i : Nat) (l : Leaf) (c : Value), offLeaves[i]? = some l → cs[i]? = some c → isL W l c)
    (hr : HR sig W.heap.size B H W) (hro : ∀ i b, hget H i = some b → b.rw = false) :
    ∃ (o : Off) (a : Option Addr) (z : Nat) (B' : Map) (blk : Option Blk), VR sig B' (o.v a z) (.agg cs.toArray) ∧ Ext B B' ∧ HR sig W.heap.size B' (H ++ [blk]) W ∧ (∀ i b, hget (H ++ [blk]) i = some b → b.rw = false) ∧ SI (H ++ [blk]) a z o.next.ch ∧ o.Ok64 ∧ NilOk a z o.next.ch.length := by
  obtain ⟨root, opn, run, ver, first, til, c, rfl, hc, w0, w1, w2, w3⟩ := off_open hl h
  obtain ⟨av, B', blk, rows, h1, h2, h3, h4, h5, h6⟩ := add_slice hc (by decide) hr hro
  obtain ⟨l, a, z, rfl, h7, h8, h9⟩ := ints_slice h5 h6
  refine ⟨⟨root, opn, run, ⟨ver, first, til, l⟩⟩, a, z, B', blk, ?_, h2, h3, h4, h7, ⟨w0, w1, w2, w3, h8⟩, h9⟩
  exact VR.agg' (.cons (.atom _ rfl) (.cons (.atom _ rfl) (.cons (.atom _ rfl) (.cons (.atom _ rfl) (.cons (.atom _ rfl) (.cons (.atom _ rfl) (.cons h1 .nil)))))))
theorem fr_vr {B : Map} (f : Fr) : VR sig B f.v (.agg f.cells.toArray) :=
  VR.agg' (.cons (.atom _ rfl) (.cons (.atom _ rfl) (.cons (.atom _ rfl) (.cons (.atom _ rfl) (.cons (.atom _ rfl) (.cons (.atom _ rfl) (.cons (.atom _ rfl) (.cons (.atom _ rfl) (.cons (.atom _ rfl) (.cons (.atom _ rfl) (.cons (.atom _ rfl) (.cons (.atom _ rfl) .nil))))))))))))

/-- Nothing yet. -/
theorem HR0 (W : World) : HR sig W.heap.size (fun _ => none) [] W := HR.nothing (w := W) (Nat.le_refl _)
theorem ro0 : ∀ (i : Nat) (b : Blk), hget [] i = some b → b.rw = false := fun i b hi => by simp [hget] at hi

/-- The offer is read once more. -/
theorem Same1_off {H : Heap} {a : Option Addr} {z n : Nat} {r v f t : Int} {o : Bool} {s : ByteArray} (h : NilOk a z n) :
    Same1 (.agg #[.int .i64 r, .bool o, .string s, .int .i64 v, .int .i64 f, .int .i64 t, .slice a n z]) (some (.agg #[.int .i64 r, .bool o, .string s, .int .i64 v, .int .i64 f, .int .i64 t, .slice a n z], H)) = True := by
  cases a with
  | none =>
    obtain ⟨rfl, rfl⟩ := h rfl
    simp [Same1, sameV, sameV.sameL]
  | some a => simp [Same1, sameV, sameV.sameL]
theorem Same1_fr {H : Heap} {a b c d e f g h i j k : Int} {s : ByteArray} :
    Same1 (.agg #[.int .i64 a, .int .i64 b, .int .i64 c, .int .i64 d, .int .i64 e, .int .i64 f, .int .i64 g, .int .i64 h, .int .i64 i, .int .i64 j, .int .i64 k, .string s]) (some (.agg #[.int .i64 a, .int .i64 b, .int .i64 c, .int .i64 d, .int .i64 e, .int .i64 f, .int .i64 g, .int .i64 h, .int .i64 i, .int .i64 j, .int .i64 k, .string s], H)) = True := by
  simp [Same1, sameV, sameV.sameL]

end Go.Proofs.Ytejcabdejoameaa.AI

/- Hopping lists that are read. -/
set_option linter.unusedSimpArgs false
set_option maxHeartbeats 4000000
namespace Go.Proofs.Ytejcabdejoameaa.AI
open Go

/-- Some numbers of 4 bits. -/
def rdN (r : RS) : Nat → List Int × RS
  | 0 => ([], r)
  | n + 1 => ((rdN r n).1 ++ [((rdN r n).2.unsigned 4).1], ((rdN r n).2.unsigned 4).2)
theorem rdN_length (r : RS) : ∀ n, (rdN r n).1.length = n := by
  intro n; induction n with
  | zero => rfl
  | succ n ih => simp [rdN, ih]
theorem rdN_ok {r : RS} (h : r.Ok) : ∀ n, (rdN r n).2.Ok := by
  intro n; induction n with
  | zero => exact h
  | succ n ih => exact unsigned_ok ih 4
/-- A hopping list. -/
def RS.hop (r : RS) : HopL × RS :=
  let v := r.unsigned 8; let f := v.2.unsigned 27; let t := f.2.unsigned 27; let n := t.2.unsigned 4
  let l := rdN n.2 (n.1 + 1).toNat
  (⟨v.1, f.1, t.1, l.1⟩, l.2)
theorem hop_ok {r : RS} (h : r.Ok) : r.hop.2.Ok := rdN_ok (unsigned_ok (unsigned_ok (unsigned_ok (unsigned_ok h 8) 27) 27) 4) _
theorem unsigned_lt (r : RS) (w : Int) (hw : w ≤ 63) : 0 ≤ (r.unsigned w).1 ∧ (r.unsigned w).1 < 2 ^ w.toNat := by
  unfold RS.unsigned
  have h0 : (0 : Int) < 2 ^ w.toNat := by have := pow_pos' w.toNat; omega
  simp only
  unfold RS.field
  split
  · exact ⟨by simp, by simpa using h0⟩
  · split
    · exact ⟨by simp, by simpa using h0⟩
    · split
      · exact ⟨by simp, by simpa using h0⟩
      · have := valOf_lt r.s r.at_ w.toNat
        simp only
        refine ⟨by omega, ?_⟩
        rw [pow_cast]; omega

/-- A slice of numbers that grows. -/
def GS (H : Heap) (s : Option Nat) (l : List Int) : Prop := (s = none → l = []) ∧ ∀ k, s = some k → hget H k = some ⟨true, l.map fun x : Int => Value.int .i64 x⟩
def gsv (s : Option Nat) (l : List Int) : Value := match s with
  | none => .slice none 0 0
  | some k => .slice (some ⟨k, 0, none⟩) l.length 1
theorem GS.si {H : Heap} {s : Option Nat} {l : List Int} (h : GS H s l) : ∃ a z, gsv s l = .slice a l.length z ∧ SI H a z l ∧ (a = none → z = 0 ∧ l.length = 0) := by
  cases s with
  | none =>
    obtain rfl := h.1 rfl
    exact ⟨none, 0, rfl, SI.nil, fun _ => ⟨rfl, rfl⟩⟩
  | some k =>
    refine ⟨some ⟨k, 0, none⟩, 1, rfl, fun i x hx => ⟨k, 0, true, _, rfl, rfl, h.2 k rfl, ?_⟩, fun h => by simp at h⟩
    rw [zaz, List.getElem?_map, hx]; rfl
theorem ints_length (l : List Int) : (l.map fun x : Int => Value.int .i64 x).length = l.length := by simp
theorem ints_append (l : List Int) (x : Int) : (l.map fun x : Int => Value.int .i64 x) ++ [Value.int .i64 x] = (l ++ [x]).map fun x : Int => Value.int .i64 x := by simp

/-- A slice's block is new. -/
def Nw (a : Option Addr) (n : Nat) : Prop := ∀ b o, a = some ⟨b, o, none⟩ → n ≤ b
theorem Nw.ne {a : Option Addr} {n m : Nat} (h : Nw a n) (hm : m < n) : ∀ b o, a = some ⟨b, o, none⟩ → b ∉ [m] := fun b o hb => by have := h b o hb; simp; omega
theorem f147 {H : Heap} {p : Nat} {r : RS} (h : RSt H p r) (ho : r.Ok) {K : Value → Heap → Prop}
    (hk : ∀ H' a z, RSt H' p r.hop.2 → Frm [p] H H' → SI H' a z r.hop.1.ch → (a = none → z = 0 ∧ r.hop.1.ch.length = 0) → Nw a H.length → K (r.hop.1.v a z) H') :
    Op1 (AC tbl 147 [.func (.func 40) #[.pointer (some ⟨p, 0, none⟩)] #[]] H) K := by
  apply AC_wp (F := F147) rfl (by simp [F147]) (.inl rfl)
  have happ : ∀ v w : Value, #[v].toList ++ [w] ++ #[].toList = [v, w] := fun _ _ => rfl
  have hpl := h.lt
  have h1 : RSt (H ++ [some ⟨true, [.int .i64 0, .int .i64 0, .int .i64 0, .slice none 0 0]⟩]) p r := by unfold RSt; rw [hget_append_lt hpl]; exact h
  have f1 : Frm [p] H (H ++ [some ⟨true, [.int .i64 0, .int .i64 0, .int .i64 0, .slice none 0 0]⟩]) := (Frm.refl _ _).push _
  have g2 : hget (H ++ [some ⟨true, [.int .i64 0, .int .i64 0, .int .i64 0, .slice none 0 0]⟩]) H.length = some ⟨true, [.int .i64 0, .int .i64 0, .int .i64 0, .slice none 0 0]⟩ := ydu
  have l1 : (H ++ [some (⟨true, [.int .i64 0, .int .i64 0, .int .i64 0, .slice none 0 0]⟩ : Blk)]).length = H.length + 1 := by simp
  simp only [F147, ↓yaa, ↓yab, ↓yac, ↓yad, ↓yae, ↓yaf, ↓yag, ↓yah, ↓yai, ↓ydb, ↓ydc, ↓ydd, ↓yde, ↓ydf, ↓ydg, ↓yao, ↓yap, ↓ydh, ↓ydi, ↓ydj, ↓ydk, ↓ydl, ↓ydm, ↓ydn, ↓ydo, ↓ydp, ↓yax, yay, yaz, yba, ybb, ybc, ybd, ybe, ybf, ybg, ybh, ybi, ybj, ybk, ybl, ybm, ybn, ybo, ybp, ybq, ybr, ybs, ybt, ybu, ybv, ares, tup, ybw, ybx, yby, argsE, dval, aop, ev, evs, evo, evp, fillL, addrOf, intOf?, ybz, yca, ycb, ycc, ycd, yce, ycf, zah, zag, reduceIte, Nat.reduceEqDiff, ycg, ych, yci, ycj, yck, ycl, ycm, ycn, yco, ycp, ycq, ycr, zap, zao, reduceCtorEq, zbb, zbc, zba, zaz, Nat.reduceAdd, Nat.reduceMul, zaq, zar, eqPtr, zae, zaf, zab, zaa, zac, zad, hload, hstore, zal, zam, Nat.reduceAdd, Nat.reduceLeDiff, zbb, zas, zat, one, zau, zaw, zav, splice, zaj, zak, zab, zaa, ycs, yct, ycu, ycv, ycw, ycx, ycy, ycz, zan, zai, zax, zay, and_self, true_and, and_true, lenV, yda, Nat.le_refl, if_true, ydq, ydr, yds, ne_eq, not_true_eq_false, not_false_eq_true, ← decide_not, Decidable.not_not, ydt, ydu, ydz, ydv, ydw, List.drop_zero, eq_self, Bool.false_eq_true, List.getElem?_toArray, yea, yeb, List.nil_append, List.cons_append, Bool.false_and, Int.reduceEq, Int.reduceLT, Int.reduceLE, Int.reduceNe, zbc, zbb, yec, yed, yee, yef, ydx, ydy]
  generalize H ++ [some (⟨true, [.int .i64 0, .int .i64 0, .int .i64 0, .slice none 0 0]⟩ : Blk)] = G at *
  have e1 := runsigned_spec (w := 8) h1 ho
  have o1 := unsigned_ok ho 8
  have e2 := runsigned_spec (w := 27) (setR_st h1.lt (r.unsigned 8).2) o1
  have o2 := unsigned_ok o1 27
  rw [setR_setR] at e2
  have e3 := runsigned_spec (w := 27) (setR_st h1.lt ((r.unsigned 8).2.unsigned 27).2) o2
  have o3 := unsigned_ok o2 27
  rw [setR_setR] at e3
  unfold RS.hop at hk
  simp only at hk
  generalize hv : (r.unsigned 8).1 = ver at *
  generalize (r.unsigned 8).2 = r1 at *
  generalize hf : (r1.unsigned 27).1 = first at *
  generalize (r1.unsigned 27).2 = r2 at *
  generalize ht : (r2.unsigned 27).1 = til at *
  generalize (r2.unsigned 27).2 = r3 at *
  simp only [↓yaa, ↓yab, ↓yac, ↓yad, ↓yae, ↓yaf, ↓yag, ↓yah, ↓yai, ↓ydb, ↓ydc, ↓ydd, ↓yde, ↓ydf, ↓ydg, ↓yao, ↓yap, ↓ydh, ↓ydi, ↓ydj, ↓ydk, ↓ydl, ↓ydm, ↓ydn, ↓ydo, ↓ydp, ↓yax, yay, yaz, yba, ybb, ybc, ybd, ybe, ybf, ybg, ybh, ybi, ybj, ybk, ybl, ybm, ybn, ybo, ybp, ybq, ybr, ybs, ybt, ybu, ybv, ares, tup, ybw, ybx, yby, argsE, dval, aop, ev, evs, evo, evp, fillL, addrOf, intOf?, ybz, yca, ycb, ycc, ycd, yce, ycf, zah, zag, reduceIte, Nat.reduceEqDiff, ycg, ych, yci, ycj, yck, ycl, ycm, ycn, yco, ycp, ycq, ycr, zap, zao, reduceCtorEq, zbb, zbc, zba, zaz, Nat.reduceAdd, Nat.reduceMul, zaq, zar, eqPtr, zae, zaf, zab, zaa, zac, zad, hload, hstore, zal, zam, Nat.reduceAdd, Nat.reduceLeDiff, zbb, zas, zat, one, zau, zaw, zav, splice, zaj, zak, zab, zaa, ycs, yct, ycu, ycv, ycw, ycx, ycy, ycz, zan, zai, zax, zay, and_self, true_and, and_true, lenV, yda, Nat.le_refl, if_true, ydq, ydr, yds, ne_eq, not_true_eq_false, not_false_eq_true, ← decide_not, Decidable.not_not, ydt, ydu, ydz, ydv, ydw, List.drop_zero, eq_self, Bool.false_eq_true, List.getElem?_toArray, yea, yeb, List.nil_append, List.cons_append, Bool.false_and, Int.reduceEq, Int.reduceLT, Int.reduceLE, Int.reduceNe, zbc, zbb, yec, yed, yee, yef, ydx, ydy, happ, e1, e2, e3, setR_length, l1]
  have h4 : RSt (setR G p r3 ++ [some ⟨true, [.int .i64 ver, .int .i64 first, .int .i64 til, .slice none 0 0]⟩]) p r3 := by unfold RSt; rw [hget_append_lt (by rw [setR_length]; exact h1.lt)]; exact setR_st h1.lt r3
  have e4 := runsigned_spec (w := 4) h4 o3
  have o4 := unsigned_ok o3 4
  have n4 := unsigned_lt r3 4 (by omega)
  have g3 : hget (setR G p r3 ++ [some ⟨true, [.int .i64 ver, .int .i64 first, .int .i64 til, .slice none 0 0]⟩]) (H.length + 1) = some ⟨true, [.int .i64 ver, .int .i64 first, .int .i64 til, .slice none 0 0]⟩ := by
    rw [hget_app, setR_length, l1, if_neg (zax _), if_pos rfl]
  have g2' : hget (setR G p r3 ++ [some ⟨true, [.int .i64 ver, .int .i64 first, .int .i64 til, .slice none 0 0]⟩]) H.length = some ⟨true, [.int .i64 0, .int .i64 0, .int .i64 0, .slice none 0 0]⟩ := by
    rw [hget_append_lt (by rw [setR_length]; omega), hget_setR_ne (by omega)]; exact g2
  have f4 : Frm [p] H (setR G p r3 ++ [some ⟨true, [.int .i64 ver, .int .i64 first, .int .i64 til, .slice none 0 0]⟩]) := (f1.trans (setR_frm _ _ _) (fun i hi => .inl hi)).push _
  have l4 : (setR G p r3 ++ [some (⟨true, [.int .i64 ver, .int .i64 first, .int .i64 til, .slice none 0 0]⟩ : Blk)]).length = H.length + 2 := by simp [setR_length, l1]
  have set4 : (setR G p r3 ++ [some (⟨true, [.int .i64 0, .int .i64 0, .int .i64 0, .slice none 0 0]⟩ : Blk)]).set (H.length + 1) (some ⟨true, [.int .i64 ver, .int .i64 first, .int .i64 til, .slice none 0 0]⟩) = setR G p r3 ++ [some ⟨true, [.int .i64 ver, .int .i64 first, .int .i64 til, .slice none 0 0]⟩] := by
    have := @ydz (setR G p r3) (some ⟨true, [.int .i64 0, .int .i64 0, .int .i64 0, .slice none 0 0]⟩) (some ⟨true, [.int .i64 ver, .int .i64 first, .int .i64 til, .slice none 0 0]⟩)
    rw [setR_length, l1] at this; exact this
  have get4 : hget (setR G p r3 ++ [some (⟨true, [.int .i64 0, .int .i64 0, .int .i64 0, .slice none 0 0]⟩ : Blk)]) (H.length + 1) = some ⟨true, [.int .i64 0, .int .i64 0, .int .i64 0, .slice none 0 0]⟩ := by
    rw [hget_app, setR_length, l1, if_neg (zax _), if_pos rfl]
  have s4 : ∀ a b c d : Value, (#[a, b, c, d] : Array Value).size = 4 := fun _ _ _ _ => rfl
  simp only [↓yaa, ↓yab, ↓yac, ↓yad, ↓yae, ↓yaf, ↓yag, ↓yah, ↓yai, ↓ydb, ↓ydc, ↓ydd, ↓yde, ↓ydf, ↓ydg, ↓yao, ↓yap, ↓ydh, ↓ydi, ↓ydj, ↓ydk, ↓ydl, ↓ydm, ↓ydn, ↓ydo, ↓ydp, ↓yax, yay, yaz, yba, ybb, ybc, ybd, ybe, ybf, ybg, ybh, ybi, ybj, ybk, ybl, ybm, ybn, ybo, ybp, ybq, ybr, ybs, ybt, ybu, ybv, ares, tup, ybw, ybx, yby, argsE, dval, aop, ev, evs, evo, evp, fillL, addrOf, intOf?, ybz, yca, ycb, ycc, ycd, yce, ycf, zah, zag, reduceIte, Nat.reduceEqDiff, ycg, ych, yci, ycj, yck, ycl, ycm, ycn, yco, ycp, ycq, ycr, zap, zao, reduceCtorEq, zbb, zbc, zba, zaz, Nat.reduceAdd, Nat.reduceMul, zaq, zar, eqPtr, zae, zaf, zab, zaa, zac, zad, hload, hstore, zal, zam, Nat.reduceAdd, Nat.reduceLeDiff, zbb, zas, zat, one, zau, zaw, zav, splice, zaj, zak, zab, zaa, ycs, yct, ycu, ycv, ycw, ycx, ycy, ycz, zan, zai, zax, zay, and_self, true_and, and_true, lenV, yda, Nat.le_refl, if_true, ydq, ydr, yds, ne_eq, not_true_eq_false, not_false_eq_true, ← decide_not, Decidable.not_not, ydt, ydu, ydz, ydv, ydw, List.drop_zero, eq_self, Bool.false_eq_true, List.getElem?_toArray, yea, yeb, List.nil_append, List.cons_append, Bool.false_and, Int.reduceEq, Int.reduceLT, Int.reduceLE, Int.reduceNe, zbc, zbb, yec, yed, yee, yef, ydx, ydy, get4, set4, list4', s4]
  generalize setR G p r3 ++ [some (⟨true, [.int .i64 ver, .int .i64 first, .int .i64 til, .slice none 0 0]⟩ : Blk)] = G4 at *
  have h5 := setR_st h4.lt (r3.unsigned 4).2
  have g35 : hget (setR G4 p (r3.unsigned 4).2) (H.length + 1) = some ⟨true, [.int .i64 ver, .int .i64 first, .int .i64 til, .slice none 0 0]⟩ := by rw [hget_setR_ne (by omega)]; exact g3
  have g25 : hget (setR G4 p (r3.unsigned 4).2) H.length = some ⟨true, [.int .i64 0, .int .i64 0, .int .i64 0, .slice none 0 0]⟩ := by rw [hget_setR_ne (by omega)]; exact g2'
  have f5 := f4.trans (setR_frm G4 p (r3.unsigned 4).2) (fun i hi => .inl hi)
  have l5 : (setR G4 p (r3.unsigned 4).2).length = H.length + 2 := by rw [setR_length]; exact l4
  generalize (r3.unsigned 4).1 = n at *
  generalize (r3.unsigned 4).2 = r4 at *
  generalize setR G4 p r4 = G5 at *
  obtain ⟨m, hm⟩ : ∃ m : Nat, n = m := ⟨n.toNat, by omega⟩
  subst hm
  have hm16 : m < 16 := by have := n4.2; simp only [show (4 : Int).toNat = 4 from rfl] at this; omega
  have w1 : IntKind.i64.wrap ((m : Int) + 1) = ((m + 1 : Nat) : Int) := by rw [wrap_i64 (by omega) (by omega)]; rfl
  rw [show ((m : Int) + 1).toNat = m + 1 by omega] at hk
  simp only [↓yaa, ↓yab, ↓yac, ↓yad, ↓yae, ↓yaf, ↓yag, ↓yah, ↓yai, ↓ydb, ↓ydc, ↓ydd, ↓yde, ↓ydf, ↓ydg, ↓yao, ↓yap, ↓ydh, ↓ydi, ↓ydj, ↓ydk, ↓ydl, ↓ydm, ↓ydn, ↓ydo, ↓ydp, ↓yax, yay, yaz, yba, ybb, ybc, ybd, ybe, ybf, ybg, ybh, ybi, ybj, ybk, ybl, ybm, ybn, ybo, ybp, ybq, ybr, ybs, ybt, ybu, ybv, ares, tup, ybw, ybx, yby, argsE, dval, aop, ev, evs, evo, evp, fillL, addrOf, intOf?, ybz, yca, ycb, ycc, ycd, yce, ycf, zah, zag, reduceIte, Nat.reduceEqDiff, ycg, ych, yci, ycj, yck, ycl, ycm, ycn, yco, ycp, ycq, ycr, zap, zao, reduceCtorEq, zbb, zbc, zba, zaz, Nat.reduceAdd, Nat.reduceMul, zaq, zar, eqPtr, zae, zaf, zab, zaa, zac, zad, hload, hstore, zal, zam, Nat.reduceAdd, Nat.reduceLeDiff, zbb, zas, zat, one, zau, zaw, zav, splice, zaj, zak, zab, zaa, ycs, yct, ycu, ycv, ycw, ycx, ycy, ycz, zan, zai, zax, zay, and_self, true_and, and_true, lenV, yda, Nat.le_refl, if_true, ydq, ydr, yds, ne_eq, not_true_eq_false, not_false_eq_true, ← decide_not, Decidable.not_not, ydt, ydu, ydz, ydv, ydw, List.drop_zero, eq_self, Bool.false_eq_true, List.getElem?_toArray, yea, yeb, List.nil_append, List.cons_append, Bool.false_and, Int.reduceEq, Int.reduceLT, Int.reduceLE, Int.reduceNe, zbc, zbb, yec, yed, yee, yef, ydx, ydy, happ, e4, w1]
  clear e1 e2 e3 e4
  apply AW_loop_inv (fun j e H1 => j ≤ m + 1 ∧ e = [(0, .func (.func 40) #[.pointer (some ⟨p, 0, none⟩)] #[]), (2, .pointer (some ⟨H.length, 0, none⟩)), (3, .pointer (some ⟨H.length + 1, 0, none⟩)), (13, .int .i64 ((m + 1 : Nat) : Int)), (14, .int .i64 ((m + 1 - j : Nat) : Int))] ∧
    ∃ s, RSt H1 p (rdN r4 (m + 1 - j)).2 ∧ hget H1 (H.length + 1) = some ⟨true, [.int .i64 ver, .int .i64 first, .int .i64 til, gsv s (rdN r4 (m + 1 - j)).1]⟩ ∧ hget H1 H.length = some ⟨true, [.int .i64 0, .int .i64 0, .int .i64 0, .slice none 0 0]⟩ ∧
      GS H1 s (rdN r4 (m + 1 - j)).1 ∧ Frm [p] H H1 ∧ ∀ k, s = some k → H.length + 2 ≤ k) _ (m + 1)
  · refine ⟨Nat.le_refl _, by rw [Nat.sub_self]; rfl, none, ?_⟩
    rw [Nat.sub_self]
    exact ⟨h5, g35, g25, ⟨fun _ => rfl, fun k hk => by simp at hk⟩, f5, fun k hk => by simp at hk⟩
  · rintro j e H1 ⟨hj, rfl, s, q1, q2, q3, q4, q5, q6⟩
    have hq2l := hget_lt q2
    have hq3l := hget_lt q3
    cases j with
    | zero =>
      have g0 : ¬ ((m + 1 - 0 : Nat) : Int) < ((m + 1 : Nat) : Int) := by omega
      rw [Nat.sub_zero] at q1 q2 q4
      obtain ⟨a, z, e1, e2, e3⟩ := q4.si
      rw [e1] at q2
      have t4 : ∀ a b c d : Value, List.take 4 [a, b, c, d] = [a, b, c, d] := fun _ _ _ _ => rfl
      simp only [↓yaa, ↓yab, ↓yac, ↓yad, ↓yae, ↓yaf, ↓yag, ↓yah, ↓yai, ↓ydb, ↓ydc, ↓ydd, ↓yde, ↓ydf, ↓ydg, ↓yao, ↓yap, ↓ydh, ↓ydi, ↓ydj, ↓ydk, ↓ydl, ↓ydm, ↓ydn, ↓ydo, ↓ydp, ↓yax, yay, yaz, yba, ybb, ybc, ybd, ybe, ybf, ybg, ybh, ybi, ybj, ybk, ybl, ybm, ybn, ybo, ybp, ybq, ybr, ybs, ybt, ybu, ybv, ares, tup, ybw, ybx, yby, argsE, dval, aop, ev, evs, evo, evp, fillL, addrOf, intOf?, ybz, yca, ycb, ycc, ycd, yce, ycf, zah, zag, reduceIte, Nat.reduceEqDiff, ycg, ych, yci, ycj, yck, ycl, ycm, ycn, yco, ycp, ycq, ycr, zap, zao, reduceCtorEq, zbb, zbc, zba, zaz, Nat.reduceAdd, Nat.reduceMul, zaq, zar, eqPtr, zae, zaf, zab, zaa, zac, zad, hload, hstore, zal, zam, Nat.reduceAdd, Nat.reduceLeDiff, zbb, zas, zat, one, zau, zaw, zav, splice, zaj, zak, zab, zaa, ycs, yct, ycu, ycv, ycw, ycx, ycy, ycz, zan, zai, zax, zay, and_self, true_and, and_true, lenV, yda, Nat.le_refl, if_true, ydq, ydr, yds, ne_eq, not_true_eq_false, not_false_eq_true, ← decide_not, Decidable.not_not, ydt, ydu, ydz, ydv, ydw, List.drop_zero, eq_self, Bool.false_eq_true, List.getElem?_toArray, yea, yeb, List.nil_append, List.cons_append, Bool.false_and, Int.reduceEq, Int.reduceLT, Int.reduceLE, Int.reduceNe, zbc, zbb, yec, yed, yee, yef, ydx, ydy, g0, q2, q3, t4, list4', s4, yen, hq3l]
      have nw : Nw a (H.length + 2) := fun b o hb => by
        cases s with
        | none => simp only [gsv] at e1; injection e1 with e1; rw [← e1] at hb; simp at hb
        | some k =>
          simp only [gsv] at e1
          injection e1 with e1
          rw [← e1] at hb
          simp only [Option.some.injEq, Addr.mk.injEq] at hb
          have := q6 k rfl
          omega
      refine hk _ a z ?_ ?_ ?_ e3 (fun b o hb => by have := nw b o hb; omega)
      · unfold RSt; rw [yeo (by omega)]; exact q1
      · exact q5.set _ (.inr (Nat.le_refl _))
      · exact e2.frame (O := [H.length]) ((Frm.refl _ _).set _ (by simp)) (nw.ne (by omega))
    | succ j =>
      have g0 : ((m + 1 - (j + 1) : Nat) : Int) < ((m + 1 : Nat) : Int) := by omega
      have g3 : IntKind.i64.wrap (((m + 1 - (j + 1) : Nat) : Int) + 1) = ((m + 1 - j : Nat) : Int) := by rw [wrap_i64 (by omega) (by omega)]; omega
      have ok := rdN_ok o4 (m + 1 - (j + 1))
      have e5 := runsigned_spec (w := 4) q1 ok
      have hsucc : rdN r4 (m + 1 - j) = ((rdN r4 (m + 1 - (j + 1))).1 ++ [((rdN r4 (m + 1 - (j + 1))).2.unsigned 4).1], ((rdN r4 (m + 1 - (j + 1))).2.unsigned 4).2) := by
        rw [show m + 1 - j = (m + 1 - (j + 1)) + 1 by omega]; rfl
      have hlen := rdN_length r4 (m + 1 - (j + 1))
      have k1 := setR_st q1.lt ((rdN r4 (m + 1 - (j + 1))).2.unsigned 4).2
      have k2 : hget (setR H1 p ((rdN r4 (m + 1 - (j + 1))).2.unsigned 4).2) (H.length + 1) = some ⟨true, [.int .i64 ver, .int .i64 first, .int .i64 til, gsv s (rdN r4 (m + 1 - (j + 1))).1]⟩ := by rw [hget_setR_ne (by omega)]; exact q2
      have k3 : hget (setR H1 p ((rdN r4 (m + 1 - (j + 1))).2.unsigned 4).2) H.length = some ⟨true, [.int .i64 0, .int .i64 0, .int .i64 0, .slice none 0 0]⟩ := by rw [hget_setR_ne (by omega)]; exact q3
      have k4 : GS (setR H1 p ((rdN r4 (m + 1 - (j + 1))).2.unsigned 4).2) s (rdN r4 (m + 1 - (j + 1))).1 := ⟨q4.1, fun k hk => by rw [hget_setR_ne (by have := q6 k hk; omega)]; exact q4.2 k hk⟩
      have k5 := q5.trans (setR_frm H1 p ((rdN r4 (m + 1 - (j + 1))).2.unsigned 4).2) (fun i hi => .inl hi)
      have k6 : (setR H1 p ((rdN r4 (m + 1 - (j + 1))).2.unsigned 4).2).length = H1.length := setR_length _ _ _
      generalize rdN r4 (m + 1 - (j + 1)) = rd at *
      obtain ⟨l, r5⟩ := rd
      simp only at *
      generalize (r5.unsigned 4).1 = x at *
      generalize (r5.unsigned 4).2 = r6 at *
      generalize setR H1 p r6 = H2 at *
      have hq2l : H.length + 1 < H2.length := hget_lt k2
      have hq2l' : H.length + 1 < H2.length + 1 := by omega
      cases s with
      | none =>
        have hnil := k4.1 rfl
        subst hnil
        simp only [gsv] at q2 k2
        simp only [↓yaa, ↓yab, ↓yac, ↓yad, ↓yae, ↓yaf, ↓yag, ↓yah, ↓yai, ↓ydb, ↓ydc, ↓ydd, ↓yde, ↓ydf, ↓ydg, ↓yao, ↓yap, ↓ydh, ↓ydi, ↓ydj, ↓ydk, ↓ydl, ↓ydm, ↓ydn, ↓ydo, ↓ydp, ↓yax, yay, yaz, yba, ybb, ybc, ybd, ybe, ybf, ybg, ybh, ybi, ybj, ybk, ybl, ybm, ybn, ybo, ybp, ybq, ybr, ybs, ybt, ybu, ybv, ares, tup, ybw, ybx, yby, argsE, dval, aop, ev, evs, evo, evp, fillL, addrOf, intOf?, ybz, yca, ycb, ycc, ycd, yce, ycf, zah, zag, reduceIte, Nat.reduceEqDiff, ycg, ych, yci, ycj, yck, ycl, ycm, ycn, yco, ycp, ycq, ycr, zap, zao, reduceCtorEq, zbb, zbc, zba, zaz, Nat.reduceAdd, Nat.reduceMul, zaq, zar, eqPtr, zae, zaf, zab, zaa, zac, zad, hload, hstore, zal, zam, Nat.reduceAdd, Nat.reduceLeDiff, zbb, zas, zat, one, zau, zaw, zav, splice, zaj, zak, zab, zaa, ycs, yct, ycu, ycv, ycw, ycx, ycy, ycz, zan, zai, zax, zay, and_self, true_and, and_true, lenV, yda, Nat.le_refl, if_true, ydq, ydr, yds, ne_eq, not_true_eq_false, not_false_eq_true, ← decide_not, Decidable.not_not, ydt, ydu, ydz, ydv, ydw, List.drop_zero, eq_self, Bool.false_eq_true, List.getElem?_toArray, yea, yeb, List.nil_append, List.cons_append, Bool.false_and, Int.reduceEq, Int.reduceLT, Int.reduceLE, Int.reduceNe, zbc, zbb, yec, yed, yee, yef, ydx, ydy, happ, g0, e5, yem, hq2l, hq2l', k2, q2, take1, List.length_singleton, Nat.mul_one, g3]
        refine ⟨j, by omega, by omega, rfl, some (H2.length + 1), ?_, ?_, ?_, ⟨fun h => by simp at h, fun k hk => ?_⟩, ?_, fun k hk => by injection hk with hk; omega⟩
        · rw [hsucc]; unfold RSt; rw [yeo (by omega), hget_append_lt (by have := k1.lt; simp; omega), hget_append_lt k1.lt]; exact k1
        · rw [hsucc, yen (by simp; omega)]; rfl
        · rw [yeo (by omega), hget_append_lt (by have := hget_lt k3; simp; omega), hget_append_lt (hget_lt k3)]; exact k3
        · injection hk with hk; subst hk
          rw [hsucc, yeo (by omega), hget_app]; simp
        · exact ((k5.push _).push _).set _ (.inr (by omega))
      | some k =>
        have hq := k4.2 k rfl
        have hk2 := q6 k rfl
        have hkl := hget_lt hq
        have hkl1 : k < H2.length + 1 := by omega
        have hkne : k ≠ H.length + 1 := by omega
        have hcap : (l.length + 1) * 8 ≤ 1000000000 := by omega
        simp only [gsv] at q2 k2
        simp only [↓yaa, ↓yab, ↓yac, ↓yad, ↓yae, ↓yaf, ↓yag, ↓yah, ↓yai, ↓ydb, ↓ydc, ↓ydd, ↓yde, ↓ydf, ↓ydg, ↓yao, ↓yap, ↓ydh, ↓ydi, ↓ydj, ↓ydk, ↓ydl, ↓ydm, ↓ydn, ↓ydo, ↓ydp, ↓yax, yay, yaz, yba, ybb, ybc, ybd, ybe, ybf, ybg, ybh, ybi, ybj, ybk, ybl, ybm, ybn, ybo, ybp, ybq, ybr, ybs, ybt, ybu, ybv, ares, tup, ybw, ybx, yby, argsE, dval, aop, ev, evs, evo, evp, fillL, addrOf, intOf?, ybz, yca, ycb, ycc, ycd, yce, ycf, zah, zag, reduceIte, Nat.reduceEqDiff, ycg, ych, yci, ycj, yck, ycl, ycm, ycn, yco, ycp, ycq, ycr, zap, zao, reduceCtorEq, zbb, zbc, zba, zaz, Nat.reduceAdd, Nat.reduceMul, zaq, zar, eqPtr, zae, zaf, zab, zaa, zac, zad, hload, hstore, zal, zam, Nat.reduceAdd, Nat.reduceLeDiff, zbb, zas, zat, one, zau, zaw, zav, splice, zaj, zak, zab, zaa, ycs, yct, ycu, ycv, ycw, ycx, ycy, ycz, zan, zai, zax, zay, and_self, true_and, and_true, lenV, yda, Nat.le_refl, if_true, ydq, ydr, yds, ne_eq, not_true_eq_false, not_false_eq_true, ← decide_not, Decidable.not_not, ydt, ydu, ydz, ydv, ydw, List.drop_zero, eq_self, Bool.false_eq_true, List.getElem?_toArray, yea, yeb, List.nil_append, List.cons_append, Bool.false_and, Int.reduceEq, Int.reduceLT, Int.reduceLE, Int.reduceNe, zbc, zbb, yec, yed, yee, yef, ydx, ydy, happ, g0, e5, yem, hq2l, hq2l', k2, q2, take1, List.length_singleton, Nat.mul_one, g3, hkl, hkl1, hq, hcap, yeo hkne, ints_append, ints_length]
        refine ⟨j, by omega, by omega, rfl, some (H2.length + 1), ?_, ?_, ?_, ⟨fun h => by simp at h, fun k' hk' => ?_⟩, ?_, fun k' hk' => by injection hk' with hk'; omega⟩
        · rw [hsucc]; unfold RSt; rw [yeo (by omega), hget_append_lt (by have := k1.lt; simp; omega), yeo (by omega), hget_append_lt k1.lt]; exact k1
        · rw [hsucc, yen (by simp; omega)]; simp [gsv]
        · rw [yeo (by omega), hget_append_lt (by have := hget_lt k3; simp; omega), yeo (by omega), hget_append_lt (hget_lt k3)]; exact k3
        · injection hk' with hk'; subst hk'
          rw [hsucc, yeo (by omega), hget_app]; simp
        · exact (((k5.push _).set _ (.inr (by omega))).push _).set _ (.inr (by omega))

end Go.Proofs.Ytejcabdejoameaa.AI

/- Readers beside blocks that stay as they are. -/
set_option linter.unusedSimpArgs false
namespace Go.Proofs.Ytejcabdejoameaa.AI
open Go

structure RP (G H : Heap) (p : Nat) (r : RS) : Prop where
  st : RSt H p r
  ok : r.Ok
  f : Frm [p] G H
structure XP (G H : Heap) (p : Nat) (r : RS) : Prop where
  st : RSt H p r.x
  ok : r.Ok
  f : Frm [p] G H
theorem Frm.getp {G H : Heap} {p : Nat} (f : Frm [p] G H) {i : Nat} {b : Blk} (h : hget G i = some b) (hi : i ≠ p) : hget H i = some b := by rw [f.2 i (hget_lt h) (by simpa using hi)]; exact h
theorem Frm.thenp {G H H' : Heap} {p : Nat} (f : Frm [p] G H) (k : Frm [p] H H') : Frm [p] G H' := f.trans k (fun i hi => .inl hi)
theorem Frm.of0 {G H : Heap} {O : List Nat} (f : Frm [] G H) : Frm O G H := f.mono (by simp)

section
variable {G H : Heap} {p : Nat} {r : RS} {K : Value → Heap → Prop}
theorem RP.frm (h : RP G H p r) {H' : Heap} (f : Frm [] H H') : RP G H' p r := ⟨by unfold RSt; exact f.gets h.st, h.ok, h.f.thenp f.of0⟩
theorem XP.frm (h : XP G H p r) {H' : Heap} (f : Frm [] H H') : XP G H' p r := ⟨by unfold RSt; exact f.gets h.st, h.ok, h.f.thenp f.of0⟩
theorem RP.push (h : RP G H p r) (b : Option Blk) : RP G (H ++ [b]) p r := h.frm ((Frm.refl _ _).push b)
theorem XP.push (h : XP G H p r) (b : Option Blk) : XP G (H ++ [b]) p r := h.frm ((Frm.refl _ _).push b)
theorem RP.set (h : RP G H p r) {i : Nat} (b : Option Blk) (hi : i ≠ p) (hG : G.length ≤ i) : RP G (H.set i b) p r := ⟨by unfold RSt; rw [yeo hi]; exact h.st, h.ok, h.f.set _ (.inr hG)⟩
theorem XP.set (h : XP G H p r) {i : Nat} (b : Option Blk) (hi : i ≠ p) (hG : G.length ≤ i) : XP G (H.set i b) p r := ⟨by unfold RSt; rw [yeo hi]; exact h.st, h.ok, h.f.set _ (.inr hG)⟩
theorem RP.base (h : RP G H p r) : RP H H p r := ⟨h.st, h.ok, Frm.refl _ _⟩
theorem XP.base (h : XP G H p r) : XP H H p r := ⟨h.st, h.ok, Frm.refl _ _⟩
theorem RP.new {t : ByteArray} (hk : ∀ H', RP G H' G.length (newR t) → Frm [] G H' → G.length < H'.length → K (.pointer (some ⟨G.length, 0, none⟩)) H') : Op1 (AC tbl 21 [.string t] G) K := by
  rw [newReader_eq, ycf]
  exact hk _ ⟨by unfold RSt; exact ydu, newR_ok t, (Frm.refl _ _).push _⟩ ((Frm.refl _ _).push _) (by simp)
theorem XP.new {t : ByteArray} (hk : ∀ H', XP G H' G.length (newR t) → Frm [] G H' → G.length < H'.length → K (.pointer (some ⟨G.length, 0, none⟩)) H') : Op1 (AC tbl 28 [.string t] G) K := by
  rw [newX_eq, ycf]
  exact hk _ ⟨by unfold RSt; exact ydu, newR_ok t, (Frm.refl _ _).push _⟩ ((Frm.refl _ _).push _) (by simp)
theorem RP.unsigned (h : RP G H p r) {w : Int} (hk : ∀ H', RP G H' p (r.unsigned w).2 → H'.length = H.length → K (.int .i64 (r.unsigned w).1) H') : Op1 (AC tbl 40 [.pointer (some ⟨p, 0, none⟩), .int .i64 w] H) K := by
  rw [runsigned_spec h.st h.ok, ycf]
  exact hk _ ⟨setR_st h.st.lt _, unsigned_ok h.ok w, h.f.thenp (setR_frm _ _ _)⟩ (setR_length _ _ _)
theorem XP.unsigned (h : XP G H p r) {w : Int} (hk : ∀ H', XP G H' p (r.unsigned w).2 → H'.length = H.length → K (.int .i64 (r.unsigned w).1) H') : Op1 (AC tbl 29 [.pointer (some ⟨p, 0, none⟩), .int .i64 w] H) K := by
  rw [xunsigned_spec h.st h.ok, ycf]
  exact hk _ ⟨setR_st h.st.lt _, unsigned_ok h.ok w, h.f.thenp (setR_frm _ _ _)⟩ (setR_length _ _ _)
theorem RP.flag (h : RP G H p r) (hk : ∀ H', RP G H' p r.flag.2 → H'.length = H.length → K (.bool r.flag.1) H') : Op1 (AC tbl 41 [.pointer (some ⟨p, 0, none⟩)] H) K := by
  rw [rflag_spec h.st h.ok, ycf]
  exact hk _ ⟨setR_st h.st.lt _, flag_ok h.ok, h.f.thenp (setR_frm _ _ _)⟩ (setR_length _ _ _)
theorem XP.flag (h : XP G H p r) (hk : ∀ H', XP G H' p r.flag.2 → H'.length = H.length → K (.bool r.flag.1) H') : Op1 (AC tbl 31 [.pointer (some ⟨p, 0, none⟩)] H) K := by
  rw [xflag_spec h.st h.ok, ycf]
  exact hk _ ⟨setR_st h.st.lt _, flag_ok h.ok, h.f.thenp (setR_frm _ _ _)⟩ (setR_length _ _ _)
theorem RP.text (h : RP G H p r) {w : Int} (hw : Is64 w) (hk : ∀ H', RP G H' p (r.text w).2 → H.length ≤ H'.length → K (.string (r.text w).1) H') : Op1 (AC tbl 42 [.pointer (some ⟨p, 0, none⟩), .int .i64 w] H) K :=
  rtext_spec h.st h.ok hw fun H' h1 h2 => hk H' ⟨h1, text_ok h.ok w, h.f.thenp h2⟩ h2.1
theorem XP.text (h : XP G H p r) {w : Int} (hw : Is64 w) (hk : ∀ H', XP G H' p (r.text w).2 → H.length ≤ H'.length → K (.string (r.text w).1) H') : Op1 (AC tbl 32 [.pointer (some ⟨p, 0, none⟩), .int .i64 w] H) K :=
  xtext_spec h.st h.ok hw fun H' h1 h2 => hk H' ⟨h1, text_ok h.ok w, h.f.thenp h2⟩ h2.1
theorem RP.close (h : RP G H p r) (hk : ∀ H', RP G H' p r → Frm [] H H' → K (.int .i64 r.close) H') : Op1 (AC tbl 23 [.pointer (some ⟨p, 0, none⟩)] H) K :=
  close_spec h.st h.ok fun H' hf => hk H' (h.frm hf) hf
theorem XP.close (h : XP G H p r) : AC tbl 37 [.pointer (some ⟨p, 0, none⟩)] H = some (.int .i64 r.close, H) := xclose_spec h.st h.ok
end

end Go.Proofs.Ytejcabdejoameaa.AI

/- Offers that are read. -/
set_option linter.unusedSimpArgs false
set_option maxHeartbeats 4000000
namespace Go.Proofs.Ytejcabdejoameaa.AI
open Go

def RS.off (r : RS) : Off × Bool × RS :=
  let a := r.unsigned 5; let b := a.2.flag; let c := b.2.text 8; let d := c.2.flag
  if d.1 = true then (⟨a.1, b.1, c.1, d.2.hop.1⟩, true, d.2.hop.2) else (⟨a.1, b.1, c.1, ⟨0, 0, 0, []⟩⟩, false, d.2)
def zeroOff : Off := ⟨0, false, ⟨#[]⟩, ⟨0, 0, 0, []⟩⟩
open Classical in
/-- What some bytes are. -/
noncomputable def dec (t : ByteArray) : Off × Int :=
  if ((newR t).off.2.1 = true ∧ (newR t).off.1.next.Zero) ∨ (newR t).off.2.2.close ≠ 0 ∨ (newR t).off.1.err ≠ 0 then (zeroOff, 10) else ((newR t).off.1, 0)
theorem hop_len (r : RS) : r.hop.1.ch.length ≤ 16 := by
  unfold RS.hop
  simp only [rdN_length]
  have := unsigned_lt (((r.unsigned 8).2.unsigned 27).2.unsigned 27).2 4 (by omega)
  simp only [show (4 : Int).toNat = 4 from rfl] at this
  have h2 := this.2
  rw [show (2 : Int) ^ 4 = 16 by decide] at h2
  omega
theorem off_len (r : RS) : r.off.1.next.ch.length ≤ 16 := by
  unfold RS.off
  simp only
  split
  · exact hop_len _
  · simp

theorem t7 (a b c d e f g : Value) : List.take 7 [a, b, c, d, e, f, g] = [a, b, c, d, e, f, g] := rfl
theorem s7 (a b c d e f g : Value) : (#[a, b, c, d, e, f, g] : Array Value).size = 7 := rfl
theorem s4 (a b c d : Value) : (#[a, b, c, d] : Array Value).size = 4 := rfl

open Classical in
theorem f124 {H : Heap} {t : ByteArray} {K : Value → Heap → Prop}
    (hk : ∀ H' a z, Frm [] H H' → SI H' a z (dec t).1.next.ch → (a = none → z = 0 ∧ (dec t).1.next.ch.length = 0) → Nw a H.length → K (.tuple #[(dec t).1.v a z, .int .i64 (dec t).2]) H') :
    Op1 (AC tbl 124 [.string t] H) K := by
  apply AC_wp (F := F124) rfl (by simp [F124]) (.inl rfl)
  have f0 : Frm [] H (H ++ [some ⟨true, [.int .i64 0, .bool false, .string ⟨#[]⟩, .int .i64 0, .int .i64 0, .int .i64 0, .slice none 0 0]⟩]) := (Frm.refl _ _).push _
  have g0 : hget (H ++ [some ⟨true, [.int .i64 0, .bool false, .string ⟨#[]⟩, .int .i64 0, .int .i64 0, .int .i64 0, .slice none 0 0]⟩]) H.length = some ⟨true, [.int .i64 0, .bool false, .string ⟨#[]⟩, .int .i64 0, .int .i64 0, .int .i64 0, .slice none 0 0]⟩ := ydu
  have l0 : (H ++ [some (⟨true, [.int .i64 0, .bool false, .string ⟨#[]⟩, .int .i64 0, .int .i64 0, .int .i64 0, .slice none 0 0]⟩ : Blk)]).length = H.length + 1 := by simp
  -- the end, with an error
  have bad : ∀ H', Frm [] H H' → (dec t = (zeroOff, 10)) → K (.tuple #[.agg #[.int .i64 0, .bool false, .string ⟨#[]⟩, .int .i64 0, .int .i64 0, .int .i64 0, .slice none 0 0], .int .i64 10]) H' := fun H' hf hd => by
    have := hk H' none 0 hf (by rw [hd]; exact SI.nil) (fun _ => by rw [hd]; exact ⟨rfl, rfl⟩) (fun b o h => by simp at h)
    rw [hd] at this
    exact this
  simp only [F124, ↓yaa, ↓yab, ↓yac, ↓yad, ↓yae, ↓yaf, ↓yag, ↓yah, ↓yai, ↓ydb, ↓ydc, ↓ydd, ↓yde, ↓ydf, ↓ydg, ↓yao, ↓yap, ↓ydh, ↓ydi, ↓ydj, ↓ydk, ↓ydl, ↓ydm, ↓ydn, ↓ydo, ↓ydp, ↓yax, yay, yaz, yba, ybb, ybc, ybd, ybe, ybf, ybg, ybh, ybi, ybj, ybk, ybl, ybm, ybn, ybo, ybp, ybq, ybr, ybs, ybt, ybu, ybv, ares, tup, ybw, ybx, yby, argsE, dval, aop, ev, evs, evo, evp, fillL, addrOf, intOf?, ybz, yca, ycb, ycc, ycd, yce, ycf, zah, zag, reduceIte, Nat.reduceEqDiff, ycg, ych, yci, ycj, yck, ycl, ycm, ycn, yco, ycp, ycq, ycr, zap, zao, reduceCtorEq, zbb, zbc, zba, zaz, Nat.reduceAdd, Nat.reduceMul, zaq, zar, eqPtr, zae, zaf, zab, zaa, zac, zad, hload, hstore, zal, zam, Nat.reduceAdd, Nat.reduceLeDiff, zbb, zas, zat, one, zau, zaw, zav, splice, zaj, zak, zab, zaa, ycs, yct, ycu, ycv, ycw, ycx, ycy, ycz, zan, zai, zax, zay, and_self, true_and, and_true, lenV, yda, Nat.le_refl, if_true, ydq, ydr, yds, ne_eq, not_true_eq_false, not_false_eq_true, ← decide_not, Decidable.not_not, ydt, ydu, ydz, ydv, ydw, List.drop_zero, eq_self, Bool.false_eq_true, List.getElem?_toArray, yea, yeb, List.nil_append, List.cons_append, Bool.false_and, Int.reduceEq, Int.reduceLT, Int.reduceLE, Int.reduceNe, zbc, zbb, yec, yed, yee, yef, ydx, ydy]
  generalize H ++ [some (⟨true, [.int .i64 0, .bool false, .string ⟨#[]⟩, .int .i64 0, .int .i64 0, .int .i64 0, .slice none 0 0]⟩ : Blk)] = G at *
  refine RP.new fun H1 rp f1 l1 => ?_
  have hoff : (newR t).off = (newR t).off := rfl
  conv at hoff => rhs; unfold RS.off
  have hdec : dec t = if ((newR t).off.2.1 = true ∧ (newR t).off.1.next.Zero) ∨ (newR t).off.2.2.close ≠ 0 ∨ (newR t).off.1.err ≠ 0 then (zeroOff, 10) else ((newR t).off.1, 0) := rfl
  rw [hdec] at hk bad
  clear hdec
  simp only at hoff
  have g1 := f1.gets g0
  have rp := rp.base
  simp only [↓yaa, ↓yab, ↓yac, ↓yad, ↓yae, ↓yaf, ↓yag, ↓yah, ↓yai, ↓ydb, ↓ydc, ↓ydd, ↓yde, ↓ydf, ↓ydg, ↓yao, ↓yap, ↓ydh, ↓ydi, ↓ydj, ↓ydk, ↓ydl, ↓ydm, ↓ydn, ↓ydo, ↓ydp, ↓yax, yay, yaz, yba, ybb, ybc, ybd, ybe, ybf, ybg, ybh, ybi, ybj, ybk, ybl, ybm, ybn, ybo, ybp, ybq, ybr, ybs, ybt, ybu, ybv, ares, tup, ybw, ybx, yby, argsE, dval, aop, ev, evs, evo, evp, fillL, addrOf, intOf?, ybz, yca, ycb, ycc, ycd, yce, ycf, zah, zag, reduceIte, Nat.reduceEqDiff, ycg, ych, yci, ycj, yck, ycl, ycm, ycn, yco, ycp, ycq, ycr, zap, zao, reduceCtorEq, zbb, zbc, zba, zaz, Nat.reduceAdd, Nat.reduceMul, zaq, zar, eqPtr, zae, zaf, zab, zaa, zac, zad, hload, hstore, zal, zam, Nat.reduceAdd, Nat.reduceLeDiff, zbb, zas, zat, one, zau, zaw, zav, splice, zaj, zak, zab, zaa, ycs, yct, ycu, ycv, ycw, ycx, ycy, ycz, zan, zai, zax, zay, and_self, true_and, and_true, lenV, yda, Nat.le_refl, if_true, ydq, ydr, yds, ne_eq, not_true_eq_false, not_false_eq_true, ← decide_not, Decidable.not_not, ydt, ydu, ydz, ydv, ydw, List.drop_zero, eq_self, Bool.false_eq_true, List.getElem?_toArray, yea, yeb, List.nil_append, List.cons_append, Bool.false_and, Int.reduceEq, Int.reduceLT, Int.reduceLE, Int.reduceNe, zbc, zbb, yec, yed, yee, yef, ydx, ydy]
  refine rp.unsigned fun H2 rp _ => ?_
  simp only [↓yaa, ↓yab, ↓yac, ↓yad, ↓yae, ↓yaf, ↓yag, ↓yah, ↓yai, ↓ydb, ↓ydc, ↓ydd, ↓yde, ↓ydf, ↓ydg, ↓yao, ↓yap, ↓ydh, ↓ydi, ↓ydj, ↓ydk, ↓ydl, ↓ydm, ↓ydn, ↓ydo, ↓ydp, ↓yax, yay, yaz, yba, ybb, ybc, ybd, ybe, ybf, ybg, ybh, ybi, ybj, ybk, ybl, ybm, ybn, ybo, ybp, ybq, ybr, ybs, ybt, ybu, ybv, ares, tup, ybw, ybx, yby, argsE, dval, aop, ev, evs, evo, evp, fillL, addrOf, intOf?, ybz, yca, ycb, ycc, ycd, yce, ycf, zah, zag, reduceIte, Nat.reduceEqDiff, ycg, ych, yci, ycj, yck, ycl, ycm, ycn, yco, ycp, ycq, ycr, zap, zao, reduceCtorEq, zbb, zbc, zba, zaz, Nat.reduceAdd, Nat.reduceMul, zaq, zar, eqPtr, zae, zaf, zab, zaa, zac, zad, hload, hstore, zal, zam, Nat.reduceAdd, Nat.reduceLeDiff, zbb, zas, zat, one, zau, zaw, zav, splice, zaj, zak, zab, zaa, ycs, yct, ycu, ycv, ycw, ycx, ycy, ycz, zan, zai, zax, zay, and_self, true_and, and_true, lenV, yda, Nat.le_refl, if_true, ydq, ydr, yds, ne_eq, not_true_eq_false, not_false_eq_true, ← decide_not, Decidable.not_not, ydt, ydu, ydz, ydv, ydw, List.drop_zero, eq_self, Bool.false_eq_true, List.getElem?_toArray, yea, yeb, List.nil_append, List.cons_append, Bool.false_and, Int.reduceEq, Int.reduceLT, Int.reduceLE, Int.reduceNe, zbc, zbb, yec, yed, yee, yef, ydx, ydy]
  refine rp.flag fun H3 rp _ => ?_
  simp only [↓yaa, ↓yab, ↓yac, ↓yad, ↓yae, ↓yaf, ↓yag, ↓yah, ↓yai, ↓ydb, ↓ydc, ↓ydd, ↓yde, ↓ydf, ↓ydg, ↓yao, ↓yap, ↓ydh, ↓ydi, ↓ydj, ↓ydk, ↓ydl, ↓ydm, ↓ydn, ↓ydo, ↓ydp, ↓yax, yay, yaz, yba, ybb, ybc, ybd, ybe, ybf, ybg, ybh, ybi, ybj, ybk, ybl, ybm, ybn, ybo, ybp, ybq, ybr, ybs, ybt, ybu, ybv, ares, tup, ybw, ybx, yby, argsE, dval, aop, ev, evs, evo, evp, fillL, addrOf, intOf?, ybz, yca, ycb, ycc, ycd, yce, ycf, zah, zag, reduceIte, Nat.reduceEqDiff, ycg, ych, yci, ycj, yck, ycl, ycm, ycn, yco, ycp, ycq, ycr, zap, zao, reduceCtorEq, zbb, zbc, zba, zaz, Nat.reduceAdd, Nat.reduceMul, zaq, zar, eqPtr, zae, zaf, zab, zaa, zac, zad, hload, hstore, zal, zam, Nat.reduceAdd, Nat.reduceLeDiff, zbb, zas, zat, one, zau, zaw, zav, splice, zaj, zak, zab, zaa, ycs, yct, ycu, ycv, ycw, ycx, ycy, ycz, zan, zai, zax, zay, and_self, true_and, and_true, lenV, yda, Nat.le_refl, if_true, ydq, ydr, yds, ne_eq, not_true_eq_false, not_false_eq_true, ← decide_not, Decidable.not_not, ydt, ydu, ydz, ydv, ydw, List.drop_zero, eq_self, Bool.false_eq_true, List.getElem?_toArray, yea, yeb, List.nil_append, List.cons_append, Bool.false_and, Int.reduceEq, Int.reduceLT, Int.reduceLE, Int.reduceNe, zbc, zbb, yec, yed, yee, yef, ydx, ydy]
  refine rp.text ⟨by omega, by omega⟩ fun H4 rp l4 => ?_
  have hG4 : G.length < H4.length := by have := rp.f.1; omega
  generalize ((newR t).unsigned 5).1 = root at *
  generalize ((newR t).unsigned 5).2 = r1 at *
  generalize r1.flag.1 = opn at *
  generalize r1.flag.2 = r2 at *
  generalize (r2.text 8).1 = run at *
  generalize (r2.text 8).2 = r3 at *
  simp only [↓yaa, ↓yab, ↓yac, ↓yad, ↓yae, ↓yaf, ↓yag, ↓yah, ↓yai, ↓ydb, ↓ydc, ↓ydd, ↓yde, ↓ydf, ↓ydg, ↓yao, ↓yap, ↓ydh, ↓ydi, ↓ydj, ↓ydk, ↓ydl, ↓ydm, ↓ydn, ↓ydo, ↓ydp, ↓yax, yay, yaz, yba, ybb, ybc, ybd, ybe, ybf, ybg, ybh, ybi, ybj, ybk, ybl, ybm, ybn, ybo, ybp, ybq, ybr, ybs, ybt, ybu, ybv, ares, tup, ybw, ybx, yby, argsE, dval, aop, ev, evs, evo, evp, fillL, addrOf, intOf?, ybz, yca, ycb, ycc, ycd, yce, ycf, zah, zag, reduceIte, Nat.reduceEqDiff, ycg, ych, yci, ycj, yck, ycl, ycm, ycn, yco, ycp, ycq, ycr, zap, zao, reduceCtorEq, zbb, zbc, zba, zaz, Nat.reduceAdd, Nat.reduceMul, zaq, zar, eqPtr, zae, zaf, zab, zaa, zac, zad, hload, hstore, zal, zam, Nat.reduceAdd, Nat.reduceLeDiff, zbb, zas, zat, one, zau, zaw, zav, splice, zaj, zak, zab, zaa, ycs, yct, ycu, ycv, ycw, ycx, ycy, ycz, zan, zai, zax, zay, and_self, true_and, and_true, lenV, yda, Nat.le_refl, if_true, ydq, ydr, yds, ne_eq, not_true_eq_false, not_false_eq_true, ← decide_not, Decidable.not_not, ydt, ydu, ydz, ydv, ydw, List.drop_zero, eq_self, Bool.false_eq_true, List.getElem?_toArray, yea, yeb, List.nil_append, List.cons_append, Bool.false_and, Int.reduceEq, Int.reduceLT, Int.reduceLE, Int.reduceNe, zbc, zbb, yec, yed, yee, yef, ydx, ydy, s7]
  have f4 : Frm [] H H4 := (f0.then f1).new rp.f (by simp; omega)
  have g4 := rp.f.getp g1 (by omega)
  have rp4 := rp.push (some ⟨true, [.int .i64 root, .bool opn, .string run, .int .i64 0, .int .i64 0, .int .i64 0, .slice none 0 0]⟩)
  refine rp4.base.flag fun H5 rp5 l5 => ?_
  have q5 := rp5.f.getp (ydu (H := H4)) (by omega)
  have g5 := rp5.f.getp (i := H.length) (by rw [hget_append_lt (hget_lt g4)]; exact g4) (by omega)
  have f5 : Frm [] H H5 := (f4.push _).new rp5.f (by simp; omega)
  generalize r3.flag.1 = nx at *
  generalize r3.flag.2 = r4 at *
  cases nx with
  | false =>
    simp only [Bool.false_eq_true, if_false] at hoff
    simp only [↓yaa, ↓yab, ↓yac, ↓yad, ↓yae, ↓yaf, ↓yag, ↓yah, ↓yai, ↓ydb, ↓ydc, ↓ydd, ↓yde, ↓ydf, ↓ydg, ↓yao, ↓yap, ↓ydh, ↓ydi, ↓ydj, ↓ydk, ↓ydl, ↓ydm, ↓ydn, ↓ydo, ↓ydp, ↓yax, yay, yaz, yba, ybb, ybc, ybd, ybe, ybf, ybg, ybh, ybi, ybj, ybk, ybl, ybm, ybn, ybo, ybp, ybq, ybr, ybs, ybt, ybu, ybv, ares, tup, ybw, ybx, yby, argsE, dval, aop, ev, evs, evo, evp, fillL, addrOf, intOf?, ybz, yca, ycb, ycc, ycd, yce, ycf, zah, zag, reduceIte, Nat.reduceEqDiff, ycg, ych, yci, ycj, yck, ycl, ycm, ycn, yco, ycp, ycq, ycr, zap, zao, reduceCtorEq, zbb, zbc, zba, zaz, Nat.reduceAdd, Nat.reduceMul, zaq, zar, eqPtr, zae, zaf, zab, zaa, zac, zad, hload, hstore, zal, zam, Nat.reduceAdd, Nat.reduceLeDiff, zbb, zas, zat, one, zau, zaw, zav, splice, zaj, zak, zab, zaa, ycs, yct, ycu, ycv, ycw, ycx, ycy, ycz, zan, zai, zax, zay, and_self, true_and, and_true, lenV, yda, Nat.le_refl, if_true, ydq, ydr, yds, ne_eq, not_true_eq_false, not_false_eq_true, ← decide_not, Decidable.not_not, ydt, ydu, ydz, ydv, ydw, List.drop_zero, eq_self, Bool.false_eq_true, List.getElem?_toArray, yea, yeb, List.nil_append, List.cons_append, Bool.false_and, Int.reduceEq, Int.reduceLT, Int.reduceLE, Int.reduceNe, zbc, zbb, yec, yed, yee, yef, ydx, ydy]
    refine (rp5).close fun Ha rpa fa => ?_
    have fA := (f5).then fa
    have qA := fa.gets (q5)
    have gA := fa.gets (g5)
    by_cases hc : RS.close r4 = 0
    · simp only [↓yaa, ↓yab, ↓yac, ↓yad, ↓yae, ↓yaf, ↓yag, ↓yah, ↓yai, ↓ydb, ↓ydc, ↓ydd, ↓yde, ↓ydf, ↓ydg, ↓yao, ↓yap, ↓ydh, ↓ydi, ↓ydj, ↓ydk, ↓ydl, ↓ydm, ↓ydn, ↓ydo, ↓ydp, ↓yax, yay, yaz, yba, ybb, ybc, ybd, ybe, ybf, ybg, ybh, ybi, ybj, ybk, ybl, ybm, ybn, ybo, ybp, ybq, ybr, ybs, ybt, ybu, ybv, ares, tup, ybw, ybx, yby, argsE, dval, aop, ev, evs, evo, evp, fillL, addrOf, intOf?, ybz, yca, ycb, ycc, ycd, yce, ycf, zah, zag, reduceIte, Nat.reduceEqDiff, ycg, ych, yci, ycj, yck, ycl, ycm, ycn, yco, ycp, ycq, ycr, zap, zao, reduceCtorEq, zbb, zbc, zba, zaz, Nat.reduceAdd, Nat.reduceMul, zaq, zar, eqPtr, zae, zaf, zab, zaa, zac, zad, hload, hstore, zal, zam, Nat.reduceAdd, Nat.reduceLeDiff, zbb, zas, zat, one, zau, zaw, zav, splice, zaj, zak, zab, zaa, ycs, yct, ycu, ycv, ycw, ycx, ycy, ycz, zan, zai, zax, zay, and_self, true_and, and_true, lenV, yda, Nat.le_refl, if_true, ydq, ydr, yds, ne_eq, not_true_eq_false, not_false_eq_true, ← decide_not, Decidable.not_not, ydt, ydu, ydz, ydv, ydw, List.drop_zero, eq_self, Bool.false_eq_true, List.getElem?_toArray, yea, yeb, List.nil_append, List.cons_append, Bool.false_and, Int.reduceEq, Int.reduceLT, Int.reduceLE, Int.reduceNe, zbc, zbb, yec, yed, yee, yef, ydx, ydy, hc, qA, t7, list7]
      rw [show Value.agg #[.int .i64 root, .bool opn, .string run, .int .i64 0, .int .i64 0, .int .i64 0, .slice none 0 0] = (⟨root, opn, run, ⟨0, 0, 0, []⟩⟩ : Off).v none 0 from rfl]
      refine f113 ((SI.nil : SI _ none 0 []).frame0 fa) (by first | exact Nat.lt_of_le_of_lt hl16 (by decide) | simp) fun Hb fb => ?_
      have fB := fA.then fb
      have qB := fb.gets qA
      have gB := fb.gets gA
      by_cases he : (⟨root, opn, run, ⟨0, 0, 0, []⟩⟩ : Off).err = 0
      · have hd := hk (Hb.set H.length (some ⟨true, [.int .i64 root, .bool opn, .string run, .int .i64 0, .int .i64 0, .int .i64 0, .slice none 0 0]⟩)) none 0
        rw [hoff, if_neg (fun hh => hh.elim (fun q => by simp at q) (fun hh => hh.elim (fun q => q hc) (fun q => q he)))] at hd
        simp only [↓yaa, ↓yab, ↓yac, ↓yad, ↓yae, ↓yaf, ↓yag, ↓yah, ↓yai, ↓ydb, ↓ydc, ↓ydd, ↓yde, ↓ydf, ↓ydg, ↓yao, ↓yap, ↓ydh, ↓ydi, ↓ydj, ↓ydk, ↓ydl, ↓ydm, ↓ydn, ↓ydo, ↓ydp, ↓yax, yay, yaz, yba, ybb, ybc, ybd, ybe, ybf, ybg, ybh, ybi, ybj, ybk, ybl, ybm, ybn, ybo, ybp, ybq, ybr, ybs, ybt, ybu, ybv, ares, tup, ybw, ybx, yby, argsE, dval, aop, ev, evs, evo, evp, fillL, addrOf, intOf?, ybz, yca, ycb, ycc, ycd, yce, ycf, zah, zag, reduceIte, Nat.reduceEqDiff, ycg, ych, yci, ycj, yck, ycl, ycm, ycn, yco, ycp, ycq, ycr, zap, zao, reduceCtorEq, zbb, zbc, zba, zaz, Nat.reduceAdd, Nat.reduceMul, zaq, zar, eqPtr, zae, zaf, zab, zaa, zac, zad, hload, hstore, zal, zam, Nat.reduceAdd, Nat.reduceLeDiff, zbb, zas, zat, one, zau, zaw, zav, splice, zaj, zak, zab, zaa, ycs, yct, ycu, ycv, ycw, ycx, ycy, ycz, zan, zai, zax, zay, and_self, true_and, and_true, lenV, yda, Nat.le_refl, if_true, ydq, ydr, yds, ne_eq, not_true_eq_false, not_false_eq_true, ← decide_not, Decidable.not_not, ydt, ydu, ydz, ydv, ydw, List.drop_zero, eq_self, Bool.false_eq_true, List.getElem?_toArray, yea, yeb, List.nil_append, List.cons_append, Bool.false_and, Int.reduceEq, Int.reduceLT, Int.reduceLE, Int.reduceNe, zbc, zbb, yec, yed, yee, yef, ydx, ydy, he, qB, gB, t7, s7, list7, yen, hget_lt gB]
        refine hd (fB.set _ (.inr (Nat.le_refl _))) ?_ (fun _ => ⟨rfl, rfl⟩) (fun b o h => by simp at h)
        exact (((SI.nil : SI _ none 0 []).frame0 fa).frame0 fb).frame (O := [H.length]) ((Frm.refl _ _).set _ (by simp)) (by simp)
      · simp only [↓yaa, ↓yab, ↓yac, ↓yad, ↓yae, ↓yaf, ↓yag, ↓yah, ↓yai, ↓ydb, ↓ydc, ↓ydd, ↓yde, ↓ydf, ↓ydg, ↓yao, ↓yap, ↓ydh, ↓ydi, ↓ydj, ↓ydk, ↓ydl, ↓ydm, ↓ydn, ↓ydo, ↓ydp, ↓yax, yay, yaz, yba, ybb, ybc, ybd, ybe, ybf, ybg, ybh, ybi, ybj, ybk, ybl, ybm, ybn, ybo, ybp, ybq, ybr, ybs, ybt, ybu, ybv, ares, tup, ybw, ybx, yby, argsE, dval, aop, ev, evs, evo, evp, fillL, addrOf, intOf?, ybz, yca, ycb, ycc, ycd, yce, ycf, zah, zag, reduceIte, Nat.reduceEqDiff, ycg, ych, yci, ycj, yck, ycl, ycm, ycn, yco, ycp, ycq, ycr, zap, zao, reduceCtorEq, zbb, zbc, zba, zaz, Nat.reduceAdd, Nat.reduceMul, zaq, zar, eqPtr, zae, zaf, zab, zaa, zac, zad, hload, hstore, zal, zam, Nat.reduceAdd, Nat.reduceLeDiff, zbb, zas, zat, one, zau, zaw, zav, splice, zaj, zak, zab, zaa, ycs, yct, ycu, ycv, ycw, ycx, ycy, ycz, zan, zai, zax, zay, and_self, true_and, and_true, lenV, yda, Nat.le_refl, if_true, ydq, ydr, yds, ne_eq, not_true_eq_false, not_false_eq_true, ← decide_not, Decidable.not_not, ydt, ydu, ydz, ydv, ydw, List.drop_zero, eq_self, Bool.false_eq_true, List.getElem?_toArray, yea, yeb, List.nil_append, List.cons_append, Bool.false_and, Int.reduceEq, Int.reduceLT, Int.reduceLE, Int.reduceNe, zbc, zbb, yec, yed, yee, yef, ydx, ydy, he, gB, s7, t7, list7, yen, hget_lt gB]
        refine bad _ (fB.set _ (.inr (Nat.le_refl _))) ?_
        rw [hoff, if_pos (.inr (.inr he))]
    · simp only [↓yaa, ↓yab, ↓yac, ↓yad, ↓yae, ↓yaf, ↓yag, ↓yah, ↓yai, ↓ydb, ↓ydc, ↓ydd, ↓yde, ↓ydf, ↓ydg, ↓yao, ↓yap, ↓ydh, ↓ydi, ↓ydj, ↓ydk, ↓ydl, ↓ydm, ↓ydn, ↓ydo, ↓ydp, ↓yax, yay, yaz, yba, ybb, ybc, ybd, ybe, ybf, ybg, ybh, ybi, ybj, ybk, ybl, ybm, ybn, ybo, ybp, ybq, ybr, ybs, ybt, ybu, ybv, ares, tup, ybw, ybx, yby, argsE, dval, aop, ev, evs, evo, evp, fillL, addrOf, intOf?, ybz, yca, ycb, ycc, ycd, yce, ycf, zah, zag, reduceIte, Nat.reduceEqDiff, ycg, ych, yci, ycj, yck, ycl, ycm, ycn, yco, ycp, ycq, ycr, zap, zao, reduceCtorEq, zbb, zbc, zba, zaz, Nat.reduceAdd, Nat.reduceMul, zaq, zar, eqPtr, zae, zaf, zab, zaa, zac, zad, hload, hstore, zal, zam, Nat.reduceAdd, Nat.reduceLeDiff, zbb, zas, zat, one, zau, zaw, zav, splice, zaj, zak, zab, zaa, ycs, yct, ycu, ycv, ycw, ycx, ycy, ycz, zan, zai, zax, zay, and_self, true_and, and_true, lenV, yda, Nat.le_refl, if_true, ydq, ydr, yds, ne_eq, not_true_eq_false, not_false_eq_true, ← decide_not, Decidable.not_not, ydt, ydu, ydz, ydv, ydw, List.drop_zero, eq_self, Bool.false_eq_true, List.getElem?_toArray, yea, yeb, List.nil_append, List.cons_append, Bool.false_and, Int.reduceEq, Int.reduceLT, Int.reduceLE, Int.reduceNe, zbc, zbb, yec, yed, yee, yef, ydx, ydy, hc, gA, s7, t7, list7, yen, hget_lt gA]
      refine bad _ (fA.set _ (.inr (Nat.le_refl _))) ?_
      rw [hoff, if_pos (.inr (.inl hc))]
  | true =>
    simp only [if_true] at hoff
    simp only [↓yaa, ↓yab, ↓yac, ↓yad, ↓yae, ↓yaf, ↓yag, ↓yah, ↓yai, ↓ydb, ↓ydc, ↓ydd, ↓yde, ↓ydf, ↓ydg, ↓yao, ↓yap, ↓ydh, ↓ydi, ↓ydj, ↓ydk, ↓ydl, ↓ydm, ↓ydn, ↓ydo, ↓ydp, ↓yax, yay, yaz, yba, ybb, ybc, ybd, ybe, ybf, ybg, ybh, ybi, ybj, ybk, ybl, ybm, ybn, ybo, ybp, ybq, ybr, ybs, ybt, ybu, ybv, ares, tup, ybw, ybx, yby, argsE, dval, aop, ev, evs, evo, evp, fillL, addrOf, intOf?, ybz, yca, ycb, ycc, ycd, yce, ycf, zah, zag, reduceIte, Nat.reduceEqDiff, ycg, ych, yci, ycj, yck, ycl, ycm, ycn, yco, ycp, ycq, ycr, zap, zao, reduceCtorEq, zbb, zbc, zba, zaz, Nat.reduceAdd, Nat.reduceMul, zaq, zar, eqPtr, zae, zaf, zab, zaa, zac, zad, hload, hstore, zal, zam, Nat.reduceAdd, Nat.reduceLeDiff, zbb, zas, zat, one, zau, zaw, zav, splice, zaj, zak, zab, zaa, ycs, yct, ycu, ycv, ycw, ycx, ycy, ycz, zan, zai, zax, zay, and_self, true_and, and_true, lenV, yda, Nat.le_refl, if_true, ydq, ydr, yds, ne_eq, not_true_eq_false, not_false_eq_true, ← decide_not, Decidable.not_not, ydt, ydu, ydz, ydv, ydw, List.drop_zero, eq_self, Bool.false_eq_true, List.getElem?_toArray, yea, yeb, List.nil_append, List.cons_append, Bool.false_and, Int.reduceEq, Int.reduceLT, Int.reduceLE, Int.reduceNe, zbc, zbb, yec, yed, yee, yef, ydx, ydy]
    refine f147 rp5.st rp5.ok fun H6 a z st6 fr6 si6 n6 nw6 => ?_
    have hl16 := hop_len r4
    have ok6 := hop_ok rp5.ok
    have q6 := fr6.getp q5 (by omega)
    have g6 := fr6.getp g5 (by omega)
    have f6 : Frm [] H H6 := f5.new fr6 (by simp; omega)
    have hH4 : H4.length < H6.length := hget_lt q6
    have hH45 : H4.length + 1 = H5.length := by rw [l5]; simp
    have hzero : ¬ r4.hop.1.Zero := fun hz => by
      have h1 := hz.2.2.2
      have h2 : r4.hop.1.ch.length = ((((r4.unsigned 8).2.unsigned 27).2.unsigned 27).2.unsigned 4).1.toNat + 1 := by
        unfold RS.hop; simp only [rdN_length]
        have := (unsigned_lt (((r4.unsigned 8).2.unsigned 27).2.unsigned 27).2 4 (by omega)).1
        omega
      omega
    generalize r4.hop.1 = l at *
    generalize r4.hop.2 = r5 at *
    have rp6 : RP H6 H6 G.length r5 := ⟨st6, ok6, Frm.refl _ _⟩
    have hg1 : G.length ≠ H4.length := by omega
    have hlv : l.v a z = .agg #[.int .i64 l.ver, .int .i64 l.first, .int .i64 l.til, .slice a l.ch.length z] := rfl
    rw [hlv]
    simp only [↓yaa, ↓yab, ↓yac, ↓yad, ↓yae, ↓yaf, ↓yag, ↓yah, ↓yai, ↓ydb, ↓ydc, ↓ydd, ↓yde, ↓ydf, ↓ydg, ↓yao, ↓yap, ↓ydh, ↓ydi, ↓ydj, ↓ydk, ↓ydl, ↓ydm, ↓ydn, ↓ydo, ↓ydp, ↓yax, yay, yaz, yba, ybb, ybc, ybd, ybe, ybf, ybg, ybh, ybi, ybj, ybk, ybl, ybm, ybn, ybo, ybp, ybq, ybr, ybs, ybt, ybu, ybv, ares, tup, ybw, ybx, yby, argsE, dval, aop, ev, evs, evo, evp, fillL, addrOf, intOf?, ybz, yca, ycb, ycc, ycd, yce, ycf, zah, zag, reduceIte, Nat.reduceEqDiff, ycg, ych, yci, ycj, yck, ycl, ycm, ycn, yco, ycp, ycq, ycr, zap, zao, reduceCtorEq, zbb, zbc, zba, zaz, Nat.reduceAdd, Nat.reduceMul, zaq, zar, eqPtr, zae, zaf, zab, zaa, zac, zad, hload, hstore, zal, zam, Nat.reduceAdd, Nat.reduceLeDiff, zbb, zas, zat, one, zau, zaw, zav, splice, zaj, zak, zab, zaa, ycs, yct, ycu, ycv, ycw, ycx, ycy, ycz, zan, zai, zax, zay, and_self, true_and, and_true, lenV, yda, Nat.le_refl, if_true, ydq, ydr, yds, ne_eq, not_true_eq_false, not_false_eq_true, ← decide_not, Decidable.not_not, ydt, ydu, ydz, ydv, ydw, List.drop_zero, eq_self, Bool.false_eq_true, List.getElem?_toArray, yea, yeb, List.nil_append, List.cons_append, Bool.false_and, Int.reduceEq, Int.reduceLT, Int.reduceLE, Int.reduceNe, zbc, zbb, yec, yed, yee, yef, ydx, ydy, q6, s4, yen, hH4, take4', list4', Nat.reduceLeDiff]
    rw [← hlv]
    have rp7 : RP (H6.set H4.length (some ⟨true, [.int .i64 root, .bool opn, .string run, .int .i64 l.ver, .int .i64 l.first, .int .i64 l.til, .slice a l.ch.length z]⟩)) (H6.set H4.length (some ⟨true, [.int .i64 root, .bool opn, .string run, .int .i64 l.ver, .int .i64 l.first, .int .i64 l.til, .slice a l.ch.length z]⟩)) G.length r5 :=
      ⟨by unfold RSt; rw [yeo (Ne.symm hg1)]; exact st6, ok6, Frm.refl _ _⟩
    have q7 := yen (x := some ⟨true, [.int .i64 root, .bool opn, .string run, .int .i64 l.ver, .int .i64 l.first, .int .i64 l.til, .slice a l.ch.length z]⟩) hH4
    have g7 : hget (H6.set H4.length (some ⟨true, [.int .i64 root, .bool opn, .string run, .int .i64 l.ver, .int .i64 l.first, .int .i64 l.til, .slice a l.ch.length z]⟩)) H.length = some ⟨true, [.int .i64 0, .bool false, .string ⟨#[]⟩, .int .i64 0, .int .i64 0, .int .i64 0, .slice none 0 0]⟩ := by rw [yeo (by omega)]; exact g6
    have f7 : Frm [] H (H6.set H4.length (some ⟨true, [.int .i64 root, .bool opn, .string run, .int .i64 l.ver, .int .i64 l.first, .int .i64 l.til, .slice a l.ch.length z]⟩)) := f6.set _ (.inr (by omega))
    have si7 := si6.frame (O := [H4.length]) ((Frm.refl [H4.length] H6).set (i := H4.length) (some ⟨true, [.int .i64 root, .bool opn, .string run, .int .i64 l.ver, .int .i64 l.first, .int .i64 l.til, .slice a l.ch.length z]⟩) (.inl (by simp))) (nw6.ne (by omega))
    generalize H6.set H4.length (some ⟨true, [.int .i64 root, .bool opn, .string run, .int .i64 l.ver, .int .i64 l.first, .int .i64 l.til, .slice a l.ch.length z]⟩) = H7 at *
    refine f134 fun H8 f8 => ?_
    simp only [↓yaa, ↓yab, ↓yac, ↓yad, ↓yae, ↓yaf, ↓yag, ↓yah, ↓yai, ↓ydb, ↓ydc, ↓ydd, ↓yde, ↓ydf, ↓ydg, ↓yao, ↓yap, ↓ydh, ↓ydi, ↓ydj, ↓ydk, ↓ydl, ↓ydm, ↓ydn, ↓ydo, ↓ydp, ↓yax, yay, yaz, yba, ybb, ybc, ybd, ybe, ybf, ybg, ybh, ybi, ybj, ybk, ybl, ybm, ybn, ybo, ybp, ybq, ybr, ybs, ybt, ybu, ybv, ares, tup, ybw, ybx, yby, argsE, dval, aop, ev, evs, evo, evp, fillL, addrOf, intOf?, ybz, yca, ycb, ycc, ycd, yce, ycf, zah, zag, reduceIte, Nat.reduceEqDiff, ycg, ych, yci, ycj, yck, ycl, ycm, ycn, yco, ycp, ycq, ycr, zap, zao, reduceCtorEq, zbb, zbc, zba, zaz, Nat.reduceAdd, Nat.reduceMul, zaq, zar, eqPtr, zae, zaf, zab, zaa, zac, zad, hload, hstore, zal, zam, Nat.reduceAdd, Nat.reduceLeDiff, zbb, zas, zat, one, zau, zaw, zav, splice, zaj, zak, zab, zaa, ycs, yct, ycu, ycv, ycw, ycx, ycy, ycz, zan, zai, zax, zay, and_self, true_and, and_true, lenV, yda, Nat.le_refl, if_true, ydq, ydr, yds, ne_eq, not_true_eq_false, not_false_eq_true, ← decide_not, Decidable.not_not, ydt, ydu, ydz, ydv, ydw, List.drop_zero, eq_self, Bool.false_eq_true, List.getElem?_toArray, yea, yeb, List.nil_append, List.cons_append, Bool.false_and, Int.reduceEq, Int.reduceLT, Int.reduceLE, Int.reduceNe, zbc, zbb, yec, yed, yee, yef, ydx, ydy, hzero, zbc]
    refine (rp7.frm f8).close fun Ha rpa fa => ?_
    have fA := (f7.then f8).then fa
    have qA := fa.gets (f8.gets q7)
    have gA := fa.gets (f8.gets g7)
    by_cases hc : RS.close r5 = 0
    · simp only [↓yaa, ↓yab, ↓yac, ↓yad, ↓yae, ↓yaf, ↓yag, ↓yah, ↓yai, ↓ydb, ↓ydc, ↓ydd, ↓yde, ↓ydf, ↓ydg, ↓yao, ↓yap, ↓ydh, ↓ydi, ↓ydj, ↓ydk, ↓ydl, ↓ydm, ↓ydn, ↓ydo, ↓ydp, ↓yax, yay, yaz, yba, ybb, ybc, ybd, ybe, ybf, ybg, ybh, ybi, ybj, ybk, ybl, ybm, ybn, ybo, ybp, ybq, ybr, ybs, ybt, ybu, ybv, ares, tup, ybw, ybx, yby, argsE, dval, aop, ev, evs, evo, evp, fillL, addrOf, intOf?, ybz, yca, ycb, ycc, ycd, yce, ycf, zah, zag, reduceIte, Nat.reduceEqDiff, ycg, ych, yci, ycj, yck, ycl, ycm, ycn, yco, ycp, ycq, ycr, zap, zao, reduceCtorEq, zbb, zbc, zba, zaz, Nat.reduceAdd, Nat.reduceMul, zaq, zar, eqPtr, zae, zaf, zab, zaa, zac, zad, hload, hstore, zal, zam, Nat.reduceAdd, Nat.reduceLeDiff, zbb, zas, zat, one, zau, zaw, zav, splice, zaj, zak, zab, zaa, ycs, yct, ycu, ycv, ycw, ycx, ycy, ycz, zan, zai, zax, zay, and_self, true_and, and_true, lenV, yda, Nat.le_refl, if_true, ydq, ydr, yds, ne_eq, not_true_eq_false, not_false_eq_true, ← decide_not, Decidable.not_not, ydt, ydu, ydz, ydv, ydw, List.drop_zero, eq_self, Bool.false_eq_true, List.getElem?_toArray, yea, yeb, List.nil_append, List.cons_append, Bool.false_and, Int.reduceEq, Int.reduceLT, Int.reduceLE, Int.reduceNe, zbc, zbb, yec, yed, yee, yef, ydx, ydy, hc, qA, t7, list7]
      rw [show Value.agg #[.int .i64 root, .bool opn, .string run, .int .i64 l.ver, .int .i64 l.first, .int .i64 l.til, .slice a l.ch.length z] = (⟨root, opn, run, l⟩ : Off).v a z from rfl]
      refine f113 ((si7.frame0 f8).frame0 fa) (by first | exact Nat.lt_of_le_of_lt hl16 (by decide) | simp) fun Hb fb => ?_
      have fB := fA.then fb
      have qB := fb.gets qA
      have gB := fb.gets gA
      by_cases he : (⟨root, opn, run, l⟩ : Off).err = 0
      · have hd := hk (Hb.set H.length (some ⟨true, [.int .i64 root, .bool opn, .string run, .int .i64 l.ver, .int .i64 l.first, .int .i64 l.til, .slice a l.ch.length z]⟩)) a z
        rw [hoff, if_neg (fun hh => hh.elim (fun q => hzero q.2) (fun hh => hh.elim (fun q => q hc) (fun q => q he)))] at hd
        simp only [↓yaa, ↓yab, ↓yac, ↓yad, ↓yae, ↓yaf, ↓yag, ↓yah, ↓yai, ↓ydb, ↓ydc, ↓ydd, ↓yde, ↓ydf, ↓ydg, ↓yao, ↓yap, ↓ydh, ↓ydi, ↓ydj, ↓ydk, ↓ydl, ↓ydm, ↓ydn, ↓ydo, ↓ydp, ↓yax, yay, yaz, yba, ybb, ybc, ybd, ybe, ybf, ybg, ybh, ybi, ybj, ybk, ybl, ybm, ybn, ybo, ybp, ybq, ybr, ybs, ybt, ybu, ybv, ares, tup, ybw, ybx, yby, argsE, dval, aop, ev, evs, evo, evp, fillL, addrOf, intOf?, ybz, yca, ycb, ycc, ycd, yce, ycf, zah, zag, reduceIte, Nat.reduceEqDiff, ycg, ych, yci, ycj, yck, ycl, ycm, ycn, yco, ycp, ycq, ycr, zap, zao, reduceCtorEq, zbb, zbc, zba, zaz, Nat.reduceAdd, Nat.reduceMul, zaq, zar, eqPtr, zae, zaf, zab, zaa, zac, zad, hload, hstore, zal, zam, Nat.reduceAdd, Nat.reduceLeDiff, zbb, zas, zat, one, zau, zaw, zav, splice, zaj, zak, zab, zaa, ycs, yct, ycu, ycv, ycw, ycx, ycy, ycz, zan, zai, zax, zay, and_self, true_and, and_true, lenV, yda, Nat.le_refl, if_true, ydq, ydr, yds, ne_eq, not_true_eq_false, not_false_eq_true, ← decide_not, Decidable.not_not, ydt, ydu, ydz, ydv, ydw, List.drop_zero, eq_self, Bool.false_eq_true, List.getElem?_toArray, yea, yeb, List.nil_append, List.cons_append, Bool.false_and, Int.reduceEq, Int.reduceLT, Int.reduceLE, Int.reduceNe, zbc, zbb, yec, yed, yee, yef, ydx, ydy, he, qB, gB, t7, s7, list7, yen, hget_lt gB]
        refine hd (fB.set _ (.inr (Nat.le_refl _))) ?_ n6 (fun b o h => by have := nw6 b o h; omega)
        exact (((si7.frame0 f8).frame0 fa).frame0 fb).frame (O := [H.length]) ((Frm.refl _ _).set _ (by simp)) (nw6.ne (by omega))
      · simp only [↓yaa, ↓yab, ↓yac, ↓yad, ↓yae, ↓yaf, ↓yag, ↓yah, ↓yai, ↓ydb, ↓ydc, ↓ydd, ↓yde, ↓ydf, ↓ydg, ↓yao, ↓yap, ↓ydh, ↓ydi, ↓ydj, ↓ydk, ↓ydl, ↓ydm, ↓ydn, ↓ydo, ↓ydp, ↓yax, yay, yaz, yba, ybb, ybc, ybd, ybe, ybf, ybg, ybh, ybi, ybj, ybk, ybl, ybm, ybn, ybo, ybp, ybq, ybr, ybs, ybt, ybu, ybv, ares, tup, ybw, ybx, yby, argsE, dval, aop, ev, evs, evo, evp, fillL, addrOf, intOf?, ybz, yca, ycb, ycc, ycd, yce, ycf, zah, zag, reduceIte, Nat.reduceEqDiff, ycg, ych, yci, ycj, yck, ycl, ycm, ycn, yco, ycp, ycq, ycr, zap, zao, reduceCtorEq, zbb, zbc, zba, zaz, Nat.reduceAdd, Nat.reduceMul, zaq, zar, eqPtr, zae, zaf, zab, zaa, zac, zad, hload, hstore, zal, zam, Nat.reduceAdd, Nat.reduceLeDiff, zbb, zas, zat, one, zau, zaw, zav, splice, zaj, zak, zab, zaa, ycs, yct, ycu, ycv, ycw, ycx, ycy, ycz, zan, zai, zax, zay, and_self, true_and, and_true, lenV, yda, Nat.le_refl, if_true, ydq, ydr, yds, ne_eq, not_true_eq_false, not_false_eq_true, ← decide_not, Decidable.not_not, ydt, ydu, ydz, ydv, ydw, List.drop_zero, eq_self, Bool.false_eq_true, List.getElem?_toArray, yea, yeb, List.nil_append, List.cons_append, Bool.false_and, Int.reduceEq, Int.reduceLT, Int.reduceLE, Int.reduceNe, zbc, zbb, yec, yed, yee, yef, ydx, ydy, he, gB, s7, t7, list7, yen, hget_lt gB]
        refine bad _ (fB.set _ (.inr (Nat.le_refl _))) ?_
        rw [hoff, if_pos (.inr (.inr he))]
    · simp only [↓yaa, ↓yab, ↓yac, ↓yad, ↓yae, ↓yaf, ↓yag, ↓yah, ↓yai, ↓ydb, ↓ydc, ↓ydd, ↓yde, ↓ydf, ↓ydg, ↓yao, ↓yap, ↓ydh, ↓ydi, ↓ydj, ↓ydk, ↓ydl, ↓ydm, ↓ydn, ↓ydo, ↓ydp, ↓yax, yay, yaz, yba, ybb, ybc, ybd, ybe, ybf, ybg, ybh, ybi, ybj, ybk, ybl, ybm, ybn, ybo, ybp, ybq, ybr, ybs, ybt, ybu, ybv, ares, tup, ybw, ybx, yby, argsE, dval, aop, ev, evs, evo, evp, fillL, addrOf, intOf?, ybz, yca, ycb, ycc, ycd, yce, ycf, zah, zag, reduceIte, Nat.reduceEqDiff, ycg, ych, yci, ycj, yck, ycl, ycm, ycn, yco, ycp, ycq, ycr, zap, zao, reduceCtorEq, zbb, zbc, zba, zaz, Nat.reduceAdd, Nat.reduceMul, zaq, zar, eqPtr, zae, zaf, zab, zaa, zac, zad, hload, hstore, zal, zam, Nat.reduceAdd, Nat.reduceLeDiff, zbb, zas, zat, one, zau, zaw, zav, splice, zaj, zak, zab, zaa, ycs, yct, ycu, ycv, ycw, ycx, ycy, ycz, zan, zai, zax, zay, and_self, true_and, and_true, lenV, yda, Nat.le_refl, if_true, ydq, ydr, yds, ne_eq, not_true_eq_false, not_false_eq_true, ← decide_not, Decidable.not_not, ydt, ydu, ydz, ydv, ydw, List.drop_zero, eq_self, Bool.false_eq_true, List.getElem?_toArray, yea, yeb, List.nil_append, List.cons_append, Bool.false_and, Int.reduceEq, Int.reduceLT, Int.reduceLE, Int.reduceNe, zbc, zbb, yec, yed, yee, yef, ydx, ydy, hc, gA, s7, t7, list7, yen, hget_lt gA]
      refine bad _ (fA.set _ (.inr (Nat.le_refl _))) ?_
      rw [hoff, if_pos (.inr (.inl hc))]

end Go.Proofs.Ytejcabdejoameaa.AI

/- Offers that the reference reads. -/
set_option linter.unusedSimpArgs false
set_option maxHeartbeats 8000000
namespace Go.Proofs.Ytejcabdejoameaa.AI
open Go

open Classical in
theorem f125 {H : Heap} {t : ByteArray} {K : Value → Heap → Prop}
    (hk : ∀ H' a z, Frm [] H H' → SI H' a z (dec t).1.next.ch → (a = none → z = 0 ∧ (dec t).1.next.ch.length = 0) → Nw a H.length → K (.tuple #[(dec t).1.v a z, .int .i64 (dec t).2]) H') :
    Op1 (AC tbl 125 [.string t] H) K := by
  apply AC_wp (F := F125) rfl (by simp [F125]) (.inl rfl)
  have f0 : Frm [] H (H ++ [some ⟨true, [.int .i64 0, .bool false, .string ⟨#[]⟩, .int .i64 0, .int .i64 0, .int .i64 0, .slice none 0 0]⟩]) := (Frm.refl _ _).push _
  have g0 : hget (H ++ [some ⟨true, [.int .i64 0, .bool false, .string ⟨#[]⟩, .int .i64 0, .int .i64 0, .int .i64 0, .slice none 0 0]⟩]) H.length = some ⟨true, [.int .i64 0, .bool false, .string ⟨#[]⟩, .int .i64 0, .int .i64 0, .int .i64 0, .slice none 0 0]⟩ := ydu
  have l0 : (H ++ [some (⟨true, [.int .i64 0, .bool false, .string ⟨#[]⟩, .int .i64 0, .int .i64 0, .int .i64 0, .slice none 0 0]⟩ : Blk)]).length = H.length + 1 := by simp
  have bad : ∀ H', Frm [] H H' → (dec t = (zeroOff, 10)) → K (.tuple #[.agg #[.int .i64 0, .bool false, .string ⟨#[]⟩, .int .i64 0, .int .i64 0, .int .i64 0, .slice none 0 0], .int .i64 10]) H' := fun H' hf hd => by
    have := hk H' none 0 hf (by rw [hd]; exact SI.nil) (fun _ => by rw [hd]; exact ⟨rfl, rfl⟩) (fun b o h => by simp at h)
    rw [hd] at this
    exact this
  simp only [F125, ↓yaa, ↓yab, ↓yac, ↓yad, ↓yae, ↓yaf, ↓yag, ↓yah, ↓yai, ↓ydb, ↓ydc, ↓ydd, ↓yde, ↓ydf, ↓ydg, ↓yao, ↓yap, ↓ydh, ↓ydi, ↓ydj, ↓ydk, ↓ydl, ↓ydm, ↓ydn, ↓ydo, ↓ydp, ↓yax, yay, yaz, yba, ybb, ybc, ybd, ybe, ybf, ybg, ybh, ybi, ybj, ybk, ybl, ybm, ybn, ybo, ybp, ybq, ybr, ybs, ybt, ybu, ybv, ares, tup, ybw, ybx, yby, argsE, dval, aop, ev, evs, evo, evp, fillL, addrOf, intOf?, ybz, yca, ycb, ycc, ycd, yce, ycf, zah, zag, reduceIte, Nat.reduceEqDiff, ycg, ych, yci, ycj, yck, ycl, ycm, ycn, yco, ycp, ycq, ycr, zap, zao, reduceCtorEq, zbb, zbc, zba, zaz, Nat.reduceAdd, Nat.reduceMul, zaq, zar, eqPtr, zae, zaf, zab, zaa, zac, zad, hload, hstore, zal, zam, Nat.reduceAdd, Nat.reduceLeDiff, zbb, zas, zat, one, zau, zaw, zav, splice, zaj, zak, zab, zaa, ycs, yct, ycu, ycv, ycw, ycx, ycy, ycz, zan, zai, zax, zay, and_self, true_and, and_true, lenV, yda, Nat.le_refl, if_true, ydq, ydr, yds, ne_eq, not_true_eq_false, not_false_eq_true, ← decide_not, Decidable.not_not, ydt, ydu, ydz, ydv, ydw, List.drop_zero, eq_self, Bool.false_eq_true, List.getElem?_toArray, yea, yeb, List.nil_append, List.cons_append, Bool.false_and, Int.reduceEq, Int.reduceLT, Int.reduceLE, Int.reduceNe, zbc, zbb, yec, yed, yee, yef, ydx, ydy]
  generalize H ++ [some (⟨true, [.int .i64 0, .bool false, .string ⟨#[]⟩, .int .i64 0, .int .i64 0, .int .i64 0, .slice none 0 0]⟩ : Blk)] = G at *
  refine XP.new fun H1 rp f1 l1 => ?_
  have hoff : (newR t).off = (newR t).off := rfl
  conv at hoff => rhs; unfold RS.off
  have hdec : dec t = if ((newR t).off.2.1 = true ∧ (newR t).off.1.next.Zero) ∨ (newR t).off.2.2.close ≠ 0 ∨ (newR t).off.1.err ≠ 0 then (zeroOff, 10) else ((newR t).off.1, 0) := rfl
  rw [hdec] at hk bad
  clear hdec
  simp only at hoff
  have g1 := f1.gets g0
  have rp := rp.base
  simp only [↓yaa, ↓yab, ↓yac, ↓yad, ↓yae, ↓yaf, ↓yag, ↓yah, ↓yai, ↓ydb, ↓ydc, ↓ydd, ↓yde, ↓ydf, ↓ydg, ↓yao, ↓yap, ↓ydh, ↓ydi, ↓ydj, ↓ydk, ↓ydl, ↓ydm, ↓ydn, ↓ydo, ↓ydp, ↓yax, yay, yaz, yba, ybb, ybc, ybd, ybe, ybf, ybg, ybh, ybi, ybj, ybk, ybl, ybm, ybn, ybo, ybp, ybq, ybr, ybs, ybt, ybu, ybv, ares, tup, ybw, ybx, yby, argsE, dval, aop, ev, evs, evo, evp, fillL, addrOf, intOf?, ybz, yca, ycb, ycc, ycd, yce, ycf, zah, zag, reduceIte, Nat.reduceEqDiff, ycg, ych, yci, ycj, yck, ycl, ycm, ycn, yco, ycp, ycq, ycr, zap, zao, reduceCtorEq, zbb, zbc, zba, zaz, Nat.reduceAdd, Nat.reduceMul, zaq, zar, eqPtr, zae, zaf, zab, zaa, zac, zad, hload, hstore, zal, zam, Nat.reduceAdd, Nat.reduceLeDiff, zbb, zas, zat, one, zau, zaw, zav, splice, zaj, zak, zab, zaa, ycs, yct, ycu, ycv, ycw, ycx, ycy, ycz, zan, zai, zax, zay, and_self, true_and, and_true, lenV, yda, Nat.le_refl, if_true, ydq, ydr, yds, ne_eq, not_true_eq_false, not_false_eq_true, ← decide_not, Decidable.not_not, ydt, ydu, ydz, ydv, ydw, List.drop_zero, eq_self, Bool.false_eq_true, List.getElem?_toArray, yea, yeb, List.nil_append, List.cons_append, Bool.false_and, Int.reduceEq, Int.reduceLT, Int.reduceLE, Int.reduceNe, zbc, zbb, yec, yed, yee, yef, ydx, ydy]
  refine rp.unsigned fun H2 rp l2 => ?_
  generalize ((newR t).unsigned 5).1 = root at *
  generalize ((newR t).unsigned 5).2 = r1 at *
  have hG2 : G.length < H2.length := by have := rp.f.1; omega
  have f2 : Frm [] H H2 := (f0.then f1).new rp.f (by simp; omega)
  have g2 := rp.f.getp g1 (by omega)
  simp only [↓yaa, ↓yab, ↓yac, ↓yad, ↓yae, ↓yaf, ↓yag, ↓yah, ↓yai, ↓ydb, ↓ydc, ↓ydd, ↓yde, ↓ydf, ↓ydg, ↓yao, ↓yap, ↓ydh, ↓ydi, ↓ydj, ↓ydk, ↓ydl, ↓ydm, ↓ydn, ↓ydo, ↓ydp, ↓yax, yay, yaz, yba, ybb, ybc, ybd, ybe, ybf, ybg, ybh, ybi, ybj, ybk, ybl, ybm, ybn, ybo, ybp, ybq, ybr, ybs, ybt, ybu, ybv, ares, tup, ybw, ybx, yby, argsE, dval, aop, ev, evs, evo, evp, fillL, addrOf, intOf?, ybz, yca, ycb, ycc, ycd, yce, ycf, zah, zag, reduceIte, Nat.reduceEqDiff, ycg, ych, yci, ycj, yck, ycl, ycm, ycn, yco, ycp, ycq, ycr, zap, zao, reduceCtorEq, zbb, zbc, zba, zaz, Nat.reduceAdd, Nat.reduceMul, zaq, zar, eqPtr, zae, zaf, zab, zaa, zac, zad, hload, hstore, zal, zam, Nat.reduceAdd, Nat.reduceLeDiff, zbb, zas, zat, one, zau, zaw, zav, splice, zaj, zak, zab, zaa, ycs, yct, ycu, ycv, ycw, ycx, ycy, ycz, zan, zai, zax, zay, and_self, true_and, and_true, lenV, yda, Nat.le_refl, if_true, ydq, ydr, yds, ne_eq, not_true_eq_false, not_false_eq_true, ← decide_not, Decidable.not_not, ydt, ydu, ydz, ydv, ydw, List.drop_zero, eq_self, Bool.false_eq_true, List.getElem?_toArray, yea, yeb, List.nil_append, List.cons_append, Bool.false_and, Int.reduceEq, Int.reduceLT, Int.reduceLE, Int.reduceNe, zbc, zbb, yec, yed, yee, yef, ydx, ydy, s7]
  -- the offer's block stands at the end of H2
  have rp := (rp.push (some ⟨true, [.int .i64 root, .bool false, .string ⟨#[]⟩, .int .i64 0, .int .i64 0, .int .i64 0, .slice none 0 0]⟩)).base
  have q : hget (H2 ++ [some ⟨true, [.int .i64 root, .bool false, .string ⟨#[]⟩, .int .i64 0, .int .i64 0, .int .i64 0, .slice none 0 0]⟩]) H2.length = some ⟨true, [.int .i64 root, .bool false, .string ⟨#[]⟩, .int .i64 0, .int .i64 0, .int .i64 0, .slice none 0 0]⟩ := ydu
  have g : hget (H2 ++ [some ⟨true, [.int .i64 root, .bool false, .string ⟨#[]⟩, .int .i64 0, .int .i64 0, .int .i64 0, .slice none 0 0]⟩]) H.length = some ⟨true, [.int .i64 0, .bool false, .string ⟨#[]⟩, .int .i64 0, .int .i64 0, .int .i64 0, .slice none 0 0]⟩ := by rw [hget_append_lt (hget_lt g2)]; exact g2
  have f := f2.push (some ⟨true, [.int .i64 root, .bool false, .string ⟨#[]⟩, .int .i64 0, .int .i64 0, .int .i64 0, .slice none 0 0]⟩)
  generalize H2 ++ [some (⟨true, [.int .i64 root, .bool false, .string ⟨#[]⟩, .int .i64 0, .int .i64 0, .int .i64 0, .slice none 0 0]⟩ : Blk)] = M at *
  have hHG : H.length < G.length := by omega
  refine rp.flag fun N rp lN => ?_
  generalize r1.flag.1 = opn at *
  generalize r1.flag.2 = r2 at *
  have q := rp.f.getp q (by omega)
  have g := rp.f.getp g (by omega)
  have f := f.new rp.f (by simp; omega)
  have hq := hget_lt q
  simp only [↓yaa, ↓yab, ↓yac, ↓yad, ↓yae, ↓yaf, ↓yag, ↓yah, ↓yai, ↓ydb, ↓ydc, ↓ydd, ↓yde, ↓ydf, ↓ydg, ↓yao, ↓yap, ↓ydh, ↓ydi, ↓ydj, ↓ydk, ↓ydl, ↓ydm, ↓ydn, ↓ydo, ↓ydp, ↓yax, yay, yaz, yba, ybb, ybc, ybd, ybe, ybf, ybg, ybh, ybi, ybj, ybk, ybl, ybm, ybn, ybo, ybp, ybq, ybr, ybs, ybt, ybu, ybv, ares, tup, ybw, ybx, yby, argsE, dval, aop, ev, evs, evo, evp, fillL, addrOf, intOf?, ybz, yca, ycb, ycc, ycd, yce, ycf, zah, zag, reduceIte, Nat.reduceEqDiff, ycg, ych, yci, ycj, yck, ycl, ycm, ycn, yco, ycp, ycq, ycr, zap, zao, reduceCtorEq, zbb, zbc, zba, zaz, Nat.reduceAdd, Nat.reduceMul, zaq, zar, eqPtr, zae, zaf, zab, zaa, zac, zad, hload, hstore, zal, zam, Nat.reduceAdd, Nat.reduceLeDiff, zbb, zas, zat, one, zau, zaw, zav, splice, zaj, zak, zab, zaa, ycs, yct, ycu, ycv, ycw, ycx, ycy, ycz, zan, zai, zax, zay, and_self, true_and, and_true, lenV, yda, Nat.le_refl, if_true, ydq, ydr, yds, ne_eq, not_true_eq_false, not_false_eq_true, ← decide_not, Decidable.not_not, ydt, ydu, ydz, ydv, ydw, List.drop_zero, eq_self, Bool.false_eq_true, List.getElem?_toArray, yea, yeb, List.nil_append, List.cons_append, Bool.false_and, Int.reduceEq, Int.reduceLT, Int.reduceLE, Int.reduceNe, zbc, zbb, yec, yed, yee, yef, ydx, ydy, Nat.reduceAdd, q, hq, yen]
  have rp : XP (N.set H2.length (some ⟨true, [.int .i64 root, .bool opn, .string ⟨#[]⟩, .int .i64 0, .int .i64 0, .int .i64 0, .slice none 0 0]⟩)) (N.set H2.length (some ⟨true, [.int .i64 root, .bool opn, .string ⟨#[]⟩, .int .i64 0, .int .i64 0, .int .i64 0, .slice none 0 0]⟩)) G.length _ := ⟨by unfold RSt; rw [yeo (by omega)]; exact rp.st, rp.ok, Frm.refl _ _⟩
  have q := yen (x := some ⟨true, [.int .i64 root, .bool opn, .string ⟨#[]⟩, .int .i64 0, .int .i64 0, .int .i64 0, .slice none 0 0]⟩) hq
  have g : hget (N.set H2.length (some ⟨true, [.int .i64 root, .bool opn, .string ⟨#[]⟩, .int .i64 0, .int .i64 0, .int .i64 0, .slice none 0 0]⟩)) H.length = some ⟨true, [.int .i64 0, .bool false, .string ⟨#[]⟩, .int .i64 0, .int .i64 0, .int .i64 0, .slice none 0 0]⟩ := by rw [yeo (by omega)]; exact g
  have f := f.set (i := H2.length) (some ⟨true, [.int .i64 root, .bool opn, .string ⟨#[]⟩, .int .i64 0, .int .i64 0, .int .i64 0, .slice none 0 0]⟩) (.inr (by omega))
  clear hq lN
  generalize N.set H2.length (some ⟨true, [.int .i64 root, .bool opn, .string ⟨#[]⟩, .int .i64 0, .int .i64 0, .int .i64 0, .slice none 0 0]⟩) = M at *
  refine rp.text ⟨by omega, by omega⟩ fun N rp lN => ?_
  generalize (r2.text 8).1 = run at *
  generalize (r2.text 8).2 = r3 at *
  have q := rp.f.getp q (by omega)
  have g := rp.f.getp g (by omega)
  have f := f.new rp.f (by simp; omega)
  have hq := hget_lt q
  simp only [↓yaa, ↓yab, ↓yac, ↓yad, ↓yae, ↓yaf, ↓yag, ↓yah, ↓yai, ↓ydb, ↓ydc, ↓ydd, ↓yde, ↓ydf, ↓ydg, ↓yao, ↓yap, ↓ydh, ↓ydi, ↓ydj, ↓ydk, ↓ydl, ↓ydm, ↓ydn, ↓ydo, ↓ydp, ↓yax, yay, yaz, yba, ybb, ybc, ybd, ybe, ybf, ybg, ybh, ybi, ybj, ybk, ybl, ybm, ybn, ybo, ybp, ybq, ybr, ybs, ybt, ybu, ybv, ares, tup, ybw, ybx, yby, argsE, dval, aop, ev, evs, evo, evp, fillL, addrOf, intOf?, ybz, yca, ycb, ycc, ycd, yce, ycf, zah, zag, reduceIte, Nat.reduceEqDiff, ycg, ych, yci, ycj, yck, ycl, ycm, ycn, yco, ycp, ycq, ycr, zap, zao, reduceCtorEq, zbb, zbc, zba, zaz, Nat.reduceAdd, Nat.reduceMul, zaq, zar, eqPtr, zae, zaf, zab, zaa, zac, zad, hload, hstore, zal, zam, Nat.reduceAdd, Nat.reduceLeDiff, zbb, zas, zat, one, zau, zaw, zav, splice, zaj, zak, zab, zaa, ycs, yct, ycu, ycv, ycw, ycx, ycy, ycz, zan, zai, zax, zay, and_self, true_and, and_true, lenV, yda, Nat.le_refl, if_true, ydq, ydr, yds, ne_eq, not_true_eq_false, not_false_eq_true, ← decide_not, Decidable.not_not, ydt, ydu, ydz, ydv, ydw, List.drop_zero, eq_self, Bool.false_eq_true, List.getElem?_toArray, yea, yeb, List.nil_append, List.cons_append, Bool.false_and, Int.reduceEq, Int.reduceLT, Int.reduceLE, Int.reduceNe, zbc, zbb, yec, yed, yee, yef, ydx, ydy, Nat.reduceAdd, q, hq, yen]
  have rp : XP (N.set H2.length (some ⟨true, [.int .i64 root, .bool opn, .string run, .int .i64 0, .int .i64 0, .int .i64 0, .slice none 0 0]⟩)) (N.set H2.length (some ⟨true, [.int .i64 root, .bool opn, .string run, .int .i64 0, .int .i64 0, .int .i64 0, .slice none 0 0]⟩)) G.length _ := ⟨by unfold RSt; rw [yeo (by omega)]; exact rp.st, rp.ok, Frm.refl _ _⟩
  have q := yen (x := some ⟨true, [.int .i64 root, .bool opn, .string run, .int .i64 0, .int .i64 0, .int .i64 0, .slice none 0 0]⟩) hq
  have g : hget (N.set H2.length (some ⟨true, [.int .i64 root, .bool opn, .string run, .int .i64 0, .int .i64 0, .int .i64 0, .slice none 0 0]⟩)) H.length = some ⟨true, [.int .i64 0, .bool false, .string ⟨#[]⟩, .int .i64 0, .int .i64 0, .int .i64 0, .slice none 0 0]⟩ := by rw [yeo (by omega)]; exact g
  have f := f.set (i := H2.length) (some ⟨true, [.int .i64 root, .bool opn, .string run, .int .i64 0, .int .i64 0, .int .i64 0, .slice none 0 0]⟩) (.inr (by omega))
  clear hq lN
  generalize N.set H2.length (some ⟨true, [.int .i64 root, .bool opn, .string run, .int .i64 0, .int .i64 0, .int .i64 0, .slice none 0 0]⟩) = M at *
  refine rp.flag fun N rp lN => ?_
  generalize r3.flag.1 = nx at *
  generalize r3.flag.2 = r4 at *
  have q := rp.f.getp q (by omega)
  have g := rp.f.getp g (by omega)
  have f := f.new rp.f (by simp; omega)
  have rp := rp.base
  clear lN
  cases nx with
  | false =>
    simp only [Bool.false_eq_true, if_false] at hoff
    simp only [↓yaa, ↓yab, ↓yac, ↓yad, ↓yae, ↓yaf, ↓yag, ↓yah, ↓yai, ↓ydb, ↓ydc, ↓ydd, ↓yde, ↓ydf, ↓ydg, ↓yao, ↓yap, ↓ydh, ↓ydi, ↓ydj, ↓ydk, ↓ydl, ↓ydm, ↓ydn, ↓ydo, ↓ydp, ↓yax, yay, yaz, yba, ybb, ybc, ybd, ybe, ybf, ybg, ybh, ybi, ybj, ybk, ybl, ybm, ybn, ybo, ybp, ybq, ybr, ybs, ybt, ybu, ybv, ares, tup, ybw, ybx, yby, argsE, dval, aop, ev, evs, evo, evp, fillL, addrOf, intOf?, ybz, yca, ycb, ycc, ycd, yce, ycf, zah, zag, reduceIte, Nat.reduceEqDiff, ycg, ych, yci, ycj, yck, ycl, ycm, ycn, yco, ycp, ycq, ycr, zap, zao, reduceCtorEq, zbb, zbc, zba, zaz, Nat.reduceAdd, Nat.reduceMul, zaq, zar, eqPtr, zae, zaf, zab, zaa, zac, zad, hload, hstore, zal, zam, Nat.reduceAdd, Nat.reduceLeDiff, zbb, zas, zat, one, zau, zaw, zav, splice, zaj, zak, zab, zaa, ycs, yct, ycu, ycv, ycw, ycx, ycy, ycz, zan, zai, zax, zay, and_self, true_and, and_true, lenV, yda, Nat.le_refl, if_true, ydq, ydr, yds, ne_eq, not_true_eq_false, not_false_eq_true, ← decide_not, Decidable.not_not, ydt, ydu, ydz, ydv, ydw, List.drop_zero, eq_self, Bool.false_eq_true, List.getElem?_toArray, yea, yeb, List.nil_append, List.cons_append, Bool.false_and, Int.reduceEq, Int.reduceLT, Int.reduceLE, Int.reduceNe, zbc, zbb, yec, yed, yee, yef, ydx, ydy, rp.close]
    by_cases hc : RS.close r4 = 0
    · simp only [↓yaa, ↓yab, ↓yac, ↓yad, ↓yae, ↓yaf, ↓yag, ↓yah, ↓yai, ↓ydb, ↓ydc, ↓ydd, ↓yde, ↓ydf, ↓ydg, ↓yao, ↓yap, ↓ydh, ↓ydi, ↓ydj, ↓ydk, ↓ydl, ↓ydm, ↓ydn, ↓ydo, ↓ydp, ↓yax, yay, yaz, yba, ybb, ybc, ybd, ybe, ybf, ybg, ybh, ybi, ybj, ybk, ybl, ybm, ybn, ybo, ybp, ybq, ybr, ybs, ybt, ybu, ybv, ares, tup, ybw, ybx, yby, argsE, dval, aop, ev, evs, evo, evp, fillL, addrOf, intOf?, ybz, yca, ycb, ycc, ycd, yce, ycf, zah, zag, reduceIte, Nat.reduceEqDiff, ycg, ych, yci, ycj, yck, ycl, ycm, ycn, yco, ycp, ycq, ycr, zap, zao, reduceCtorEq, zbb, zbc, zba, zaz, Nat.reduceAdd, Nat.reduceMul, zaq, zar, eqPtr, zae, zaf, zab, zaa, zac, zad, hload, hstore, zal, zam, Nat.reduceAdd, Nat.reduceLeDiff, zbb, zas, zat, one, zau, zaw, zav, splice, zaj, zak, zab, zaa, ycs, yct, ycu, ycv, ycw, ycx, ycy, ycz, zan, zai, zax, zay, and_self, true_and, and_true, lenV, yda, Nat.le_refl, if_true, ydq, ydr, yds, ne_eq, not_true_eq_false, not_false_eq_true, ← decide_not, Decidable.not_not, ydt, ydu, ydz, ydv, ydw, List.drop_zero, eq_self, Bool.false_eq_true, List.getElem?_toArray, yea, yeb, List.nil_append, List.cons_append, Bool.false_and, Int.reduceEq, Int.reduceLT, Int.reduceLE, Int.reduceNe, zbc, zbb, yec, yed, yee, yef, ydx, ydy, hc, q, t7, list7]
      rw [show Value.agg #[.int .i64 root, .bool opn, .string run, .int .i64 0, .int .i64 0, .int .i64 0, .slice none 0 0] = (⟨root, opn, run, ⟨0, 0, 0, []⟩⟩ : Off).v none 0 from rfl]
      refine f114 (SI.nil : SI _ none 0 []) (by first | exact Nat.lt_of_le_of_lt hl16 (by decide) | simp) fun Hb fb => ?_
      have fB := f.then fb
      have qB := fb.gets q
      have gB := fb.gets g
      by_cases he : (⟨root, opn, run, ⟨0, 0, 0, []⟩⟩ : Off).err = 0
      · simp only [↓yaa, ↓yab, ↓yac, ↓yad, ↓yae, ↓yaf, ↓yag, ↓yah, ↓yai, ↓ydb, ↓ydc, ↓ydd, ↓yde, ↓ydf, ↓ydg, ↓yao, ↓yap, ↓ydh, ↓ydi, ↓ydj, ↓ydk, ↓ydl, ↓ydm, ↓ydn, ↓ydo, ↓ydp, ↓yax, yay, yaz, yba, ybb, ybc, ybd, ybe, ybf, ybg, ybh, ybi, ybj, ybk, ybl, ybm, ybn, ybo, ybp, ybq, ybr, ybs, ybt, ybu, ybv, ares, tup, ybw, ybx, yby, argsE, dval, aop, ev, evs, evo, evp, fillL, addrOf, intOf?, ybz, yca, ycb, ycc, ycd, yce, ycf, zah, zag, reduceIte, Nat.reduceEqDiff, ycg, ych, yci, ycj, yck, ycl, ycm, ycn, yco, ycp, ycq, ycr, zap, zao, reduceCtorEq, zbb, zbc, zba, zaz, Nat.reduceAdd, Nat.reduceMul, zaq, zar, eqPtr, zae, zaf, zab, zaa, zac, zad, hload, hstore, zal, zam, Nat.reduceAdd, Nat.reduceLeDiff, zbb, zas, zat, one, zau, zaw, zav, splice, zaj, zak, zab, zaa, ycs, yct, ycu, ycv, ycw, ycx, ycy, ycz, zan, zai, zax, zay, and_self, true_and, and_true, lenV, yda, Nat.le_refl, if_true, ydq, ydr, yds, ne_eq, not_true_eq_false, not_false_eq_true, ← decide_not, Decidable.not_not, ydt, ydu, ydz, ydv, ydw, List.drop_zero, eq_self, Bool.false_eq_true, List.getElem?_toArray, yea, yeb, List.nil_append, List.cons_append, Bool.false_and, Int.reduceEq, Int.reduceLT, Int.reduceLE, Int.reduceNe, zbc, zbb, yec, yed, yee, yef, ydx, ydy, he, qB, take4', list4', Nat.reduceLeDiff]
        rw [show Value.agg #[.int .i64 0, .int .i64 0, .int .i64 0, .slice none 0 0] = (⟨root, opn, run, ⟨0, 0, 0, []⟩⟩ : Off).next.v none 0 from rfl]
        refine f135 fun Hc fc => ?_
        have fC := fB.then fc
        have qC := fc.gets qB
        have gC := fc.gets gB
        have hd := hk (Hc.set H.length (some ⟨true, [.int .i64 root, .bool opn, .string run, .int .i64 0, .int .i64 0, .int .i64 0, .slice none 0 0]⟩)) none 0
        rw [hoff, if_neg (fun hh => hh.elim (fun q => by simp at q) (fun hh => hh.elim (fun q => q hc) (fun q => q he)))] at hd
        have hz : (⟨0, 0, 0, []⟩ : HopL).Zero := by refine ⟨rfl, rfl, rfl, rfl⟩
        simp only [↓yaa, ↓yab, ↓yac, ↓yad, ↓yae, ↓yaf, ↓yag, ↓yah, ↓yai, ↓ydb, ↓ydc, ↓ydd, ↓yde, ↓ydf, ↓ydg, ↓yao, ↓yap, ↓ydh, ↓ydi, ↓ydj, ↓ydk, ↓ydl, ↓ydm, ↓ydn, ↓ydo, ↓ydp, ↓yax, yay, yaz, yba, ybb, ybc, ybd, ybe, ybf, ybg, ybh, ybi, ybj, ybk, ybl, ybm, ybn, ybo, ybp, ybq, ybr, ybs, ybt, ybu, ybv, ares, tup, ybw, ybx, yby, argsE, dval, aop, ev, evs, evo, evp, fillL, addrOf, intOf?, ybz, yca, ycb, ycc, ycd, yce, ycf, zah, zag, reduceIte, Nat.reduceEqDiff, ycg, ych, yci, ycj, yck, ycl, ycm, ycn, yco, ycp, ycq, ycr, zap, zao, reduceCtorEq, zbb, zbc, zba, zaz, Nat.reduceAdd, Nat.reduceMul, zaq, zar, eqPtr, zae, zaf, zab, zaa, zac, zad, hload, hstore, zal, zam, Nat.reduceAdd, Nat.reduceLeDiff, zbb, zas, zat, one, zau, zaw, zav, splice, zaj, zak, zab, zaa, ycs, yct, ycu, ycv, ycw, ycx, ycy, ycz, zan, zai, zax, zay, and_self, true_and, and_true, lenV, yda, Nat.le_refl, if_true, ydq, ydr, yds, ne_eq, not_true_eq_false, not_false_eq_true, ← decide_not, Decidable.not_not, ydt, ydu, ydz, ydv, ydw, List.drop_zero, eq_self, Bool.false_eq_true, List.getElem?_toArray, yea, yeb, List.nil_append, List.cons_append, Bool.false_and, Int.reduceEq, Int.reduceLT, Int.reduceLE, Int.reduceNe, zbc, zbb, yec, yed, yee, yef, ydx, ydy, hz, qC, gC, t7, s7, list7, yen, hget_lt gC, beq_dec, zaq, zbb, zbc, Bool.true_eq_false, Bool.false_eq_true]
        refine hd (fC.set _ (.inr (Nat.le_refl _))) ?_ (fun _ => ⟨rfl, rfl⟩) (fun b o h => by first | (simp at h; done) | (have := nw6 b o h; omega))
        exact (((SI.nil : SI _ none 0 []).frame0 fb).frame0 fc).frame (O := [H.length]) ((Frm.refl _ _).set _ (by simp)) (by simp)
      · simp only [↓yaa, ↓yab, ↓yac, ↓yad, ↓yae, ↓yaf, ↓yag, ↓yah, ↓yai, ↓ydb, ↓ydc, ↓ydd, ↓yde, ↓ydf, ↓ydg, ↓yao, ↓yap, ↓ydh, ↓ydi, ↓ydj, ↓ydk, ↓ydl, ↓ydm, ↓ydn, ↓ydo, ↓ydp, ↓yax, yay, yaz, yba, ybb, ybc, ybd, ybe, ybf, ybg, ybh, ybi, ybj, ybk, ybl, ybm, ybn, ybo, ybp, ybq, ybr, ybs, ybt, ybu, ybv, ares, tup, ybw, ybx, yby, argsE, dval, aop, ev, evs, evo, evp, fillL, addrOf, intOf?, ybz, yca, ycb, ycc, ycd, yce, ycf, zah, zag, reduceIte, Nat.reduceEqDiff, ycg, ych, yci, ycj, yck, ycl, ycm, ycn, yco, ycp, ycq, ycr, zap, zao, reduceCtorEq, zbb, zbc, zba, zaz, Nat.reduceAdd, Nat.reduceMul, zaq, zar, eqPtr, zae, zaf, zab, zaa, zac, zad, hload, hstore, zal, zam, Nat.reduceAdd, Nat.reduceLeDiff, zbb, zas, zat, one, zau, zaw, zav, splice, zaj, zak, zab, zaa, ycs, yct, ycu, ycv, ycw, ycx, ycy, ycz, zan, zai, zax, zay, and_self, true_and, and_true, lenV, yda, Nat.le_refl, if_true, ydq, ydr, yds, ne_eq, not_true_eq_false, not_false_eq_true, ← decide_not, Decidable.not_not, ydt, ydu, ydz, ydv, ydw, List.drop_zero, eq_self, Bool.false_eq_true, List.getElem?_toArray, yea, yeb, List.nil_append, List.cons_append, Bool.false_and, Int.reduceEq, Int.reduceLT, Int.reduceLE, Int.reduceNe, zbc, zbb, yec, yed, yee, yef, ydx, ydy, he, gB, s7, t7, list7, yen, hget_lt gB]
        refine bad _ (fB.set _ (.inr (Nat.le_refl _))) ?_
        rw [hoff, if_pos (.inr (.inr he))]
    · simp only [↓yaa, ↓yab, ↓yac, ↓yad, ↓yae, ↓yaf, ↓yag, ↓yah, ↓yai, ↓ydb, ↓ydc, ↓ydd, ↓yde, ↓ydf, ↓ydg, ↓yao, ↓yap, ↓ydh, ↓ydi, ↓ydj, ↓ydk, ↓ydl, ↓ydm, ↓ydn, ↓ydo, ↓ydp, ↓yax, yay, yaz, yba, ybb, ybc, ybd, ybe, ybf, ybg, ybh, ybi, ybj, ybk, ybl, ybm, ybn, ybo, ybp, ybq, ybr, ybs, ybt, ybu, ybv, ares, tup, ybw, ybx, yby, argsE, dval, aop, ev, evs, evo, evp, fillL, addrOf, intOf?, ybz, yca, ycb, ycc, ycd, yce, ycf, zah, zag, reduceIte, Nat.reduceEqDiff, ycg, ych, yci, ycj, yck, ycl, ycm, ycn, yco, ycp, ycq, ycr, zap, zao, reduceCtorEq, zbb, zbc, zba, zaz, Nat.reduceAdd, Nat.reduceMul, zaq, zar, eqPtr, zae, zaf, zab, zaa, zac, zad, hload, hstore, zal, zam, Nat.reduceAdd, Nat.reduceLeDiff, zbb, zas, zat, one, zau, zaw, zav, splice, zaj, zak, zab, zaa, ycs, yct, ycu, ycv, ycw, ycx, ycy, ycz, zan, zai, zax, zay, and_self, true_and, and_true, lenV, yda, Nat.le_refl, if_true, ydq, ydr, yds, ne_eq, not_true_eq_false, not_false_eq_true, ← decide_not, Decidable.not_not, ydt, ydu, ydz, ydv, ydw, List.drop_zero, eq_self, Bool.false_eq_true, List.getElem?_toArray, yea, yeb, List.nil_append, List.cons_append, Bool.false_and, Int.reduceEq, Int.reduceLT, Int.reduceLE, Int.reduceNe, zbc, zbb, yec, yed, yee, yef, ydx, ydy, hc, g, s7, t7, list7, yen, hget_lt g]
      refine bad _ (f.set _ (.inr (Nat.le_refl _))) ?_
      rw [hoff, if_pos (.inr (.inl hc))]
  | true =>
    simp only [if_true] at hoff
    have hl16 := hop_len r4
    have hzero : ¬ r4.hop.1.Zero := fun hz => by
      have h1 := hz.2.2.2
      have h2 : r4.hop.1.ch.length = ((((r4.unsigned 8).2.unsigned 27).2.unsigned 27).2.unsigned 4).1.toNat + 1 := by
        unfold RS.hop; simp only [rdN_length]
        have := (unsigned_lt (((r4.unsigned 8).2.unsigned 27).2.unsigned 27).2 4 (by omega)).1
        omega
      omega
    have hhop : r4.hop = r4.hop := rfl
    conv at hhop => rhs; unfold RS.hop
    simp only at hhop
    rw [hhop] at hoff hl16 hzero
    clear hhop
    simp only at hoff hl16 hzero
    simp only [↓yaa, ↓yab, ↓yac, ↓yad, ↓yae, ↓yaf, ↓yag, ↓yah, ↓yai, ↓ydb, ↓ydc, ↓ydd, ↓yde, ↓ydf, ↓ydg, ↓yao, ↓yap, ↓ydh, ↓ydi, ↓ydj, ↓ydk, ↓ydl, ↓ydm, ↓ydn, ↓ydo, ↓ydp, ↓yax, yay, yaz, yba, ybb, ybc, ybd, ybe, ybf, ybg, ybh, ybi, ybj, ybk, ybl, ybm, ybn, ybo, ybp, ybq, ybr, ybs, ybt, ybu, ybv, ares, tup, ybw, ybx, yby, argsE, dval, aop, ev, evs, evo, evp, fillL, addrOf, intOf?, ybz, yca, ycb, ycc, ycd, yce, ycf, zah, zag, reduceIte, Nat.reduceEqDiff, ycg, ych, yci, ycj, yck, ycl, ycm, ycn, yco, ycp, ycq, ycr, zap, zao, reduceCtorEq, zbb, zbc, zba, zaz, Nat.reduceAdd, Nat.reduceMul, zaq, zar, eqPtr, zae, zaf, zab, zaa, zac, zad, hload, hstore, zal, zam, Nat.reduceAdd, Nat.reduceLeDiff, zbb, zas, zat, one, zau, zaw, zav, splice, zaj, zak, zab, zaa, ycs, yct, ycu, ycv, ycw, ycx, ycy, ycz, zan, zai, zax, zay, and_self, true_and, and_true, lenV, yda, Nat.le_refl, if_true, ydq, ydr, yds, ne_eq, not_true_eq_false, not_false_eq_true, ← decide_not, Decidable.not_not, ydt, ydu, ydz, ydv, ydw, List.drop_zero, eq_self, Bool.false_eq_true, List.getElem?_toArray, yea, yeb, List.nil_append, List.cons_append, Bool.false_and, Int.reduceEq, Int.reduceLT, Int.reduceLE, Int.reduceNe, zbc, zbb, yec, yed, yee, yef, ydx, ydy]
    refine rp.unsigned fun N rp lN => ?_
    generalize (r4.unsigned 8).1 = ver at *
    generalize (r4.unsigned 8).2 = r5 at *
    have q := rp.f.getp q (by omega)
    have g := rp.f.getp g (by omega)
    have f := f.new rp.f (by simp; omega)
    have hq := hget_lt q
    simp only [↓yaa, ↓yab, ↓yac, ↓yad, ↓yae, ↓yaf, ↓yag, ↓yah, ↓yai, ↓ydb, ↓ydc, ↓ydd, ↓yde, ↓ydf, ↓ydg, ↓yao, ↓yap, ↓ydh, ↓ydi, ↓ydj, ↓ydk, ↓ydl, ↓ydm, ↓ydn, ↓ydo, ↓ydp, ↓yax, yay, yaz, yba, ybb, ybc, ybd, ybe, ybf, ybg, ybh, ybi, ybj, ybk, ybl, ybm, ybn, ybo, ybp, ybq, ybr, ybs, ybt, ybu, ybv, ares, tup, ybw, ybx, yby, argsE, dval, aop, ev, evs, evo, evp, fillL, addrOf, intOf?, ybz, yca, ycb, ycc, ycd, yce, ycf, zah, zag, reduceIte, Nat.reduceEqDiff, ycg, ych, yci, ycj, yck, ycl, ycm, ycn, yco, ycp, ycq, ycr, zap, zao, reduceCtorEq, zbb, zbc, zba, zaz, Nat.reduceAdd, Nat.reduceMul, zaq, zar, eqPtr, zae, zaf, zab, zaa, zac, zad, hload, hstore, zal, zam, Nat.reduceAdd, Nat.reduceLeDiff, zbb, zas, zat, one, zau, zaw, zav, splice, zaj, zak, zab, zaa, ycs, yct, ycu, ycv, ycw, ycx, ycy, ycz, zan, zai, zax, zay, and_self, true_and, and_true, lenV, yda, Nat.le_refl, if_true, ydq, ydr, yds, ne_eq, not_true_eq_false, not_false_eq_true, ← decide_not, Decidable.not_not, ydt, ydu, ydz, ydv, ydw, List.drop_zero, eq_self, Bool.false_eq_true, List.getElem?_toArray, yea, yeb, List.nil_append, List.cons_append, Bool.false_and, Int.reduceEq, Int.reduceLT, Int.reduceLE, Int.reduceNe, zbc, zbb, yec, yed, yee, yef, ydx, ydy, Nat.reduceAdd, q, hq, yen]
    have rp : XP (N.set H2.length (some ⟨true, [.int .i64 root, .bool opn, .string run, .int .i64 ver, .int .i64 0, .int .i64 0, .slice none 0 0]⟩)) (N.set H2.length (some ⟨true, [.int .i64 root, .bool opn, .string run, .int .i64 ver, .int .i64 0, .int .i64 0, .slice none 0 0]⟩)) G.length _ := ⟨by unfold RSt; rw [yeo (by omega)]; exact rp.st, rp.ok, Frm.refl _ _⟩
    have q := yen (x := some ⟨true, [.int .i64 root, .bool opn, .string run, .int .i64 ver, .int .i64 0, .int .i64 0, .slice none 0 0]⟩) hq
    have g : hget (N.set H2.length (some ⟨true, [.int .i64 root, .bool opn, .string run, .int .i64 ver, .int .i64 0, .int .i64 0, .slice none 0 0]⟩)) H.length = some ⟨true, [.int .i64 0, .bool false, .string ⟨#[]⟩, .int .i64 0, .int .i64 0, .int .i64 0, .slice none 0 0]⟩ := by rw [yeo (by omega)]; exact g
    have f := f.set (i := H2.length) (some ⟨true, [.int .i64 root, .bool opn, .string run, .int .i64 ver, .int .i64 0, .int .i64 0, .slice none 0 0]⟩) (.inr (by omega))
    clear hq lN
    generalize N.set H2.length (some ⟨true, [.int .i64 root, .bool opn, .string run, .int .i64 ver, .int .i64 0, .int .i64 0, .slice none 0 0]⟩) = M at *
    refine rp.unsigned fun N rp lN => ?_
    generalize (r5.unsigned 27).1 = first at *
    generalize (r5.unsigned 27).2 = r6 at *
    have q := rp.f.getp q (by omega)
    have g := rp.f.getp g (by omega)
    have f := f.new rp.f (by simp; omega)
    have hq := hget_lt q
    simp only [↓yaa, ↓yab, ↓yac, ↓yad, ↓yae, ↓yaf, ↓yag, ↓yah, ↓yai, ↓ydb, ↓ydc, ↓ydd, ↓yde, ↓ydf, ↓ydg, ↓yao, ↓yap, ↓ydh, ↓ydi, ↓ydj, ↓ydk, ↓ydl, ↓ydm, ↓ydn, ↓ydo, ↓ydp, ↓yax, yay, yaz, yba, ybb, ybc, ybd, ybe, ybf, ybg, ybh, ybi, ybj, ybk, ybl, ybm, ybn, ybo, ybp, ybq, ybr, ybs, ybt, ybu, ybv, ares, tup, ybw, ybx, yby, argsE, dval, aop, ev, evs, evo, evp, fillL, addrOf, intOf?, ybz, yca, ycb, ycc, ycd, yce, ycf, zah, zag, reduceIte, Nat.reduceEqDiff, ycg, ych, yci, ycj, yck, ycl, ycm, ycn, yco, ycp, ycq, ycr, zap, zao, reduceCtorEq, zbb, zbc, zba, zaz, Nat.reduceAdd, Nat.reduceMul, zaq, zar, eqPtr, zae, zaf, zab, zaa, zac, zad, hload, hstore, zal, zam, Nat.reduceAdd, Nat.reduceLeDiff, zbb, zas, zat, one, zau, zaw, zav, splice, zaj, zak, zab, zaa, ycs, yct, ycu, ycv, ycw, ycx, ycy, ycz, zan, zai, zax, zay, and_self, true_and, and_true, lenV, yda, Nat.le_refl, if_true, ydq, ydr, yds, ne_eq, not_true_eq_false, not_false_eq_true, ← decide_not, Decidable.not_not, ydt, ydu, ydz, ydv, ydw, List.drop_zero, eq_self, Bool.false_eq_true, List.getElem?_toArray, yea, yeb, List.nil_append, List.cons_append, Bool.false_and, Int.reduceEq, Int.reduceLT, Int.reduceLE, Int.reduceNe, zbc, zbb, yec, yed, yee, yef, ydx, ydy, Nat.reduceAdd, q, hq, yen]
    have rp : XP (N.set H2.length (some ⟨true, [.int .i64 root, .bool opn, .string run, .int .i64 ver, .int .i64 first, .int .i64 0, .slice none 0 0]⟩)) (N.set H2.length (some ⟨true, [.int .i64 root, .bool opn, .string run, .int .i64 ver, .int .i64 first, .int .i64 0, .slice none 0 0]⟩)) G.length _ := ⟨by unfold RSt; rw [yeo (by omega)]; exact rp.st, rp.ok, Frm.refl _ _⟩
    have q := yen (x := some ⟨true, [.int .i64 root, .bool opn, .string run, .int .i64 ver, .int .i64 first, .int .i64 0, .slice none 0 0]⟩) hq
    have g : hget (N.set H2.length (some ⟨true, [.int .i64 root, .bool opn, .string run, .int .i64 ver, .int .i64 first, .int .i64 0, .slice none 0 0]⟩)) H.length = some ⟨true, [.int .i64 0, .bool false, .string ⟨#[]⟩, .int .i64 0, .int .i64 0, .int .i64 0, .slice none 0 0]⟩ := by rw [yeo (by omega)]; exact g
    have f := f.set (i := H2.length) (some ⟨true, [.int .i64 root, .bool opn, .string run, .int .i64 ver, .int .i64 first, .int .i64 0, .slice none 0 0]⟩) (.inr (by omega))
    clear hq lN
    generalize N.set H2.length (some ⟨true, [.int .i64 root, .bool opn, .string run, .int .i64 ver, .int .i64 first, .int .i64 0, .slice none 0 0]⟩) = M at *
    refine rp.unsigned fun N rp lN => ?_
    generalize (r6.unsigned 27).1 = til at *
    generalize (r6.unsigned 27).2 = r7 at *
    have q := rp.f.getp q (by omega)
    have g := rp.f.getp g (by omega)
    have f := f.new rp.f (by simp; omega)
    have hq := hget_lt q
    simp only [↓yaa, ↓yab, ↓yac, ↓yad, ↓yae, ↓yaf, ↓yag, ↓yah, ↓yai, ↓ydb, ↓ydc, ↓ydd, ↓yde, ↓ydf, ↓ydg, ↓yao, ↓yap, ↓ydh, ↓ydi, ↓ydj, ↓ydk, ↓ydl, ↓ydm, ↓ydn, ↓ydo, ↓ydp, ↓yax, yay, yaz, yba, ybb, ybc, ybd, ybe, ybf, ybg, ybh, ybi, ybj, ybk, ybl, ybm, ybn, ybo, ybp, ybq, ybr, ybs, ybt, ybu, ybv, ares, tup, ybw, ybx, yby, argsE, dval, aop, ev, evs, evo, evp, fillL, addrOf, intOf?, ybz, yca, ycb, ycc, ycd, yce, ycf, zah, zag, reduceIte, Nat.reduceEqDiff, ycg, ych, yci, ycj, yck, ycl, ycm, ycn, yco, ycp, ycq, ycr, zap, zao, reduceCtorEq, zbb, zbc, zba, zaz, Nat.reduceAdd, Nat.reduceMul, zaq, zar, eqPtr, zae, zaf, zab, zaa, zac, zad, hload, hstore, zal, zam, Nat.reduceAdd, Nat.reduceLeDiff, zbb, zas, zat, one, zau, zaw, zav, splice, zaj, zak, zab, zaa, ycs, yct, ycu, ycv, ycw, ycx, ycy, ycz, zan, zai, zax, zay, and_self, true_and, and_true, lenV, yda, Nat.le_refl, if_true, ydq, ydr, yds, ne_eq, not_true_eq_false, not_false_eq_true, ← decide_not, Decidable.not_not, ydt, ydu, ydz, ydv, ydw, List.drop_zero, eq_self, Bool.false_eq_true, List.getElem?_toArray, yea, yeb, List.nil_append, List.cons_append, Bool.false_and, Int.reduceEq, Int.reduceLT, Int.reduceLE, Int.reduceNe, zbc, zbb, yec, yed, yee, yef, ydx, ydy, Nat.reduceAdd, q, hq, yen]
    have rp : XP (N.set H2.length (some ⟨true, [.int .i64 root, .bool opn, .string run, .int .i64 ver, .int .i64 first, .int .i64 til, .slice none 0 0]⟩)) (N.set H2.length (some ⟨true, [.int .i64 root, .bool opn, .string run, .int .i64 ver, .int .i64 first, .int .i64 til, .slice none 0 0]⟩)) G.length _ := ⟨by unfold RSt; rw [yeo (by omega)]; exact rp.st, rp.ok, Frm.refl _ _⟩
    have q := yen (x := some ⟨true, [.int .i64 root, .bool opn, .string run, .int .i64 ver, .int .i64 first, .int .i64 til, .slice none 0 0]⟩) hq
    have g : hget (N.set H2.length (some ⟨true, [.int .i64 root, .bool opn, .string run, .int .i64 ver, .int .i64 first, .int .i64 til, .slice none 0 0]⟩)) H.length = some ⟨true, [.int .i64 0, .bool false, .string ⟨#[]⟩, .int .i64 0, .int .i64 0, .int .i64 0, .slice none 0 0]⟩ := by rw [yeo (by omega)]; exact g
    have f := f.set (i := H2.length) (some ⟨true, [.int .i64 root, .bool opn, .string run, .int .i64 ver, .int .i64 first, .int .i64 til, .slice none 0 0]⟩) (.inr (by omega))
    clear hq lN
    generalize N.set H2.length (some ⟨true, [.int .i64 root, .bool opn, .string run, .int .i64 ver, .int .i64 first, .int .i64 til, .slice none 0 0]⟩) = M at *
    refine rp.unsigned fun N rp lN => ?_
    have n4 := unsigned_lt r7 4 (by omega)
    generalize (r7.unsigned 4).1 = n at *
    generalize (r7.unsigned 4).2 = r8 at *
    have q := rp.f.getp q (by omega)
    have g := rp.f.getp g (by omega)
    have f := f.new rp.f (by simp; omega)
    have rp := rp.base
    clear lN
    obtain ⟨m, hm⟩ : ∃ m : Nat, n = m := ⟨n.toNat, by omega⟩
    subst hm
    have hm16 : m < 16 := by have := n4.2; simp only [show (4 : Int).toNat = 4 from rfl] at this; omega
    have w1 : IntKind.i64.wrap (1 + (m : Int)) = ((m + 1 : Nat) : Int) := by rw [wrap_i64 (by omega) (by omega)]; omega
    rw [show ((m : Int) + 1).toNat = m + 1 by omega] at hoff hl16 hzero
    simp only [↓yaa, ↓yab, ↓yac, ↓yad, ↓yae, ↓yaf, ↓yag, ↓yah, ↓yai, ↓ydb, ↓ydc, ↓ydd, ↓yde, ↓ydf, ↓ydg, ↓yao, ↓yap, ↓ydh, ↓ydi, ↓ydj, ↓ydk, ↓ydl, ↓ydm, ↓ydn, ↓ydo, ↓ydp, ↓yax, yay, yaz, yba, ybb, ybc, ybd, ybe, ybf, ybg, ybh, ybi, ybj, ybk, ybl, ybm, ybn, ybo, ybp, ybq, ybr, ybs, ybt, ybu, ybv, ares, tup, ybw, ybx, yby, argsE, dval, aop, ev, evs, evo, evp, fillL, addrOf, intOf?, ybz, yca, ycb, ycc, ycd, yce, ycf, zah, zag, reduceIte, Nat.reduceEqDiff, ycg, ych, yci, ycj, yck, ycl, ycm, ycn, yco, ycp, ycq, ycr, zap, zao, reduceCtorEq, zbb, zbc, zba, zaz, Nat.reduceAdd, Nat.reduceMul, zaq, zar, eqPtr, zae, zaf, zab, zaa, zac, zad, hload, hstore, zal, zam, Nat.reduceAdd, Nat.reduceLeDiff, zbb, zas, zat, one, zau, zaw, zav, splice, zaj, zak, zab, zaa, ycs, yct, ycu, ycv, ycw, ycx, ycy, ycz, zan, zai, zax, zay, and_self, true_and, and_true, lenV, yda, Nat.le_refl, if_true, ydq, ydr, yds, ne_eq, not_true_eq_false, not_false_eq_true, ← decide_not, Decidable.not_not, ydt, ydu, ydz, ydv, ydw, List.drop_zero, eq_self, Bool.false_eq_true, List.getElem?_toArray, yea, yeb, List.nil_append, List.cons_append, Bool.false_and, Int.reduceEq, Int.reduceLT, Int.reduceLE, Int.reduceNe, zbc, zbb, yec, yed, yee, yef, ydx, ydy, w1]
    apply AW_loop_inv (fun j e H1 => j ≤ m + 1 ∧ e = [(2, .pointer (some ⟨H.length, 0, none⟩)), (4, .pointer (some ⟨G.length, 0, none⟩)), (5, .pointer (some ⟨H2.length, 0, none⟩)), (6, .bool true), (7, .int .i64 ((m + 1 : Nat) : Int)), (8, .int .i64 ((m + 1 - j : Nat) : Int))] ∧
      ∃ s, XP H1 H1 G.length (rdN r8 (m + 1 - j)).2 ∧ hget H1 H2.length = some ⟨true, [.int .i64 root, .bool opn, .string run, .int .i64 ver, .int .i64 first, .int .i64 til, gsv s (rdN r8 (m + 1 - j)).1]⟩ ∧ hget H1 H.length = some ⟨true, [.int .i64 0, .bool false, .string ⟨#[]⟩, .int .i64 0, .int .i64 0, .int .i64 0, .slice none 0 0]⟩ ∧
        GS H1 s (rdN r8 (m + 1 - j)).1 ∧ Frm [] H H1 ∧ ∀ k, s = some k → H2.length < k) _ (m + 1)
    · refine ⟨Nat.le_refl _, by rw [Nat.sub_self]; rfl, none, ?_⟩
      rw [Nat.sub_self]
      exact ⟨rp, q, g, ⟨fun _ => rfl, fun k hk => by simp at hk⟩, f, fun k hk => by simp at hk⟩
    · clear rp q g f
      rintro j e M ⟨hj, rfl, s, rp, q, g, gs, f, hs⟩
      have hql := hget_lt q
      cases j with
      | zero =>
        have g0 : ¬ ((m + 1 - 0 : Nat) : Int) < ((m + 1 : Nat) : Int) := by omega
        rw [Nat.sub_zero] at rp q gs
        obtain ⟨a, z, e1, e2, e3⟩ := gs.si
        rw [e1] at q
        have nw6 : Nw a (H2.length + 1) := fun b o hb => by
          cases s with
          | none => simp only [gsv] at e1; injection e1 with e1; rw [← e1] at hb; simp at hb
          | some k =>
            simp only [gsv] at e1
            injection e1 with e1
            rw [← e1] at hb
            simp only [Option.some.injEq, Addr.mk.injEq] at hb
            have := hs k rfl
            omega
        generalize (rdN r8 (m + 1)).1 = ch at *
        generalize (rdN r8 (m + 1)).2 = r9 at *
        simp only [↓yaa, ↓yab, ↓yac, ↓yad, ↓yae, ↓yaf, ↓yag, ↓yah, ↓yai, ↓ydb, ↓ydc, ↓ydd, ↓yde, ↓ydf, ↓ydg, ↓yao, ↓yap, ↓ydh, ↓ydi, ↓ydj, ↓ydk, ↓ydl, ↓ydm, ↓ydn, ↓ydo, ↓ydp, ↓yax, yay, yaz, yba, ybb, ybc, ybd, ybe, ybf, ybg, ybh, ybi, ybj, ybk, ybl, ybm, ybn, ybo, ybp, ybq, ybr, ybs, ybt, ybu, ybv, ares, tup, ybw, ybx, yby, argsE, dval, aop, ev, evs, evo, evp, fillL, addrOf, intOf?, ybz, yca, ycb, ycc, ycd, yce, ycf, zah, zag, reduceIte, Nat.reduceEqDiff, ycg, ych, yci, ycj, yck, ycl, ycm, ycn, yco, ycp, ycq, ycr, zap, zao, reduceCtorEq, zbb, zbc, zba, zaz, Nat.reduceAdd, Nat.reduceMul, zaq, zar, eqPtr, zae, zaf, zab, zaa, zac, zad, hload, hstore, zal, zam, Nat.reduceAdd, Nat.reduceLeDiff, zbb, zas, zat, one, zau, zaw, zav, splice, zaj, zak, zab, zaa, ycs, yct, ycu, ycv, ycw, ycx, ycy, ycz, zan, zai, zax, zay, and_self, true_and, and_true, lenV, yda, Nat.le_refl, if_true, ydq, ydr, yds, ne_eq, not_true_eq_false, not_false_eq_true, ← decide_not, Decidable.not_not, ydt, ydu, ydz, ydv, ydw, List.drop_zero, eq_self, Bool.false_eq_true, List.getElem?_toArray, yea, yeb, List.nil_append, List.cons_append, Bool.false_and, Int.reduceEq, Int.reduceLT, Int.reduceLE, Int.reduceNe, zbc, zbb, yec, yed, yee, yef, ydx, ydy, g0]
        simp only [↓yaa, ↓yab, ↓yac, ↓yad, ↓yae, ↓yaf, ↓yag, ↓yah, ↓yai, ↓ydb, ↓ydc, ↓ydd, ↓yde, ↓ydf, ↓ydg, ↓yao, ↓yap, ↓ydh, ↓ydi, ↓ydj, ↓ydk, ↓ydl, ↓ydm, ↓ydn, ↓ydo, ↓ydp, ↓yax, yay, yaz, yba, ybb, ybc, ybd, ybe, ybf, ybg, ybh, ybi, ybj, ybk, ybl, ybm, ybn, ybo, ybp, ybq, ybr, ybs, ybt, ybu, ybv, ares, tup, ybw, ybx, yby, argsE, dval, aop, ev, evs, evo, evp, fillL, addrOf, intOf?, ybz, yca, ycb, ycc, ycd, yce, ycf, zah, zag, reduceIte, Nat.reduceEqDiff, ycg, ych, yci, ycj, yck, ycl, ycm, ycn, yco, ycp, ycq, ycr, zap, zao, reduceCtorEq, zbb, zbc, zba, zaz, Nat.reduceAdd, Nat.reduceMul, zaq, zar, eqPtr, zae, zaf, zab, zaa, zac, zad, hload, hstore, zal, zam, Nat.reduceAdd, Nat.reduceLeDiff, zbb, zas, zat, one, zau, zaw, zav, splice, zaj, zak, zab, zaa, ycs, yct, ycu, ycv, ycw, ycx, ycy, ycz, zan, zai, zax, zay, and_self, true_and, and_true, lenV, yda, Nat.le_refl, if_true, ydq, ydr, yds, ne_eq, not_true_eq_false, not_false_eq_true, ← decide_not, Decidable.not_not, ydt, ydu, ydz, ydv, ydw, List.drop_zero, eq_self, Bool.false_eq_true, List.getElem?_toArray, yea, yeb, List.nil_append, List.cons_append, Bool.false_and, Int.reduceEq, Int.reduceLT, Int.reduceLE, Int.reduceNe, zbc, zbb, yec, yed, yee, yef, ydx, ydy, rp.close]
        by_cases hc : RS.close r9 = 0
        · simp only [↓yaa, ↓yab, ↓yac, ↓yad, ↓yae, ↓yaf, ↓yag, ↓yah, ↓yai, ↓ydb, ↓ydc, ↓ydd, ↓yde, ↓ydf, ↓ydg, ↓yao, ↓yap, ↓ydh, ↓ydi, ↓ydj, ↓ydk, ↓ydl, ↓ydm, ↓ydn, ↓ydo, ↓ydp, ↓yax, yay, yaz, yba, ybb, ybc, ybd, ybe, ybf, ybg, ybh, ybi, ybj, ybk, ybl, ybm, ybn, ybo, ybp, ybq, ybr, ybs, ybt, ybu, ybv, ares, tup, ybw, ybx, yby, argsE, dval, aop, ev, evs, evo, evp, fillL, addrOf, intOf?, ybz, yca, ycb, ycc, ycd, yce, ycf, zah, zag, reduceIte, Nat.reduceEqDiff, ycg, ych, yci, ycj, yck, ycl, ycm, ycn, yco, ycp, ycq, ycr, zap, zao, reduceCtorEq, zbb, zbc, zba, zaz, Nat.reduceAdd, Nat.reduceMul, zaq, zar, eqPtr, zae, zaf, zab, zaa, zac, zad, hload, hstore, zal, zam, Nat.reduceAdd, Nat.reduceLeDiff, zbb, zas, zat, one, zau, zaw, zav, splice, zaj, zak, zab, zaa, ycs, yct, ycu, ycv, ycw, ycx, ycy, ycz, zan, zai, zax, zay, and_self, true_and, and_true, lenV, yda, Nat.le_refl, if_true, ydq, ydr, yds, ne_eq, not_true_eq_false, not_false_eq_true, ← decide_not, Decidable.not_not, ydt, ydu, ydz, ydv, ydw, List.drop_zero, eq_self, Bool.false_eq_true, List.getElem?_toArray, yea, yeb, List.nil_append, List.cons_append, Bool.false_and, Int.reduceEq, Int.reduceLT, Int.reduceLE, Int.reduceNe, zbc, zbb, yec, yed, yee, yef, ydx, ydy, hc, q, t7, list7]
          rw [show Value.agg #[.int .i64 root, .bool opn, .string run, .int .i64 ver, .int .i64 first, .int .i64 til, .slice a ch.length z] = (⟨root, opn, run, ⟨ver, first, til, ch⟩⟩ : Off).v a z from rfl]
          refine f114 e2 (by first | exact Nat.lt_of_le_of_lt hl16 (by decide) | simp) fun Hb fb => ?_
          have fB := f.then fb
          have qB := fb.gets q
          have gB := fb.gets g
          by_cases he : (⟨root, opn, run, ⟨ver, first, til, ch⟩⟩ : Off).err = 0
          · simp only [↓yaa, ↓yab, ↓yac, ↓yad, ↓yae, ↓yaf, ↓yag, ↓yah, ↓yai, ↓ydb, ↓ydc, ↓ydd, ↓yde, ↓ydf, ↓ydg, ↓yao, ↓yap, ↓ydh, ↓ydi, ↓ydj, ↓ydk, ↓ydl, ↓ydm, ↓ydn, ↓ydo, ↓ydp, ↓yax, yay, yaz, yba, ybb, ybc, ybd, ybe, ybf, ybg, ybh, ybi, ybj, ybk, ybl, ybm, ybn, ybo, ybp, ybq, ybr, ybs, ybt, ybu, ybv, ares, tup, ybw, ybx, yby, argsE, dval, aop, ev, evs, evo, evp, fillL, addrOf, intOf?, ybz, yca, ycb, ycc, ycd, yce, ycf, zah, zag, reduceIte, Nat.reduceEqDiff, ycg, ych, yci, ycj, yck, ycl, ycm, ycn, yco, ycp, ycq, ycr, zap, zao, reduceCtorEq, zbb, zbc, zba, zaz, Nat.reduceAdd, Nat.reduceMul, zaq, zar, eqPtr, zae, zaf, zab, zaa, zac, zad, hload, hstore, zal, zam, Nat.reduceAdd, Nat.reduceLeDiff, zbb, zas, zat, one, zau, zaw, zav, splice, zaj, zak, zab, zaa, ycs, yct, ycu, ycv, ycw, ycx, ycy, ycz, zan, zai, zax, zay, and_self, true_and, and_true, lenV, yda, Nat.le_refl, if_true, ydq, ydr, yds, ne_eq, not_true_eq_false, not_false_eq_true, ← decide_not, Decidable.not_not, ydt, ydu, ydz, ydv, ydw, List.drop_zero, eq_self, Bool.false_eq_true, List.getElem?_toArray, yea, yeb, List.nil_append, List.cons_append, Bool.false_and, Int.reduceEq, Int.reduceLT, Int.reduceLE, Int.reduceNe, zbc, zbb, yec, yed, yee, yef, ydx, ydy, he, qB, take4', list4', Nat.reduceLeDiff]
            rw [show Value.agg #[.int .i64 ver, .int .i64 first, .int .i64 til, .slice a ch.length z] = (⟨root, opn, run, ⟨ver, first, til, ch⟩⟩ : Off).next.v a z from rfl]
            refine f135 fun Hc fc => ?_
            have fC := fB.then fc
            have qC := fc.gets qB
            have gC := fc.gets gB
            have hd := hk (Hc.set H.length (some ⟨true, [.int .i64 root, .bool opn, .string run, .int .i64 ver, .int .i64 first, .int .i64 til, .slice a ch.length z]⟩)) a z
            rw [hoff, if_neg (fun hh => hh.elim (fun q => hzero q.2) (fun hh => hh.elim (fun q => q hc) (fun q => q he)))] at hd
            have hz : ¬ (⟨ver, first, til, ch⟩ : HopL).Zero := hzero
            simp only [↓yaa, ↓yab, ↓yac, ↓yad, ↓yae, ↓yaf, ↓yag, ↓yah, ↓yai, ↓ydb, ↓ydc, ↓ydd, ↓yde, ↓ydf, ↓ydg, ↓yao, ↓yap, ↓ydh, ↓ydi, ↓ydj, ↓ydk, ↓ydl, ↓ydm, ↓ydn, ↓ydo, ↓ydp, ↓yax, yay, yaz, yba, ybb, ybc, ybd, ybe, ybf, ybg, ybh, ybi, ybj, ybk, ybl, ybm, ybn, ybo, ybp, ybq, ybr, ybs, ybt, ybu, ybv, ares, tup, ybw, ybx, yby, argsE, dval, aop, ev, evs, evo, evp, fillL, addrOf, intOf?, ybz, yca, ycb, ycc, ycd, yce, ycf, zah, zag, reduceIte, Nat.reduceEqDiff, ycg, ych, yci, ycj, yck, ycl, ycm, ycn, yco, ycp, ycq, ycr, zap, zao, reduceCtorEq, zbb, zbc, zba, zaz, Nat.reduceAdd, Nat.reduceMul, zaq, zar, eqPtr, zae, zaf, zab, zaa, zac, zad, hload, hstore, zal, zam, Nat.reduceAdd, Nat.reduceLeDiff, zbb, zas, zat, one, zau, zaw, zav, splice, zaj, zak, zab, zaa, ycs, yct, ycu, ycv, ycw, ycx, ycy, ycz, zan, zai, zax, zay, and_self, true_and, and_true, lenV, yda, Nat.le_refl, if_true, ydq, ydr, yds, ne_eq, not_true_eq_false, not_false_eq_true, ← decide_not, Decidable.not_not, ydt, ydu, ydz, ydv, ydw, List.drop_zero, eq_self, Bool.false_eq_true, List.getElem?_toArray, yea, yeb, List.nil_append, List.cons_append, Bool.false_and, Int.reduceEq, Int.reduceLT, Int.reduceLE, Int.reduceNe, zbc, zbb, yec, yed, yee, yef, ydx, ydy, hz, qC, gC, t7, s7, list7, yen, hget_lt gC, beq_dec, zaq, zbb, zbc, Bool.true_eq_false, Bool.false_eq_true]
            refine hd (fC.set _ (.inr (Nat.le_refl _))) ?_ e3 (fun b o h => by first | (simp at h; done) | (have := nw6 b o h; omega))
            exact ((e2.frame0 fb).frame0 fc).frame (O := [H.length]) ((Frm.refl _ _).set _ (by simp)) (nw6.ne (by omega))
          · simp only [↓yaa, ↓yab, ↓yac, ↓yad, ↓yae, ↓yaf, ↓yag, ↓yah, ↓yai, ↓ydb, ↓ydc, ↓ydd, ↓yde, ↓ydf, ↓ydg, ↓yao, ↓yap, ↓ydh, ↓ydi, ↓ydj, ↓ydk, ↓ydl, ↓ydm, ↓ydn, ↓ydo, ↓ydp, ↓yax, yay, yaz, yba, ybb, ybc, ybd, ybe, ybf, ybg, ybh, ybi, ybj, ybk, ybl, ybm, ybn, ybo, ybp, ybq, ybr, ybs, ybt, ybu, ybv, ares, tup, ybw, ybx, yby, argsE, dval, aop, ev, evs, evo, evp, fillL, addrOf, intOf?, ybz, yca, ycb, ycc, ycd, yce, ycf, zah, zag, reduceIte, Nat.reduceEqDiff, ycg, ych, yci, ycj, yck, ycl, ycm, ycn, yco, ycp, ycq, ycr, zap, zao, reduceCtorEq, zbb, zbc, zba, zaz, Nat.reduceAdd, Nat.reduceMul, zaq, zar, eqPtr, zae, zaf, zab, zaa, zac, zad, hload, hstore, zal, zam, Nat.reduceAdd, Nat.reduceLeDiff, zbb, zas, zat, one, zau, zaw, zav, splice, zaj, zak, zab, zaa, ycs, yct, ycu, ycv, ycw, ycx, ycy, ycz, zan, zai, zax, zay, and_self, true_and, and_true, lenV, yda, Nat.le_refl, if_true, ydq, ydr, yds, ne_eq, not_true_eq_false, not_false_eq_true, ← decide_not, Decidable.not_not, ydt, ydu, ydz, ydv, ydw, List.drop_zero, eq_self, Bool.false_eq_true, List.getElem?_toArray, yea, yeb, List.nil_append, List.cons_append, Bool.false_and, Int.reduceEq, Int.reduceLT, Int.reduceLE, Int.reduceNe, zbc, zbb, yec, yed, yee, yef, ydx, ydy, he, gB, s7, t7, list7, yen, hget_lt gB]
            refine bad _ (fB.set _ (.inr (Nat.le_refl _))) ?_
            rw [hoff, if_pos (.inr (.inr he))]
        · simp only [↓yaa, ↓yab, ↓yac, ↓yad, ↓yae, ↓yaf, ↓yag, ↓yah, ↓yai, ↓ydb, ↓ydc, ↓ydd, ↓yde, ↓ydf, ↓ydg, ↓yao, ↓yap, ↓ydh, ↓ydi, ↓ydj, ↓ydk, ↓ydl, ↓ydm, ↓ydn, ↓ydo, ↓ydp, ↓yax, yay, yaz, yba, ybb, ybc, ybd, ybe, ybf, ybg, ybh, ybi, ybj, ybk, ybl, ybm, ybn, ybo, ybp, ybq, ybr, ybs, ybt, ybu, ybv, ares, tup, ybw, ybx, yby, argsE, dval, aop, ev, evs, evo, evp, fillL, addrOf, intOf?, ybz, yca, ycb, ycc, ycd, yce, ycf, zah, zag, reduceIte, Nat.reduceEqDiff, ycg, ych, yci, ycj, yck, ycl, ycm, ycn, yco, ycp, ycq, ycr, zap, zao, reduceCtorEq, zbb, zbc, zba, zaz, Nat.reduceAdd, Nat.reduceMul, zaq, zar, eqPtr, zae, zaf, zab, zaa, zac, zad, hload, hstore, zal, zam, Nat.reduceAdd, Nat.reduceLeDiff, zbb, zas, zat, one, zau, zaw, zav, splice, zaj, zak, zab, zaa, ycs, yct, ycu, ycv, ycw, ycx, ycy, ycz, zan, zai, zax, zay, and_self, true_and, and_true, lenV, yda, Nat.le_refl, if_true, ydq, ydr, yds, ne_eq, not_true_eq_false, not_false_eq_true, ← decide_not, Decidable.not_not, ydt, ydu, ydz, ydv, ydw, List.drop_zero, eq_self, Bool.false_eq_true, List.getElem?_toArray, yea, yeb, List.nil_append, List.cons_append, Bool.false_and, Int.reduceEq, Int.reduceLT, Int.reduceLE, Int.reduceNe, zbc, zbb, yec, yed, yee, yef, ydx, ydy, hc, g, s7, t7, list7, yen, hget_lt g]
          refine bad _ (f.set _ (.inr (Nat.le_refl _))) ?_
          rw [hoff, if_pos (.inr (.inl hc))]
        | succ j =>
          have g0 : ((m + 1 - (j + 1) : Nat) : Int) < ((m + 1 : Nat) : Int) := by omega
          have g3 : IntKind.i64.wrap (((m + 1 - (j + 1) : Nat) : Int) + 1) = ((m + 1 - j : Nat) : Int) := by rw [wrap_i64 (by omega) (by omega)]; omega
          have hsucc : rdN r8 (m + 1 - j) = ((rdN r8 (m + 1 - (j + 1))).1 ++ [((rdN r8 (m + 1 - (j + 1))).2.unsigned 4).1], ((rdN r8 (m + 1 - (j + 1))).2.unsigned 4).2) := by
            rw [show m + 1 - j = (m + 1 - (j + 1)) + 1 by omega]; rfl
          have hlen := rdN_length r8 (m + 1 - (j + 1))
          simp only [↓yaa, ↓yab, ↓yac, ↓yad, ↓yae, ↓yaf, ↓yag, ↓yah, ↓yai, ↓ydb, ↓ydc, ↓ydd, ↓yde, ↓ydf, ↓ydg, ↓yao, ↓yap, ↓ydh, ↓ydi, ↓ydj, ↓ydk, ↓ydl, ↓ydm, ↓ydn, ↓ydo, ↓ydp, ↓yax, yay, yaz, yba, ybb, ybc, ybd, ybe, ybf, ybg, ybh, ybi, ybj, ybk, ybl, ybm, ybn, ybo, ybp, ybq, ybr, ybs, ybt, ybu, ybv, ares, tup, ybw, ybx, yby, argsE, dval, aop, ev, evs, evo, evp, fillL, addrOf, intOf?, ybz, yca, ycb, ycc, ycd, yce, ycf, zah, zag, reduceIte, Nat.reduceEqDiff, ycg, ych, yci, ycj, yck, ycl, ycm, ycn, yco, ycp, ycq, ycr, zap, zao, reduceCtorEq, zbb, zbc, zba, zaz, Nat.reduceAdd, Nat.reduceMul, zaq, zar, eqPtr, zae, zaf, zab, zaa, zac, zad, hload, hstore, zal, zam, Nat.reduceAdd, Nat.reduceLeDiff, zbb, zas, zat, one, zau, zaw, zav, splice, zaj, zak, zab, zaa, ycs, yct, ycu, ycv, ycw, ycx, ycy, ycz, zan, zai, zax, zay, and_self, true_and, and_true, lenV, yda, Nat.le_refl, if_true, ydq, ydr, yds, ne_eq, not_true_eq_false, not_false_eq_true, ← decide_not, Decidable.not_not, ydt, ydu, ydz, ydv, ydw, List.drop_zero, eq_self, Bool.false_eq_true, List.getElem?_toArray, yea, yeb, List.nil_append, List.cons_append, Bool.false_and, Int.reduceEq, Int.reduceLT, Int.reduceLE, Int.reduceNe, zbc, zbb, yec, yed, yee, yef, ydx, ydy, g0, Nat.reduceAdd]
          refine rp.unsigned fun N rpN lN => ?_
          have qN := rpN.f.getp q (by omega)
          have gN := rpN.f.getp g (by omega)
          have fN := f.new rpN.f (by simp; omega)
          have gsN : GS N s (rdN r8 (m + 1 - (j + 1))).1 := ⟨gs.1, fun k hk => rpN.f.getp (gs.2 k hk) (by have := hs k hk; omega)⟩
          generalize rdN r8 (m + 1 - (j + 1)) = rd at *
          obtain ⟨l, r9⟩ := rd
          simp only at *
          generalize (r9.unsigned 4).1 = x at *
          generalize (r9.unsigned 4).2 = r10 at *
          have hqN : H2.length < N.length := hget_lt qN
          have hqN' : H2.length < N.length + 1 := by omega
          have hGN := rpN.st.lt
          cases s with
          | none =>
            have hnil := gsN.1 rfl
            subst hnil
            simp only [gsv] at q qN
            simp only [↓yaa, ↓yab, ↓yac, ↓yad, ↓yae, ↓yaf, ↓yag, ↓yah, ↓yai, ↓ydb, ↓ydc, ↓ydd, ↓yde, ↓ydf, ↓ydg, ↓yao, ↓yap, ↓ydh, ↓ydi, ↓ydj, ↓ydk, ↓ydl, ↓ydm, ↓ydn, ↓ydo, ↓ydp, ↓yax, yay, yaz, yba, ybb, ybc, ybd, ybe, ybf, ybg, ybh, ybi, ybj, ybk, ybl, ybm, ybn, ybo, ybp, ybq, ybr, ybs, ybt, ybu, ybv, ares, tup, ybw, ybx, yby, argsE, dval, aop, ev, evs, evo, evp, fillL, addrOf, intOf?, ybz, yca, ycb, ycc, ycd, yce, ycf, zah, zag, reduceIte, Nat.reduceEqDiff, ycg, ych, yci, ycj, yck, ycl, ycm, ycn, yco, ycp, ycq, ycr, zap, zao, reduceCtorEq, zbb, zbc, zba, zaz, Nat.reduceAdd, Nat.reduceMul, zaq, zar, eqPtr, zae, zaf, zab, zaa, zac, zad, hload, hstore, zal, zam, Nat.reduceAdd, Nat.reduceLeDiff, zbb, zas, zat, one, zau, zaw, zav, splice, zaj, zak, zab, zaa, ycs, yct, ycu, ycv, ycw, ycx, ycy, ycz, zan, zai, zax, zay, and_self, true_and, and_true, lenV, yda, Nat.le_refl, if_true, ydq, ydr, yds, ne_eq, not_true_eq_false, not_false_eq_true, ← decide_not, Decidable.not_not, ydt, ydu, ydz, ydv, ydw, List.drop_zero, eq_self, Bool.false_eq_true, List.getElem?_toArray, yea, yeb, List.nil_append, List.cons_append, Bool.false_and, Int.reduceEq, Int.reduceLT, Int.reduceLE, Int.reduceNe, zbc, zbb, yec, yed, yee, yef, ydx, ydy, yem, hqN, hqN', qN, q, take1, List.length_singleton, Nat.mul_one, g3, Nat.reduceAdd]
            refine ⟨j, by omega, by omega, rfl, some (N.length + 1), ⟨?_, (by rw [hsucc]; exact rpN.ok), Frm.refl _ _⟩, ?_, ?_, ⟨fun h => by simp at h, fun k hk => ?_⟩, ?_, fun k hk => by injection hk with hk; omega⟩
            · rw [hsucc]; unfold RSt; rw [yeo (by omega), hget_append_lt (by simp; omega), hget_append_lt hGN]; exact rpN.st
            · rw [hsucc, yen (by simp; omega)]; rfl
            · rw [yeo (by omega), hget_append_lt (by have := hget_lt gN; simp; omega), hget_append_lt (hget_lt gN)]; exact gN
            · injection hk with hk; subst hk
              rw [hsucc, yeo (by omega), hget_app]; simp
            · exact ((fN.push _).push _).set _ (.inr (by omega))
          | some k =>
            have hq2 := gsN.2 k rfl
            have hk2 := hs k rfl
            have hkl := hget_lt hq2
            have hkl1 : k < N.length + 1 := by omega
            have hkne : k ≠ H2.length := by omega
            have hcap : (l.length + 1) * 8 ≤ 1000000000 := by omega
            simp only [gsv] at q qN
            simp only [↓yaa, ↓yab, ↓yac, ↓yad, ↓yae, ↓yaf, ↓yag, ↓yah, ↓yai, ↓ydb, ↓ydc, ↓ydd, ↓yde, ↓ydf, ↓ydg, ↓yao, ↓yap, ↓ydh, ↓ydi, ↓ydj, ↓ydk, ↓ydl, ↓ydm, ↓ydn, ↓ydo, ↓ydp, ↓yax, yay, yaz, yba, ybb, ybc, ybd, ybe, ybf, ybg, ybh, ybi, ybj, ybk, ybl, ybm, ybn, ybo, ybp, ybq, ybr, ybs, ybt, ybu, ybv, ares, tup, ybw, ybx, yby, argsE, dval, aop, ev, evs, evo, evp, fillL, addrOf, intOf?, ybz, yca, ycb, ycc, ycd, yce, ycf, zah, zag, reduceIte, Nat.reduceEqDiff, ycg, ych, yci, ycj, yck, ycl, ycm, ycn, yco, ycp, ycq, ycr, zap, zao, reduceCtorEq, zbb, zbc, zba, zaz, Nat.reduceAdd, Nat.reduceMul, zaq, zar, eqPtr, zae, zaf, zab, zaa, zac, zad, hload, hstore, zal, zam, Nat.reduceAdd, Nat.reduceLeDiff, zbb, zas, zat, one, zau, zaw, zav, splice, zaj, zak, zab, zaa, ycs, yct, ycu, ycv, ycw, ycx, ycy, ycz, zan, zai, zax, zay, and_self, true_and, and_true, lenV, yda, Nat.le_refl, if_true, ydq, ydr, yds, ne_eq, not_true_eq_false, not_false_eq_true, ← decide_not, Decidable.not_not, ydt, ydu, ydz, ydv, ydw, List.drop_zero, eq_self, Bool.false_eq_true, List.getElem?_toArray, yea, yeb, List.nil_append, List.cons_append, Bool.false_and, Int.reduceEq, Int.reduceLT, Int.reduceLE, Int.reduceNe, zbc, zbb, yec, yed, yee, yef, ydx, ydy, yem, hqN, hqN', qN, q, take1, List.length_singleton, Nat.mul_one, g3, hkl, hkl1, hq2, hcap, yeo hkne, ints_append, ints_length, Nat.reduceAdd]
            refine ⟨j, by omega, by omega, rfl, some (N.length + 1), ⟨?_, (by rw [hsucc]; exact rpN.ok), Frm.refl _ _⟩, ?_, ?_, ⟨fun h => by simp at h, fun k' hk' => ?_⟩, ?_, fun k' hk' => by injection hk' with hk'; omega⟩
            · rw [hsucc]; unfold RSt; rw [yeo (by omega), hget_append_lt (by simp; omega), yeo (by omega), hget_append_lt hGN]; exact rpN.st
            · rw [hsucc, yen (by simp; omega)]; simp [gsv]
            · rw [yeo (by omega), hget_append_lt (by have := hget_lt gN; simp; omega), yeo (by omega), hget_append_lt (hget_lt gN)]; exact gN
            · injection hk' with hk'; subst hk'
              rw [hsucc, yeo (by omega), hget_app]; simp
            · exact (((fN.push _).set _ (.inr (by omega))).push _).set _ (.inr (by omega))

end Go.Proofs.Ytejcabdejoameaa.AI

/- Beacons that are made and read. -/
set_option linter.unusedSimpArgs false
set_option maxHeartbeats 8000000
namespace Go.Proofs.Ytejcabdejoameaa.AI
open Go

/-- The offer of a frame. -/
noncomputable def Fr.off (f : Fr) : Off × Int := if f.Bcn then dec f.data else (zeroOff, 1)
structure Rk where
  node : Int
  epoch : Int
  parent : Int
  heard : Int
  rank : Int
  least : Int
def Rk.v (r : Rk) : Value := .agg #[.int .i64 r.node, .int .i64 r.epoch, .int .i64 r.parent, .int .i64 r.heard, .int .i64 r.rank, .int .i64 r.least]
def zeroFr : Fr := ⟨0, 0, 0, 0, 0, 0, 0, 0, 0, 0, 0, ⟨#[]⟩⟩
/-- A beacon that is made. -/
noncomputable def mkB (r : Rk) (list seq slot : Int) (o : Off) : Fr × Int :=
  if o.enc.2 ≠ 0 then (zeroFr, o.enc.2) else if 65535 ≤ r.rank then (zeroFr, 12)
  else if (⟨3, r.node, -1, list, seq, 0, 0, 0, slot, r.rank, r.epoch, o.enc.1⟩ : Fr).Ok then (⟨3, r.node, -1, list, seq, 0, 0, 0, slot, r.rank, r.epoch, o.enc.1⟩, 0) else (zeroFr, 1)

open Classical in
theorem f128 {H : Heap} {f : Fr} {K : Value → Heap → Prop}
    (hk : ∀ H' a z, Frm [] H H' → SI H' a z f.off.1.next.ch → (a = none → z = 0 ∧ f.off.1.next.ch.length = 0) → Nw a H.length → K (.tuple #[f.off.1.v a z, .int .i64 f.off.2]) H') :
    Op1 (AC tbl 128 [f.v] H) K := by
  apply AC_wp (F := F128) rfl (by simp [F128]) (.inl rfl)
  have hb := f149 f
  have hfv : f.v = .agg #[.int .i64 f.kind, .int .i64 f.source, .int .i64 f.target, .int .i64 f.list, .int .i64 f.seq, .int .i64 f.flow, .int .i64 f.number, .int .i64 f.error, .int .i64 f.slot, .int .i64 f.rank, .int .i64 f.epoch, .string f.data] := rfl
  unfold Fr.off at hk
  rw [hfv] at hb ⊢
  by_cases hB : f.Bcn
  · rw [if_pos hB] at hk
    simp only [hB, zbb] at hb
    simp only [F128, ↓yaa, ↓yab, ↓yac, ↓yad, ↓yae, ↓yaf, ↓yag, ↓yah, ↓yai, ↓ydb, ↓ydc, ↓ydd, ↓yde, ↓ydf, ↓ydg, ↓yao, ↓yap, ↓ydh, ↓ydi, ↓ydj, ↓ydk, ↓ydl, ↓ydm, ↓ydn, ↓ydo, ↓ydp, ↓yax, yay, yaz, yba, ybb, ybc, ybd, ybe, ybf, ybg, ybh, ybi, ybj, ybk, ybl, ybm, ybn, ybo, ybp, ybq, ybr, ybs, ybt, ybu, ybv, ares, tup, ybw, ybx, yby, argsE, dval, aop, ev, evs, evo, evp, fillL, addrOf, intOf?, ybz, yca, ycb, ycc, ycd, yce, ycf, zah, zag, reduceIte, Nat.reduceEqDiff, ycg, ych, yci, ycj, yck, ycl, ycm, ycn, yco, ycp, ycq, ycr, zap, zao, reduceCtorEq, zbb, zbc, zba, zaz, Nat.reduceAdd, Nat.reduceMul, zaq, zar, eqPtr, zae, zaf, zab, zaa, zac, zad, hload, hstore, zal, zam, Nat.reduceAdd, Nat.reduceLeDiff, zbb, zas, zat, one, zau, zaw, zav, splice, zaj, zak, zab, zaa, ycs, yct, ycu, ycv, ycw, ycx, ycy, ycz, zan, zai, zax, zay, and_self, true_and, and_true, lenV, yda, Nat.le_refl, if_true, ydq, ydr, yds, ne_eq, not_true_eq_false, not_false_eq_true, ← decide_not, Decidable.not_not, ydt, ydu, ydz, ydv, ydw, List.drop_zero, eq_self, Bool.false_eq_true, List.getElem?_toArray, yea, yeb, List.nil_append, List.cons_append, Bool.false_and, Int.reduceEq, Int.reduceLT, Int.reduceLE, Int.reduceNe, zbc, zbb, yec, yed, yee, yef, ydx, ydy, take12, list12, hb]
    have f0 : Frm [] H (H ++ [some ⟨true, [.int .i64 f.kind, .int .i64 f.source, .int .i64 f.target, .int .i64 f.list, .int .i64 f.seq, .int .i64 f.flow, .int .i64 f.number, .int .i64 f.error, .int .i64 f.slot, .int .i64 f.rank, .int .i64 f.epoch, .string f.data]⟩] ++ [some ⟨true, [.int .i64 0, .bool false, .string ⟨#[]⟩, .int .i64 0, .int .i64 0, .int .i64 0, .slice none 0 0]⟩]) := ((Frm.refl _ _).push _).push _
    have g0 : hget (H ++ [some ⟨true, [.int .i64 f.kind, .int .i64 f.source, .int .i64 f.target, .int .i64 f.list, .int .i64 f.seq, .int .i64 f.flow, .int .i64 f.number, .int .i64 f.error, .int .i64 f.slot, .int .i64 f.rank, .int .i64 f.epoch, .string f.data]⟩] ++ [some ⟨true, [.int .i64 0, .bool false, .string ⟨#[]⟩, .int .i64 0, .int .i64 0, .int .i64 0, .slice none 0 0]⟩]) (H.length + 1) = some ⟨true, [.int .i64 0, .bool false, .string ⟨#[]⟩, .int .i64 0, .int .i64 0, .int .i64 0, .slice none 0 0]⟩ := ydv
    have l0 : (H ++ [some (⟨true, [.int .i64 f.kind, .int .i64 f.source, .int .i64 f.target, .int .i64 f.list, .int .i64 f.seq, .int .i64 f.flow, .int .i64 f.number, .int .i64 f.error, .int .i64 f.slot, .int .i64 f.rank, .int .i64 f.epoch, .string f.data]⟩ : Blk)] ++ [some (⟨true, [.int .i64 0, .bool false, .string ⟨#[]⟩, .int .i64 0, .int .i64 0, .int .i64 0, .slice none 0 0]⟩ : Blk)]).length = H.length + 2 := by simp
    generalize H ++ [some (⟨true, [.int .i64 f.kind, .int .i64 f.source, .int .i64 f.target, .int .i64 f.list, .int .i64 f.seq, .int .i64 f.flow, .int .i64 f.number, .int .i64 f.error, .int .i64 f.slot, .int .i64 f.rank, .int .i64 f.epoch, .string f.data]⟩ : Blk)] ++ [some (⟨true, [.int .i64 0, .bool false, .string ⟨#[]⟩, .int .i64 0, .int .i64 0, .int .i64 0, .slice none 0 0]⟩ : Blk)] = G at *
    refine f124 fun H1 a z f1 si nl nw => ?_
    have g1 := f1.gets g0
    have hl := hget_lt g1
    have hov : (dec f.data).1.v a z = .agg #[.int .i64 (dec f.data).1.root, .bool (dec f.data).1.opn, .string (dec f.data).1.run, .int .i64 (dec f.data).1.next.ver, .int .i64 (dec f.data).1.next.first, .int .i64 (dec f.data).1.next.til, .slice a (dec f.data).1.next.ch.length z] := rfl
    have hd := hk (H1.set (H.length + 1) (some ⟨true, [.int .i64 (dec f.data).1.root, .bool (dec f.data).1.opn, .string (dec f.data).1.run, .int .i64 (dec f.data).1.next.ver, .int .i64 (dec f.data).1.next.first, .int .i64 (dec f.data).1.next.til, .slice a (dec f.data).1.next.ch.length z]⟩)) a z
    rw [hov] at hd
    rw [hov]
    simp only [↓yaa, ↓yab, ↓yac, ↓yad, ↓yae, ↓yaf, ↓yag, ↓yah, ↓yai, ↓ydb, ↓ydc, ↓ydd, ↓yde, ↓ydf, ↓ydg, ↓yao, ↓yap, ↓ydh, ↓ydi, ↓ydj, ↓ydk, ↓ydl, ↓ydm, ↓ydn, ↓ydo, ↓ydp, ↓yax, yay, yaz, yba, ybb, ybc, ybd, ybe, ybf, ybg, ybh, ybi, ybj, ybk, ybl, ybm, ybn, ybo, ybp, ybq, ybr, ybs, ybt, ybu, ybv, ares, tup, ybw, ybx, yby, argsE, dval, aop, ev, evs, evo, evp, fillL, addrOf, intOf?, ybz, yca, ycb, ycc, ycd, yce, ycf, zah, zag, reduceIte, Nat.reduceEqDiff, ycg, ych, yci, ycj, yck, ycl, ycm, ycn, yco, ycp, ycq, ycr, zap, zao, reduceCtorEq, zbb, zbc, zba, zaz, Nat.reduceAdd, Nat.reduceMul, zaq, zar, eqPtr, zae, zaf, zab, zaa, zac, zad, hload, hstore, zal, zam, Nat.reduceAdd, Nat.reduceLeDiff, zbb, zas, zat, one, zau, zaw, zav, splice, zaj, zak, zab, zaa, ycs, yct, ycu, ycv, ycw, ycx, ycy, ycz, zan, zai, zax, zay, and_self, true_and, and_true, lenV, yda, Nat.le_refl, if_true, ydq, ydr, yds, ne_eq, not_true_eq_false, not_false_eq_true, ← decide_not, Decidable.not_not, ydt, ydu, ydz, ydv, ydw, List.drop_zero, eq_self, Bool.false_eq_true, List.getElem?_toArray, yea, yeb, List.nil_append, List.cons_append, Bool.false_and, Int.reduceEq, Int.reduceLT, Int.reduceLE, Int.reduceNe, zbc, zbb, yec, yed, yee, yef, ydx, ydy, g1, s7, hl, yen, t7, list7]
    exact hd ((f0.then f1).set _ (.inr (by omega))) (si.frame (O := [H.length + 1]) ((Frm.refl _ _).set _ (.inl (by simp))) (nw.ne (by omega))) nl (fun b o h => by have := nw b o h; omega)
  · rw [if_neg hB] at hk
    simp only [hB, zbc] at hb
    simp only [F128, ↓yaa, ↓yab, ↓yac, ↓yad, ↓yae, ↓yaf, ↓yag, ↓yah, ↓yai, ↓ydb, ↓ydc, ↓ydd, ↓yde, ↓ydf, ↓ydg, ↓yao, ↓yap, ↓ydh, ↓ydi, ↓ydj, ↓ydk, ↓ydl, ↓ydm, ↓ydn, ↓ydo, ↓ydp, ↓yax, yay, yaz, yba, ybb, ybc, ybd, ybe, ybf, ybg, ybh, ybi, ybj, ybk, ybl, ybm, ybn, ybo, ybp, ybq, ybr, ybs, ybt, ybu, ybv, ares, tup, ybw, ybx, yby, argsE, dval, aop, ev, evs, evo, evp, fillL, addrOf, intOf?, ybz, yca, ycb, ycc, ycd, yce, ycf, zah, zag, reduceIte, Nat.reduceEqDiff, ycg, ych, yci, ycj, yck, ycl, ycm, ycn, yco, ycp, ycq, ycr, zap, zao, reduceCtorEq, zbb, zbc, zba, zaz, Nat.reduceAdd, Nat.reduceMul, zaq, zar, eqPtr, zae, zaf, zab, zaa, zac, zad, hload, hstore, zal, zam, Nat.reduceAdd, Nat.reduceLeDiff, zbb, zas, zat, one, zau, zaw, zav, splice, zaj, zak, zab, zaa, ycs, yct, ycu, ycv, ycw, ycx, ycy, ycz, zan, zai, zax, zay, and_self, true_and, and_true, lenV, yda, Nat.le_refl, if_true, ydq, ydr, yds, ne_eq, not_true_eq_false, not_false_eq_true, ← decide_not, Decidable.not_not, ydt, ydu, ydz, ydv, ydw, List.drop_zero, eq_self, Bool.false_eq_true, List.getElem?_toArray, yea, yeb, List.nil_append, List.cons_append, Bool.false_and, Int.reduceEq, Int.reduceLT, Int.reduceLE, Int.reduceNe, zbc, zbb, yec, yed, yee, yef, ydx, ydy, take12, list12, hb, s7, t7, list7]
    exact hk _ none 0 (((Frm.refl _ _).push _).push _) SI.nil (fun _ => ⟨rfl, rfl⟩) (fun b o h => by simp at h)

open Classical in
theorem f132 {H : Heap} {f : Fr} {K : Value → Heap → Prop}
    (hk : ∀ H' a z, Frm [] H H' → SI H' a z f.off.1.next.ch → (a = none → z = 0 ∧ f.off.1.next.ch.length = 0) → Nw a H.length → K (.tuple #[f.off.1.v a z, .int .i64 f.off.2]) H') :
    Op1 (AC tbl 132 [f.v] H) K := by
  apply AC_wp (F := F132) rfl (by simp [F132]) (.inl rfl)
  have hb := f152 f
  have hfv : f.v = .agg #[.int .i64 f.kind, .int .i64 f.source, .int .i64 f.target, .int .i64 f.list, .int .i64 f.seq, .int .i64 f.flow, .int .i64 f.number, .int .i64 f.error, .int .i64 f.slot, .int .i64 f.rank, .int .i64 f.epoch, .string f.data] := rfl
  unfold Fr.off at hk
  rw [hfv] at hb ⊢
  by_cases hB : f.Bcn
  · rw [if_pos hB] at hk
    simp only [hB, zbb] at hb
    simp only [F132, ↓yaa, ↓yab, ↓yac, ↓yad, ↓yae, ↓yaf, ↓yag, ↓yah, ↓yai, ↓ydb, ↓ydc, ↓ydd, ↓yde, ↓ydf, ↓ydg, ↓yao, ↓yap, ↓ydh, ↓ydi, ↓ydj, ↓ydk, ↓ydl, ↓ydm, ↓ydn, ↓ydo, ↓ydp, ↓yax, yay, yaz, yba, ybb, ybc, ybd, ybe, ybf, ybg, ybh, ybi, ybj, ybk, ybl, ybm, ybn, ybo, ybp, ybq, ybr, ybs, ybt, ybu, ybv, ares, tup, ybw, ybx, yby, argsE, dval, aop, ev, evs, evo, evp, fillL, addrOf, intOf?, ybz, yca, ycb, ycc, ycd, yce, ycf, zah, zag, reduceIte, Nat.reduceEqDiff, ycg, ych, yci, ycj, yck, ycl, ycm, ycn, yco, ycp, ycq, ycr, zap, zao, reduceCtorEq, zbb, zbc, zba, zaz, Nat.reduceAdd, Nat.reduceMul, zaq, zar, eqPtr, zae, zaf, zab, zaa, zac, zad, hload, hstore, zal, zam, Nat.reduceAdd, Nat.reduceLeDiff, zbb, zas, zat, one, zau, zaw, zav, splice, zaj, zak, zab, zaa, ycs, yct, ycu, ycv, ycw, ycx, ycy, ycz, zan, zai, zax, zay, and_self, true_and, and_true, lenV, yda, Nat.le_refl, if_true, ydq, ydr, yds, ne_eq, not_true_eq_false, not_false_eq_true, ← decide_not, Decidable.not_not, ydt, ydu, ydz, ydv, ydw, List.drop_zero, eq_self, Bool.false_eq_true, List.getElem?_toArray, yea, yeb, List.nil_append, List.cons_append, Bool.false_and, Int.reduceEq, Int.reduceLT, Int.reduceLE, Int.reduceNe, zbc, zbb, yec, yed, yee, yef, ydx, ydy, take12, list12, hb]
    have f0 : Frm [] H (H ++ [some ⟨true, [.int .i64 f.kind, .int .i64 f.source, .int .i64 f.target, .int .i64 f.list, .int .i64 f.seq, .int .i64 f.flow, .int .i64 f.number, .int .i64 f.error, .int .i64 f.slot, .int .i64 f.rank, .int .i64 f.epoch, .string f.data]⟩] ++ [some ⟨true, [.int .i64 0, .bool false, .string ⟨#[]⟩, .int .i64 0, .int .i64 0, .int .i64 0, .slice none 0 0]⟩]) := ((Frm.refl _ _).push _).push _
    have g0 : hget (H ++ [some ⟨true, [.int .i64 f.kind, .int .i64 f.source, .int .i64 f.target, .int .i64 f.list, .int .i64 f.seq, .int .i64 f.flow, .int .i64 f.number, .int .i64 f.error, .int .i64 f.slot, .int .i64 f.rank, .int .i64 f.epoch, .string f.data]⟩] ++ [some ⟨true, [.int .i64 0, .bool false, .string ⟨#[]⟩, .int .i64 0, .int .i64 0, .int .i64 0, .slice none 0 0]⟩]) (H.length + 1) = some ⟨true, [.int .i64 0, .bool false, .string ⟨#[]⟩, .int .i64 0, .int .i64 0, .int .i64 0, .slice none 0 0]⟩ := ydv
    have l0 : (H ++ [some (⟨true, [.int .i64 f.kind, .int .i64 f.source, .int .i64 f.target, .int .i64 f.list, .int .i64 f.seq, .int .i64 f.flow, .int .i64 f.number, .int .i64 f.error, .int .i64 f.slot, .int .i64 f.rank, .int .i64 f.epoch, .string f.data]⟩ : Blk)] ++ [some (⟨true, [.int .i64 0, .bool false, .string ⟨#[]⟩, .int .i64 0, .int .i64 0, .int .i64 0, .slice none 0 0]⟩ : Blk)]).length = H.length + 2 := by simp
    generalize H ++ [some (⟨true, [.int .i64 f.kind, .int .i64 f.source, .int .i64 f.target, .int .i64 f.list, .int .i64 f.seq, .int .i64 f.flow, .int .i64 f.number, .int .i64 f.error, .int .i64 f.slot, .int .i64 f.rank, .int .i64 f.epoch, .string f.data]⟩ : Blk)] ++ [some (⟨true, [.int .i64 0, .bool false, .string ⟨#[]⟩, .int .i64 0, .int .i64 0, .int .i64 0, .slice none 0 0]⟩ : Blk)] = G at *
    refine f125 fun H1 a z f1 si nl nw => ?_
    have g1 := f1.gets g0
    have hl := hget_lt g1
    have hov : (dec f.data).1.v a z = .agg #[.int .i64 (dec f.data).1.root, .bool (dec f.data).1.opn, .string (dec f.data).1.run, .int .i64 (dec f.data).1.next.ver, .int .i64 (dec f.data).1.next.first, .int .i64 (dec f.data).1.next.til, .slice a (dec f.data).1.next.ch.length z] := rfl
    have hd := hk (H1.set (H.length + 1) (some ⟨true, [.int .i64 (dec f.data).1.root, .bool (dec f.data).1.opn, .string (dec f.data).1.run, .int .i64 (dec f.data).1.next.ver, .int .i64 (dec f.data).1.next.first, .int .i64 (dec f.data).1.next.til, .slice a (dec f.data).1.next.ch.length z]⟩)) a z
    rw [hov] at hd
    rw [hov]
    simp only [↓yaa, ↓yab, ↓yac, ↓yad, ↓yae, ↓yaf, ↓yag, ↓yah, ↓yai, ↓ydb, ↓ydc, ↓ydd, ↓yde, ↓ydf, ↓ydg, ↓yao, ↓yap, ↓ydh, ↓ydi, ↓ydj, ↓ydk, ↓ydl, ↓ydm, ↓ydn, ↓ydo, ↓ydp, ↓yax, yay, yaz, yba, ybb, ybc, ybd, ybe, ybf, ybg, ybh, ybi, ybj, ybk, ybl, ybm, ybn, ybo, ybp, ybq, ybr, ybs, ybt, ybu, ybv, ares, tup, ybw, ybx, yby, argsE, dval, aop, ev, evs, evo, evp, fillL, addrOf, intOf?, ybz, yca, ycb, ycc, ycd, yce, ycf, zah, zag, reduceIte, Nat.reduceEqDiff, ycg, ych, yci, ycj, yck, ycl, ycm, ycn, yco, ycp, ycq, ycr, zap, zao, reduceCtorEq, zbb, zbc, zba, zaz, Nat.reduceAdd, Nat.reduceMul, zaq, zar, eqPtr, zae, zaf, zab, zaa, zac, zad, hload, hstore, zal, zam, Nat.reduceAdd, Nat.reduceLeDiff, zbb, zas, zat, one, zau, zaw, zav, splice, zaj, zak, zab, zaa, ycs, yct, ycu, ycv, ycw, ycx, ycy, ycz, zan, zai, zax, zay, and_self, true_and, and_true, lenV, yda, Nat.le_refl, if_true, ydq, ydr, yds, ne_eq, not_true_eq_false, not_false_eq_true, ← decide_not, Decidable.not_not, ydt, ydu, ydz, ydv, ydw, List.drop_zero, eq_self, Bool.false_eq_true, List.getElem?_toArray, yea, yeb, List.nil_append, List.cons_append, Bool.false_and, Int.reduceEq, Int.reduceLT, Int.reduceLE, Int.reduceNe, zbc, zbb, yec, yed, yee, yef, ydx, ydy, g1, s7, hl, yen, t7, list7]
    exact hd ((f0.then f1).set _ (.inr (by omega))) (si.frame (O := [H.length + 1]) ((Frm.refl _ _).set _ (.inl (by simp))) (nw.ne (by omega))) nl (fun b o h => by have := nw b o h; omega)
  · rw [if_neg hB] at hk
    simp only [hB, zbc] at hb
    simp only [F132, ↓yaa, ↓yab, ↓yac, ↓yad, ↓yae, ↓yaf, ↓yag, ↓yah, ↓yai, ↓ydb, ↓ydc, ↓ydd, ↓yde, ↓ydf, ↓ydg, ↓yao, ↓yap, ↓ydh, ↓ydi, ↓ydj, ↓ydk, ↓ydl, ↓ydm, ↓ydn, ↓ydo, ↓ydp, ↓yax, yay, yaz, yba, ybb, ybc, ybd, ybe, ybf, ybg, ybh, ybi, ybj, ybk, ybl, ybm, ybn, ybo, ybp, ybq, ybr, ybs, ybt, ybu, ybv, ares, tup, ybw, ybx, yby, argsE, dval, aop, ev, evs, evo, evp, fillL, addrOf, intOf?, ybz, yca, ycb, ycc, ycd, yce, ycf, zah, zag, reduceIte, Nat.reduceEqDiff, ycg, ych, yci, ycj, yck, ycl, ycm, ycn, yco, ycp, ycq, ycr, zap, zao, reduceCtorEq, zbb, zbc, zba, zaz, Nat.reduceAdd, Nat.reduceMul, zaq, zar, eqPtr, zae, zaf, zab, zaa, zac, zad, hload, hstore, zal, zam, Nat.reduceAdd, Nat.reduceLeDiff, zbb, zas, zat, one, zau, zaw, zav, splice, zaj, zak, zab, zaa, ycs, yct, ycu, ycv, ycw, ycx, ycy, ycz, zan, zai, zax, zay, and_self, true_and, and_true, lenV, yda, Nat.le_refl, if_true, ydq, ydr, yds, ne_eq, not_true_eq_false, not_false_eq_true, ← decide_not, Decidable.not_not, ydt, ydu, ydz, ydv, ydw, List.drop_zero, eq_self, Bool.false_eq_true, List.getElem?_toArray, yea, yeb, List.nil_append, List.cons_append, Bool.false_and, Int.reduceEq, Int.reduceLT, Int.reduceLE, Int.reduceNe, zbc, zbb, yec, yed, yee, yef, ydx, ydy, take12, list12, hb, s7, t7, list7]
    exact hk _ none 0 (((Frm.refl _ _).push _).push _) SI.nil (fun _ => ⟨rfl, rfl⟩) (fun b o h => by simp at h)

open Classical in
theorem f130 {H : Heap} {r : Rk} {list seq slot : Int} {o : Off} {a : Option Addr} {z : Nat} {K : Value → Heap → Prop} (h : SI H a z o.next.ch) (hl : o.next.ch.length < 1000000000) (hok : o.Ok64)
    (hk : ∀ H', Frm [] H H' → K (.tuple #[(mkB r list seq slot o).1.v, .int .i64 (mkB r list seq slot o).2]) H') :
    Op1 (AC tbl 130 [r.v, .int .i64 list, .int .i64 seq, .int .i64 slot, o.v a z] H) K := by
  apply AC_wp (F := F130) rfl (by simp [F130]) (.inl rfl)
  have hov : o.v a z = .agg #[.int .i64 o.root, .bool o.opn, .string o.run, .int .i64 o.next.ver, .int .i64 o.next.first, .int .i64 o.next.til, .slice a o.next.ch.length z] := rfl
  have hrv : r.v = .agg #[.int .i64 r.node, .int .i64 r.epoch, .int .i64 r.parent, .int .i64 r.heard, .int .i64 r.rank, .int .i64 r.least] := rfl
  have t12 : ∀ a b c d e f g h i j k l : Value, List.take 12 [a, b, c, d, e, f, g, h, i, j, k, l] = [a, b, c, d, e, f, g, h, i, j, k, l] := fun _ _ _ _ _ _ _ _ _ _ _ _ => rfl
  rw [hrv, hov]
  have f0 : Frm [] H (H ++ [some ⟨true, [.int .i64 r.node, .int .i64 r.epoch, .int .i64 r.parent, .int .i64 r.heard, .int .i64 r.rank, .int .i64 r.least]⟩] ++ [some ⟨true, [.int .i64 o.root, .bool o.opn, .string o.run, .int .i64 o.next.ver, .int .i64 o.next.first, .int .i64 o.next.til, .slice a o.next.ch.length z]⟩] ++ [some ⟨true, [.int .i64 0, .int .i64 0, .int .i64 0, .int .i64 0, .int .i64 0, .int .i64 0, .int .i64 0, .int .i64 0, .int .i64 0, .int .i64 0, .int .i64 0, .string ⟨#[]⟩]⟩]) := (((Frm.refl _ _).push _).push _).push _
  have si0 := ((h.push (some ⟨true, [.int .i64 r.node, .int .i64 r.epoch, .int .i64 r.parent, .int .i64 r.heard, .int .i64 r.rank, .int .i64 r.least]⟩)).push (some ⟨true, [.int .i64 o.root, .bool o.opn, .string o.run, .int .i64 o.next.ver, .int .i64 o.next.first, .int .i64 o.next.til, .slice a o.next.ch.length z]⟩)).push (some ⟨true, [.int .i64 0, .int .i64 0, .int .i64 0, .int .i64 0, .int .i64 0, .int .i64 0, .int .i64 0, .int .i64 0, .int .i64 0, .int .i64 0, .int .i64 0, .string ⟨#[]⟩]⟩)
  have gr : hget (H ++ [some ⟨true, [.int .i64 r.node, .int .i64 r.epoch, .int .i64 r.parent, .int .i64 r.heard, .int .i64 r.rank, .int .i64 r.least]⟩] ++ [some ⟨true, [.int .i64 o.root, .bool o.opn, .string o.run, .int .i64 o.next.ver, .int .i64 o.next.first, .int .i64 o.next.til, .slice a o.next.ch.length z]⟩] ++ [some ⟨true, [.int .i64 0, .int .i64 0, .int .i64 0, .int .i64 0, .int .i64 0, .int .i64 0, .int .i64 0, .int .i64 0, .int .i64 0, .int .i64 0, .int .i64 0, .string ⟨#[]⟩]⟩]) H.length = some ⟨true, [.int .i64 r.node, .int .i64 r.epoch, .int .i64 r.parent, .int .i64 r.heard, .int .i64 r.rank, .int .i64 r.least]⟩ := by
    rw [hget_append_lt (by simp)]; exact ydx
  have go : hget (H ++ [some ⟨true, [.int .i64 r.node, .int .i64 r.epoch, .int .i64 r.parent, .int .i64 r.heard, .int .i64 r.rank, .int .i64 r.least]⟩] ++ [some ⟨true, [.int .i64 o.root, .bool o.opn, .string o.run, .int .i64 o.next.ver, .int .i64 o.next.first, .int .i64 o.next.til, .slice a o.next.ch.length z]⟩] ++ [some ⟨true, [.int .i64 0, .int .i64 0, .int .i64 0, .int .i64 0, .int .i64 0, .int .i64 0, .int .i64 0, .int .i64 0, .int .i64 0, .int .i64 0, .int .i64 0, .string ⟨#[]⟩]⟩]) (H.length + 1) = some ⟨true, [.int .i64 o.root, .bool o.opn, .string o.run, .int .i64 o.next.ver, .int .i64 o.next.first, .int .i64 o.next.til, .slice a o.next.ch.length z]⟩ := by
    rw [hget_append_lt (by simp)]; exact ydv
  have gz : hget (H ++ [some ⟨true, [.int .i64 r.node, .int .i64 r.epoch, .int .i64 r.parent, .int .i64 r.heard, .int .i64 r.rank, .int .i64 r.least]⟩] ++ [some ⟨true, [.int .i64 o.root, .bool o.opn, .string o.run, .int .i64 o.next.ver, .int .i64 o.next.first, .int .i64 o.next.til, .slice a o.next.ch.length z]⟩] ++ [some ⟨true, [.int .i64 0, .int .i64 0, .int .i64 0, .int .i64 0, .int .i64 0, .int .i64 0, .int .i64 0, .int .i64 0, .int .i64 0, .int .i64 0, .int .i64 0, .string ⟨#[]⟩]⟩]) (H.length + 2) = some ⟨true, [.int .i64 0, .int .i64 0, .int .i64 0, .int .i64 0, .int .i64 0, .int .i64 0, .int .i64 0, .int .i64 0, .int .i64 0, .int .i64 0, .int .i64 0, .string ⟨#[]⟩]⟩ := by
    rw [hget_app]; simp
  simp only [F130, ↓yaa, ↓yab, ↓yac, ↓yad, ↓yae, ↓yaf, ↓yag, ↓yah, ↓yai, ↓ydb, ↓ydc, ↓ydd, ↓yde, ↓ydf, ↓ydg, ↓yao, ↓yap, ↓ydh, ↓ydi, ↓ydj, ↓ydk, ↓ydl, ↓ydm, ↓ydn, ↓ydo, ↓ydp, ↓yax, yay, yaz, yba, ybb, ybc, ybd, ybe, ybf, ybg, ybh, ybi, ybj, ybk, ybl, ybm, ybn, ybo, ybp, ybq, ybr, ybs, ybt, ybu, ybv, ares, tup, ybw, ybx, yby, argsE, dval, aop, ev, evs, evo, evp, fillL, addrOf, intOf?, ybz, yca, ycb, ycc, ycd, yce, ycf, zah, zag, reduceIte, Nat.reduceEqDiff, ycg, ych, yci, ycj, yck, ycl, ycm, ycn, yco, ycp, ycq, ycr, zap, zao, reduceCtorEq, zbb, zbc, zba, zaz, Nat.reduceAdd, Nat.reduceMul, zaq, zar, eqPtr, zae, zaf, zab, zaa, zac, zad, hload, hstore, zal, zam, Nat.reduceAdd, Nat.reduceLeDiff, zbb, zas, zat, one, zau, zaw, zav, splice, zaj, zak, zab, zaa, ycs, yct, ycu, ycv, ycw, ycx, ycy, ycz, zan, zai, zax, zay, and_self, true_and, and_true, lenV, yda, Nat.le_refl, if_true, ydq, ydr, yds, ne_eq, not_true_eq_false, not_false_eq_true, ← decide_not, Decidable.not_not, ydt, ydu, ydz, ydv, ydw, List.drop_zero, eq_self, Bool.false_eq_true, List.getElem?_toArray, yea, yeb, List.nil_append, List.cons_append, Bool.false_and, Int.reduceEq, Int.reduceLT, Int.reduceLE, Int.reduceNe, zbc, zbb, yec, yed, yee, yef, ydx, ydy]
  generalize H ++ [some (⟨true, [.int .i64 r.node, .int .i64 r.epoch, .int .i64 r.parent, .int .i64 r.heard, .int .i64 r.rank, .int .i64 r.least]⟩ : Blk)] ++ [some (⟨true, [.int .i64 o.root, .bool o.opn, .string o.run, .int .i64 o.next.ver, .int .i64 o.next.first, .int .i64 o.next.til, .slice a o.next.ch.length z]⟩ : Blk)] ++ [some (⟨true, [.int .i64 0, .int .i64 0, .int .i64 0, .int .i64 0, .int .i64 0, .int .i64 0, .int .i64 0, .int .i64 0, .int .i64 0, .int .i64 0, .int .i64 0, .string ⟨#[]⟩]⟩ : Blk)] = G at *
  simp only [↓yaa, ↓yab, ↓yac, ↓yad, ↓yae, ↓yaf, ↓yag, ↓yah, ↓yai, ↓ydb, ↓ydc, ↓ydd, ↓yde, ↓ydf, ↓ydg, ↓yao, ↓yap, ↓ydh, ↓ydi, ↓ydj, ↓ydk, ↓ydl, ↓ydm, ↓ydn, ↓ydo, ↓ydp, ↓yax, yay, yaz, yba, ybb, ybc, ybd, ybe, ybf, ybg, ybh, ybi, ybj, ybk, ybl, ybm, ybn, ybo, ybp, ybq, ybr, ybs, ybt, ybu, ybv, ares, tup, ybw, ybx, yby, argsE, dval, aop, ev, evs, evo, evp, fillL, addrOf, intOf?, ybz, yca, ycb, ycc, ycd, yce, ycf, zah, zag, reduceIte, Nat.reduceEqDiff, ycg, ych, yci, ycj, yck, ycl, ycm, ycn, yco, ycp, ycq, ycr, zap, zao, reduceCtorEq, zbb, zbc, zba, zaz, Nat.reduceAdd, Nat.reduceMul, zaq, zar, eqPtr, zae, zaf, zab, zaa, zac, zad, hload, hstore, zal, zam, Nat.reduceAdd, Nat.reduceLeDiff, zbb, zas, zat, one, zau, zaw, zav, splice, zaj, zak, zab, zaa, ycs, yct, ycu, ycv, ycw, ycx, ycy, ycz, zan, zai, zax, zay, and_self, true_and, and_true, lenV, yda, Nat.le_refl, if_true, ydq, ydr, yds, ne_eq, not_true_eq_false, not_false_eq_true, ← decide_not, Decidable.not_not, ydt, ydu, ydz, ydv, ydw, List.drop_zero, eq_self, Bool.false_eq_true, List.getElem?_toArray, yea, yeb, List.nil_append, List.cons_append, Bool.false_and, Int.reduceEq, Int.reduceLT, Int.reduceLE, Int.reduceNe, zbc, zbb, yec, yed, yee, yef, ydx, ydy, go, t7, list7]
  rw [← hov]
  refine f111 si0 hl hok fun H1 f1 => ?_
  have r1 := f1.gets gr
  have z1 := f1.gets gz
  have hz := hget_lt z1
  have fh := f0.then f1
  unfold mkB at hk
  by_cases c1 : o.enc.2 = 0
  · rw [if_neg (by simpa using c1)] at hk
    by_cases c2 : 65535 ≤ r.rank
    · rw [if_pos c2] at hk
      simp only [↓yaa, ↓yab, ↓yac, ↓yad, ↓yae, ↓yaf, ↓yag, ↓yah, ↓yai, ↓ydb, ↓ydc, ↓ydd, ↓yde, ↓ydf, ↓ydg, ↓yao, ↓yap, ↓ydh, ↓ydi, ↓ydj, ↓ydk, ↓ydl, ↓ydm, ↓ydn, ↓ydo, ↓ydp, ↓yax, yay, yaz, yba, ybb, ybc, ybd, ybe, ybf, ybg, ybh, ybi, ybj, ybk, ybl, ybm, ybn, ybo, ybp, ybq, ybr, ybs, ybt, ybu, ybv, ares, tup, ybw, ybx, yby, argsE, dval, aop, ev, evs, evo, evp, fillL, addrOf, intOf?, ybz, yca, ycb, ycc, ycd, yce, ycf, zah, zag, reduceIte, Nat.reduceEqDiff, ycg, ych, yci, ycj, yck, ycl, ycm, ycn, yco, ycp, ycq, ycr, zap, zao, reduceCtorEq, zbb, zbc, zba, zaz, Nat.reduceAdd, Nat.reduceMul, zaq, zar, eqPtr, zae, zaf, zab, zaa, zac, zad, hload, hstore, zal, zam, Nat.reduceAdd, Nat.reduceLeDiff, zbb, zas, zat, one, zau, zaw, zav, splice, zaj, zak, zab, zaa, ycs, yct, ycu, ycv, ycw, ycx, ycy, ycz, zan, zai, zax, zay, and_self, true_and, and_true, lenV, yda, Nat.le_refl, if_true, ydq, ydr, yds, ne_eq, not_true_eq_false, not_false_eq_true, ← decide_not, Decidable.not_not, ydt, ydu, ydz, ydv, ydw, List.drop_zero, eq_self, Bool.false_eq_true, List.getElem?_toArray, yea, yeb, List.nil_append, List.cons_append, Bool.false_and, Int.reduceEq, Int.reduceLT, Int.reduceLE, Int.reduceNe, zbc, zbb, yec, yed, yee, yef, ydx, ydy, c1, r1, c2, z1, size12, hz, yen, t12, list12]
      exact hk _ (fh.set _ (.inr (by omega)))
    · rw [if_neg c2] at hk
      have hc := fun G => f150e 3 r.node (-1) list seq 0 0 0 slot r.rank r.epoch o.enc.1 G
      have z2 := z1
      by_cases c3 : (⟨3, r.node, -1, list, seq, 0, 0, 0, slot, r.rank, r.epoch, o.enc.1⟩ : Fr).Ok
      · rw [if_pos c3] at hk
        simp only [c3, if_true] at hc
        simp only [↓yaa, ↓yab, ↓yac, ↓yad, ↓yae, ↓yaf, ↓yag, ↓yah, ↓yai, ↓ydb, ↓ydc, ↓ydd, ↓yde, ↓ydf, ↓ydg, ↓yao, ↓yap, ↓ydh, ↓ydi, ↓ydj, ↓ydk, ↓ydl, ↓ydm, ↓ydn, ↓ydo, ↓ydp, ↓yax, yay, yaz, yba, ybb, ybc, ybd, ybe, ybf, ybg, ybh, ybi, ybj, ybk, ybl, ybm, ybn, ybo, ybp, ybq, ybr, ybs, ybt, ybu, ybv, ares, tup, ybw, ybx, yby, argsE, dval, aop, ev, evs, evo, evp, fillL, addrOf, intOf?, ybz, yca, ycb, ycc, ycd, yce, ycf, zah, zag, reduceIte, Nat.reduceEqDiff, ycg, ych, yci, ycj, yck, ycl, ycm, ycn, yco, ycp, ycq, ycr, zap, zao, reduceCtorEq, zbb, zbc, zba, zaz, Nat.reduceAdd, Nat.reduceMul, zaq, zar, eqPtr, zae, zaf, zab, zaa, zac, zad, hload, hstore, zal, zam, Nat.reduceAdd, Nat.reduceLeDiff, zbb, zas, zat, one, zau, zaw, zav, splice, zaj, zak, zab, zaa, ycs, yct, ycu, ycv, ycw, ycx, ycy, ycz, zan, zai, zax, zay, and_self, true_and, and_true, lenV, yda, Nat.le_refl, if_true, ydq, ydr, yds, ne_eq, not_true_eq_false, not_false_eq_true, ← decide_not, Decidable.not_not, ydt, ydu, ydz, ydv, ydw, List.drop_zero, eq_self, Bool.false_eq_true, List.getElem?_toArray, yea, yeb, List.nil_append, List.cons_append, Bool.false_and, Int.reduceEq, Int.reduceLT, Int.reduceLE, Int.reduceNe, zbc, zbb, yec, yed, yee, yef, ydx, ydy, c1, r1, c2, size12, t12, list12, hc, yem, hz, z1]
        have hz1 : H.length + 2 < (H1 ++ [some (⟨true, [.int .i64 3, .int .i64 r.node, .int .i64 (-1), .int .i64 list, .int .i64 seq, .int .i64 0, .int .i64 0, .int .i64 0, .int .i64 slot, .int .i64 r.rank, .int .i64 r.epoch, .string o.enc.1]⟩ : Blk)]).length := by simp; omega
        simp only [↓yaa, ↓yab, ↓yac, ↓yad, ↓yae, ↓yaf, ↓yag, ↓yah, ↓yai, ↓ydb, ↓ydc, ↓ydd, ↓yde, ↓ydf, ↓ydg, ↓yao, ↓yap, ↓ydh, ↓ydi, ↓ydj, ↓ydk, ↓ydl, ↓ydm, ↓ydn, ↓ydo, ↓ydp, ↓yax, yay, yaz, yba, ybb, ybc, ybd, ybe, ybf, ybg, ybh, ybi, ybj, ybk, ybl, ybm, ybn, ybo, ybp, ybq, ybr, ybs, ybt, ybu, ybv, ares, tup, ybw, ybx, yby, argsE, dval, aop, ev, evs, evo, evp, fillL, addrOf, intOf?, ybz, yca, ycb, ycc, ycd, yce, ycf, zah, zag, reduceIte, Nat.reduceEqDiff, ycg, ych, yci, ycj, yck, ycl, ycm, ycn, yco, ycp, ycq, ycr, zap, zao, reduceCtorEq, zbb, zbc, zba, zaz, Nat.reduceAdd, Nat.reduceMul, zaq, zar, eqPtr, zae, zaf, zab, zaa, zac, zad, hload, hstore, zal, zam, Nat.reduceAdd, Nat.reduceLeDiff, zbb, zas, zat, one, zau, zaw, zav, splice, zaj, zak, zab, zaa, ycs, yct, ycu, ycv, ycw, ycx, ycy, ycz, zan, zai, zax, zay, and_self, true_and, and_true, lenV, yda, Nat.le_refl, if_true, ydq, ydr, yds, ne_eq, not_true_eq_false, not_false_eq_true, ← decide_not, Decidable.not_not, ydt, ydu, ydz, ydv, ydw, List.drop_zero, eq_self, Bool.false_eq_true, List.getElem?_toArray, yea, yeb, List.nil_append, List.cons_append, Bool.false_and, Int.reduceEq, Int.reduceLT, Int.reduceLE, Int.reduceNe, zbc, zbb, yec, yed, yee, yef, ydx, ydy, yen hz1, t12, list12]
        exact hk _ ((fh.push _).set _ (.inr (by omega)))
      · rw [if_neg c3] at hk
        simp only [c3, if_false] at hc
        simp only [↓yaa, ↓yab, ↓yac, ↓yad, ↓yae, ↓yaf, ↓yag, ↓yah, ↓yai, ↓ydb, ↓ydc, ↓ydd, ↓yde, ↓ydf, ↓ydg, ↓yao, ↓yap, ↓ydh, ↓ydi, ↓ydj, ↓ydk, ↓ydl, ↓ydm, ↓ydn, ↓ydo, ↓ydp, ↓yax, yay, yaz, yba, ybb, ybc, ybd, ybe, ybf, ybg, ybh, ybi, ybj, ybk, ybl, ybm, ybn, ybo, ybp, ybq, ybr, ybs, ybt, ybu, ybv, ares, tup, ybw, ybx, yby, argsE, dval, aop, ev, evs, evo, evp, fillL, addrOf, intOf?, ybz, yca, ycb, ycc, ycd, yce, ycf, zah, zag, reduceIte, Nat.reduceEqDiff, ycg, ych, yci, ycj, yck, ycl, ycm, ycn, yco, ycp, ycq, ycr, zap, zao, reduceCtorEq, zbb, zbc, zba, zaz, Nat.reduceAdd, Nat.reduceMul, zaq, zar, eqPtr, zae, zaf, zab, zaa, zac, zad, hload, hstore, zal, zam, Nat.reduceAdd, Nat.reduceLeDiff, zbb, zas, zat, one, zau, zaw, zav, splice, zaj, zak, zab, zaa, ycs, yct, ycu, ycv, ycw, ycx, ycy, ycz, zan, zai, zax, zay, and_self, true_and, and_true, lenV, yda, Nat.le_refl, if_true, ydq, ydr, yds, ne_eq, not_true_eq_false, not_false_eq_true, ← decide_not, Decidable.not_not, ydt, ydu, ydz, ydv, ydw, List.drop_zero, eq_self, Bool.false_eq_true, List.getElem?_toArray, yea, yeb, List.nil_append, List.cons_append, Bool.false_and, Int.reduceEq, Int.reduceLT, Int.reduceLE, Int.reduceNe, zbc, zbb, yec, yed, yee, yef, ydx, ydy, c1, r1, c2, size12, t12, list12, hc, yem, hz, z1]
        have hz1 : H.length + 2 < (H1 ++ [some (⟨true, [.int .i64 3, .int .i64 r.node, .int .i64 (-1), .int .i64 list, .int .i64 seq, .int .i64 0, .int .i64 0, .int .i64 0, .int .i64 slot, .int .i64 r.rank, .int .i64 r.epoch, .string o.enc.1]⟩ : Blk)]).length := by simp; omega
        simp only [↓yaa, ↓yab, ↓yac, ↓yad, ↓yae, ↓yaf, ↓yag, ↓yah, ↓yai, ↓ydb, ↓ydc, ↓ydd, ↓yde, ↓ydf, ↓ydg, ↓yao, ↓yap, ↓ydh, ↓ydi, ↓ydj, ↓ydk, ↓ydl, ↓ydm, ↓ydn, ↓ydo, ↓ydp, ↓yax, yay, yaz, yba, ybb, ybc, ybd, ybe, ybf, ybg, ybh, ybi, ybj, ybk, ybl, ybm, ybn, ybo, ybp, ybq, ybr, ybs, ybt, ybu, ybv, ares, tup, ybw, ybx, yby, argsE, dval, aop, ev, evs, evo, evp, fillL, addrOf, intOf?, ybz, yca, ycb, ycc, ycd, yce, ycf, zah, zag, reduceIte, Nat.reduceEqDiff, ycg, ych, yci, ycj, yck, ycl, ycm, ycn, yco, ycp, ycq, ycr, zap, zao, reduceCtorEq, zbb, zbc, zba, zaz, Nat.reduceAdd, Nat.reduceMul, zaq, zar, eqPtr, zae, zaf, zab, zaa, zac, zad, hload, hstore, zal, zam, Nat.reduceAdd, Nat.reduceLeDiff, zbb, zas, zat, one, zau, zaw, zav, splice, zaj, zak, zab, zaa, ycs, yct, ycu, ycv, ycw, ycx, ycy, ycz, zan, zai, zax, zay, and_self, true_and, and_true, lenV, yda, Nat.le_refl, if_true, ydq, ydr, yds, ne_eq, not_true_eq_false, not_false_eq_true, ← decide_not, Decidable.not_not, ydt, ydu, ydz, ydv, ydw, List.drop_zero, eq_self, Bool.false_eq_true, List.getElem?_toArray, yea, yeb, List.nil_append, List.cons_append, Bool.false_and, Int.reduceEq, Int.reduceLT, Int.reduceLE, Int.reduceNe, zbc, zbb, yec, yed, yee, yef, ydx, ydy, yen hz1, t12, list12]
        exact hk _ ((fh.push _).set _ (.inr (by omega)))
  · rw [if_pos (by simpa using c1)] at hk
    simp only [↓yaa, ↓yab, ↓yac, ↓yad, ↓yae, ↓yaf, ↓yag, ↓yah, ↓yai, ↓ydb, ↓ydc, ↓ydd, ↓yde, ↓ydf, ↓ydg, ↓yao, ↓yap, ↓ydh, ↓ydi, ↓ydj, ↓ydk, ↓ydl, ↓ydm, ↓ydn, ↓ydo, ↓ydp, ↓yax, yay, yaz, yba, ybb, ybc, ybd, ybe, ybf, ybg, ybh, ybi, ybj, ybk, ybl, ybm, ybn, ybo, ybp, ybq, ybr, ybs, ybt, ybu, ybv, ares, tup, ybw, ybx, yby, argsE, dval, aop, ev, evs, evo, evp, fillL, addrOf, intOf?, ybz, yca, ycb, ycc, ycd, yce, ycf, zah, zag, reduceIte, Nat.reduceEqDiff, ycg, ych, yci, ycj, yck, ycl, ycm, ycn, yco, ycp, ycq, ycr, zap, zao, reduceCtorEq, zbb, zbc, zba, zaz, Nat.reduceAdd, Nat.reduceMul, zaq, zar, eqPtr, zae, zaf, zab, zaa, zac, zad, hload, hstore, zal, zam, Nat.reduceAdd, Nat.reduceLeDiff, zbb, zas, zat, one, zau, zaw, zav, splice, zaj, zak, zab, zaa, ycs, yct, ycu, ycv, ycw, ycx, ycy, ycz, zan, zai, zax, zay, and_self, true_and, and_true, lenV, yda, Nat.le_refl, if_true, ydq, ydr, yds, ne_eq, not_true_eq_false, not_false_eq_true, ← decide_not, Decidable.not_not, ydt, ydu, ydz, ydv, ydw, List.drop_zero, eq_self, Bool.false_eq_true, List.getElem?_toArray, yea, yeb, List.nil_append, List.cons_append, Bool.false_and, Int.reduceEq, Int.reduceLT, Int.reduceLE, Int.reduceNe, zbc, zbb, yec, yed, yee, yef, ydx, ydy, c1, z1, size12, hz, yen, t12, list12]
    exact hk _ (fh.set _ (.inr (by omega)))

open Classical in
theorem f131 {H : Heap} {r : Rk} {list seq slot : Int} {o : Off} {a : Option Addr} {z : Nat} {K : Value → Heap → Prop} (h : SI H a z o.next.ch) (hl : o.next.ch.length < 1000000000) (hok : o.Ok64)
    (hk : ∀ H', Frm [] H H' → K (.tuple #[(mkB r list seq slot o).1.v, .int .i64 (mkB r list seq slot o).2]) H') :
    Op1 (AC tbl 131 [r.v, .int .i64 list, .int .i64 seq, .int .i64 slot, o.v a z] H) K := by
  apply AC_wp (F := F131) rfl (by simp [F131]) (.inl rfl)
  have hov : o.v a z = .agg #[.int .i64 o.root, .bool o.opn, .string o.run, .int .i64 o.next.ver, .int .i64 o.next.first, .int .i64 o.next.til, .slice a o.next.ch.length z] := rfl
  have hrv : r.v = .agg #[.int .i64 r.node, .int .i64 r.epoch, .int .i64 r.parent, .int .i64 r.heard, .int .i64 r.rank, .int .i64 r.least] := rfl
  have t12 : ∀ a b c d e f g h i j k l : Value, List.take 12 [a, b, c, d, e, f, g, h, i, j, k, l] = [a, b, c, d, e, f, g, h, i, j, k, l] := fun _ _ _ _ _ _ _ _ _ _ _ _ => rfl
  rw [hrv, hov]
  have f0 : Frm [] H (H ++ [some ⟨true, [.int .i64 r.node, .int .i64 r.epoch, .int .i64 r.parent, .int .i64 r.heard, .int .i64 r.rank, .int .i64 r.least]⟩] ++ [some ⟨true, [.int .i64 o.root, .bool o.opn, .string o.run, .int .i64 o.next.ver, .int .i64 o.next.first, .int .i64 o.next.til, .slice a o.next.ch.length z]⟩] ++ [some ⟨true, [.int .i64 0, .int .i64 0, .int .i64 0, .int .i64 0, .int .i64 0, .int .i64 0, .int .i64 0, .int .i64 0, .int .i64 0, .int .i64 0, .int .i64 0, .string ⟨#[]⟩]⟩]) := (((Frm.refl _ _).push _).push _).push _
  have si0 := ((h.push (some ⟨true, [.int .i64 r.node, .int .i64 r.epoch, .int .i64 r.parent, .int .i64 r.heard, .int .i64 r.rank, .int .i64 r.least]⟩)).push (some ⟨true, [.int .i64 o.root, .bool o.opn, .string o.run, .int .i64 o.next.ver, .int .i64 o.next.first, .int .i64 o.next.til, .slice a o.next.ch.length z]⟩)).push (some ⟨true, [.int .i64 0, .int .i64 0, .int .i64 0, .int .i64 0, .int .i64 0, .int .i64 0, .int .i64 0, .int .i64 0, .int .i64 0, .int .i64 0, .int .i64 0, .string ⟨#[]⟩]⟩)
  have gr : hget (H ++ [some ⟨true, [.int .i64 r.node, .int .i64 r.epoch, .int .i64 r.parent, .int .i64 r.heard, .int .i64 r.rank, .int .i64 r.least]⟩] ++ [some ⟨true, [.int .i64 o.root, .bool o.opn, .string o.run, .int .i64 o.next.ver, .int .i64 o.next.first, .int .i64 o.next.til, .slice a o.next.ch.length z]⟩] ++ [some ⟨true, [.int .i64 0, .int .i64 0, .int .i64 0, .int .i64 0, .int .i64 0, .int .i64 0, .int .i64 0, .int .i64 0, .int .i64 0, .int .i64 0, .int .i64 0, .string ⟨#[]⟩]⟩]) H.length = some ⟨true, [.int .i64 r.node, .int .i64 r.epoch, .int .i64 r.parent, .int .i64 r.heard, .int .i64 r.rank, .int .i64 r.least]⟩ := by
    rw [hget_append_lt (by simp)]; exact ydx
  have go : hget (H ++ [some ⟨true, [.int .i64 r.node, .int .i64 r.epoch, .int .i64 r.parent, .int .i64 r.heard, .int .i64 r.rank, .int .i64 r.least]⟩] ++ [some ⟨true, [.int .i64 o.root, .bool o.opn, .string o.run, .int .i64 o.next.ver, .int .i64 o.next.first, .int .i64 o.next.til, .slice a o.next.ch.length z]⟩] ++ [some ⟨true, [.int .i64 0, .int .i64 0, .int .i64 0, .int .i64 0, .int .i64 0, .int .i64 0, .int .i64 0, .int .i64 0, .int .i64 0, .int .i64 0, .int .i64 0, .string ⟨#[]⟩]⟩]) (H.length + 1) = some ⟨true, [.int .i64 o.root, .bool o.opn, .string o.run, .int .i64 o.next.ver, .int .i64 o.next.first, .int .i64 o.next.til, .slice a o.next.ch.length z]⟩ := by
    rw [hget_append_lt (by simp)]; exact ydv
  have gz : hget (H ++ [some ⟨true, [.int .i64 r.node, .int .i64 r.epoch, .int .i64 r.parent, .int .i64 r.heard, .int .i64 r.rank, .int .i64 r.least]⟩] ++ [some ⟨true, [.int .i64 o.root, .bool o.opn, .string o.run, .int .i64 o.next.ver, .int .i64 o.next.first, .int .i64 o.next.til, .slice a o.next.ch.length z]⟩] ++ [some ⟨true, [.int .i64 0, .int .i64 0, .int .i64 0, .int .i64 0, .int .i64 0, .int .i64 0, .int .i64 0, .int .i64 0, .int .i64 0, .int .i64 0, .int .i64 0, .string ⟨#[]⟩]⟩]) (H.length + 2) = some ⟨true, [.int .i64 0, .int .i64 0, .int .i64 0, .int .i64 0, .int .i64 0, .int .i64 0, .int .i64 0, .int .i64 0, .int .i64 0, .int .i64 0, .int .i64 0, .string ⟨#[]⟩]⟩ := by
    rw [hget_app]; simp
  simp only [F131, ↓yaa, ↓yab, ↓yac, ↓yad, ↓yae, ↓yaf, ↓yag, ↓yah, ↓yai, ↓ydb, ↓ydc, ↓ydd, ↓yde, ↓ydf, ↓ydg, ↓yao, ↓yap, ↓ydh, ↓ydi, ↓ydj, ↓ydk, ↓ydl, ↓ydm, ↓ydn, ↓ydo, ↓ydp, ↓yax, yay, yaz, yba, ybb, ybc, ybd, ybe, ybf, ybg, ybh, ybi, ybj, ybk, ybl, ybm, ybn, ybo, ybp, ybq, ybr, ybs, ybt, ybu, ybv, ares, tup, ybw, ybx, yby, argsE, dval, aop, ev, evs, evo, evp, fillL, addrOf, intOf?, ybz, yca, ycb, ycc, ycd, yce, ycf, zah, zag, reduceIte, Nat.reduceEqDiff, ycg, ych, yci, ycj, yck, ycl, ycm, ycn, yco, ycp, ycq, ycr, zap, zao, reduceCtorEq, zbb, zbc, zba, zaz, Nat.reduceAdd, Nat.reduceMul, zaq, zar, eqPtr, zae, zaf, zab, zaa, zac, zad, hload, hstore, zal, zam, Nat.reduceAdd, Nat.reduceLeDiff, zbb, zas, zat, one, zau, zaw, zav, splice, zaj, zak, zab, zaa, ycs, yct, ycu, ycv, ycw, ycx, ycy, ycz, zan, zai, zax, zay, and_self, true_and, and_true, lenV, yda, Nat.le_refl, if_true, ydq, ydr, yds, ne_eq, not_true_eq_false, not_false_eq_true, ← decide_not, Decidable.not_not, ydt, ydu, ydz, ydv, ydw, List.drop_zero, eq_self, Bool.false_eq_true, List.getElem?_toArray, yea, yeb, List.nil_append, List.cons_append, Bool.false_and, Int.reduceEq, Int.reduceLT, Int.reduceLE, Int.reduceNe, zbc, zbb, yec, yed, yee, yef, ydx, ydy]
  generalize H ++ [some (⟨true, [.int .i64 r.node, .int .i64 r.epoch, .int .i64 r.parent, .int .i64 r.heard, .int .i64 r.rank, .int .i64 r.least]⟩ : Blk)] ++ [some (⟨true, [.int .i64 o.root, .bool o.opn, .string o.run, .int .i64 o.next.ver, .int .i64 o.next.first, .int .i64 o.next.til, .slice a o.next.ch.length z]⟩ : Blk)] ++ [some (⟨true, [.int .i64 0, .int .i64 0, .int .i64 0, .int .i64 0, .int .i64 0, .int .i64 0, .int .i64 0, .int .i64 0, .int .i64 0, .int .i64 0, .int .i64 0, .string ⟨#[]⟩]⟩ : Blk)] = G at *
  simp only [↓yaa, ↓yab, ↓yac, ↓yad, ↓yae, ↓yaf, ↓yag, ↓yah, ↓yai, ↓ydb, ↓ydc, ↓ydd, ↓yde, ↓ydf, ↓ydg, ↓yao, ↓yap, ↓ydh, ↓ydi, ↓ydj, ↓ydk, ↓ydl, ↓ydm, ↓ydn, ↓ydo, ↓ydp, ↓yax, yay, yaz, yba, ybb, ybc, ybd, ybe, ybf, ybg, ybh, ybi, ybj, ybk, ybl, ybm, ybn, ybo, ybp, ybq, ybr, ybs, ybt, ybu, ybv, ares, tup, ybw, ybx, yby, argsE, dval, aop, ev, evs, evo, evp, fillL, addrOf, intOf?, ybz, yca, ycb, ycc, ycd, yce, ycf, zah, zag, reduceIte, Nat.reduceEqDiff, ycg, ych, yci, ycj, yck, ycl, ycm, ycn, yco, ycp, ycq, ycr, zap, zao, reduceCtorEq, zbb, zbc, zba, zaz, Nat.reduceAdd, Nat.reduceMul, zaq, zar, eqPtr, zae, zaf, zab, zaa, zac, zad, hload, hstore, zal, zam, Nat.reduceAdd, Nat.reduceLeDiff, zbb, zas, zat, one, zau, zaw, zav, splice, zaj, zak, zab, zaa, ycs, yct, ycu, ycv, ycw, ycx, ycy, ycz, zan, zai, zax, zay, and_self, true_and, and_true, lenV, yda, Nat.le_refl, if_true, ydq, ydr, yds, ne_eq, not_true_eq_false, not_false_eq_true, ← decide_not, Decidable.not_not, ydt, ydu, ydz, ydv, ydw, List.drop_zero, eq_self, Bool.false_eq_true, List.getElem?_toArray, yea, yeb, List.nil_append, List.cons_append, Bool.false_and, Int.reduceEq, Int.reduceLT, Int.reduceLE, Int.reduceNe, zbc, zbb, yec, yed, yee, yef, ydx, ydy, go, t7, list7]
  rw [← hov]
  refine f112 si0 hl hok fun H1 f1 => ?_
  have r1 := f1.gets gr
  have z1 := f1.gets gz
  have hz := hget_lt z1
  have fh := f0.then f1
  unfold mkB at hk
  by_cases c1 : o.enc.2 = 0
  · rw [if_neg (by simpa using c1)] at hk
    by_cases c2 : 65535 ≤ r.rank
    · rw [if_pos c2] at hk
      simp only [↓yaa, ↓yab, ↓yac, ↓yad, ↓yae, ↓yaf, ↓yag, ↓yah, ↓yai, ↓ydb, ↓ydc, ↓ydd, ↓yde, ↓ydf, ↓ydg, ↓yao, ↓yap, ↓ydh, ↓ydi, ↓ydj, ↓ydk, ↓ydl, ↓ydm, ↓ydn, ↓ydo, ↓ydp, ↓yax, yay, yaz, yba, ybb, ybc, ybd, ybe, ybf, ybg, ybh, ybi, ybj, ybk, ybl, ybm, ybn, ybo, ybp, ybq, ybr, ybs, ybt, ybu, ybv, ares, tup, ybw, ybx, yby, argsE, dval, aop, ev, evs, evo, evp, fillL, addrOf, intOf?, ybz, yca, ycb, ycc, ycd, yce, ycf, zah, zag, reduceIte, Nat.reduceEqDiff, ycg, ych, yci, ycj, yck, ycl, ycm, ycn, yco, ycp, ycq, ycr, zap, zao, reduceCtorEq, zbb, zbc, zba, zaz, Nat.reduceAdd, Nat.reduceMul, zaq, zar, eqPtr, zae, zaf, zab, zaa, zac, zad, hload, hstore, zal, zam, Nat.reduceAdd, Nat.reduceLeDiff, zbb, zas, zat, one, zau, zaw, zav, splice, zaj, zak, zab, zaa, ycs, yct, ycu, ycv, ycw, ycx, ycy, ycz, zan, zai, zax, zay, and_self, true_and, and_true, lenV, yda, Nat.le_refl, if_true, ydq, ydr, yds, ne_eq, not_true_eq_false, not_false_eq_true, ← decide_not, Decidable.not_not, ydt, ydu, ydz, ydv, ydw, List.drop_zero, eq_self, Bool.false_eq_true, List.getElem?_toArray, yea, yeb, List.nil_append, List.cons_append, Bool.false_and, Int.reduceEq, Int.reduceLT, Int.reduceLE, Int.reduceNe, zbc, zbb, yec, yed, yee, yef, ydx, ydy, c1, r1, c2, z1, size12, hz, yen, t12, list12]
      exact hk _ (fh.set _ (.inr (by omega)))
    · rw [if_neg c2] at hk
      have hc := fun G => f151e 3 r.node (-1) list seq 0 0 0 slot r.rank r.epoch o.enc.1 G
      have z2 := z1
      by_cases c3 : (⟨3, r.node, -1, list, seq, 0, 0, 0, slot, r.rank, r.epoch, o.enc.1⟩ : Fr).Ok
      · rw [if_pos c3] at hk
        simp only [c3, if_true] at hc
        simp only [↓yaa, ↓yab, ↓yac, ↓yad, ↓yae, ↓yaf, ↓yag, ↓yah, ↓yai, ↓ydb, ↓ydc, ↓ydd, ↓yde, ↓ydf, ↓ydg, ↓yao, ↓yap, ↓ydh, ↓ydi, ↓ydj, ↓ydk, ↓ydl, ↓ydm, ↓ydn, ↓ydo, ↓ydp, ↓yax, yay, yaz, yba, ybb, ybc, ybd, ybe, ybf, ybg, ybh, ybi, ybj, ybk, ybl, ybm, ybn, ybo, ybp, ybq, ybr, ybs, ybt, ybu, ybv, ares, tup, ybw, ybx, yby, argsE, dval, aop, ev, evs, evo, evp, fillL, addrOf, intOf?, ybz, yca, ycb, ycc, ycd, yce, ycf, zah, zag, reduceIte, Nat.reduceEqDiff, ycg, ych, yci, ycj, yck, ycl, ycm, ycn, yco, ycp, ycq, ycr, zap, zao, reduceCtorEq, zbb, zbc, zba, zaz, Nat.reduceAdd, Nat.reduceMul, zaq, zar, eqPtr, zae, zaf, zab, zaa, zac, zad, hload, hstore, zal, zam, Nat.reduceAdd, Nat.reduceLeDiff, zbb, zas, zat, one, zau, zaw, zav, splice, zaj, zak, zab, zaa, ycs, yct, ycu, ycv, ycw, ycx, ycy, ycz, zan, zai, zax, zay, and_self, true_and, and_true, lenV, yda, Nat.le_refl, if_true, ydq, ydr, yds, ne_eq, not_true_eq_false, not_false_eq_true, ← decide_not, Decidable.not_not, ydt, ydu, ydz, ydv, ydw, List.drop_zero, eq_self, Bool.false_eq_true, List.getElem?_toArray, yea, yeb, List.nil_append, List.cons_append, Bool.false_and, Int.reduceEq, Int.reduceLT, Int.reduceLE, Int.reduceNe, zbc, zbb, yec, yed, yee, yef, ydx, ydy, c1, r1, c2, size12, t12, list12, hc, yem, hz, z1]
        have hz1 : H.length + 2 < (H1 ++ [some (⟨true, [.int .i64 3, .int .i64 r.node, .int .i64 (-1), .int .i64 list, .int .i64 seq, .int .i64 0, .int .i64 0, .int .i64 0, .int .i64 slot, .int .i64 r.rank, .int .i64 r.epoch, .string o.enc.1]⟩ : Blk)]).length := by simp; omega
        simp only [↓yaa, ↓yab, ↓yac, ↓yad, ↓yae, ↓yaf, ↓yag, ↓yah, ↓yai, ↓ydb, ↓ydc, ↓ydd, ↓yde, ↓ydf, ↓ydg, ↓yao, ↓yap, ↓ydh, ↓ydi, ↓ydj, ↓ydk, ↓ydl, ↓ydm, ↓ydn, ↓ydo, ↓ydp, ↓yax, yay, yaz, yba, ybb, ybc, ybd, ybe, ybf, ybg, ybh, ybi, ybj, ybk, ybl, ybm, ybn, ybo, ybp, ybq, ybr, ybs, ybt, ybu, ybv, ares, tup, ybw, ybx, yby, argsE, dval, aop, ev, evs, evo, evp, fillL, addrOf, intOf?, ybz, yca, ycb, ycc, ycd, yce, ycf, zah, zag, reduceIte, Nat.reduceEqDiff, ycg, ych, yci, ycj, yck, ycl, ycm, ycn, yco, ycp, ycq, ycr, zap, zao, reduceCtorEq, zbb, zbc, zba, zaz, Nat.reduceAdd, Nat.reduceMul, zaq, zar, eqPtr, zae, zaf, zab, zaa, zac, zad, hload, hstore, zal, zam, Nat.reduceAdd, Nat.reduceLeDiff, zbb, zas, zat, one, zau, zaw, zav, splice, zaj, zak, zab, zaa, ycs, yct, ycu, ycv, ycw, ycx, ycy, ycz, zan, zai, zax, zay, and_self, true_and, and_true, lenV, yda, Nat.le_refl, if_true, ydq, ydr, yds, ne_eq, not_true_eq_false, not_false_eq_true, ← decide_not, Decidable.not_not, ydt, ydu, ydz, ydv, ydw, List.drop_zero, eq_self, Bool.false_eq_true, List.getElem?_toArray, yea, yeb, List.nil_append, List.cons_append, Bool.false_and, Int.reduceEq, Int.reduceLT, Int.reduceLE, Int.reduceNe, zbc, zbb, yec, yed, yee, yef, ydx, ydy, yen hz1, t12, list12]
        exact hk _ ((fh.push _).set _ (.inr (by omega)))
      · rw [if_neg c3] at hk
        simp only [c3, if_false] at hc
        simp only [↓yaa, ↓yab, ↓yac, ↓yad, ↓yae, ↓yaf, ↓yag, ↓yah, ↓yai, ↓ydb, ↓ydc, ↓ydd, ↓yde, ↓ydf, ↓ydg, ↓yao, ↓yap, ↓ydh, ↓ydi, ↓ydj, ↓ydk, ↓ydl, ↓ydm, ↓ydn, ↓ydo, ↓ydp, ↓yax, yay, yaz, yba, ybb, ybc, ybd, ybe, ybf, ybg, ybh, ybi, ybj, ybk, ybl, ybm, ybn, ybo, ybp, ybq, ybr, ybs, ybt, ybu, ybv, ares, tup, ybw, ybx, yby, argsE, dval, aop, ev, evs, evo, evp, fillL, addrOf, intOf?, ybz, yca, ycb, ycc, ycd, yce, ycf, zah, zag, reduceIte, Nat.reduceEqDiff, ycg, ych, yci, ycj, yck, ycl, ycm, ycn, yco, ycp, ycq, ycr, zap, zao, reduceCtorEq, zbb, zbc, zba, zaz, Nat.reduceAdd, Nat.reduceMul, zaq, zar, eqPtr, zae, zaf, zab, zaa, zac, zad, hload, hstore, zal, zam, Nat.reduceAdd, Nat.reduceLeDiff, zbb, zas, zat, one, zau, zaw, zav, splice, zaj, zak, zab, zaa, ycs, yct, ycu, ycv, ycw, ycx, ycy, ycz, zan, zai, zax, zay, and_self, true_and, and_true, lenV, yda, Nat.le_refl, if_true, ydq, ydr, yds, ne_eq, not_true_eq_false, not_false_eq_true, ← decide_not, Decidable.not_not, ydt, ydu, ydz, ydv, ydw, List.drop_zero, eq_self, Bool.false_eq_true, List.getElem?_toArray, yea, yeb, List.nil_append, List.cons_append, Bool.false_and, Int.reduceEq, Int.reduceLT, Int.reduceLE, Int.reduceNe, zbc, zbb, yec, yed, yee, yef, ydx, ydy, c1, r1, c2, size12, t12, list12, hc, yem, hz, z1]
        have hz1 : H.length + 2 < (H1 ++ [some (⟨true, [.int .i64 3, .int .i64 r.node, .int .i64 (-1), .int .i64 list, .int .i64 seq, .int .i64 0, .int .i64 0, .int .i64 0, .int .i64 slot, .int .i64 r.rank, .int .i64 r.epoch, .string o.enc.1]⟩ : Blk)]).length := by simp; omega
        simp only [↓yaa, ↓yab, ↓yac, ↓yad, ↓yae, ↓yaf, ↓yag, ↓yah, ↓yai, ↓ydb, ↓ydc, ↓ydd, ↓yde, ↓ydf, ↓ydg, ↓yao, ↓yap, ↓ydh, ↓ydi, ↓ydj, ↓ydk, ↓ydl, ↓ydm, ↓ydn, ↓ydo, ↓ydp, ↓yax, yay, yaz, yba, ybb, ybc, ybd, ybe, ybf, ybg, ybh, ybi, ybj, ybk, ybl, ybm, ybn, ybo, ybp, ybq, ybr, ybs, ybt, ybu, ybv, ares, tup, ybw, ybx, yby, argsE, dval, aop, ev, evs, evo, evp, fillL, addrOf, intOf?, ybz, yca, ycb, ycc, ycd, yce, ycf, zah, zag, reduceIte, Nat.reduceEqDiff, ycg, ych, yci, ycj, yck, ycl, ycm, ycn, yco, ycp, ycq, ycr, zap, zao, reduceCtorEq, zbb, zbc, zba, zaz, Nat.reduceAdd, Nat.reduceMul, zaq, zar, eqPtr, zae, zaf, zab, zaa, zac, zad, hload, hstore, zal, zam, Nat.reduceAdd, Nat.reduceLeDiff, zbb, zas, zat, one, zau, zaw, zav, splice, zaj, zak, zab, zaa, ycs, yct, ycu, ycv, ycw, ycx, ycy, ycz, zan, zai, zax, zay, and_self, true_and, and_true, lenV, yda, Nat.le_refl, if_true, ydq, ydr, yds, ne_eq, not_true_eq_false, not_false_eq_true, ← decide_not, Decidable.not_not, ydt, ydu, ydz, ydv, ydw, List.drop_zero, eq_self, Bool.false_eq_true, List.getElem?_toArray, yea, yeb, List.nil_append, List.cons_append, Bool.false_and, Int.reduceEq, Int.reduceLT, Int.reduceLE, Int.reduceNe, zbc, zbb, yec, yed, yee, yef, ydx, ydy, yen hz1, t12, list12]
        exact hk _ ((fh.push _).set _ (.inr (by omega)))
  · rw [if_pos (by simpa using c1)] at hk
    simp only [↓yaa, ↓yab, ↓yac, ↓yad, ↓yae, ↓yaf, ↓yag, ↓yah, ↓yai, ↓ydb, ↓ydc, ↓ydd, ↓yde, ↓ydf, ↓ydg, ↓yao, ↓yap, ↓ydh, ↓ydi, ↓ydj, ↓ydk, ↓ydl, ↓ydm, ↓ydn, ↓ydo, ↓ydp, ↓yax, yay, yaz, yba, ybb, ybc, ybd, ybe, ybf, ybg, ybh, ybi, ybj, ybk, ybl, ybm, ybn, ybo, ybp, ybq, ybr, ybs, ybt, ybu, ybv, ares, tup, ybw, ybx, yby, argsE, dval, aop, ev, evs, evo, evp, fillL, addrOf, intOf?, ybz, yca, ycb, ycc, ycd, yce, ycf, zah, zag, reduceIte, Nat.reduceEqDiff, ycg, ych, yci, ycj, yck, ycl, ycm, ycn, yco, ycp, ycq, ycr, zap, zao, reduceCtorEq, zbb, zbc, zba, zaz, Nat.reduceAdd, Nat.reduceMul, zaq, zar, eqPtr, zae, zaf, zab, zaa, zac, zad, hload, hstore, zal, zam, Nat.reduceAdd, Nat.reduceLeDiff, zbb, zas, zat, one, zau, zaw, zav, splice, zaj, zak, zab, zaa, ycs, yct, ycu, ycv, ycw, ycx, ycy, ycz, zan, zai, zax, zay, and_self, true_and, and_true, lenV, yda, Nat.le_refl, if_true, ydq, ydr, yds, ne_eq, not_true_eq_false, not_false_eq_true, ← decide_not, Decidable.not_not, ydt, ydu, ydz, ydv, ydw, List.drop_zero, eq_self, Bool.false_eq_true, List.getElem?_toArray, yea, yeb, List.nil_append, List.cons_append, Bool.false_and, Int.reduceEq, Int.reduceLT, Int.reduceLE, Int.reduceNe, zbc, zbb, yec, yed, yee, yef, ydx, ydy, c1, z1, size12, hz, yen, t12, list12]
    exact hk _ (fh.set _ (.inr (by omega)))

theorem dec_err (t : ByteArray) : (dec t).2 = 0 ∨ (dec t).2 = 10 := by
  unfold dec; split
  · exact .inr rfl
  · exact .inl rfl
theorem f127_0 (f : Fr) : AC tbl 127 [f.v] [] = some (.bool (decide f.Bcn), []) := by
  apply AC_eq
  apply AC_wp (F := F127) rfl (by simp [F127]) (.inr rfl)
  have hfv : f.v = .agg #[.int .i64 f.kind, .int .i64 f.source, .int .i64 f.target, .int .i64 f.list, .int .i64 f.seq, .int .i64 f.flow, .int .i64 f.number, .int .i64 f.error, .int .i64 f.slot, .int .i64 f.rank, .int .i64 f.epoch, .string f.data] := rfl
  have he : decide (¬ f.off.2 = 1) = decide f.Bcn := by
    unfold Fr.off
    by_cases h : f.Bcn
    · rw [if_pos h]
      rcases dec_err f.data with h1 | h1 <;> rw [h1] <;> simp [h]
    · rw [if_neg h]; simp [h]
  rw [hfv]
  simp only [F127, ↓yaa, ↓yab, ↓yac, ↓yad, ↓yae, ↓yaf, ↓yag, ↓yah, ↓yai, ↓ydb, ↓ydc, ↓ydd, ↓yde, ↓ydf, ↓ydg, ↓yao, ↓yap, ↓ydh, ↓ydi, ↓ydj, ↓ydk, ↓ydl, ↓ydm, ↓ydn, ↓ydo, ↓ydp, ↓yax, yay, yaz, yba, ybb, ybc, ybd, ybe, ybf, ybg, ybh, ybi, ybj, ybk, ybl, ybm, ybn, ybo, ybp, ybq, ybr, ybs, ybt, ybu, ybv, ares, tup, ybw, ybx, yby, argsE, dval, aop, ev, evs, evo, evp, fillL, addrOf, intOf?, ybz, yca, ycb, ycc, ycd, yce, ycf, zah, zag, reduceIte, Nat.reduceEqDiff, ycg, ych, yci, ycj, yck, ycl, ycm, ycn, yco, ycp, ycq, ycr, zap, zao, reduceCtorEq, zbb, zbc, zba, zaz, Nat.reduceAdd, Nat.reduceMul, zaq, zar, eqPtr, zae, zaf, zab, zaa, zac, zad, hload, hstore, zal, zam, Nat.reduceAdd, Nat.reduceLeDiff, zbb, zas, zat, one, zau, zaw, zav, splice, zaj, zak, zab, zaa, ycs, yct, ycu, ycv, ycw, ycx, ycy, ycz, zan, zai, zax, zay, and_self, true_and, and_true, lenV, yda, Nat.le_refl, if_true, ydq, ydr, yds, ne_eq, not_true_eq_false, not_false_eq_true, ← decide_not, Decidable.not_not, ydt, ydu, ydz, ydv, ydw, List.drop_zero, eq_self, Bool.false_eq_true, List.getElem?_toArray, yea, yeb, List.nil_append, List.cons_append, Bool.false_and, Int.reduceEq, Int.reduceLT, Int.reduceLE, Int.reduceNe, zbc, zbb, yec, yed, yee, yef, ydx, ydy, take12, list12]
  rw [← hfv]
  refine f128 fun H1 a z f1 si nl nw => ?_
  have hov : f.off.1.v a z = .agg #[.int .i64 f.off.1.root, .bool f.off.1.opn, .string f.off.1.run, .int .i64 f.off.1.next.ver, .int .i64 f.off.1.next.first, .int .i64 f.off.1.next.til, .slice a f.off.1.next.ch.length z] := rfl
  rw [hov]
  simp only [↓yaa, ↓yab, ↓yac, ↓yad, ↓yae, ↓yaf, ↓yag, ↓yah, ↓yai, ↓ydb, ↓ydc, ↓ydd, ↓yde, ↓ydf, ↓ydg, ↓yao, ↓yap, ↓ydh, ↓ydi, ↓ydj, ↓ydk, ↓ydl, ↓ydm, ↓ydn, ↓ydo, ↓ydp, ↓yax, yay, yaz, yba, ybb, ybc, ybd, ybe, ybf, ybg, ybh, ybi, ybj, ybk, ybl, ybm, ybn, ybo, ybp, ybq, ybr, ybs, ybt, ybu, ybv, ares, tup, ybw, ybx, yby, argsE, dval, aop, ev, evs, evo, evp, fillL, addrOf, intOf?, ybz, yca, ycb, ycc, ycd, yce, ycf, zah, zag, reduceIte, Nat.reduceEqDiff, ycg, ych, yci, ycj, yck, ycl, ycm, ycn, yco, ycp, ycq, ycr, zap, zao, reduceCtorEq, zbb, zbc, zba, zaz, Nat.reduceAdd, Nat.reduceMul, zaq, zar, eqPtr, zae, zaf, zab, zaa, zac, zad, hload, hstore, zal, zam, Nat.reduceAdd, Nat.reduceLeDiff, zbb, zas, zat, one, zau, zaw, zav, splice, zaj, zak, zab, zaa, ycs, yct, ycu, ycv, ycw, ycx, ycy, ycz, zan, zai, zax, zay, and_self, true_and, and_true, lenV, yda, Nat.le_refl, if_true, ydq, ydr, yds, ne_eq, not_true_eq_false, not_false_eq_true, ← decide_not, Decidable.not_not, ydt, ydu, ydz, ydv, ydw, List.drop_zero, eq_self, Bool.false_eq_true, List.getElem?_toArray, yea, yeb, List.nil_append, List.cons_append, Bool.false_and, Int.reduceEq, Int.reduceLT, Int.reduceLE, Int.reduceNe, zbc, zbb, yec, yed, yee, yef, ydx, ydy, s7, he]
theorem f127 (f : Fr) (H : Heap) : AC tbl 127 [f.v] H = some (.bool (decide f.Bcn), H) := AC_iso (F := F127) rfl (by simp [F127]) rfl rfl rfl (f127_0 f) H

end Go.Proofs.Ytejcabdejoameaa.AI

/- More arguments of the laws over beacons. -/
set_option linter.unusedSimpArgs false
namespace Go.Proofs.Ytejcabdejoameaa.AI
open Go Go.ChangeShapes Go.WideShapes Go.ChangeAt Go.RowKit

def rkLeaves : List Leaf := [LI, LI, LI, LI, LI, LI]
structure Rk.I64 (r : Rk) : Prop where
  node : Is64 r.node
  epoch : Is64 r.epoch
  rank : Is64 r.rank
theorem rk_open {W : World} {cs : List Value} (hl : cs.length = rkLeaves.length) (h : ∀ (i : Nat) (l : Leaf) (c : Value), rkLeaves[i]? = some l → cs[i]? = some c → isL W l c) : ∃ r : Rk, cs = [.int .i64 r.node, .int .i64 r.epoch, .int .i64 r.parent, .int .i64 r.heard, .int .i64 r.rank, .int .i64 r.least] ∧ r.I64 := by
  match cs, hl with
  | [c0, c1, c2, c3, c4, c5], _ =>
    obtain ⟨n0, rfl, w0⟩ := h 0 LI c0 rfl rfl
    obtain ⟨n1, rfl, w1⟩ := h 1 LI c1 rfl rfl
    obtain ⟨n2, rfl, w2⟩ := h 2 LI c2 rfl rfl
    obtain ⟨n3, rfl, w3⟩ := h 3 LI c3 rfl rfl
    obtain ⟨n4, rfl, w4⟩ := h 4 LI c4 rfl rfl
    obtain ⟨n5, rfl, w5⟩ := h 5 LI c5 rfl rfl
    exact ⟨⟨n0, n1, n2, n3, n4, n5⟩, rfl, ⟨i64_wf w0, i64_wf w1, i64_wf w4⟩⟩
theorem rk_vr {B : Map} (r : Rk) : VR sig B r.v (.agg [.int .i64 r.node, .int .i64 r.epoch, .int .i64 r.parent, .int .i64 r.heard, .int .i64 r.rank, .int .i64 r.least].toArray) :=
  VR.agg' (.cons (.atom _ rfl) (.cons (.atom _ rfl) (.cons (.atom _ rfl) (.cons (.atom _ rfl) (.cons (.atom _ rfl) (.cons (.atom _ rfl) .nil))))))
theorem dec_len (t : ByteArray) : (dec t).1.next.ch.length < 1000000000 := by
  unfold dec
  split
  · simp [zeroOff]
  · have := off_len (newR t); simp only; omega

end Go.Proofs.Ytejcabdejoameaa.AI

