/- BeaconOffers holds, whatever the input. -/
import Derived.Calls
import Derived.Orders
import Derived.RowKit3
import Derived.KernelRfl
import Derived.WalkKit
import Derived.Laws.IdiomStrings
import Derived.Laws.StructEq
import Derived.LoopN
import Derived.Test.YtejcabdejoameaaRows
import Derived.ProofKit
import Derived.OpenShut
import Derived.ChangeMaps5
import Derived.Test.YtejcabdejoameaaOx5
/- Beacons: which is better. -/
set_option linter.unusedSimpArgs false
set_option maxHeartbeats 4000000
namespace Go.Proofs.Ytejcabdejoameaa.AI
open Go

theorem f150e (a b c d e f g h i j k : Int) (s : ByteArray) (H : Heap) : AC tbl 150 [.agg #[.int .i64 a, .int .i64 b, .int .i64 c, .int .i64 d, .int .i64 e, .int .i64 f, .int .i64 g, .int .i64 h, .int .i64 i, .int .i64 j, .int .i64 k, .string s]] H =
    some (.int .i64 (if (⟨a, b, c, d, e, f, g, h, i, j, k, s⟩ : Fr).Ok then 0 else 1), H) := f150 ⟨a, b, c, d, e, f, g, h, i, j, k, s⟩ H
theorem f151e (a b c d e f g h i j k : Int) (s : ByteArray) (H : Heap) : AC tbl 151 [.agg #[.int .i64 a, .int .i64 b, .int .i64 c, .int .i64 d, .int .i64 e, .int .i64 f, .int .i64 g, .int .i64 h, .int .i64 i, .int .i64 j, .int .i64 k, .string s]] H =
    some (.int .i64 (if (⟨a, b, c, d, e, f, g, h, i, j, k, s⟩ : Fr).Ok then 0 else 1), H) := f151 ⟨a, b, c, d, e, f, g, h, i, j, k, s⟩ H

/-- A right beacon. -/
def Fr.Bcn (f : Fr) : Prop := f.kind = 3 ∧ f.Ok
instance (f : Fr) : Decidable f.Bcn := by unfold Fr.Bcn; infer_instance
theorem ite01 {p : Prop} {hp : Decidable p} : ((@ite Int p hp 0 1) = 0) = p := by
  by_cases h : p <;> simp [h]
theorem fr_eta (f : Fr) : (⟨f.kind, f.source, f.target, f.list, f.seq, f.flow, f.number, f.error, f.slot, f.rank, f.epoch, f.data⟩ : Fr) = f := rfl

theorem f149_0 (f : Fr) : AC tbl 149 [f.v] [] = some (.bool (decide f.Bcn), []) := by
  apply AC_eq
  apply AC_wp (F := F149) rfl (by simp [F149]) (.inr rfl)
  unfold F149 Fr.v
  by_cases hk : f.kind = 3
  · have e : f.Bcn = (⟨3, f.source, f.target, f.list, f.seq, f.flow, f.number, f.error, f.slot, f.rank, f.epoch, f.data⟩ : Fr).Ok := by
      unfold Fr.Bcn
      rw [show (f.kind = 3) = True by simp [hk], true_and, ← hk, fr_eta]
    simp only [e]
    (repeat' (first | simp only [↓yaa, ↓yab, ↓yac, ↓yad, ↓yae, ↓yaf, ↓yag, ↓yah, ↓yai, ↓ydb, ↓ydc, ↓ydd, ↓yde, ↓ydf, ↓ydg, ↓yao, ↓yap, ↓ydh, ↓ydi, ↓ydj, ↓ydk, ↓ydl, ↓ydm, ↓ydn, ↓ydo, ↓ydp, ↓yax, yay, yaz, yba, ybb, ybc, ybd, ybe, ybf, ybg, ybh, ybi, ybj, ybk, ybl, ybm, ybn, ybo, ybp, ybq, ybr, ybs, ybt, ybu, ybv, ares, tup, ybw, ybx, yby, argsE, dval, aop, ev, evs, evo, evp, fillL, addrOf, intOf?, ybz, yca, ycb, ycc, ycd, yce, ycf, zah, zag, reduceIte, Nat.reduceEqDiff, ycg, ych, yci, ycj, yck, ycl, ycm, ycn, yco, ycp, ycq, ycr, zap, zao, reduceCtorEq, zbb, zbc, zba, zaz, Nat.reduceAdd, Nat.reduceMul, zaq, zar, eqPtr, zae, zaf, zab, zaa, zac, zad, hload, hstore, zal, zam, Nat.reduceAdd, Nat.reduceLeDiff, zbb, zas, zat, one, zau, zaw, zav, splice, zaj, zak, zab, zaa, ycs, yct, ycu, ycv, ycw, ycx, ycy, ycz, zan, zai, zax, zay, and_self, true_and, and_true, lenV, yda, Nat.le_refl, if_true, ydq, ydr, yds, ne_eq, not_true_eq_false, not_false_eq_true, ← decide_not, Decidable.not_not, ydt, ydu, ydz, ydv, ydw, List.drop_zero, eq_self, Bool.false_eq_true, List.getElem?_toArray, yea, yeb, List.nil_append, List.cons_append, Bool.false_and, Int.reduceEq, Int.reduceLT, Int.reduceLE, Int.reduceNe, zbc, zbb, yec, yed, yee, yef, f150e, take12, list12, ite01, *] | refine yeg (fun _ => ?_) (fun _ => ?_) | refine yeh (fun _ => ?_) (fun _ => ?_) | refine yei (fun _ => ?_) (fun _ => ?_) | refine yej (fun _ => ?_) (fun _ => ?_) | refine yek (fun _ => ?_) (fun _ => ?_) | refine yel (fun _ => ?_) (fun _ => ?_)))
  · have e : f.Bcn = False := by unfold Fr.Bcn; simp [hk]
    simp only [e]
    (repeat' (first | simp only [↓yaa, ↓yab, ↓yac, ↓yad, ↓yae, ↓yaf, ↓yag, ↓yah, ↓yai, ↓ydb, ↓ydc, ↓ydd, ↓yde, ↓ydf, ↓ydg, ↓yao, ↓yap, ↓ydh, ↓ydi, ↓ydj, ↓ydk, ↓ydl, ↓ydm, ↓ydn, ↓ydo, ↓ydp, ↓yax, yay, yaz, yba, ybb, ybc, ybd, ybe, ybf, ybg, ybh, ybi, ybj, ybk, ybl, ybm, ybn, ybo, ybp, ybq, ybr, ybs, ybt, ybu, ybv, ares, tup, ybw, ybx, yby, argsE, dval, aop, ev, evs, evo, evp, fillL, addrOf, intOf?, ybz, yca, ycb, ycc, ycd, yce, ycf, zah, zag, reduceIte, Nat.reduceEqDiff, ycg, ych, yci, ycj, yck, ycl, ycm, ycn, yco, ycp, ycq, ycr, zap, zao, reduceCtorEq, zbb, zbc, zba, zaz, Nat.reduceAdd, Nat.reduceMul, zaq, zar, eqPtr, zae, zaf, zab, zaa, zac, zad, hload, hstore, zal, zam, Nat.reduceAdd, Nat.reduceLeDiff, zbb, zas, zat, one, zau, zaw, zav, splice, zaj, zak, zab, zaa, ycs, yct, ycu, ycv, ycw, ycx, ycy, ycz, zan, zai, zax, zay, and_self, true_and, and_true, lenV, yda, Nat.le_refl, if_true, ydq, ydr, yds, ne_eq, not_true_eq_false, not_false_eq_true, ← decide_not, Decidable.not_not, ydt, ydu, ydz, ydv, ydw, List.drop_zero, eq_self, Bool.false_eq_true, List.getElem?_toArray, yea, yeb, List.nil_append, List.cons_append, Bool.false_and, Int.reduceEq, Int.reduceLT, Int.reduceLE, Int.reduceNe, zbc, zbb, yec, yed, yee, yef, f150e, take12, list12, ite01, *] | refine yeg (fun _ => ?_) (fun _ => ?_) | refine yeh (fun _ => ?_) (fun _ => ?_) | refine yei (fun _ => ?_) (fun _ => ?_) | refine yej (fun _ => ?_) (fun _ => ?_) | refine yek (fun _ => ?_) (fun _ => ?_) | refine yel (fun _ => ?_) (fun _ => ?_)))
theorem f149 (f : Fr) (H : Heap) : AC tbl 149 [f.v] H = some (.bool (decide f.Bcn), H) := AC_iso (F := F149) rfl (by simp [F149]) rfl rfl rfl (f149_0 f) H
theorem f152_0 (f : Fr) : AC tbl 152 [f.v] [] = some (.bool (decide f.Bcn), []) := by
  apply AC_eq
  apply AC_wp (F := F152) rfl (by simp [F152]) (.inr rfl)
  unfold F152 Fr.v
  by_cases hk : f.kind = 3
  · have e : f.Bcn = (⟨3, f.source, f.target, f.list, f.seq, f.flow, f.number, f.error, f.slot, f.rank, f.epoch, f.data⟩ : Fr).Ok := by
      unfold Fr.Bcn
      rw [show (f.kind = 3) = True by simp [hk], true_and, ← hk, fr_eta]
    simp only [e]
    (repeat' (first | simp only [↓yaa, ↓yab, ↓yac, ↓yad, ↓yae, ↓yaf, ↓yag, ↓yah, ↓yai, ↓ydb, ↓ydc, ↓ydd, ↓yde, ↓ydf, ↓ydg, ↓yao, ↓yap, ↓ydh, ↓ydi, ↓ydj, ↓ydk, ↓ydl, ↓ydm, ↓ydn, ↓ydo, ↓ydp, ↓yax, yay, yaz, yba, ybb, ybc, ybd, ybe, ybf, ybg, ybh, ybi, ybj, ybk, ybl, ybm, ybn, ybo, ybp, ybq, ybr, ybs, ybt, ybu, ybv, ares, tup, ybw, ybx, yby, argsE, dval, aop, ev, evs, evo, evp, fillL, addrOf, intOf?, ybz, yca, ycb, ycc, ycd, yce, ycf, zah, zag, reduceIte, Nat.reduceEqDiff, ycg, ych, yci, ycj, yck, ycl, ycm, ycn, yco, ycp, ycq, ycr, zap, zao, reduceCtorEq, zbb, zbc, zba, zaz, Nat.reduceAdd, Nat.reduceMul, zaq, zar, eqPtr, zae, zaf, zab, zaa, zac, zad, hload, hstore, zal, zam, Nat.reduceAdd, Nat.reduceLeDiff, zbb, zas, zat, one, zau, zaw, zav, splice, zaj, zak, zab, zaa, ycs, yct, ycu, ycv, ycw, ycx, ycy, ycz, zan, zai, zax, zay, and_self, true_and, and_true, lenV, yda, Nat.le_refl, if_true, ydq, ydr, yds, ne_eq, not_true_eq_false, not_false_eq_true, ← decide_not, Decidable.not_not, ydt, ydu, ydz, ydv, ydw, List.drop_zero, eq_self, Bool.false_eq_true, List.getElem?_toArray, yea, yeb, List.nil_append, List.cons_append, Bool.false_and, Int.reduceEq, Int.reduceLT, Int.reduceLE, Int.reduceNe, zbc, zbb, yec, yed, yee, yef, f151e, take12, list12, ite01, *] | refine yeg (fun _ => ?_) (fun _ => ?_) | refine yeh (fun _ => ?_) (fun _ => ?_) | refine yei (fun _ => ?_) (fun _ => ?_) | refine yej (fun _ => ?_) (fun _ => ?_) | refine yek (fun _ => ?_) (fun _ => ?_) | refine yel (fun _ => ?_) (fun _ => ?_)))
  · have e : f.Bcn = False := by unfold Fr.Bcn; simp [hk]
    simp only [e]
    (repeat' (first | simp only [↓yaa, ↓yab, ↓yac, ↓yad, ↓yae, ↓yaf, ↓yag, ↓yah, ↓yai, ↓ydb, ↓ydc, ↓ydd, ↓yde, ↓ydf, ↓ydg, ↓yao, ↓yap, ↓ydh, ↓ydi, ↓ydj, ↓ydk, ↓ydl, ↓ydm, ↓ydn, ↓ydo, ↓ydp, ↓yax, yay, yaz, yba, ybb, ybc, ybd, ybe, ybf, ybg, ybh, ybi, ybj, ybk, ybl, ybm, ybn, ybo, ybp, ybq, ybr, ybs, ybt, ybu, ybv, ares, tup, ybw, ybx, yby, argsE, dval, aop, ev, evs, evo, evp, fillL, addrOf, intOf?, ybz, yca, ycb, ycc, ycd, yce, ycf, zah, zag, reduceIte, Nat.reduceEqDiff, ycg, ych, yci, ycj, yck, ycl, ycm, ycn, yco, ycp, ycq, ycr, zap, zao, reduceCtorEq, zbb, zbc, zba, zaz, Nat.reduceAdd, Nat.reduceMul, zaq, zar, eqPtr, zae, zaf, zab, zaa, zac, zad, hload, hstore, zal, zam, Nat.reduceAdd, Nat.reduceLeDiff, zbb, zas, zat, one, zau, zaw, zav, splice, zaj, zak, zab, zaa, ycs, yct, ycu, ycv, ycw, ycx, ycy, ycz, zan, zai, zax, zay, and_self, true_and, and_true, lenV, yda, Nat.le_refl, if_true, ydq, ydr, yds, ne_eq, not_true_eq_false, not_false_eq_true, ← decide_not, Decidable.not_not, ydt, ydu, ydz, ydv, ydw, List.drop_zero, eq_self, Bool.false_eq_true, List.getElem?_toArray, yea, yeb, List.nil_append, List.cons_append, Bool.false_and, Int.reduceEq, Int.reduceLT, Int.reduceLE, Int.reduceNe, zbc, zbb, yec, yed, yee, yef, f151e, take12, list12, ite01, *] | refine yeg (fun _ => ?_) (fun _ => ?_) | refine yeh (fun _ => ?_) (fun _ => ?_) | refine yei (fun _ => ?_) (fun _ => ?_) | refine yej (fun _ => ?_) (fun _ => ?_) | refine yek (fun _ => ?_) (fun _ => ?_) | refine yel (fun _ => ?_) (fun _ => ?_)))
theorem f152 (f : Fr) (H : Heap) : AC tbl 152 [f.v] H = some (.bool (decide f.Bcn), H) := AC_iso (F := F152) rfl (by simp [F152]) rfl rfl rfl (f152_0 f) H

/-- Is the first one better? -/
def Fr.better (a b : Fr) : Prop := a.Bcn ∧ b.Bcn ∧ (b.epoch < a.epoch ∨ a.epoch = b.epoch ∧ (a.rank < b.rank ∨ a.rank = b.rank ∧ a.source < b.source))
instance (a b : Fr) : Decidable (a.better b) := by unfold Fr.better; infer_instance
theorem f129_0 (x y : Fr) : AC tbl 129 [x.v, y.v] [] = some (.bool (decide (x.better y)), []) := by
  apply AC_eq
  apply AC_wp (F := F129) rfl (by simp [F129]) (.inr rfl)
  have hx := f149 x
  have hy := f149 y
  unfold F129
  by_cases bx : x.Bcn
  · by_cases bY : y.Bcn
    · have e : x.better y = (y.epoch < x.epoch ∨ x.epoch = y.epoch ∧ (x.rank < y.rank ∨ x.rank = y.rank ∧ x.source < y.source)) := by unfold Fr.better; simp [bx, bY]
      simp only [bx, bY, zbb] at hx hy
      simp only [e]
      clear bx bY e
      unfold Fr.v at *
      (repeat' (first | simp only [↓yaa, ↓yab, ↓yac, ↓yad, ↓yae, ↓yaf, ↓yag, ↓yah, ↓yai, ↓ydb, ↓ydc, ↓ydd, ↓yde, ↓ydf, ↓ydg, ↓yao, ↓yap, ↓ydh, ↓ydi, ↓ydj, ↓ydk, ↓ydl, ↓ydm, ↓ydn, ↓ydo, ↓ydp, ↓yax, yay, yaz, yba, ybb, ybc, ybd, ybe, ybf, ybg, ybh, ybi, ybj, ybk, ybl, ybm, ybn, ybo, ybp, ybq, ybr, ybs, ybt, ybu, ybv, ares, tup, ybw, ybx, yby, argsE, dval, aop, ev, evs, evo, evp, fillL, addrOf, intOf?, ybz, yca, ycb, ycc, ycd, yce, ycf, zah, zag, reduceIte, Nat.reduceEqDiff, ycg, ych, yci, ycj, yck, ycl, ycm, ycn, yco, ycp, ycq, ycr, zap, zao, reduceCtorEq, zbb, zbc, zba, zaz, Nat.reduceAdd, Nat.reduceMul, zaq, zar, eqPtr, zae, zaf, zab, zaa, zac, zad, hload, hstore, zal, zam, Nat.reduceAdd, Nat.reduceLeDiff, zbb, zas, zat, one, zau, zaw, zav, splice, zaj, zak, zab, zaa, ycs, yct, ycu, ycv, ycw, ycx, ycy, ycz, zan, zai, zax, zay, and_self, true_and, and_true, lenV, yda, Nat.le_refl, if_true, ydq, ydr, yds, ne_eq, not_true_eq_false, not_false_eq_true, ← decide_not, Decidable.not_not, ydt, ydu, ydz, ydv, ydw, List.drop_zero, eq_self, Bool.false_eq_true, List.getElem?_toArray, yea, yeb, List.nil_append, List.cons_append, Bool.false_and, Int.reduceEq, Int.reduceLT, Int.reduceLE, Int.reduceNe, zbc, zbb, yec, yed, yee, yef, take12, list12, *] | refine yeg (fun _ => ?_) (fun _ => ?_) | refine yeh (fun _ => ?_) (fun _ => ?_) | refine yei (fun _ => ?_) (fun _ => ?_) | refine yej (fun _ => ?_) (fun _ => ?_) | refine yek (fun _ => ?_) (fun _ => ?_) | refine yel (fun _ => ?_) (fun _ => ?_)))
      all_goals ((try simp only [true_and, and_true, false_and, and_false, or_true, true_or, false_or, or_false, not_true_eq_false, not_false_eq_true, and_self, or_self]) <;> first | rfl | (exact vb_t (by omega)) | (exact vb_f (by omega)) | (exact vb_iff (by omega)) | (exfalso; omega))
    · have e : x.better y = False := by unfold Fr.better; simp [bY]
      simp only [bx, bY, zbb, zbc] at hx hy
      simp only [e]
      clear bx bY e
      unfold Fr.v at *
      (repeat' (first | simp only [↓yaa, ↓yab, ↓yac, ↓yad, ↓yae, ↓yaf, ↓yag, ↓yah, ↓yai, ↓ydb, ↓ydc, ↓ydd, ↓yde, ↓ydf, ↓ydg, ↓yao, ↓yap, ↓ydh, ↓ydi, ↓ydj, ↓ydk, ↓ydl, ↓ydm, ↓ydn, ↓ydo, ↓ydp, ↓yax, yay, yaz, yba, ybb, ybc, ybd, ybe, ybf, ybg, ybh, ybi, ybj, ybk, ybl, ybm, ybn, ybo, ybp, ybq, ybr, ybs, ybt, ybu, ybv, ares, tup, ybw, ybx, yby, argsE, dval, aop, ev, evs, evo, evp, fillL, addrOf, intOf?, ybz, yca, ycb, ycc, ycd, yce, ycf, zah, zag, reduceIte, Nat.reduceEqDiff, ycg, ych, yci, ycj, yck, ycl, ycm, ycn, yco, ycp, ycq, ycr, zap, zao, reduceCtorEq, zbb, zbc, zba, zaz, Nat.reduceAdd, Nat.reduceMul, zaq, zar, eqPtr, zae, zaf, zab, zaa, zac, zad, hload, hstore, zal, zam, Nat.reduceAdd, Nat.reduceLeDiff, zbb, zas, zat, one, zau, zaw, zav, splice, zaj, zak, zab, zaa, ycs, yct, ycu, ycv, ycw, ycx, ycy, ycz, zan, zai, zax, zay, and_self, true_and, and_true, lenV, yda, Nat.le_refl, if_true, ydq, ydr, yds, ne_eq, not_true_eq_false, not_false_eq_true, ← decide_not, Decidable.not_not, ydt, ydu, ydz, ydv, ydw, List.drop_zero, eq_self, Bool.false_eq_true, List.getElem?_toArray, yea, yeb, List.nil_append, List.cons_append, Bool.false_and, Int.reduceEq, Int.reduceLT, Int.reduceLE, Int.reduceNe, zbc, zbb, yec, yed, yee, yef, take12, list12, *] | refine yeg (fun _ => ?_) (fun _ => ?_) | refine yeh (fun _ => ?_) (fun _ => ?_) | refine yei (fun _ => ?_) (fun _ => ?_) | refine yej (fun _ => ?_) (fun _ => ?_) | refine yek (fun _ => ?_) (fun _ => ?_) | refine yel (fun _ => ?_) (fun _ => ?_)))
  · have e : x.better y = False := by unfold Fr.better; simp [bx]
    simp only [bx, zbc] at hx
    simp only [e]
    clear bx e
    unfold Fr.v at *
    (repeat' (first | simp only [↓yaa, ↓yab, ↓yac, ↓yad, ↓yae, ↓yaf, ↓yag, ↓yah, ↓yai, ↓ydb, ↓ydc, ↓ydd, ↓yde, ↓ydf, ↓ydg, ↓yao, ↓yap, ↓ydh, ↓ydi, ↓ydj, ↓ydk, ↓ydl, ↓ydm, ↓ydn, ↓ydo, ↓ydp, ↓yax, yay, yaz, yba, ybb, ybc, ybd, ybe, ybf, ybg, ybh, ybi, ybj, ybk, ybl, ybm, ybn, ybo, ybp, ybq, ybr, ybs, ybt, ybu, ybv, ares, tup, ybw, ybx, yby, argsE, dval, aop, ev, evs, evo, evp, fillL, addrOf, intOf?, ybz, yca, ycb, ycc, ycd, yce, ycf, zah, zag, reduceIte, Nat.reduceEqDiff, ycg, ych, yci, ycj, yck, ycl, ycm, ycn, yco, ycp, ycq, ycr, zap, zao, reduceCtorEq, zbb, zbc, zba, zaz, Nat.reduceAdd, Nat.reduceMul, zaq, zar, eqPtr, zae, zaf, zab, zaa, zac, zad, hload, hstore, zal, zam, Nat.reduceAdd, Nat.reduceLeDiff, zbb, zas, zat, one, zau, zaw, zav, splice, zaj, zak, zab, zaa, ycs, yct, ycu, ycv, ycw, ycx, ycy, ycz, zan, zai, zax, zay, and_self, true_and, and_true, lenV, yda, Nat.le_refl, if_true, ydq, ydr, yds, ne_eq, not_true_eq_false, not_false_eq_true, ← decide_not, Decidable.not_not, ydt, ydu, ydz, ydv, ydw, List.drop_zero, eq_self, Bool.false_eq_true, List.getElem?_toArray, yea, yeb, List.nil_append, List.cons_append, Bool.false_and, Int.reduceEq, Int.reduceLT, Int.reduceLE, Int.reduceNe, zbc, zbb, yec, yed, yee, yef, take12, list12, *] | refine yeg (fun _ => ?_) (fun _ => ?_) | refine yeh (fun _ => ?_) (fun _ => ?_) | refine yei (fun _ => ?_) (fun _ => ?_) | refine yej (fun _ => ?_) (fun _ => ?_) | refine yek (fun _ => ?_) (fun _ => ?_) | refine yel (fun _ => ?_) (fun _ => ?_)))
theorem f129 (x y : Fr) (H : Heap) : AC tbl 129 [x.v, y.v] H = some (.bool (decide (x.better y)), H) := AC_iso (F := F129) rfl (by simp [F129]) rfl rfl rfl (f129_0 x y) H
theorem f133_0 (x y : Fr) : AC tbl 133 [x.v, y.v] [] = some (.bool (decide (x.better y)), []) := by
  apply AC_eq
  apply AC_wp (F := F133) rfl (by simp [F133]) (.inr rfl)
  have hx := f152 x
  have hy := f152 y
  unfold F133
  by_cases bx : x.Bcn
  · by_cases bY : y.Bcn
    · have e : x.better y = (y.epoch < x.epoch ∨ x.epoch = y.epoch ∧ (x.rank < y.rank ∨ x.rank = y.rank ∧ x.source < y.source)) := by unfold Fr.better; simp [bx, bY]
      simp only [bx, bY, zbb] at hx hy
      simp only [e]
      clear bx bY e
      unfold Fr.v at *
      (repeat' (first | simp only [↓yaa, ↓yab, ↓yac, ↓yad, ↓yae, ↓yaf, ↓yag, ↓yah, ↓yai, ↓ydb, ↓ydc, ↓ydd, ↓yde, ↓ydf, ↓ydg, ↓yao, ↓yap, ↓ydh, ↓ydi, ↓ydj, ↓ydk, ↓ydl, ↓ydm, ↓ydn, ↓ydo, ↓ydp, ↓yax, yay, yaz, yba, ybb, ybc, ybd, ybe, ybf, ybg, ybh, ybi, ybj, ybk, ybl, ybm, ybn, ybo, ybp, ybq, ybr, ybs, ybt, ybu, ybv, ares, tup, ybw, ybx, yby, argsE, dval, aop, ev, evs, evo, evp, fillL, addrOf, intOf?, ybz, yca, ycb, ycc, ycd, yce, ycf, zah, zag, reduceIte, Nat.reduceEqDiff, ycg, ych, yci, ycj, yck, ycl, ycm, ycn, yco, ycp, ycq, ycr, zap, zao, reduceCtorEq, zbb, zbc, zba, zaz, Nat.reduceAdd, Nat.reduceMul, zaq, zar, eqPtr, zae, zaf, zab, zaa, zac, zad, hload, hstore, zal, zam, Nat.reduceAdd, Nat.reduceLeDiff, zbb, zas, zat, one, zau, zaw, zav, splice, zaj, zak, zab, zaa, ycs, yct, ycu, ycv, ycw, ycx, ycy, ycz, zan, zai, zax, zay, and_self, true_and, and_true, lenV, yda, Nat.le_refl, if_true, ydq, ydr, yds, ne_eq, not_true_eq_false, not_false_eq_true, ← decide_not, Decidable.not_not, ydt, ydu, ydz, ydv, ydw, List.drop_zero, eq_self, Bool.false_eq_true, List.getElem?_toArray, yea, yeb, List.nil_append, List.cons_append, Bool.false_and, Int.reduceEq, Int.reduceLT, Int.reduceLE, Int.reduceNe, zbc, zbb, yec, yed, yee, yef, take12, list12, *] | refine yeg (fun _ => ?_) (fun _ => ?_) | refine yeh (fun _ => ?_) (fun _ => ?_) | refine yei (fun _ => ?_) (fun _ => ?_) | refine yej (fun _ => ?_) (fun _ => ?_) | refine yek (fun _ => ?_) (fun _ => ?_) | refine yel (fun _ => ?_) (fun _ => ?_)))
      all_goals ((try simp only [true_and, and_true, false_and, and_false, or_true, true_or, false_or, or_false, not_true_eq_false, not_false_eq_true, and_self, or_self]) <;> first | rfl | (exact vb_t (by omega)) | (exact vb_f (by omega)) | (exact vb_iff (by omega)) | (exfalso; omega))
    · have e : x.better y = False := by unfold Fr.better; simp [bY]
      simp only [bx, bY, zbb, zbc] at hx hy
      simp only [e]
      clear bx bY e
      unfold Fr.v at *
      (repeat' (first | simp only [↓yaa, ↓yab, ↓yac, ↓yad, ↓yae, ↓yaf, ↓yag, ↓yah, ↓yai, ↓ydb, ↓ydc, ↓ydd, ↓yde, ↓ydf, ↓ydg, ↓yao, ↓yap, ↓ydh, ↓ydi, ↓ydj, ↓ydk, ↓ydl, ↓ydm, ↓ydn, ↓ydo, ↓ydp, ↓yax, yay, yaz, yba, ybb, ybc, ybd, ybe, ybf, ybg, ybh, ybi, ybj, ybk, ybl, ybm, ybn, ybo, ybp, ybq, ybr, ybs, ybt, ybu, ybv, ares, tup, ybw, ybx, yby, argsE, dval, aop, ev, evs, evo, evp, fillL, addrOf, intOf?, ybz, yca, ycb, ycc, ycd, yce, ycf, zah, zag, reduceIte, Nat.reduceEqDiff, ycg, ych, yci, ycj, yck, ycl, ycm, ycn, yco, ycp, ycq, ycr, zap, zao, reduceCtorEq, zbb, zbc, zba, zaz, Nat.reduceAdd, Nat.reduceMul, zaq, zar, eqPtr, zae, zaf, zab, zaa, zac, zad, hload, hstore, zal, zam, Nat.reduceAdd, Nat.reduceLeDiff, zbb, zas, zat, one, zau, zaw, zav, splice, zaj, zak, zab, zaa, ycs, yct, ycu, ycv, ycw, ycx, ycy, ycz, zan, zai, zax, zay, and_self, true_and, and_true, lenV, yda, Nat.le_refl, if_true, ydq, ydr, yds, ne_eq, not_true_eq_false, not_false_eq_true, ← decide_not, Decidable.not_not, ydt, ydu, ydz, ydv, ydw, List.drop_zero, eq_self, Bool.false_eq_true, List.getElem?_toArray, yea, yeb, List.nil_append, List.cons_append, Bool.false_and, Int.reduceEq, Int.reduceLT, Int.reduceLE, Int.reduceNe, zbc, zbb, yec, yed, yee, yef, take12, list12, *] | refine yeg (fun _ => ?_) (fun _ => ?_) | refine yeh (fun _ => ?_) (fun _ => ?_) | refine yei (fun _ => ?_) (fun _ => ?_) | refine yej (fun _ => ?_) (fun _ => ?_) | refine yek (fun _ => ?_) (fun _ => ?_) | refine yel (fun _ => ?_) (fun _ => ?_)))
  · have e : x.better y = False := by unfold Fr.better; simp [bx]
    simp only [bx, zbc] at hx
    simp only [e]
    clear bx e
    unfold Fr.v at *
    (repeat' (first | simp only [↓yaa, ↓yab, ↓yac, ↓yad, ↓yae, ↓yaf, ↓yag, ↓yah, ↓yai, ↓ydb, ↓ydc, ↓ydd, ↓yde, ↓ydf, ↓ydg, ↓yao, ↓yap, ↓ydh, ↓ydi, ↓ydj, ↓ydk, ↓ydl, ↓ydm, ↓ydn, ↓ydo, ↓ydp, ↓yax, yay, yaz, yba, ybb, ybc, ybd, ybe, ybf, ybg, ybh, ybi, ybj, ybk, ybl, ybm, ybn, ybo, ybp, ybq, ybr, ybs, ybt, ybu, ybv, ares, tup, ybw, ybx, yby, argsE, dval, aop, ev, evs, evo, evp, fillL, addrOf, intOf?, ybz, yca, ycb, ycc, ycd, yce, ycf, zah, zag, reduceIte, Nat.reduceEqDiff, ycg, ych, yci, ycj, yck, ycl, ycm, ycn, yco, ycp, ycq, ycr, zap, zao, reduceCtorEq, zbb, zbc, zba, zaz, Nat.reduceAdd, Nat.reduceMul, zaq, zar, eqPtr, zae, zaf, zab, zaa, zac, zad, hload, hstore, zal, zam, Nat.reduceAdd, Nat.reduceLeDiff, zbb, zas, zat, one, zau, zaw, zav, splice, zaj, zak, zab, zaa, ycs, yct, ycu, ycv, ycw, ycx, ycy, ycz, zan, zai, zax, zay, and_self, true_and, and_true, lenV, yda, Nat.le_refl, if_true, ydq, ydr, yds, ne_eq, not_true_eq_false, not_false_eq_true, ← decide_not, Decidable.not_not, ydt, ydu, ydz, ydv, ydw, List.drop_zero, eq_self, Bool.false_eq_true, List.getElem?_toArray, yea, yeb, List.nil_append, List.cons_append, Bool.false_and, Int.reduceEq, Int.reduceLT, Int.reduceLE, Int.reduceNe, zbc, zbb, yec, yed, yee, yef, take12, list12, *] | refine yeg (fun _ => ?_) (fun _ => ?_) | refine yeh (fun _ => ?_) (fun _ => ?_) | refine yei (fun _ => ?_) (fun _ => ?_) | refine yej (fun _ => ?_) (fun _ => ?_) | refine yek (fun _ => ?_) (fun _ => ?_) | refine yel (fun _ => ?_) (fun _ => ?_)))
theorem f133 (x y : Fr) (H : Heap) : AC tbl 133 [x.v, y.v] H = some (.bool (decide (x.better y)), H) := AC_iso (F := F133) rfl (by simp [F133]) rfl rfl rfl (f133_0 x y) H

end Go.Proofs.Ytejcabdejoameaa.AI

/- The arguments of the laws over offers, frames and tables. -/
set_option linter.unusedSimpArgs false
namespace Go.Proofs.Ytejcabdejoameaa.AI
open Go Go.ChangeShapes Go.WideShapes Go.ChangeAt Go.RowKit

abbrev LI : Leaf := .int .i64
structure Fr.I64 (f : Fr) : Prop where
  kind : Is64 f.kind
  source : Is64 f.source
  target : Is64 f.target
  list : Is64 f.list
  seq : Is64 f.seq
  flow : Is64 f.flow
  number : Is64 f.number
  error : Is64 f.error
  slot : Is64 f.slot
  rank : Is64 f.rank
  epoch : Is64 f.epoch
def frLeaves : List Leaf := [LI, LI, LI, LI, LI, LI, LI, LI, LI, LI, LI, .str]
theorem fr_open {W : World} {cs : List Value} (hl : cs.length = frLeaves.length) (h : ∀ (i : Nat) (l : Leaf) (c : Value), frLeaves[i]? = some l → cs[i]? = some c → isL W l c) : ∃ f : Fr, cs = f.cells ∧ f.I64 := by
  match cs, hl with
  | [c0, c1, c2, c3, c4, c5, c6, c7, c8, c9, c10, c11], _ =>
    obtain ⟨n0, rfl, w0⟩ := h 0 LI c0 rfl rfl
    obtain ⟨n1, rfl, w1⟩ := h 1 LI c1 rfl rfl
    obtain ⟨n2, rfl, w2⟩ := h 2 LI c2 rfl rfl
    obtain ⟨n3, rfl, w3⟩ := h 3 LI c3 rfl rfl
    obtain ⟨n4, rfl, w4⟩ := h 4 LI c4 rfl rfl
    obtain ⟨n5, rfl, w5⟩ := h 5 LI c5 rfl rfl
    obtain ⟨n6, rfl, w6⟩ := h 6 LI c6 rfl rfl
    obtain ⟨n7, rfl, w7⟩ := h 7 LI c7 rfl rfl
    obtain ⟨n8, rfl, w8⟩ := h 8 LI c8 rfl rfl
    obtain ⟨n9, rfl, w9⟩ := h 9 LI c9 rfl rfl
    obtain ⟨n10, rfl, w10⟩ := h 10 LI c10 rfl rfl
    obtain ⟨s, rfl, _⟩ := h 11 .str c11 rfl rfl
    exact ⟨⟨n0, n1, n2, n3, n4, n5, n6, n7, n8, n9, n10, s⟩, rfl, ⟨i64_wf w0, i64_wf w1, i64_wf w2, i64_wf w3, i64_wf w4, i64_wf w5, i64_wf w6, i64_wf w7, i64_wf w8, i64_wf w9, i64_wf w10⟩⟩

def offLeaves : List Leaf := [LI, .bool, .str, LI, LI, LI, .sl [LI]]
theorem off_open {W : World} {cs : List Value} (hl : cs.length = offLeaves.length) (h : ∀ (i : Nat) (l : Leaf) (c : Value), offLeaves[i]? = some l → cs[i]? = some c → isL W l c) :
    ∃ (root : Int) (opn : Bool) (run : ByteArray) (ver first til : Int) (c : Value), cs = [.int .i64 root, .bool opn, .string run, .int .i64 ver, .int .i64 first, .int .i64 til, c] ∧ isL W (.sl [LI]) c ∧ Is64 root ∧ Is64 ver ∧ Is64 first ∧ Is64 til := by
  match cs, hl with
  | [c0, c1, c2, c3, c4, c5, c6], _ =>
    obtain ⟨n0, rfl, w0⟩ := h 0 LI c0 rfl rfl
    obtain ⟨b, rfl⟩ := h 1 .bool c1 rfl rfl
    obtain ⟨s, rfl, _⟩ := h 2 .str c2 rfl rfl
    obtain ⟨n3, rfl, w3⟩ := h 3 LI c3 rfl rfl
    obtain ⟨n4, rfl, w4⟩ := h 4 LI c4 rfl rfl
    obtain ⟨n5, rfl, w5⟩ := h 5 LI c5 rfl rfl
    exact ⟨n0, b, s, n3, n4, n5, c6, rfl, h 6 (.sl [LI]) c6 rfl rfl, i64_wf w0, i64_wf w3, i64_wf w4, i64_wf w5⟩

/-- A nil slice has nothing. -/
def NilOk (a : Option Addr) (z n : Nat) : Prop := a = none → z = 0 ∧ n = 0
theorem ints_slice {H : Heap} {rows : List (List Value)} {av : Value} {blk : Option Blk} (h : AbsSlice H.length [LI] rows av blk) (hr : ∀ r ∈ rows, RowOf [LI] r) :
    ∃ (l : List Int) (a : Option Addr) (z : Nat), av = .slice a l.length z ∧ SI (H ++ [blk]) a z l ∧ (∀ x ∈ l, Is64 x) ∧ NilOk a z l.length := by
  obtain ⟨l, rfl, hl⟩ := rows_list (cells := fun x : Int => [Value.int .i64 x]) (ok := Is64) (fun r hm => by
    obtain ⟨h1, h2⟩ := hr r hm
    match r, h1 with
    | [c], _ =>
      obtain ⟨n, rfl, w⟩ := h2 0 LI c rfl rfl
      exact ⟨n, rfl, i64_wf w⟩)
  rcases h with ⟨rfl, h0⟩ | ⟨rfl, h0⟩
  · have : l = [] := by simpa using h0
    subst this
    exact ⟨[], none, 0, rfl, SI.nil, hl, fun _ => ⟨rfl, rfl⟩⟩
  · refine ⟨l, some ⟨H.length, 0, none⟩, 1, by simp, ?_, hl, fun h => by simp at h⟩
    rcases h0 with h0 | h0
    · have : l = [] := by simpa using h0
      subst this; exact SI.nil
    · subst h0
      intro i x hx
      refine ⟨H.length, 0, false, _, rfl, rfl, hget_push, ?_⟩
      have : ∀ (m : List Int), (m.map fun x : Int => [Value.int .i64 x]).flatten = m.map fun x => .int .i64 x := by
        intro m; induction m with
        | nil => rfl
        | cons a m ih => simp [ih]
      rw [this, zaz, List.getElem?_map, hx]; rfl

/-- An offer among the arguments. -/
theorem off_arg {W : World} {B : Map} {H : Heap} {cs : List Value} (hl : cs.length = offLeaves.length) (h : ∀ (i : Nat) (l : Leaf) (c : Value), offLeaves[i]? = some l → cs[i]? = some c → isL W l c)
    (hr : HR sig W.heap.size B H W) (hro : ∀ i b, hget H i = some b → b.rw = false) :
    ∃ (o : Off) (a : Option Addr) (z : Nat) (B' : Map) (blk : Option Blk), VR sig B' (o.v a z) (.agg cs.toArray) ∧ Ext B B' ∧ HR sig W.heap.size B' (H ++ [blk]) W ∧ (∀ i b, hget (H ++ [blk]) i = some b → b.rw = false) ∧ SI (H ++ [blk]) a z o.next.ch ∧ o.Ok64 ∧ NilOk a z o.next.ch.length := by
  obtain ⟨root, opn, run, ver, first, til, c, rfl, hc, w0, w1, w2, w3⟩ := off_open hl h
  obtain ⟨av, B', blk, rows, h1, h2, h3, h4, h5, h6⟩ := add_slice hc (by decide) hr hro
  obtain ⟨l, a, z, rfl, h7, h8, h9⟩ := ints_slice h5 h6
  refine ⟨⟨root, opn, run, ⟨ver, first, til, l⟩⟩, a, z, B', blk, ?_, h2, h3, h4, h7, ⟨w0, w1, w2, w3, h8⟩, h9⟩
  exact VR.agg' (.cons (.atom _ rfl) (.cons (.atom _ rfl) (.cons (.atom _ rfl) (.cons (.atom _ rfl) (.cons (.atom _ rfl) (.cons (.atom _ rfl) (.cons h1 .nil)))))))
theorem fr_vr {B : Map} (f : Fr) : VR sig B f.v (.agg f.cells.toArray) :=
  VR.agg' (.cons (.atom _ rfl) (.cons (.atom _ rfl) (.cons (.atom _ rfl) (.cons (.atom _ rfl) (.cons (.atom _ rfl) (.cons (.atom _ rfl) (.cons (.atom _ rfl) (.cons (.atom _ rfl) (.cons (.atom _ rfl) (.cons (.atom _ rfl) (.cons (.atom _ rfl) (.cons (.atom _ rfl) .nil))))))))))))

/-- Nothing yet. -/
theorem HR0 (W : World) : HR sig W.heap.size (fun _ => none) [] W := HR.nothing (w := W) (Nat.le_refl _)
theorem ro0 : ∀ (i : Nat) (b : Blk), hget [] i = some b → b.rw = false := fun i b hi => by simp [hget] at hi

/-- The offer is read once more. -/
theorem Same1_off {H : Heap} {a : Option Addr} {z n : Nat} {r v f t : Int} {o : Bool} {s : ByteArray} (h : NilOk a z n) :
    Same1 (.agg #[.int .i64 r, .bool o, .string s, .int .i64 v, .int .i64 f, .int .i64 t, .slice a n z]) (some (.agg #[.int .i64 r, .bool o, .string s, .int .i64 v, .int .i64 f, .int .i64 t, .slice a n z], H)) = True := by
  cases a with
  | none =>
    obtain ⟨rfl, rfl⟩ := h rfl
    simp [Same1, sameV, sameV.sameL]
  | some a => simp [Same1, sameV, sameV.sameL]
theorem Same1_fr {H : Heap} {a b c d e f g h i j k : Int} {s : ByteArray} :
    Same1 (.agg #[.int .i64 a, .int .i64 b, .int .i64 c, .int .i64 d, .int .i64 e, .int .i64 f, .int .i64 g, .int .i64 h, .int .i64 i, .int .i64 j, .int .i64 k, .string s]) (some (.agg #[.int .i64 a, .int .i64 b, .int .i64 c, .int .i64 d, .int .i64 e, .int .i64 f, .int .i64 g, .int .i64 h, .int .i64 i, .int .i64 j, .int .i64 k, .string s], H)) = True := by
  simp [Same1, sameV, sameV.sameL]

end Go.Proofs.Ytejcabdejoameaa.AI

/- BeaconOffers in the interpreter. -/
set_option linter.unusedSimpArgs false
set_option maxHeartbeats 4000000
namespace Go.Proofs.Ytejcabdejoameaa.AI
open Go

theorem offers {H : Heap} {a : Option Addr} {z : Nat} {o : Off} (h : SI H a z o.next.ch) (hok : o.Ok64) (hn : NilOk a z o.next.ch.length) : Op1 (AC tbl 101 [o.v a z] H) fun r _ => r = .bool true := by
  apply AC_wp (F := F101) rfl (by simp [F101]) (.inl rfl)
  have hov : o.v a z = .agg #[.int .i64 o.root, .bool o.opn, .string o.run, .int .i64 o.next.ver, .int .i64 o.next.first, .int .i64 o.next.til, .slice a o.next.ch.length z] := rfl
  have hg : hget (H ++ [some ⟨true, [.int .i64 o.root, .bool o.opn, .string o.run, .int .i64 o.next.ver, .int .i64 o.next.first, .int .i64 o.next.til, .slice a o.next.ch.length z]⟩]) H.length = some ⟨true, [.int .i64 o.root, .bool o.opn, .string o.run, .int .i64 o.next.ver, .int .i64 o.next.first, .int .i64 o.next.til, .slice a o.next.ch.length z]⟩ := ydu
  have hi := h.push (some ⟨true, [.int .i64 o.root, .bool o.opn, .string o.run, .int .i64 o.next.ver, .int .i64 o.next.first, .int .i64 o.next.til, .slice a o.next.ch.length z]⟩)
  have hfew := fun G => @f110 G a z o
  rw [hov] at hfew ⊢
  simp only [F101, ↓yaa, ↓yab, ↓yac, ↓yad, ↓yae, ↓yaf, ↓yag, ↓yah, ↓yai, ↓ydb, ↓ydc, ↓ydd, ↓yde, ↓ydf, ↓ydg, ↓yao, ↓yap, ↓ydh, ↓ydi, ↓ydj, ↓ydk, ↓ydl, ↓ydm, ↓ydn, ↓ydo, ↓ydp, ↓yax, yay, yaz, yba, ybb, ybc, ybd, ybe, ybf, ybg, ybh, ybi, ybj, ybk, ybl, ybm, ybn, ybo, ybp, ybq, ybr, ybs, ybt, ybu, ybv, ares, tup, ybw, ybx, yby, argsE, dval, aop, ev, evs, evo, evp, fillL, addrOf, intOf?, ybz, yca, ycb, ycc, ycd, yce, ycf, zah, zag, reduceIte, Nat.reduceEqDiff, ycg, ych, yci, ycj, yck, ycl, ycm, ycn, yco, ycp, ycq, ycr, zap, zao, reduceCtorEq, zbb, zbc, zba, zaz, Nat.reduceAdd, Nat.reduceMul, zaq, zar, eqPtr, zae, zaf, zab, zaa, zac, zad, hload, hstore, zal, zam, Nat.reduceAdd, Nat.reduceLeDiff, zbb, zas, zat, one, zau, zaw, zav, splice, zaj, zak, zab, zaa, ycs, yct, ycu, ycv, ycw, ycx, ycy, ycz, zan, zai, zax, zay, and_self, true_and, and_true, lenV, yda, Nat.le_refl, if_true, ydq, ydr, yds, ne_eq, not_true_eq_false, not_false_eq_true, ← decide_not, Decidable.not_not, ydt, ydu, ydz, ydv, ydw, List.drop_zero, eq_self, Bool.false_eq_true, List.getElem?_toArray, yea, yeb, List.nil_append, List.cons_append, Bool.false_and, Int.reduceEq, Int.reduceLT, Int.reduceLE, Int.reduceNe, zbc, zbb, yec, yed, yee, yef, ydx, ydy, take7, list7, awake_any, hfew]
  generalize H ++ [some (⟨true, [.int .i64 o.root, .bool o.opn, .string o.run, .int .i64 o.next.ver, .int .i64 o.next.first, .int .i64 o.next.til, .slice a o.next.ch.length z]⟩ : Blk)] = G at *
  by_cases hF : o.Few
  · have hl : o.next.ch.length < 1000000000 := by have := hF.2; omega
    have hf0 : ∀ b, Frm [] G (G ++ [b]) := fun b => (Frm.refl _ _).push b
    have q := (hf0 (some ⟨true, [.int .i64 o.root, .bool o.opn, .string o.run, .int .i64 o.next.ver, .int .i64 o.next.first, .int .i64 o.next.til, .slice a o.next.ch.length z]⟩)).gets hg
    simp only [↓yaa, ↓yab, ↓yac, ↓yad, ↓yae, ↓yaf, ↓yag, ↓yah, ↓yai, ↓ydb, ↓ydc, ↓ydd, ↓yde, ↓ydf, ↓ydg, ↓yao, ↓yap, ↓ydh, ↓ydi, ↓ydj, ↓ydk, ↓ydl, ↓ydm, ↓ydn, ↓ydo, ↓ydp, ↓yax, yay, yaz, yba, ybb, ybc, ybd, ybe, ybf, ybg, ybh, ybi, ybj, ybk, ybl, ybm, ybn, ybo, ybp, ybq, ybr, ybs, ybt, ybu, ybv, ares, tup, ybw, ybx, yby, argsE, dval, aop, ev, evs, evo, evp, fillL, addrOf, intOf?, ybz, yca, ycb, ycc, ycd, yce, ycf, zah, zag, reduceIte, Nat.reduceEqDiff, ycg, ych, yci, ycj, yck, ycl, ycm, ycn, yco, ycp, ycq, ycr, zap, zao, reduceCtorEq, zbb, zbc, zba, zaz, Nat.reduceAdd, Nat.reduceMul, zaq, zar, eqPtr, zae, zaf, zab, zaa, zac, zad, hload, hstore, zal, zam, Nat.reduceAdd, Nat.reduceLeDiff, zbb, zas, zat, one, zau, zaw, zav, splice, zaj, zak, zab, zaa, ycs, yct, ycu, ycv, ycw, ycx, ycy, ycz, zan, zai, zax, zay, and_self, true_and, and_true, lenV, yda, Nat.le_refl, if_true, ydq, ydr, yds, ne_eq, not_true_eq_false, not_false_eq_true, ← decide_not, Decidable.not_not, ydt, ydu, ydz, ydv, ydw, List.drop_zero, eq_self, Bool.false_eq_true, List.getElem?_toArray, yea, yeb, List.nil_append, List.cons_append, Bool.false_and, Int.reduceEq, Int.reduceLT, Int.reduceLE, Int.reduceNe, zbc, zbb, yec, yed, yee, yef, ydx, ydy, hF, q, take7, list7]
    rw [← hov]
    refine f111 (hi.push _) hl hok fun H1 hf1 => ?_
    have f1 := (hf0 _).then hf1
    have q := f1.gets hg
    simp only [↓yaa, ↓yab, ↓yac, ↓yad, ↓yae, ↓yaf, ↓yag, ↓yah, ↓yai, ↓ydb, ↓ydc, ↓ydd, ↓yde, ↓ydf, ↓ydg, ↓yao, ↓yap, ↓ydh, ↓ydi, ↓ydj, ↓ydk, ↓ydl, ↓ydm, ↓ydn, ↓ydo, ↓ydp, ↓yax, yay, yaz, yba, ybb, ybc, ybd, ybe, ybf, ybg, ybh, ybi, ybj, ybk, ybl, ybm, ybn, ybo, ybp, ybq, ybr, ybs, ybt, ybu, ybv, ares, tup, ybw, ybx, yby, argsE, dval, aop, ev, evs, evo, evp, fillL, addrOf, intOf?, ybz, yca, ycb, ycc, ycd, yce, ycf, zah, zag, reduceIte, Nat.reduceEqDiff, ycg, ych, yci, ycj, yck, ycl, ycm, ycn, yco, ycp, ycq, ycr, zap, zao, reduceCtorEq, zbb, zbc, zba, zaz, Nat.reduceAdd, Nat.reduceMul, zaq, zar, eqPtr, zae, zaf, zab, zaa, zac, zad, hload, hstore, zal, zam, Nat.reduceAdd, Nat.reduceLeDiff, zbb, zas, zat, one, zau, zaw, zav, splice, zaj, zak, zab, zaa, ycs, yct, ycu, ycv, ycw, ycx, ycy, ycz, zan, zai, zax, zay, and_self, true_and, and_true, lenV, yda, Nat.le_refl, if_true, ydq, ydr, yds, ne_eq, not_true_eq_false, not_false_eq_true, ← decide_not, Decidable.not_not, ydt, ydu, ydz, ydv, ydw, List.drop_zero, eq_self, Bool.false_eq_true, List.getElem?_toArray, yea, yeb, List.nil_append, List.cons_append, Bool.false_and, Int.reduceEq, Int.reduceLT, Int.reduceLE, Int.reduceNe, zbc, zbb, yec, yed, yee, yef, ydx, ydy, q, take7, list7]
    rw [← hov]
    refine f112 (hi.frame0 f1) hl hok fun H2 hf2 => ?_
    have f2 := f1.then hf2
    have q2 := f2.gets hg
    simp only [↓yaa, ↓yab, ↓yac, ↓yad, ↓yae, ↓yaf, ↓yag, ↓yah, ↓yai, ↓ydb, ↓ydc, ↓ydd, ↓yde, ↓ydf, ↓ydg, ↓yao, ↓yap, ↓ydh, ↓ydi, ↓ydj, ↓ydk, ↓ydl, ↓ydm, ↓ydn, ↓ydo, ↓ydp, ↓yax, yay, yaz, yba, ybb, ybc, ybd, ybe, ybf, ybg, ybh, ybi, ybj, ybk, ybl, ybm, ybn, ybo, ybp, ybq, ybr, ybs, ybt, ybu, ybv, ares, tup, ybw, ybx, yby, argsE, dval, aop, ev, evs, evo, evp, fillL, addrOf, intOf?, ybz, yca, ycb, ycc, ycd, yce, ycf, zah, zag, reduceIte, Nat.reduceEqDiff, ycg, ych, yci, ycj, yck, ycl, ycm, ycn, yco, ycp, ycq, ycr, zap, zao, reduceCtorEq, zbb, zbc, zba, zaz, Nat.reduceAdd, Nat.reduceMul, zaq, zar, eqPtr, zae, zaf, zab, zaa, zac, zad, hload, hstore, zal, zam, Nat.reduceAdd, Nat.reduceLeDiff, zbb, zas, zat, one, zau, zaw, zav, splice, zaj, zak, zab, zaa, ycs, yct, ycu, ycv, ycw, ycx, ycy, ycz, zan, zai, zax, zay, and_self, true_and, and_true, lenV, yda, Nat.le_refl, if_true, ydq, ydr, yds, ne_eq, not_true_eq_false, not_false_eq_true, ← decide_not, Decidable.not_not, ydt, ydu, ydz, ydv, ydw, List.drop_zero, eq_self, Bool.false_eq_true, List.getElem?_toArray, yea, yeb, List.nil_append, List.cons_append, Bool.false_and, Int.reduceEq, Int.reduceLT, Int.reduceLE, Int.reduceNe, zbc, zbb, yec, yed, yee, yef, ydx, ydy, q2, take7, list7]
    rw [← hov]
    refine f113 (hi.frame0 f2) hl fun H3 hf3 => ?_
    have f3 := f2.then hf3
    have q3 := f3.gets hg
    simp only [↓yaa, ↓yab, ↓yac, ↓yad, ↓yae, ↓yaf, ↓yag, ↓yah, ↓yai, ↓ydb, ↓ydc, ↓ydd, ↓yde, ↓ydf, ↓ydg, ↓yao, ↓yap, ↓ydh, ↓ydi, ↓ydj, ↓ydk, ↓ydl, ↓ydm, ↓ydn, ↓ydo, ↓ydp, ↓yax, yay, yaz, yba, ybb, ybc, ybd, ybe, ybf, ybg, ybh, ybi, ybj, ybk, ybl, ybm, ybn, ybo, ybp, ybq, ybr, ybs, ybt, ybu, ybv, ares, tup, ybw, ybx, yby, argsE, dval, aop, ev, evs, evo, evp, fillL, addrOf, intOf?, ybz, yca, ycb, ycc, ycd, yce, ycf, zah, zag, reduceIte, Nat.reduceEqDiff, ycg, ych, yci, ycj, yck, ycl, ycm, ycn, yco, ycp, ycq, ycr, zap, zao, reduceCtorEq, zbb, zbc, zba, zaz, Nat.reduceAdd, Nat.reduceMul, zaq, zar, eqPtr, zae, zaf, zab, zaa, zac, zad, hload, hstore, zal, zam, Nat.reduceAdd, Nat.reduceLeDiff, zbb, zas, zat, one, zau, zaw, zav, splice, zaj, zak, zab, zaa, ycs, yct, ycu, ycv, ycw, ycx, ycy, ycz, zan, zai, zax, zay, and_self, true_and, and_true, lenV, yda, Nat.le_refl, if_true, ydq, ydr, yds, ne_eq, not_true_eq_false, not_false_eq_true, ← decide_not, Decidable.not_not, ydt, ydu, ydz, ydv, ydw, List.drop_zero, eq_self, Bool.false_eq_true, List.getElem?_toArray, yea, yeb, List.nil_append, List.cons_append, Bool.false_and, Int.reduceEq, Int.reduceLT, Int.reduceLE, Int.reduceNe, zbc, zbb, yec, yed, yee, yef, ydx, ydy, q2, q3, take7, list7, Same1_off hn]
    rw [← hov]
    refine f114 (hi.frame0 f3) hl fun H4 hf4 => ?_
    simp only [↓yaa, ↓yab, ↓yac, ↓yad, ↓yae, ↓yaf, ↓yag, ↓yah, ↓yai, ↓ydb, ↓ydc, ↓ydd, ↓yde, ↓ydf, ↓ydg, ↓yao, ↓yap, ↓ydh, ↓ydi, ↓ydj, ↓ydk, ↓ydl, ↓ydm, ↓ydn, ↓ydo, ↓ydp, ↓yax, yay, yaz, yba, ybb, ybc, ybd, ybe, ybf, ybg, ybh, ybi, ybj, ybk, ybl, ybm, ybn, ybo, ybp, ybq, ybr, ybs, ybt, ybu, ybv, ares, tup, ybw, ybx, yby, argsE, dval, aop, ev, evs, evo, evp, fillL, addrOf, intOf?, ybz, yca, ycb, ycc, ycd, yce, ycf, zah, zag, reduceIte, Nat.reduceEqDiff, ycg, ych, yci, ycj, yck, ycl, ycm, ycn, yco, ycp, ycq, ycr, zap, zao, reduceCtorEq, zbb, zbc, zba, zaz, Nat.reduceAdd, Nat.reduceMul, zaq, zar, eqPtr, zae, zaf, zab, zaa, zac, zad, hload, hstore, zal, zam, Nat.reduceAdd, Nat.reduceLeDiff, zbb, zas, zat, one, zau, zaw, zav, splice, zaj, zak, zab, zaa, ycs, yct, ycu, ycv, ycw, ycx, ycy, ycz, zan, zai, zax, zay, and_self, true_and, and_true, lenV, yda, Nat.le_refl, if_true, ydq, ydr, yds, ne_eq, not_true_eq_false, not_false_eq_true, ← decide_not, Decidable.not_not, ydt, ydu, ydz, ydv, ydw, List.drop_zero, eq_self, Bool.false_eq_true, List.getElem?_toArray, yea, yeb, List.nil_append, List.cons_append, Bool.false_and, Int.reduceEq, Int.reduceLT, Int.reduceLE, Int.reduceNe, zbc, zbb, yec, yed, yee, yef, ydx, ydy, binV_strEq]
  · simp only [↓yaa, ↓yab, ↓yac, ↓yad, ↓yae, ↓yaf, ↓yag, ↓yah, ↓yai, ↓ydb, ↓ydc, ↓ydd, ↓yde, ↓ydf, ↓ydg, ↓yao, ↓yap, ↓ydh, ↓ydi, ↓ydj, ↓ydk, ↓ydl, ↓ydm, ↓ydn, ↓ydo, ↓ydp, ↓yax, yay, yaz, yba, ybb, ybc, ybd, ybe, ybf, ybg, ybh, ybi, ybj, ybk, ybl, ybm, ybn, ybo, ybp, ybq, ybr, ybs, ybt, ybu, ybv, ares, tup, ybw, ybx, yby, argsE, dval, aop, ev, evs, evo, evp, fillL, addrOf, intOf?, ybz, yca, ycb, ycc, ycd, yce, ycf, zah, zag, reduceIte, Nat.reduceEqDiff, ycg, ych, yci, ycj, yck, ycl, ycm, ycn, yco, ycp, ycq, ycr, zap, zao, reduceCtorEq, zbb, zbc, zba, zaz, Nat.reduceAdd, Nat.reduceMul, zaq, zar, eqPtr, zae, zaf, zab, zaa, zac, zad, hload, hstore, zal, zam, Nat.reduceAdd, Nat.reduceLeDiff, zbb, zas, zat, one, zau, zaw, zav, splice, zaj, zak, zab, zaa, ycs, yct, ycu, ycv, ycw, ycx, ycy, ycz, zan, zai, zax, zay, and_self, true_and, and_true, lenV, yda, Nat.le_refl, if_true, ydq, ydr, yds, ne_eq, not_true_eq_false, not_false_eq_true, ← decide_not, Decidable.not_not, ydt, ydu, ydz, ydv, ydw, List.drop_zero, eq_self, Bool.false_eq_true, List.getElem?_toArray, yea, yeb, List.nil_append, List.cons_append, Bool.false_and, Int.reduceEq, Int.reduceLT, Int.reduceLE, Int.reduceNe, zbc, zbb, yec, yed, yee, yef, ydx, ydy, hF]

end Go.Proofs.Ytejcabdejoameaa.AI

/- BeaconOffers holds, whatever the input. -/
set_option linter.unusedVariables false
namespace Go.Proofs.Ytejcabdejoameaa
open Go.ChangeShapes Go.WideShapes Go.ChangeAt Go.RowKit

set_option maxRecDepth 100000 in
theorem beaconOffers_lifted (os : Os) (started : os.Started) (H : Type) (enc : TypeId × Value → H) :
    ReturnsInHanded {} Try.checked os 3 .any (Rows.beaconOffersSpec.pre6 enc Try.prog Try.f3 Rows.beaconOffersRow.domain false) (Rows.beaconOffersSpec.post enc Try.prog Try.f3 false true false false) := by
  refine returnsInHanded_of_change (C := Try.checked) AI.own started (by kernel_rfl) Try.func3
    (ChangeSpec.witness6 (enc := enc) (C := Try.checked) false ⟨#[], #[.agg #[.int .i64 0, .bool false, .string ⟨#[]⟩, .int .i64 0, .int .i64 0, .int .i64 0, .slice none 0 0]], []⟩ 8 (by kernel_rfl) (by kernel_rfl) (by kernel_rfl) (by kernel_rfl)) ?_
  intro W base args ds gs before hval0 hW hcnd _
  have hval : ∀ (j : Nat) t v, Try.f3.params[j]? = some t → args[j]? = some v → Value.okWide Try.prog W .any base t v := hval0
  have hW' := hW
  obtain ⟨p, q, hA0, hV, rfl, hfz, hnd⟩ := hW
  have hA : DataW.TrodAll enc Try.prog W 0 (fun _ => true) true Try.f3.params.toList args.toList ds p := hA0
  rw [Try.params3] at hA hval
  obtain ⟨args⟩ := args
  have hA : DataW.TrodAll enc Try.prog W 0 (fun _ => true) true _ args ds p := hA
  obtain ⟨v0, args0, d0, ds0, p0, q0, rfl, rfl, rfl, h0, t0⟩ := trodAll_cons hA
  obtain ⟨rfl, rfl, rfl⟩ := trodAll_nil t0
  obtain ⟨rfl, rfl⟩ := trodVars_none hV
  obtain ⟨cs0, rfl, hl0, hc0⟩ := AI.arg_agg Try.underlying26 (hval 0 26 v0 rfl rfl) h0 (d := 9) (ls := AI.offLeaves) (by kernel_rfl)
  obtain ⟨x0, a0, z0, B0, k0, r0, e0, H0, R0, s0, ok0, n0⟩ := AI.off_arg hl0 hc0 (AI.HR0 W) AI.ro0
  clear hA0 hval0
  have hc := AI.law_calls (k := 101) (AI.offers (s0) ok0 n0) H0 R0 (.cons r0 .nil)
  refine hc.mono fun e W' ⟨he, hb⟩ => ?_
  subst he
  exact ⟨_, rfl, AI.law_post AI.laidOut hW' rfl rfl (by rw [Try.params3]; intro t ht; simp at ht; subst ht; exact ⟨by kernel_rfl, of_decide_eq_true (by kernel_rfl)⟩) hb
    (fun _ _ _ => trodAll_mk1 (shut_bool Try.underlying4 _)) (ok_one (by kernel_rfl) rfl (okWide_bool_mk Try.underlying4 _))⟩

theorem beaconOffers_holds : Rows.BeaconOffersSaid :=
  OpenClaim.holds_of_wide 3 Try.f3 rfl rfl rfl rfl rfl rfl rfl ⟨rfl, rfl, rfl, rfl, rfl⟩ rfl rfl rfl rfl rfl (by kernel_rfl) Try.func3 (by kernel_rfl)
    (of_decide_eq_true (by kernel_rfl)) (by unfold Func.isWrapper; first | (rw [if_pos (by decide +kernel)]; kernel_rfl) | (rw [if_neg (by decide +kernel)]; exact ⟨rfl, rfl⟩))
    (fun os started H enc _ => beaconOffers_lifted os started H enc)

end Go.Proofs.Ytejcabdejoameaa

