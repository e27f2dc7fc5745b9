/- BeaconFrames holds, whatever the input. -/
import Derived.Calls
import Derived.Orders
import Derived.RowKit3
import Derived.KernelRfl
import Derived.WalkKit
import Derived.Laws.IdiomStrings
import Derived.Laws.StructEq
import Derived.LoopN
import Derived.Test.YtejcabdejoameaaRows
import Derived.ProofKit
import Derived.OpenShut
import Derived.ChangeMaps5
import Derived.Test.YtejcabdejoameaaBf6
/- BeaconFrames in the interpreter. -/
set_option linter.unusedSimpArgs false
set_option maxHeartbeats 8000000
namespace Go.Proofs.Ytejcabdejoameaa.AI
open Go

theorem froff_len (f : Fr) : f.off.1.next.ch.length < 1000000000 := by
  unfold Fr.off
  split
  · exact dec_len _
  · simp [zeroOff]
theorem hget_app4_0 {H : Heap} {a b c d : Option Blk} : hget (H ++ [a] ++ [b] ++ [c] ++ [d]) H.length = a := by rw [hget_append_lt (by simp), hget_append_lt (by simp)]; exact ydx
theorem hget_app4_1 {H : Heap} {a b c d : Option Blk} : hget (H ++ [a] ++ [b] ++ [c] ++ [d]) (H.length + 1) = b := by rw [hget_append_lt (by simp), hget_append_lt (by simp)]; exact ydv
theorem hget_app4_2 {H : Heap} {a b c d : Option Blk} : hget (H ++ [a] ++ [b] ++ [c] ++ [d]) (H.length + 2) = c := by rw [hget_append_lt (by simp), hget_app]; simp
theorem hget_app4_3 {H : Heap} {a b c d : Option Blk} : hget (H ++ [a] ++ [b] ++ [c] ++ [d]) (H.length + 3) = d := by rw [hget_app]; simp
theorem ta6 (a b c d e f : Value) : List.take 6 [a, b, c, d, e, f] = [a, b, c, d, e, f] := rfl
theorem li6 (a b c d e f : Value) : [a, b, c, d, e, f].toArray = #[a, b, c, d, e, f] := rfl

theorem bframes {H : Heap} {r : Rk} {list seq slot : Int} {o : Off} {a : Option Addr} {z : Nat} {x y : Fr} (_ : r.I64) (_ : Is64 list) (_ : Is64 seq) (_ : Is64 slot) (h : SI H a z o.next.ch) (hok : o.Ok64) (_ : NilOk a z o.next.ch.length) (_ : x.I64) (_ : y.I64) :
    Op1 (AC tbl 108 [r.v, .int .i64 list, .int .i64 seq, .int .i64 slot, o.v a z, x.v, y.v] H) fun r _ => r = .bool true := by
  apply AC_wp (F := F108) rfl (by simp [F108]) (.inl rfl)
  have hov : o.v a z = .agg #[.int .i64 o.root, .bool o.opn, .string o.run, .int .i64 o.next.ver, .int .i64 o.next.first, .int .i64 o.next.til, .slice a o.next.ch.length z] := rfl
  have hrv : r.v = .agg #[.int .i64 r.node, .int .i64 r.epoch, .int .i64 r.parent, .int .i64 r.heard, .int .i64 r.rank, .int .i64 r.least] := rfl
  have hxv : x.v = .agg #[.int .i64 x.kind, .int .i64 x.source, .int .i64 x.target, .int .i64 x.list, .int .i64 x.seq, .int .i64 x.flow, .int .i64 x.number, .int .i64 x.error, .int .i64 x.slot, .int .i64 x.rank, .int .i64 x.epoch, .string x.data] := rfl
  have hyv : y.v = .agg #[.int .i64 y.kind, .int .i64 y.source, .int .i64 y.target, .int .i64 y.list, .int .i64 y.seq, .int .i64 y.flow, .int .i64 y.number, .int .i64 y.error, .int .i64 y.slot, .int .i64 y.rank, .int .i64 y.epoch, .string y.data] := rfl
  have hfew := fun G => @f110 G a z o
  rw [hrv, hov, hxv, hyv]
  rw [hov] at hfew
  have gr := @hget_app4_0 H (some (⟨true, [.int .i64 r.node, .int .i64 r.epoch, .int .i64 r.parent, .int .i64 r.heard, .int .i64 r.rank, .int .i64 r.least]⟩ : Blk)) (some (⟨true, [.int .i64 o.root, .bool o.opn, .string o.run, .int .i64 o.next.ver, .int .i64 o.next.first, .int .i64 o.next.til, .slice a o.next.ch.length z]⟩ : Blk)) (some (⟨true, [.int .i64 x.kind, .int .i64 x.source, .int .i64 x.target, .int .i64 x.list, .int .i64 x.seq, .int .i64 x.flow, .int .i64 x.number, .int .i64 x.error, .int .i64 x.slot, .int .i64 x.rank, .int .i64 x.epoch, .string x.data]⟩ : Blk)) (some (⟨true, [.int .i64 y.kind, .int .i64 y.source, .int .i64 y.target, .int .i64 y.list, .int .i64 y.seq, .int .i64 y.flow, .int .i64 y.number, .int .i64 y.error, .int .i64 y.slot, .int .i64 y.rank, .int .i64 y.epoch, .string y.data]⟩ : Blk))
  have go := @hget_app4_1 H (some (⟨true, [.int .i64 r.node, .int .i64 r.epoch, .int .i64 r.parent, .int .i64 r.heard, .int .i64 r.rank, .int .i64 r.least]⟩ : Blk)) (some (⟨true, [.int .i64 o.root, .bool o.opn, .string o.run, .int .i64 o.next.ver, .int .i64 o.next.first, .int .i64 o.next.til, .slice a o.next.ch.length z]⟩ : Blk)) (some (⟨true, [.int .i64 x.kind, .int .i64 x.source, .int .i64 x.target, .int .i64 x.list, .int .i64 x.seq, .int .i64 x.flow, .int .i64 x.number, .int .i64 x.error, .int .i64 x.slot, .int .i64 x.rank, .int .i64 x.epoch, .string x.data]⟩ : Blk)) (some (⟨true, [.int .i64 y.kind, .int .i64 y.source, .int .i64 y.target, .int .i64 y.list, .int .i64 y.seq, .int .i64 y.flow, .int .i64 y.number, .int .i64 y.error, .int .i64 y.slot, .int .i64 y.rank, .int .i64 y.epoch, .string y.data]⟩ : Blk))
  have gx := @hget_app4_2 H (some (⟨true, [.int .i64 r.node, .int .i64 r.epoch, .int .i64 r.parent, .int .i64 r.heard, .int .i64 r.rank, .int .i64 r.least]⟩ : Blk)) (some (⟨true, [.int .i64 o.root, .bool o.opn, .string o.run, .int .i64 o.next.ver, .int .i64 o.next.first, .int .i64 o.next.til, .slice a o.next.ch.length z]⟩ : Blk)) (some (⟨true, [.int .i64 x.kind, .int .i64 x.source, .int .i64 x.target, .int .i64 x.list, .int .i64 x.seq, .int .i64 x.flow, .int .i64 x.number, .int .i64 x.error, .int .i64 x.slot, .int .i64 x.rank, .int .i64 x.epoch, .string x.data]⟩ : Blk)) (some (⟨true, [.int .i64 y.kind, .int .i64 y.source, .int .i64 y.target, .int .i64 y.list, .int .i64 y.seq, .int .i64 y.flow, .int .i64 y.number, .int .i64 y.error, .int .i64 y.slot, .int .i64 y.rank, .int .i64 y.epoch, .string y.data]⟩ : Blk))
  have gy := @hget_app4_3 H (some (⟨true, [.int .i64 r.node, .int .i64 r.epoch, .int .i64 r.parent, .int .i64 r.heard, .int .i64 r.rank, .int .i64 r.least]⟩ : Blk)) (some (⟨true, [.int .i64 o.root, .bool o.opn, .string o.run, .int .i64 o.next.ver, .int .i64 o.next.first, .int .i64 o.next.til, .slice a o.next.ch.length z]⟩ : Blk)) (some (⟨true, [.int .i64 x.kind, .int .i64 x.source, .int .i64 x.target, .int .i64 x.list, .int .i64 x.seq, .int .i64 x.flow, .int .i64 x.number, .int .i64 x.error, .int .i64 x.slot, .int .i64 x.rank, .int .i64 x.epoch, .string x.data]⟩ : Blk)) (some (⟨true, [.int .i64 y.kind, .int .i64 y.source, .int .i64 y.target, .int .i64 y.list, .int .i64 y.seq, .int .i64 y.flow, .int .i64 y.number, .int .i64 y.error, .int .i64 y.slot, .int .i64 y.rank, .int .i64 y.epoch, .string y.data]⟩ : Blk))
  have si := (((h.push (some (⟨true, [.int .i64 r.node, .int .i64 r.epoch, .int .i64 r.parent, .int .i64 r.heard, .int .i64 r.rank, .int .i64 r.least]⟩ : Blk))).push (some (⟨true, [.int .i64 o.root, .bool o.opn, .string o.run, .int .i64 o.next.ver, .int .i64 o.next.first, .int .i64 o.next.til, .slice a o.next.ch.length z]⟩ : Blk))).push (some (⟨true, [.int .i64 x.kind, .int .i64 x.source, .int .i64 x.target, .int .i64 x.list, .int .i64 x.seq, .int .i64 x.flow, .int .i64 x.number, .int .i64 x.error, .int .i64 x.slot, .int .i64 x.rank, .int .i64 x.epoch, .string x.data]⟩ : Blk))).push (some (⟨true, [.int .i64 y.kind, .int .i64 y.source, .int .i64 y.target, .int .i64 y.list, .int .i64 y.seq, .int .i64 y.flow, .int .i64 y.number, .int .i64 y.error, .int .i64 y.slot, .int .i64 y.rank, .int .i64 y.epoch, .string y.data]⟩ : Blk))
  simp only [F108, ↓yaa, ↓yab, ↓yac, ↓yad, ↓yae, ↓yaf, ↓yag, ↓yah, ↓yai, ↓ydb, ↓ydc, ↓ydd, ↓yde, ↓ydf, ↓ydg, ↓yao, ↓yap, ↓ydh, ↓ydi, ↓ydj, ↓ydk, ↓ydl, ↓ydm, ↓ydn, ↓ydo, ↓ydp, ↓yax, yay, yaz, yba, ybb, ybc, ybd, ybe, ybf, ybg, ybh, ybi, ybj, ybk, ybl, ybm, ybn, ybo, ybp, ybq, ybr, ybs, ybt, ybu, ybv, ares, tup, ybw, ybx, yby, argsE, dval, aop, ev, evs, evo, evp, fillL, addrOf, intOf?, ybz, yca, ycb, ycc, ycd, yce, ycf, zah, zag, reduceIte, Nat.reduceEqDiff, ycg, ych, yci, ycj, yck, ycl, ycm, ycn, yco, ycp, ycq, ycr, zap, zao, reduceCtorEq, zbb, zbc, zba, zaz, Nat.reduceAdd, Nat.reduceMul, zaq, zar, eqPtr, zae, zaf, zab, zaa, zac, zad, hload, hstore, zal, zam, Nat.reduceAdd, Nat.reduceLeDiff, zbb, zas, zat, one, zau, zaw, zav, splice, zaj, zak, zab, zaa, ycs, yct, ycu, ycv, ycw, ycx, ycy, ycz, zan, zai, zax, zay, and_self, true_and, and_true, lenV, yda, Nat.le_refl, if_true, ydq, ydr, yds, ne_eq, not_true_eq_false, not_false_eq_true, ← decide_not, Decidable.not_not, ydt, ydu, ydz, ydv, ydw, List.drop_zero, eq_self, Bool.false_eq_true, List.getElem?_toArray, yea, yeb, List.nil_append, List.cons_append, Bool.false_and, Int.reduceEq, Int.reduceLT, Int.reduceLE, Int.reduceNe, zbc, zbb, yec, yed, yee, yef, ydx, ydy, awake_any]
  generalize H ++ [some (⟨true, [.int .i64 r.node, .int .i64 r.epoch, .int .i64 r.parent, .int .i64 r.heard, .int .i64 r.rank, .int .i64 r.least]⟩ : Blk)] ++ [some (⟨true, [.int .i64 o.root, .bool o.opn, .string o.run, .int .i64 o.next.ver, .int .i64 o.next.first, .int .i64 o.next.til, .slice a o.next.ch.length z]⟩ : Blk)] ++ [some (⟨true, [.int .i64 x.kind, .int .i64 x.source, .int .i64 x.target, .int .i64 x.list, .int .i64 x.seq, .int .i64 x.flow, .int .i64 x.number, .int .i64 x.error, .int .i64 x.slot, .int .i64 x.rank, .int .i64 x.epoch, .string x.data]⟩ : Blk)] ++ [some (⟨true, [.int .i64 y.kind, .int .i64 y.source, .int .i64 y.target, .int .i64 y.list, .int .i64 y.seq, .int .i64 y.flow, .int .i64 y.number, .int .i64 y.error, .int .i64 y.slot, .int .i64 y.rank, .int .i64 y.epoch, .string y.data]⟩ : Blk)] = G at *
  by_cases h1 : o.Few
  · have hl : o.next.ch.length < 1000000000 := by have := h1.2; omega
    have f0 : Frm [] G (G ++ [some (⟨true, [.int .i64 o.root, .bool o.opn, .string o.run, .int .i64 o.next.ver, .int .i64 o.next.first, .int .i64 o.next.til, .slice a o.next.ch.length z]⟩ : Blk)]) := (Frm.refl _ _).push _
    have gr := f0.gets gr
    have go1 := f0.gets go
    have gx := f0.gets gx
    have gy := f0.gets gy
    have si := si.frame0 f0
    by_cases h2 : (200 : Int) < (x.data.size : Int)
    · simp only [↓yaa, ↓yab, ↓yac, ↓yad, ↓yae, ↓yaf, ↓yag, ↓yah, ↓yai, ↓ydb, ↓ydc, ↓ydd, ↓yde, ↓ydf, ↓ydg, ↓yao, ↓yap, ↓ydh, ↓ydi, ↓ydj, ↓ydk, ↓ydl, ↓ydm, ↓ydn, ↓ydo, ↓ydp, ↓yax, yay, yaz, yba, ybb, ybc, ybd, ybe, ybf, ybg, ybh, ybi, ybj, ybk, ybl, ybm, ybn, ybo, ybp, ybq, ybr, ybs, ybt, ybu, ybv, ares, tup, ybw, ybx, yby, argsE, dval, aop, ev, evs, evo, evp, fillL, addrOf, intOf?, ybz, yca, ycb, ycc, ycd, yce, ycf, zah, zag, reduceIte, Nat.reduceEqDiff, ycg, ych, yci, ycj, yck, ycl, ycm, ycn, yco, ycp, ycq, ycr, zap, zao, reduceCtorEq, zbb, zbc, zba, zaz, Nat.reduceAdd, Nat.reduceMul, zaq, zar, eqPtr, zae, zaf, zab, zaa, zac, zad, hload, hstore, zal, zam, Nat.reduceAdd, Nat.reduceLeDiff, zbb, zas, zat, one, zau, zaw, zav, splice, zaj, zak, zab, zaa, ycs, yct, ycu, ycv, ycw, ycx, ycy, ycz, zan, zai, zax, zay, and_self, true_and, and_true, lenV, yda, Nat.le_refl, if_true, ydq, ydr, yds, ne_eq, not_true_eq_false, not_false_eq_true, ← decide_not, Decidable.not_not, ydt, ydu, ydz, ydv, ydw, List.drop_zero, eq_self, Bool.false_eq_true, List.getElem?_toArray, yea, yeb, List.nil_append, List.cons_append, Bool.false_and, Int.reduceEq, Int.reduceLT, Int.reduceLE, Int.reduceNe, zbc, zbb, yec, yed, yee, yef, ydx, ydy, awake_any, go, t7, list7, hfew, h1, h2, gx]
    · by_cases h3 : (200 : Int) < (y.data.size : Int)
      · simp only [↓yaa, ↓yab, ↓yac, ↓yad, ↓yae, ↓yaf, ↓yag, ↓yah, ↓yai, ↓ydb, ↓ydc, ↓ydd, ↓yde, ↓ydf, ↓ydg, ↓yao, ↓yap, ↓ydh, ↓ydi, ↓ydj, ↓ydk, ↓ydl, ↓ydm, ↓ydn, ↓ydo, ↓ydp, ↓yax, yay, yaz, yba, ybb, ybc, ybd, ybe, ybf, ybg, ybh, ybi, ybj, ybk, ybl, ybm, ybn, ybo, ybp, ybq, ybr, ybs, ybt, ybu, ybv, ares, tup, ybw, ybx, yby, argsE, dval, aop, ev, evs, evo, evp, fillL, addrOf, intOf?, ybz, yca, ycb, ycc, ycd, yce, ycf, zah, zag, reduceIte, Nat.reduceEqDiff, ycg, ych, yci, ycj, yck, ycl, ycm, ycn, yco, ycp, ycq, ycr, zap, zao, reduceCtorEq, zbb, zbc, zba, zaz, Nat.reduceAdd, Nat.reduceMul, zaq, zar, eqPtr, zae, zaf, zab, zaa, zac, zad, hload, hstore, zal, zam, Nat.reduceAdd, Nat.reduceLeDiff, zbb, zas, zat, one, zau, zaw, zav, splice, zaj, zak, zab, zaa, ycs, yct, ycu, ycv, ycw, ycx, ycy, ycz, zan, zai, zax, zay, and_self, true_and, and_true, lenV, yda, Nat.le_refl, if_true, ydq, ydr, yds, ne_eq, not_true_eq_false, not_false_eq_true, ← decide_not, Decidable.not_not, ydt, ydu, ydz, ydv, ydw, List.drop_zero, eq_self, Bool.false_eq_true, List.getElem?_toArray, yea, yeb, List.nil_append, List.cons_append, Bool.false_and, Int.reduceEq, Int.reduceLT, Int.reduceLE, Int.reduceNe, zbc, zbb, yec, yed, yee, yef, ydx, ydy, awake_any, go, t7, list7, hfew, h1, h2, h3, gx, gy]
      · simp only [↓yaa, ↓yab, ↓yac, ↓yad, ↓yae, ↓yaf, ↓yag, ↓yah, ↓yai, ↓ydb, ↓ydc, ↓ydd, ↓yde, ↓ydf, ↓ydg, ↓yao, ↓yap, ↓ydh, ↓ydi, ↓ydj, ↓ydk, ↓ydl, ↓ydm, ↓ydn, ↓ydo, ↓ydp, ↓yax, yay, yaz, yba, ybb, ybc, ybd, ybe, ybf, ybg, ybh, ybi, ybj, ybk, ybl, ybm, ybn, ybo, ybp, ybq, ybr, ybs, ybt, ybu, ybv, ares, tup, ybw, ybx, yby, argsE, dval, aop, ev, evs, evo, evp, fillL, addrOf, intOf?, ybz, yca, ycb, ycc, ycd, yce, ycf, zah, zag, reduceIte, Nat.reduceEqDiff, ycg, ych, yci, ycj, yck, ycl, ycm, ycn, yco, ycp, ycq, ycr, zap, zao, reduceCtorEq, zbb, zbc, zba, zaz, Nat.reduceAdd, Nat.reduceMul, zaq, zar, eqPtr, zae, zaf, zab, zaa, zac, zad, hload, hstore, zal, zam, Nat.reduceAdd, Nat.reduceLeDiff, zbb, zas, zat, one, zau, zaw, zav, splice, zaj, zak, zab, zaa, ycs, yct, ycu, ycv, ycw, ycx, ycy, ycz, zan, zai, zax, zay, and_self, true_and, and_true, lenV, yda, Nat.le_refl, if_true, ydq, ydr, yds, ne_eq, not_true_eq_false, not_false_eq_true, ← decide_not, Decidable.not_not, ydt, ydu, ydz, ydv, ydw, List.drop_zero, eq_self, Bool.false_eq_true, List.getElem?_toArray, yea, yeb, List.nil_append, List.cons_append, Bool.false_and, Int.reduceEq, Int.reduceLT, Int.reduceLE, Int.reduceNe, zbc, zbb, yec, yed, yee, yef, ydx, ydy, awake_any, go, go1, t7, list7, hfew, h1, h2, h3, gr, gx, gy, ta6, li6]
        clear f0 hfew go
        have go := go1
        clear go1
        generalize G ++ [some (⟨true, [.int .i64 o.root, .bool o.opn, .string o.run, .int .i64 o.next.ver, .int .i64 o.next.first, .int .i64 o.next.til, .slice a o.next.ch.length z]⟩ : Blk)] = G at *
        rw [← hov, ← hrv]
        obtain ⟨m, hm⟩ : ∃ m, m = mkB r list seq slot o := ⟨_, rfl⟩
        have hmv : m.1.v = .agg #[.int .i64 m.1.kind, .int .i64 m.1.source, .int .i64 m.1.target, .int .i64 m.1.list, .int .i64 m.1.seq, .int .i64 m.1.flow, .int .i64 m.1.number, .int .i64 m.1.error, .int .i64 m.1.slot, .int .i64 m.1.rank, .int .i64 m.1.epoch, .string m.1.data] := rfl
        refine f130 si hl hok fun H1 f1 => ?_
        rw [← hm, hmv]
        have f1 := f1.push (some (⟨true, [.int .i64 m.1.kind, .int .i64 m.1.source, .int .i64 m.1.target, .int .i64 m.1.list, .int .i64 m.1.seq, .int .i64 m.1.flow, .int .i64 m.1.number, .int .i64 m.1.error, .int .i64 m.1.slot, .int .i64 m.1.rank, .int .i64 m.1.epoch, .string m.1.data]⟩ : Blk))
        have gr := f1.gets gr
        have go := f1.gets go
        have gx := f1.gets gx
        have gy := f1.gets gy
        have si := si.frame0 f1
        have g1 : hget (H1 ++ [some (⟨true, [.int .i64 m.1.kind, .int .i64 m.1.source, .int .i64 m.1.target, .int .i64 m.1.list, .int .i64 m.1.seq, .int .i64 m.1.flow, .int .i64 m.1.number, .int .i64 m.1.error, .int .i64 m.1.slot, .int .i64 m.1.rank, .int .i64 m.1.epoch, .string m.1.data]⟩ : Blk)]) H1.length = some (⟨true, [.int .i64 m.1.kind, .int .i64 m.1.source, .int .i64 m.1.target, .int .i64 m.1.list, .int .i64 m.1.seq, .int .i64 m.1.flow, .int .i64 m.1.number, .int .i64 m.1.error, .int .i64 m.1.slot, .int .i64 m.1.rank, .int .i64 m.1.epoch, .string m.1.data]⟩ : Blk) := ydu
        have l1 : H1.length < (H1 ++ [some (⟨true, [.int .i64 m.1.kind, .int .i64 m.1.source, .int .i64 m.1.target, .int .i64 m.1.list, .int .i64 m.1.seq, .int .i64 m.1.flow, .int .i64 m.1.number, .int .i64 m.1.error, .int .i64 m.1.slot, .int .i64 m.1.rank, .int .i64 m.1.epoch, .string m.1.data]⟩ : Blk)]).length := by simp
        simp only [↓yaa, ↓yab, ↓yac, ↓yad, ↓yae, ↓yaf, ↓yag, ↓yah, ↓yai, ↓ydb, ↓ydc, ↓ydd, ↓yde, ↓ydf, ↓ydg, ↓yao, ↓yap, ↓ydh, ↓ydi, ↓ydj, ↓ydk, ↓ydl, ↓ydm, ↓ydn, ↓ydo, ↓ydp, ↓yax, yay, yaz, yba, ybb, ybc, ybd, ybe, ybf, ybg, ybh, ybi, ybj, ybk, ybl, ybm, ybn, ybo, ybp, ybq, ybr, ybs, ybt, ybu, ybv, ares, tup, ybw, ybx, yby, argsE, dval, aop, ev, evs, evo, evp, fillL, addrOf, intOf?, ybz, yca, ycb, ycc, ycd, yce, ycf, zah, zag, reduceIte, Nat.reduceEqDiff, ycg, ych, yci, ycj, yck, ycl, ycm, ycn, yco, ycp, ycq, ycr, zap, zao, reduceCtorEq, zbb, zbc, zba, zaz, Nat.reduceAdd, Nat.reduceMul, zaq, zar, eqPtr, zae, zaf, zab, zaa, zac, zad, hload, hstore, zal, zam, Nat.reduceAdd, Nat.reduceLeDiff, zbb, zas, zat, one, zau, zaw, zav, splice, zaj, zak, zab, zaa, ycs, yct, ycu, ycv, ycw, ycx, ycy, ycz, zan, zai, zax, zay, and_self, true_and, and_true, lenV, yda, Nat.le_refl, if_true, ydq, ydr, yds, ne_eq, not_true_eq_false, not_false_eq_true, ← decide_not, Decidable.not_not, ydt, ydu, ydz, ydv, ydw, List.drop_zero, eq_self, Bool.false_eq_true, List.getElem?_toArray, yea, yeb, List.nil_append, List.cons_append, Bool.false_and, Int.reduceEq, Int.reduceLT, Int.reduceLE, Int.reduceNe, zbc, zbb, yec, yed, yee, yef, ydx, ydy, size12, t7, list7, take12, list12, gr, go, ta6, li6]
        generalize hG1 : H1 ++ [some (⟨true, [.int .i64 m.1.kind, .int .i64 m.1.source, .int .i64 m.1.target, .int .i64 m.1.list, .int .i64 m.1.seq, .int .i64 m.1.flow, .int .i64 m.1.number, .int .i64 m.1.error, .int .i64 m.1.slot, .int .i64 m.1.rank, .int .i64 m.1.epoch, .string m.1.data]⟩ : Blk)] = G1 at *
        rw [← hov, ← hrv]
        refine f131 si hl hok fun H2 f2 => ?_
        rw [← hm, hmv]
        have f2 := f2.push (some (⟨true, [.int .i64 m.1.kind, .int .i64 m.1.source, .int .i64 m.1.target, .int .i64 m.1.list, .int .i64 m.1.seq, .int .i64 m.1.flow, .int .i64 m.1.number, .int .i64 m.1.error, .int .i64 m.1.slot, .int .i64 m.1.rank, .int .i64 m.1.epoch, .string m.1.data]⟩ : Blk))
        have gx := f2.gets gx
        have gy := f2.gets gy
        have g1 := f2.gets g1
        have g2 : hget (H2 ++ [some (⟨true, [.int .i64 m.1.kind, .int .i64 m.1.source, .int .i64 m.1.target, .int .i64 m.1.list, .int .i64 m.1.seq, .int .i64 m.1.flow, .int .i64 m.1.number, .int .i64 m.1.error, .int .i64 m.1.slot, .int .i64 m.1.rank, .int .i64 m.1.epoch, .string m.1.data]⟩ : Blk)]) H2.length = some (⟨true, [.int .i64 m.1.kind, .int .i64 m.1.source, .int .i64 m.1.target, .int .i64 m.1.list, .int .i64 m.1.seq, .int .i64 m.1.flow, .int .i64 m.1.number, .int .i64 m.1.error, .int .i64 m.1.slot, .int .i64 m.1.rank, .int .i64 m.1.epoch, .string m.1.data]⟩ : Blk) := ydu
        simp only [↓yaa, ↓yab, ↓yac, ↓yad, ↓yae, ↓yaf, ↓yag, ↓yah, ↓yai, ↓ydb, ↓ydc, ↓ydd, ↓yde, ↓ydf, ↓ydg, ↓yao, ↓yap, ↓ydh, ↓ydi, ↓ydj, ↓ydk, ↓ydl, ↓ydm, ↓ydn, ↓ydo, ↓ydp, ↓yax, yay, yaz, yba, ybb, ybc, ybd, ybe, ybf, ybg, ybh, ybi, ybj, ybk, ybl, ybm, ybn, ybo, ybp, ybq, ybr, ybs, ybt, ybu, ybv, ares, tup, ybw, ybx, yby, argsE, dval, aop, ev, evs, evo, evp, fillL, addrOf, intOf?, ybz, yca, ycb, ycc, ycd, yce, ycf, zah, zag, reduceIte, Nat.reduceEqDiff, ycg, ych, yci, ycj, yck, ycl, ycm, ycn, yco, ycp, ycq, ycr, zap, zao, reduceCtorEq, zbb, zbc, zba, zaz, Nat.reduceAdd, Nat.reduceMul, zaq, zar, eqPtr, zae, zaf, zab, zaa, zac, zad, hload, hstore, zal, zam, Nat.reduceAdd, Nat.reduceLeDiff, zbb, zas, zat, one, zau, zaw, zav, splice, zaj, zak, zab, zaa, ycs, yct, ycu, ycv, ycw, ycx, ycy, ycz, zan, zai, zax, zay, and_self, true_and, and_true, lenV, yda, Nat.le_refl, if_true, ydq, ydr, yds, ne_eq, not_true_eq_false, not_false_eq_true, ← decide_not, Decidable.not_not, ydt, ydu, ydz, ydv, ydw, List.drop_zero, eq_self, Bool.false_eq_true, List.getElem?_toArray, yea, yeb, List.nil_append, List.cons_append, Bool.false_and, Int.reduceEq, Int.reduceLT, Int.reduceLE, Int.reduceNe, zbc, zbb, yec, yed, yee, yef, ydx, ydy, size12, take12, list12, gx]
        generalize hG2 : H2 ++ [some (⟨true, [.int .i64 m.1.kind, .int .i64 m.1.source, .int .i64 m.1.target, .int .i64 m.1.list, .int .i64 m.1.seq, .int .i64 m.1.flow, .int .i64 m.1.number, .int .i64 m.1.error, .int .i64 m.1.slot, .int .i64 m.1.rank, .int .i64 m.1.epoch, .string m.1.data]⟩ : Blk)] = G2 at *
        rw [← hxv]
        have hqv : ∀ a z, x.off.1.v a z = .agg #[.int .i64 x.off.1.root, .bool x.off.1.opn, .string x.off.1.run, .int .i64 x.off.1.next.ver, .int .i64 x.off.1.next.first, .int .i64 x.off.1.next.til, .slice a x.off.1.next.ch.length z] := fun _ _ => rfl
        refine f128 fun H3 a3 z3 f3 si3 nl3 nw3 => ?_
        rw [hqv]
        have f3 := f3.push (some (⟨true, [.int .i64 x.off.1.root, .bool x.off.1.opn, .string x.off.1.run, .int .i64 x.off.1.next.ver, .int .i64 x.off.1.next.first, .int .i64 x.off.1.next.til, .slice a3 x.off.1.next.ch.length z3]⟩ : Blk))
        have gx := f3.gets gx
        have gy := f3.gets gy
        have g1 := f3.gets g1
        have g2 := f3.gets g2
        have g3 : hget (H3 ++ [some (⟨true, [.int .i64 x.off.1.root, .bool x.off.1.opn, .string x.off.1.run, .int .i64 x.off.1.next.ver, .int .i64 x.off.1.next.first, .int .i64 x.off.1.next.til, .slice a3 x.off.1.next.ch.length z3]⟩ : Blk)]) H3.length = some (⟨true, [.int .i64 x.off.1.root, .bool x.off.1.opn, .string x.off.1.run, .int .i64 x.off.1.next.ver, .int .i64 x.off.1.next.first, .int .i64 x.off.1.next.til, .slice a3 x.off.1.next.ch.length z3]⟩ : Blk) := ydu
        have si3 := si3.push (some (⟨true, [.int .i64 x.off.1.root, .bool x.off.1.opn, .string x.off.1.run, .int .i64 x.off.1.next.ver, .int .i64 x.off.1.next.first, .int .i64 x.off.1.next.til, .slice a3 x.off.1.next.ch.length z3]⟩ : Blk))
        simp only [↓yaa, ↓yab, ↓yac, ↓yad, ↓yae, ↓yaf, ↓yag, ↓yah, ↓yai, ↓ydb, ↓ydc, ↓ydd, ↓yde, ↓ydf, ↓ydg, ↓yao, ↓yap, ↓ydh, ↓ydi, ↓ydj, ↓ydk, ↓ydl, ↓ydm, ↓ydn, ↓ydo, ↓ydp, ↓yax, yay, yaz, yba, ybb, ybc, ybd, ybe, ybf, ybg, ybh, ybi, ybj, ybk, ybl, ybm, ybn, ybo, ybp, ybq, ybr, ybs, ybt, ybu, ybv, ares, tup, ybw, ybx, yby, argsE, dval, aop, ev, evs, evo, evp, fillL, addrOf, intOf?, ybz, yca, ycb, ycc, ycd, yce, ycf, zah, zag, reduceIte, Nat.reduceEqDiff, ycg, ych, yci, ycj, yck, ycl, ycm, ycn, yco, ycp, ycq, ycr, zap, zao, reduceCtorEq, zbb, zbc, zba, zaz, Nat.reduceAdd, Nat.reduceMul, zaq, zar, eqPtr, zae, zaf, zab, zaa, zac, zad, hload, hstore, zal, zam, Nat.reduceAdd, Nat.reduceLeDiff, zbb, zas, zat, one, zau, zaw, zav, splice, zaj, zak, zab, zaa, ycs, yct, ycu, ycv, ycw, ycx, ycy, ycz, zan, zai, zax, zay, and_self, true_and, and_true, lenV, yda, Nat.le_refl, if_true, ydq, ydr, yds, ne_eq, not_true_eq_false, not_false_eq_true, ← decide_not, Decidable.not_not, ydt, ydu, ydz, ydv, ydw, List.drop_zero, eq_self, Bool.false_eq_true, List.getElem?_toArray, yea, yeb, List.nil_append, List.cons_append, Bool.false_and, Int.reduceEq, Int.reduceLT, Int.reduceLE, Int.reduceNe, zbc, zbb, yec, yed, yee, yef, ydx, ydy, s7, t7, list7, take12, list12, gx]
        generalize hG3 : H3 ++ [some (⟨true, [.int .i64 x.off.1.root, .bool x.off.1.opn, .string x.off.1.run, .int .i64 x.off.1.next.ver, .int .i64 x.off.1.next.first, .int .i64 x.off.1.next.til, .slice a3 x.off.1.next.ch.length z3]⟩ : Blk)] = G3 at *
        rw [← hxv]
        refine f132 fun H4 a4 z4 f4 si4 nl4 nw4 => ?_
        rw [hqv]
        have f4 := f4.push (some (⟨true, [.int .i64 x.off.1.root, .bool x.off.1.opn, .string x.off.1.run, .int .i64 x.off.1.next.ver, .int .i64 x.off.1.next.first, .int .i64 x.off.1.next.til, .slice a4 x.off.1.next.ch.length z4]⟩ : Blk))
        have gx := f4.gets gx
        have gy := f4.gets gy
        have g1 := f4.gets g1
        have g2 := f4.gets g2
        have g3 := f4.gets g3
        have g4 : hget (H4 ++ [some (⟨true, [.int .i64 x.off.1.root, .bool x.off.1.opn, .string x.off.1.run, .int .i64 x.off.1.next.ver, .int .i64 x.off.1.next.first, .int .i64 x.off.1.next.til, .slice a4 x.off.1.next.ch.length z4]⟩ : Blk)]) H4.length = some (⟨true, [.int .i64 x.off.1.root, .bool x.off.1.opn, .string x.off.1.run, .int .i64 x.off.1.next.ver, .int .i64 x.off.1.next.first, .int .i64 x.off.1.next.til, .slice a4 x.off.1.next.ch.length z4]⟩ : Blk) := ydu
        have si3 := si3.frame0 f4
        have si4 := si4.push (some (⟨true, [.int .i64 x.off.1.root, .bool x.off.1.opn, .string x.off.1.run, .int .i64 x.off.1.next.ver, .int .i64 x.off.1.next.first, .int .i64 x.off.1.next.til, .slice a4 x.off.1.next.ch.length z4]⟩ : Blk))
        simp only [↓yaa, ↓yab, ↓yac, ↓yad, ↓yae, ↓yaf, ↓yag, ↓yah, ↓yai, ↓ydb, ↓ydc, ↓ydd, ↓yde, ↓ydf, ↓ydg, ↓yao, ↓yap, ↓ydh, ↓ydi, ↓ydj, ↓ydk, ↓ydl, ↓ydm, ↓ydn, ↓ydo, ↓ydp, ↓yax, yay, yaz, yba, ybb, ybc, ybd, ybe, ybf, ybg, ybh, ybi, ybj, ybk, ybl, ybm, ybn, ybo, ybp, ybq, ybr, ybs, ybt, ybu, ybv, ares, tup, ybw, ybx, yby, argsE, dval, aop, ev, evs, evo, evp, fillL, addrOf, intOf?, ybz, yca, ycb, ycc, ycd, yce, ycf, zah, zag, reduceIte, Nat.reduceEqDiff, ycg, ych, yci, ycj, yck, ycl, ycm, ycn, yco, ycp, ycq, ycr, zap, zao, reduceCtorEq, zbb, zbc, zba, zaz, Nat.reduceAdd, Nat.reduceMul, zaq, zar, eqPtr, zae, zaf, zab, zaa, zac, zad, hload, hstore, zal, zam, Nat.reduceAdd, Nat.reduceLeDiff, zbb, zas, zat, one, zau, zaw, zav, splice, zaj, zak, zab, zaa, ycs, yct, ycu, ycv, ycw, ycx, ycy, ycz, zan, zai, zax, zay, and_self, true_and, and_true, lenV, yda, Nat.le_refl, if_true, ydq, ydr, yds, ne_eq, not_true_eq_false, not_false_eq_true, ← decide_not, Decidable.not_not, ydt, ydu, ydz, ydv, ydw, List.drop_zero, eq_self, Bool.false_eq_true, List.getElem?_toArray, yea, yeb, List.nil_append, List.cons_append, Bool.false_and, Int.reduceEq, Int.reduceLT, Int.reduceLE, Int.reduceNe, zbc, zbb, yec, yed, yee, yef, ydx, ydy, s7, t7, list7]
        generalize hG4 : H4 ++ [some (⟨true, [.int .i64 x.off.1.root, .bool x.off.1.opn, .string x.off.1.run, .int .i64 x.off.1.next.ver, .int .i64 x.off.1.next.first, .int .i64 x.off.1.next.til, .slice a4 x.off.1.next.ch.length z4]⟩ : Blk)] = G4 at *
        simp only [↓yaa, ↓yab, ↓yac, ↓yad, ↓yae, ↓yaf, ↓yag, ↓yah, ↓yai, ↓ydb, ↓ydc, ↓ydd, ↓yde, ↓ydf, ↓ydg, ↓yao, ↓yap, ↓ydh, ↓ydi, ↓ydj, ↓ydk, ↓ydl, ↓ydm, ↓ydn, ↓ydo, ↓ydp, ↓yax, yay, yaz, yba, ybb, ybc, ybd, ybe, ybf, ybg, ybh, ybi, ybj, ybk, ybl, ybm, ybn, ybo, ybp, ybq, ybr, ybs, ybt, ybu, ybv, ares, tup, ybw, ybx, yby, argsE, dval, aop, ev, evs, evo, evp, fillL, addrOf, intOf?, ybz, yca, ycb, ycc, ycd, yce, ycf, zah, zag, reduceIte, Nat.reduceEqDiff, ycg, ych, yci, ycj, yck, ycl, ycm, ycn, yco, ycp, ycq, ycr, zap, zao, reduceCtorEq, zbb, zbc, zba, zaz, Nat.reduceAdd, Nat.reduceMul, zaq, zar, eqPtr, zae, zaf, zab, zaa, zac, zad, hload, hstore, zal, zam, Nat.reduceAdd, Nat.reduceLeDiff, zbb, zas, zat, one, zau, zaw, zav, splice, zaj, zak, zab, zaa, ycs, yct, ycu, ycv, ycw, ycx, ycy, ycz, zan, zai, zax, zay, and_self, true_and, and_true, lenV, yda, Nat.le_refl, if_true, ydq, ydr, yds, ne_eq, not_true_eq_false, not_false_eq_true, ← decide_not, Decidable.not_not, ydt, ydu, ydz, ydv, ydw, List.drop_zero, eq_self, Bool.false_eq_true, List.getElem?_toArray, yea, yeb, List.nil_append, List.cons_append, Bool.false_and, Int.reduceEq, Int.reduceLT, Int.reduceLE, Int.reduceNe, zbc, zbb, yec, yed, yee, yef, ydx, ydy, s7, t7, list7, size12, take12, list12, eqs12, g1, g2, g3, g4, Same1_off nl3, Same1_off nl4, Same1_fr]
        rw [← hqv, ← hqv]
        refine f126 si3 si4 (froff_len x) fun H5 f5 => ?_
        have he : x.off.1.Eqv x.off.1 := ⟨rfl, rfl, rfl, rfl, rfl, rfl, rfl⟩
        have gx := f5.gets gx
        have gy := f5.gets gy
        have hb := fun G => f129 x y G
        have hb' := fun G => f133 x y G
        rw [hxv, hyv] at hb hb'
        simp only [↓yaa, ↓yab, ↓yac, ↓yad, ↓yae, ↓yaf, ↓yag, ↓yah, ↓yai, ↓ydb, ↓ydc, ↓ydd, ↓yde, ↓ydf, ↓ydg, ↓yao, ↓yap, ↓ydh, ↓ydi, ↓ydj, ↓ydk, ↓ydl, ↓ydm, ↓ydn, ↓ydo, ↓ydp, ↓yax, yay, yaz, yba, ybb, ybc, ybd, ybe, ybf, ybg, ybh, ybi, ybj, ybk, ybl, ybm, ybn, ybo, ybp, ybq, ybr, ybs, ybt, ybu, ybv, ares, tup, ybw, ybx, yby, argsE, dval, aop, ev, evs, evo, evp, fillL, addrOf, intOf?, ybz, yca, ycb, ycc, ycd, yce, ycf, zah, zag, reduceIte, Nat.reduceEqDiff, ycg, ych, yci, ycj, yck, ycl, ycm, ycn, yco, ycp, ycq, ycr, zap, zao, reduceCtorEq, zbb, zbc, zba, zaz, Nat.reduceAdd, Nat.reduceMul, zaq, zar, eqPtr, zae, zaf, zab, zaa, zac, zad, hload, hstore, zal, zam, Nat.reduceAdd, Nat.reduceLeDiff, zbb, zas, zat, one, zau, zaw, zav, splice, zaj, zak, zab, zaa, ycs, yct, ycu, ycv, ycw, ycx, ycy, ycz, zan, zai, zax, zay, and_self, true_and, and_true, lenV, yda, Nat.le_refl, if_true, ydq, ydr, yds, ne_eq, not_true_eq_false, not_false_eq_true, ← decide_not, Decidable.not_not, ydt, ydu, ydz, ydv, ydw, List.drop_zero, eq_self, Bool.false_eq_true, List.getElem?_toArray, yea, yeb, List.nil_append, List.cons_append, Bool.false_and, Int.reduceEq, Int.reduceLT, Int.reduceLE, Int.reduceNe, zbc, zbb, yec, yed, yee, yef, ydx, ydy, he, gx, gy, take12, list12, Same1_fr, hb, hb', beq_self_eq_true]
  · simp only [↓yaa, ↓yab, ↓yac, ↓yad, ↓yae, ↓yaf, ↓yag, ↓yah, ↓yai, ↓ydb, ↓ydc, ↓ydd, ↓yde, ↓ydf, ↓ydg, ↓yao, ↓yap, ↓ydh, ↓ydi, ↓ydj, ↓ydk, ↓ydl, ↓ydm, ↓ydn, ↓ydo, ↓ydp, ↓yax, yay, yaz, yba, ybb, ybc, ybd, ybe, ybf, ybg, ybh, ybi, ybj, ybk, ybl, ybm, ybn, ybo, ybp, ybq, ybr, ybs, ybt, ybu, ybv, ares, tup, ybw, ybx, yby, argsE, dval, aop, ev, evs, evo, evp, fillL, addrOf, intOf?, ybz, yca, ycb, ycc, ycd, yce, ycf, zah, zag, reduceIte, Nat.reduceEqDiff, ycg, ych, yci, ycj, yck, ycl, ycm, ycn, yco, ycp, ycq, ycr, zap, zao, reduceCtorEq, zbb, zbc, zba, zaz, Nat.reduceAdd, Nat.reduceMul, zaq, zar, eqPtr, zae, zaf, zab, zaa, zac, zad, hload, hstore, zal, zam, Nat.reduceAdd, Nat.reduceLeDiff, zbb, zas, zat, one, zau, zaw, zav, splice, zaj, zak, zab, zaa, ycs, yct, ycu, ycv, ycw, ycx, ycy, ycz, zan, zai, zax, zay, and_self, true_and, and_true, lenV, yda, Nat.le_refl, if_true, ydq, ydr, yds, ne_eq, not_true_eq_false, not_false_eq_true, ← decide_not, Decidable.not_not, ydt, ydu, ydz, ydv, ydw, List.drop_zero, eq_self, Bool.false_eq_true, List.getElem?_toArray, yea, yeb, List.nil_append, List.cons_append, Bool.false_and, Int.reduceEq, Int.reduceLT, Int.reduceLE, Int.reduceNe, zbc, zbb, yec, yed, yee, yef, ydx, ydy, awake_any, go, t7, list7, hfew, h1]

end Go.Proofs.Ytejcabdejoameaa.AI

/- BeaconFrames holds, whatever the input. -/
set_option linter.unusedVariables false
namespace Go.Proofs.Ytejcabdejoameaa
open Go.ChangeShapes Go.WideShapes Go.ChangeAt Go.RowKit

set_option maxRecDepth 100000 in
theorem beaconFrames_lifted (os : Os) (started : os.Started) (H : Type) (enc : TypeId × Value → H) :
    ReturnsInHanded {} Try.checked os 10 .any (Rows.beaconFramesSpec.pre6 enc Try.prog Try.f10 Rows.beaconFramesRow.domain false) (Rows.beaconFramesSpec.post enc Try.prog Try.f10 false true false false) := by
  refine returnsInHanded_of_change (C := Try.checked) AI.own started (by kernel_rfl) Try.func10
    (ChangeSpec.witness6 (enc := enc) (C := Try.checked) false ⟨#[], #[.agg #[.int .i64 0, .int .i64 0, .int .i64 0, .int .i64 0, .int .i64 0, .int .i64 0], .int .i64 0, .int .i64 0, .int .i64 0, .agg #[.int .i64 0, .bool false, .string ⟨#[]⟩, .int .i64 0, .int .i64 0, .int .i64 0, .slice none 0 0], .agg #[.int .i64 0, .int .i64 0, .int .i64 0, .int .i64 0, .int .i64 0, .int .i64 0, .int .i64 0, .int .i64 0, .int .i64 0, .int .i64 0, .int .i64 0, .string ⟨#[]⟩], .agg #[.int .i64 0, .int .i64 0, .int .i64 0, .int .i64 0, .int .i64 0, .int .i64 0, .int .i64 0, .int .i64 0, .int .i64 0, .int .i64 0, .int .i64 0, .string ⟨#[]⟩]], []⟩ 8 (by kernel_rfl) (by kernel_rfl) (by kernel_rfl) (by kernel_rfl)) ?_
  intro W base args ds gs before hval0 hW hcnd _
  have hval : ∀ (j : Nat) t v, Try.f10.params[j]? = some t → args[j]? = some v → Value.okWide Try.prog W .any base t v := hval0
  have hW' := hW
  obtain ⟨p, q, hA0, hV, rfl, hfz, hnd⟩ := hW
  have hA : DataW.TrodAll enc Try.prog W 0 (fun _ => true) true Try.f10.params.toList args.toList ds p := hA0
  rw [Try.params10] at hA hval
  obtain ⟨args⟩ := args
  have hA : DataW.TrodAll enc Try.prog W 0 (fun _ => true) true _ args ds p := hA
  obtain ⟨v0, args0, d0, ds0, p0, q0, rfl, rfl, rfl, h0, t0⟩ := trodAll_cons hA
  obtain ⟨v1, args1, d1, ds1, p1, q1, rfl, rfl, rfl, h1, t1⟩ := trodAll_cons t0
  obtain ⟨v2, args2, d2, ds2, p2, q2, rfl, rfl, rfl, h2, t2⟩ := trodAll_cons t1
  obtain ⟨v3, args3, d3, ds3, p3, q3, rfl, rfl, rfl, h3, t3⟩ := trodAll_cons t2
  obtain ⟨v4, args4, d4, ds4, p4, q4, rfl, rfl, rfl, h4, t4⟩ := trodAll_cons t3
  obtain ⟨v5, args5, d5, ds5, p5, q5, rfl, rfl, rfl, h5, t5⟩ := trodAll_cons t4
  obtain ⟨v6, args6, d6, ds6, p6, q6, rfl, rfl, rfl, h6, t6⟩ := trodAll_cons t5
  obtain ⟨rfl, rfl, rfl⟩ := trodAll_nil t6
  obtain ⟨rfl, rfl⟩ := trodVars_none hV
  obtain ⟨cs0, rfl, hl0, hc0⟩ := AI.arg_agg Try.underlying60 (hval 0 60 v0 rfl rfl) h0 (d := 9) (ls := AI.rkLeaves) (by kernel_rfl)
  obtain ⟨x0, rfl, ok0⟩ := AI.rk_open hl0 hc0
  obtain ⟨x1, rfl, rfl, rfl, ok1⟩ := open_int Try.underlying3 (hval 1 3 v1 rfl rfl) h1
  obtain ⟨x2, rfl, rfl, rfl, ok2⟩ := open_int Try.underlying3 (hval 2 3 v2 rfl rfl) h2
  obtain ⟨x3, rfl, rfl, rfl, ok3⟩ := open_int Try.underlying3 (hval 3 3 v3 rfl rfl) h3
  obtain ⟨cs4, rfl, hl4, hc4⟩ := AI.arg_agg Try.underlying26 (hval 4 26 v4 rfl rfl) h4 (d := 9) (ls := AI.offLeaves) (by kernel_rfl)
  obtain ⟨x4, a4, z4, B4, k4, r4, e4, H4, R4, s4, ok4, n4⟩ := AI.off_arg hl4 hc4 (AI.HR0 W) AI.ro0
  obtain ⟨cs5, rfl, hl5, hc5⟩ := AI.arg_agg Try.underlying54 (hval 5 54 v5 rfl rfl) h5 (d := 9) (ls := AI.frLeaves) (by kernel_rfl)
  obtain ⟨x5, rfl, ok5⟩ := AI.fr_open hl5 hc5
  obtain ⟨cs6, rfl, hl6, hc6⟩ := AI.arg_agg Try.underlying54 (hval 6 54 v6 rfl rfl) h6 (d := 9) (ls := AI.frLeaves) (by kernel_rfl)
  obtain ⟨x6, rfl, ok6⟩ := AI.fr_open hl6 hc6
  clear hA0 hval0
  have hc := AI.law_calls (k := 108) (AI.bframes ok0 (AI.i64_wf ok1) (AI.i64_wf ok2) (AI.i64_wf ok3) (s4) ok4 n4 ok5 ok6) H4 R4 (.cons (AI.rk_vr x0) (.cons (.atom _ rfl) (.cons (.atom _ rfl) (.cons (.atom _ rfl) (.cons r4 (.cons (AI.fr_vr x5) (.cons (AI.fr_vr x6) .nil)))))))
  refine hc.mono fun e W' ⟨he, hb⟩ => ?_
  subst he
  exact ⟨_, rfl, AI.law_post AI.laidOut hW' rfl rfl (by rw [Try.params10]; intro t ht; simp at ht; rcases ht with rfl | rfl | rfl | rfl | rfl | rfl | rfl <;> exact ⟨by kernel_rfl, of_decide_eq_true (by kernel_rfl)⟩) hb
    (fun _ _ _ => trodAll_mk1 (shut_bool Try.underlying4 _)) (ok_one (by kernel_rfl) rfl (okWide_bool_mk Try.underlying4 _))⟩

theorem beaconFrames_holds : Rows.BeaconFramesSaid :=
  OpenClaim.holds_of_wide 10 Try.f10 rfl rfl rfl rfl rfl rfl rfl ⟨rfl, rfl, rfl, rfl, rfl⟩ rfl rfl rfl rfl rfl (by kernel_rfl) Try.func10 (by kernel_rfl)
    (of_decide_eq_true (by kernel_rfl)) (by unfold Func.isWrapper; first | (rw [if_pos (by decide +kernel)]; kernel_rfl) | (rw [if_neg (by decide +kernel)]; exact ⟨rfl, rfl⟩))
    (fun os started H enc _ => beaconFrames_lifted os started H enc)

end Go.Proofs.Ytejcabdejoameaa

