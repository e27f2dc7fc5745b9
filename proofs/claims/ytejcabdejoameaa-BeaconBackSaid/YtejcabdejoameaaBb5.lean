/- What is proved on the way to BeaconBack, part 5: an interpreter of the code, its soundness, and what the functions answer. -/
import Derived.Calls
import Derived.Orders
import Derived.RowKit3
import Derived.KernelRfl
import Derived.WalkKit
import Derived.Laws.IdiomStrings
import Derived.Laws.StructEq
import Derived.LoopN
import Derived.Test.YtejcabdejoameaaRows
import Derived.ProofKit
import Derived.OpenShut
import Derived.Test.YtejcabdejoameaaBb4
/- The reference writer's texts, and how the law writes with it. -/
set_option linter.unusedSimpArgs false
namespace Go.Proofs.Ytejcabdejoameaa.AI
open Go

theorem u64_nat' (n : Nat) (h : n < 18446744073709551616) : u64 (n : Int) = n := by unfold u64; omega
theorem vtext_spec {H : Heap} {p : Nat} {o : Option Nat} {s : WS} {most : Int} {t : ByteArray} (h : VSt H p o s.bs s.err) (hlen : s.bs.length ≤ 524288) (hm : Is64 most) (ht : t.size ≤ 1000000000) {K : Value → Heap → Prop}
    (hk : VWrote H p o (s.text most t) K) : Op1 (AC tbl 46 [.pointer (some ⟨p, 0, none⟩), .int .i64 most, .string t] H) K := by
  apply AC_wp (F := F46) rfl (by simp [F46]) (.inl rfl)
  have hp := h.blk
  have hpl := hget_lt hp
  have hwd := wd_le (n := most) hm.2
  by_cases h1 : s.err = 0
  · have setE : ∀ err', s.text most t = ⟨s.bs, err'⟩ → K (.tuple #[]) (H.set p (some ⟨true, [sliceOf o (bn s.bs), .int .i64 err']⟩)) := fun err' he =>
      hk.done he (h.setErr err') ((Frm.refl _ _).set _ (by simp))
    rw [h1] at hp
    by_cases a1 : most < 1
    · have hl : lim most = false := by simp [lim]; omega
      simp only [F46, ↓yaa, ↓yab, ↓yac, ↓yad, ↓yae, ↓yaf, ↓yag, ↓yah, ↓yai, ↓yaj, ↓yak, ↓yal, ↓yam, ↓yan, ↓yao, ↓yap, ↓yaq, ↓yar, ↓yas, ↓yat, ↓yau, ↓yav, ↓yaw, ↓yax, yay, yaz, yba, ybb, ybc, ybd, ybe, ybf, ybg, ybh, ybi, ybj, ybk, ybl, ybm, ybn, ybo, ybp, ybq, ybr, ybs, ybt, ybu, ybv, ares, tup, ybw, ybx, yby, argsE, dval, aop, ev, evs, evo, evp, fillL, addrOf, intOf?, ybz, yca, ycb, ycc, ycd, yce, ycf, zah, zag, reduceIte, Nat.reduceEqDiff, ycg, ych, yci, ycj, yck, ycl, ycm, ycn, yco, ycp, ycq, ycr, zap, zao, reduceCtorEq, zbb, zbc, zba, zaz, Nat.reduceAdd, Nat.reduceMul, zaq, zar, eqPtr, zae, zaf, zab, zaa, zac, zad , hload, hstore, zal, zam, Nat.reduceAdd, Nat.reduceLeDiff, zbb, zas, zat, one, zau, zaw, zav, splice, zaj, zak, zab, zaa, ycs, yct, ycu, ycv, ycw, ycx, ycy, ycz, zan, zai, zax, zay, and_self, true_and, and_true, lenV, yda, Nat.le_refl, if_true , hp, h1, ne_eq, not_true_eq_false, a1]
      exact setE 1 (by simp [WS.text, h1, hl])
    · by_cases a2 : 4095 < most
      · have hl : lim most = false := by simp [lim]; omega
        simp only [F46, ↓yaa, ↓yab, ↓yac, ↓yad, ↓yae, ↓yaf, ↓yag, ↓yah, ↓yai, ↓yaj, ↓yak, ↓yal, ↓yam, ↓yan, ↓yao, ↓yap, ↓yaq, ↓yar, ↓yas, ↓yat, ↓yau, ↓yav, ↓yaw, ↓yax, yay, yaz, yba, ybb, ybc, ybd, ybe, ybf, ybg, ybh, ybi, ybj, ybk, ybl, ybm, ybn, ybo, ybp, ybq, ybr, ybs, ybt, ybu, ybv, ares, tup, ybw, ybx, yby, argsE, dval, aop, ev, evs, evo, evp, fillL, addrOf, intOf?, ybz, yca, ycb, ycc, ycd, yce, ycf, zah, zag, reduceIte, Nat.reduceEqDiff, ycg, ych, yci, ycj, yck, ycl, ycm, ycn, yco, ycp, ycq, ycr, zap, zao, reduceCtorEq, zbb, zbc, zba, zaz, Nat.reduceAdd, Nat.reduceMul, zaq, zar, eqPtr, zae, zaf, zab, zaa, zac, zad , hload, hstore, zal, zam, Nat.reduceAdd, Nat.reduceLeDiff, zbb, zas, zat, one, zau, zaw, zav, splice, zaj, zak, zab, zaa, ycs, yct, ycu, ycv, ycw, ycx, ycy, ycz, zan, zai, zax, zay, and_self, true_and, and_true, lenV, yda, Nat.le_refl, if_true , hp, h1, ne_eq, not_true_eq_false, a1, a2]
        exact setE 1 (by simp [WS.text, h1, hl])
      · have hl : lim most = true := by simp [lim]; omega
        by_cases a3 : most < (t.size : Int)
        · simp only [F46, ↓yaa, ↓yab, ↓yac, ↓yad, ↓yae, ↓yaf, ↓yag, ↓yah, ↓yai, ↓yaj, ↓yak, ↓yal, ↓yam, ↓yan, ↓yao, ↓yap, ↓yaq, ↓yar, ↓yas, ↓yat, ↓yau, ↓yav, ↓yaw, ↓yax, yay, yaz, yba, ybb, ybc, ybd, ybe, ybf, ybg, ybh, ybi, ybj, ybk, ybl, ybm, ybn, ybo, ybp, ybq, ybr, ybs, ybt, ybu, ybv, ares, tup, ybw, ybx, yby, argsE, dval, aop, ev, evs, evo, evp, fillL, addrOf, intOf?, ybz, yca, ycb, ycc, ycd, yce, ycf, zah, zag, reduceIte, Nat.reduceEqDiff, ycg, ych, yci, ycj, yck, ycl, ycm, ycn, yco, ycp, ycq, ycr, zap, zao, reduceCtorEq, zbb, zbc, zba, zaz, Nat.reduceAdd, Nat.reduceMul, zaq, zar, eqPtr, zae, zaf, zab, zaa, zac, zad , hload, hstore, zal, zam, Nat.reduceAdd, Nat.reduceLeDiff, zbb, zas, zat, one, zau, zaw, zav, splice, zaj, zak, zab, zaa, ycs, yct, ycu, ycv, ycw, ycx, ycy, ycz, zan, zai, zax, zay, and_self, true_and, and_true, lenV, yda, Nat.le_refl, if_true , hp, h1, ne_eq, not_true_eq_false, a1, a2, a3]
          exact setE 8 (by simp [WS.text, h1, hl, a3])
        · have hw1 : IntKind.i64.wrap (8 * (t.size : Int)) = 8 * (t.size : Int) := wrap_i64 (by omega) (by omega)
          have hw2 : IntKind.i64.wrap ((wd most : Int) + 8 * (t.size : Int)) = (wd most : Int) + 8 * (t.size : Int) := wrap_i64 (by omega) (by omega)
          simp only [F46, ↓yaa, ↓yab, ↓yac, ↓yad, ↓yae, ↓yaf, ↓yag, ↓yah, ↓yai, ↓yaj, ↓yak, ↓yal, ↓yam, ↓yan, ↓yao, ↓yap, ↓yaq, ↓yar, ↓yas, ↓yat, ↓yau, ↓yav, ↓yaw, ↓yax, yay, yaz, yba, ybb, ybc, ybd, ybe, ybf, ybg, ybh, ybi, ybj, ybk, ybl, ybm, ybn, ybo, ybp, ybq, ybr, ybs, ybt, ybu, ybv, ares, tup, ybw, ybx, yby, argsE, dval, aop, ev, evs, evo, evp, fillL, addrOf, intOf?, ybz, yca, ycb, ycc, ycd, yce, ycf, zah, zag, reduceIte, Nat.reduceEqDiff, ycg, ych, yci, ycj, yck, ycl, ycm, ycn, yco, ycp, ycq, ycr, zap, zao, reduceCtorEq, zbb, zbc, zba, zaz, Nat.reduceAdd, Nat.reduceMul, zaq, zar, eqPtr, zae, zaf, zab, zaa, zac, zad , hload, hstore, zal, zam, Nat.reduceAdd, Nat.reduceLeDiff, zbb, zas, zat, one, zau, zaw, zav, splice, zaj, zak, zab, zaa, ycs, yct, ycu, ycv, ycw, ycx, ycy, ycz, zan, zai, zax, zay, and_self, true_and, and_true, lenV, yda, Nat.le_refl, if_true , hp, h1, ne_eq, not_true_eq_false, a1, a2, a3, refWidth most hm.2, hw1, hw2]
          refine room_spec h hlen (by omega) (fun hh => absurd h1 hh) (fun _ hb H' hv hf => ?_) (fun _ hb => ?_)
          · simp only [↓yaa, ↓yab, ↓yac, ↓yad, ↓yae, ↓yaf, ↓yag, ↓yah, ↓yai, ↓yaj, ↓yak, ↓yal, ↓yam, ↓yan, ↓yao, ↓yap, ↓yaq, ↓yar, ↓yas, ↓yat, ↓yau, ↓yav, ↓yaw, ↓yax, yay, yaz, yba, ybb, ybc, ybd, ybe, ybf, ybg, ybh, ybi, ybj, ybk, ybl, ybm, ybn, ybo, ybp, ybq, ybr, ybs, ybt, ybu, ybv, ares, tup, ybw, ybx, yby, argsE, dval, aop, ev, evs, evo, evp, fillL, addrOf, intOf?, ybz, yca, ycb, ycc, ycd, yce, ycf, zah, zag, reduceIte, Nat.reduceEqDiff, ycg, ych, yci, ycj, yck, ycl, ycm, ycn, yco, ycp, ycq, ycr, zap, zao, reduceCtorEq, zbb, zbc, zba, zaz, Nat.reduceAdd, Nat.reduceMul, zaq, zar, eqPtr, zae, zaf, zab, zaa, zac, zad ]
            exact hk.done (s := ⟨s.bs, 8⟩) (by simp [WS.text, h1, hl]; omega) hv hf
          · have hfin : s.text most t = ⟨s.bs ++ bitsOf (wd most) t.size ++ textBits t, s.err⟩ := by
              unfold WS.text
              rw [if_neg (by simpa using h1), hl, if_neg (by simp), if_neg (by omega)]
            unfold VWrote at hk
            rw [hfin] at hk
            clear hfin setE
            simp only [↓yaa, ↓yab, ↓yac, ↓yad, ↓yae, ↓yaf, ↓yag, ↓yah, ↓yai, ↓yaj, ↓yak, ↓yal, ↓yam, ↓yan, ↓yao, ↓yap, ↓yaq, ↓yar, ↓yas, ↓yat, ↓yau, ↓yav, ↓yaw, ↓yax, yay, yaz, yba, ybb, ybc, ybd, ybe, ybf, ybg, ybh, ybi, ybj, ybk, ybl, ybm, ybn, ybo, ybp, ybq, ybr, ybs, ybt, ybu, ybv, ares, tup, ybw, ybx, yby, argsE, dval, aop, ev, evs, evo, evp, fillL, addrOf, intOf?, ybz, yca, ycb, ycc, ycd, yce, ycf, zah, zag, reduceIte, Nat.reduceEqDiff, ycg, ych, yci, ycj, yck, ycl, ycm, ycn, yco, ycp, ycq, ycr, zap, zao, reduceCtorEq, zbb, zbc, zba, zaz, Nat.reduceAdd, Nat.reduceMul, zaq, zar, eqPtr, zae, zaf, zab, zaa, zac, zad , refWidth most hm.2]
            have hu : u64 (t.size : Int) = t.size := by rw [u64_nat' _ (by omega)]
            refine vput_spec (by omega) (by omega) h _ fun H1 o1 k1 k2 k3 => ?_
            rw [hu] at k1
            simp only [↓yaa, ↓yab, ↓yac, ↓yad, ↓yae, ↓yaf, ↓yag, ↓yah, ↓yai, ↓yaj, ↓yak, ↓yal, ↓yam, ↓yan, ↓yao, ↓yap, ↓yaq, ↓yar, ↓yas, ↓yat, ↓yau, ↓yav, ↓yaw, ↓yax, yay, yaz, yba, ybb, ybc, ybd, ybe, ybf, ybg, ybh, ybi, ybj, ybk, ybl, ybm, ybn, ybo, ybp, ybq, ybr, ybs, ybt, ybu, ybv, ares, tup, ybw, ybx, yby, argsE, dval, aop, ev, evs, evo, evp, fillL, addrOf, intOf?, ybz, yca, ycb, ycc, ycd, yce, ycf, zah, zag, reduceIte, Nat.reduceEqDiff, ycg, ych, yci, ycj, yck, ycl, ycm, ycn, yco, ycp, ycq, ycr, zap, zao, reduceCtorEq, zbb, zbc, zba, zaz, Nat.reduceAdd, Nat.reduceMul, zaq, zar, eqPtr, zae, zaf, zab, zaa, zac, zad ]
            apply AW_loop_inv (fun j e H2 => j ≤ t.size ∧ e = [(0, .pointer (some ⟨p, 0, none⟩)), (2, .string t), (6, .int .i64 ((t.size - j : Nat) : Int))] ∧
              ∃ o2, VSt H2 p o2 (s.bs ++ bitsOf (wd most) t.size ++ textPre t (t.size - j)) s.err ∧ Frm (p :: o.toList) H H2 ∧ (∀ q, o2 = some q → o = some q ∨ H.length ≤ q)) _ t.size
            · refine ⟨Nat.le_refl _, by rw [Nat.sub_self]; rfl, o1, ?_, k2, k3⟩
              rw [Nat.sub_self]; simpa [textPre] using k1
            · rintro j e H2 ⟨hj, rfl, o2, m1, m2, m3⟩
              cases j with
              | zero =>
                have g0 : ¬ ((t.size - 0 : Nat) : Int) < (t.size : Int) := by omega
                simp only [↓yaa, ↓yab, ↓yac, ↓yad, ↓yae, ↓yaf, ↓yag, ↓yah, ↓yai, ↓yaj, ↓yak, ↓yal, ↓yam, ↓yan, ↓yao, ↓yap, ↓yaq, ↓yar, ↓yas, ↓yat, ↓yau, ↓yav, ↓yaw, ↓yax, yay, yaz, yba, ybb, ybc, ybd, ybe, ybf, ybg, ybh, ybi, ybj, ybk, ybl, ybm, ybn, ybo, ybp, ybq, ybr, ybs, ybt, ybu, ybv, ares, tup, ybw, ybx, yby, argsE, dval, aop, ev, evs, evo, evp, fillL, addrOf, intOf?, ybz, yca, ycb, ycc, ycd, yce, ycf, zah, zag, reduceIte, Nat.reduceEqDiff, ycg, ych, yci, ycj, yck, ycl, ycm, ycn, yco, ycp, ycq, ycr, zap, zao, reduceCtorEq, zbb, zbc, zba, zaz, Nat.reduceAdd, Nat.reduceMul, zaq, zar, eqPtr, zae, zaf, zab, zaa, zac, zad , g0]
                refine hk _ o2 ?_ m2 m3
                rw [Nat.sub_zero, textPre_all] at m1
                exact m1
              | succ j =>
                have g0 : ((t.size - (j + 1) : Nat) : Int) < (t.size : Int) := by omega
                have hi : t.size - (j + 1) < t.size := by omega
                obtain ⟨b, hb1, hb2⟩ := byte_get t _ hi
                have hbw : IntKind.i64.wrap (b.toNat : Int) = (b.toNat : Int) := wrap_i64 (by omega) (by have := b.toNat_lt; omega)
                have g1 : (0 : Int) ≤ ((t.size - (j + 1) : Nat) : Int) := by omega
                have g2 : IntKind.i64.wrap (((t.size - (j + 1) : Nat) : Int) + 1) = ((t.size - j : Nat) : Int) := by rw [wrap_i64 (by omega) (by omega)]; omega
                have hu8 : u64 (b.toNat : Int) = b.toNat := by rw [u64_nat' _ (by have := b.toNat_lt; omega)]
                simp only [↓yaa, ↓yab, ↓yac, ↓yad, ↓yae, ↓yaf, ↓yag, ↓yah, ↓yai, ↓yaj, ↓yak, ↓yal, ↓yam, ↓yan, ↓yao, ↓yap, ↓yaq, ↓yar, ↓yas, ↓yat, ↓yau, ↓yav, ↓yaw, ↓yax, yay, yaz, yba, ybb, ybc, ybd, ybe, ybf, ybg, ybh, ybi, ybj, ybk, ybl, ybm, ybn, ybo, ybp, ybq, ybr, ybs, ybt, ybu, ybv, ares, tup, ybw, ybx, yby, argsE, dval, aop, ev, evs, evo, evp, fillL, addrOf, intOf?, ybz, yca, ycb, ycc, ycd, yce, ycf, zah, zag, reduceIte, Nat.reduceEqDiff, ycg, ych, yci, ycj, yck, ycl, ycm, ycn, yco, ycp, ycq, ycr, zap, zao, reduceCtorEq, zbb, zbc, zba, zaz, Nat.reduceAdd, Nat.reduceMul, zaq, zar, eqPtr, zae, zaf, zab, zaa, zac, zad , g0, g1, Int.toNat_natCast, hb1, hbw]
                refine vput_spec (p := p) (o := o2) (w := 8) (by omega) ?_ m1 _ fun H3 o3 n1 n2 n3 => ?_
                · rw [zai, zai, bitsOf_length, textPre_length _ _ (by omega)]; omega
                · rw [hu8] at n1
                  simp only [↓yaa, ↓yab, ↓yac, ↓yad, ↓yae, ↓yaf, ↓yag, ↓yah, ↓yai, ↓yaj, ↓yak, ↓yal, ↓yam, ↓yan, ↓yao, ↓yap, ↓yaq, ↓yar, ↓yas, ↓yat, ↓yau, ↓yav, ↓yaw, ↓yax, yay, yaz, yba, ybb, ybc, ybd, ybe, ybf, ybg, ybh, ybi, ybj, ybk, ybl, ybm, ybn, ybo, ybp, ybq, ybr, ybs, ybt, ybu, ybv, ares, tup, ybw, ybx, yby, argsE, dval, aop, ev, evs, evo, evp, fillL, addrOf, intOf?, ybz, yca, ycb, ycc, ycd, yce, ycf, zah, zag, reduceIte, Nat.reduceEqDiff, ycg, ych, yci, ycj, yck, ycl, ycm, ycn, yco, ycp, ycq, ycr, zap, zao, reduceCtorEq, zbb, zbc, zba, zaz, Nat.reduceAdd, Nat.reduceMul, zaq, zar, eqPtr, zae, zaf, zab, zaa, zac, zad , g2]
                  refine ⟨j, by omega, by omega, rfl, o3, ?_, m2.trans n2 ?_, fun q hq => ?_⟩
                  · rw [show t.size - j = t.size - (j + 1) + 1 by omega, textPre_succ t _ b hb2]
                    simpa using n1
                  · intro i hi
                    rcases List.mem_cons.1 hi with rfl | hi
                    · left; simp
                    · rcases m3 i (by simpa [Option.mem_toList] using hi) with h5 | h5
                      · left; simp [h5]
                      · right; exact h5
                  · rcases n3 q hq with h5 | h5
                    · exact m3 q h5
                    · right; have := m2.1; omega
  · simp only [F46, ↓yaa, ↓yab, ↓yac, ↓yad, ↓yae, ↓yaf, ↓yag, ↓yah, ↓yai, ↓yaj, ↓yak, ↓yal, ↓yam, ↓yan, ↓yao, ↓yap, ↓yaq, ↓yar, ↓yas, ↓yat, ↓yau, ↓yav, ↓yaw, ↓yax, yay, yaz, yba, ybb, ybc, ybd, ybe, ybf, ybg, ybh, ybi, ybj, ybk, ybl, ybm, ybn, ybo, ybp, ybq, ybr, ybs, ybt, ybu, ybv, ares, tup, ybw, ybx, yby, argsE, dval, aop, ev, evs, evo, evp, fillL, addrOf, intOf?, ybz, yca, ycb, ycc, ycd, yce, ycf, zah, zag, reduceIte, Nat.reduceEqDiff, ycg, ych, yci, ycj, yck, ycl, ycm, ycn, yco, ycp, ycq, ycr, zap, zao, reduceCtorEq, zbb, zbc, zba, zaz, Nat.reduceAdd, Nat.reduceMul, zaq, zar, eqPtr, zae, zaf, zab, zaa, zac, zad , hload, hstore, zal, zam, Nat.reduceAdd, Nat.reduceLeDiff, zbb, zas, zat, one, zau, zaw, zav, splice, zaj, zak, zab, zaa, ycs, yct, ycu, ycv, ycw, ycx, ycy, ycz, zan, zai, zax, zay, and_self, true_and, and_true, lenV, yda, Nat.le_refl, if_true , hp, h1, ne_eq, not_false_eq_true]
    exact hk.done (s := s) (by simp [WS.text, h1]) h (Frm.refl _ _)

theorem VWrote.push {H : Heap} {p : Nat} {o : Option Nat} {s : WS} {K : Value → Heap → Prop} (b : Option Blk) (h : VWrote H p o s K) : VWrote (H ++ [b]) p o s (fun _ H1 => K (.tuple #[]) H1) := by
  intro H' o' k1 k2 k3
  refine h H' o' k1 (((Frm.refl _ _).push b).trans k2 (fun i hi => .inl hi)) fun q hq => ?_
  rcases k3 q hq with k | k
  · exact .inl k
  · right; rw [zai] at k; omega


end Go.Proofs.Ytejcabdejoameaa.AI

/- What is written as bits is read as the same number. -/
set_option linter.unusedSimpArgs false
namespace Go.Proofs.Ytejcabdejoameaa.AI
open Go

theorem bitsOf_get : ∀ (w n i : Nat), i < w → (bitsOf w n)[i]? = some (n.testBit (w - 1 - i)) := by
  intro w
  induction w with
  | zero => intro n i h; omega
  | succ w ih =>
    intro n i h
    cases i with
    | zero => simp [bitsOf]
    | succ i =>
      simp only [bitsOf, zaa]
      rw [ih n i (by omega)]
      congr 2; omega

theorem strOf_size (d : List Nat) : (strOf d).size = d.length := by
  show (d.map UInt8.ofNat).toArray.size = _
  simp
theorem sbit_of {bs : List Bool} {s : ByteArray} (h : IsStr bs s) {i : Nat} (hi : i < 8 * s.size) : sbit s i = bs.getD i false := by
  obtain ⟨d, hb, hd, rfl⟩ := h
  rw [strOf_size] at hi
  have hlt : i / 8 < d.length := by omega
  have h1 : (strOf d)[i / 8]? = some (UInt8.ofNat d[i / 8]) := by
    rw [getElem?_pos (strOf d) (i / 8) (by rw [strOf_size]; exact hlt)]
    show some ((d.map UInt8.ofNat).toArray[i / 8]'(by simpa using hlt)) = _
    simp
  have h2 := hb.small _ (List.getElem_mem hlt)
  have h3 := hb.bit (i / 8) _ (List.getElem?_eq_getElem hlt) (i % 8) (by omega)
  unfold sbit
  rw [h1]
  simp only [zah, Option.getD_some]
  rw [show (UInt8.ofNat d[i / 8]).toNat = d[i / 8] by rw [UInt8.toNat_ofNat']; omega, h3, show 8 * (i / 8) + i % 8 = i by omega]

theorem valOf_bits {s : ByteArray} {a w n : Nat} (h : ∀ i, i < w → sbit s (a + i) = n.testBit (w - 1 - i)) : ∀ j, j ≤ w → valOf s a j = n / 2 ^ (w - j) % 2 ^ j := by
  intro j
  induction j with
  | zero => intro _; simp [valOf, Nat.mod_one]
  | succ j ih =>
    intro hj
    rw [valOf, ih (by omega), h j (by omega), ← testBit_mod]
    have e1 : w - j = (w - (j + 1)) + 1 := by omega
    have e2 : w - 1 - j = w - (j + 1) := by omega
    rw [e1, e2, Nat.pow_succ, ← Nat.div_div_eq_div_mul]
    generalize n / 2 ^ (w - (j + 1)) = m
    rw [Nat.pow_succ, Nat.mul_comm (2 ^ j) 2, Nat.mod_mul]
    omega
theorem valOf_read {s : ByteArray} {bs : List Bool} (h : IsStr bs s) {a w n : Nat} (hlen : a + w ≤ 8 * s.size) (hbs : ∀ i, i < w → bs.getD (a + i) false = n.testBit (w - 1 - i)) : valOf s a w = n % 2 ^ w := by
  have := valOf_bits (s := s) (a := a) (w := w) (n := n) (fun i hi => by rw [sbit_of h (by omega), hbs i hi]) w (Nat.le_refl _)
  simpa using this
theorem bitsOf_mod (w n m : Nat) (h : n % 2 ^ w = m % 2 ^ w) : bitsOf w n = bitsOf w m := by
  apply List.ext_getElem?
  intro i
  by_cases hi : i < w
  · rw [bitsOf_get _ _ _ hi, bitsOf_get _ _ _ hi]
    congr 1
    have h1 := Nat.testBit_mod_two_pow n w (w - 1 - i)
    have h2 := Nat.testBit_mod_two_pow m w (w - 1 - i)
    rw [h] at h1
    rw [h1] at h2
    have : decide (w - 1 - i < w) = true := by simp; omega
    rw [this] at h2
    simpa using h2
  · rw [List.getElem?_eq_none (by rw [bitsOf_length]; omega), List.getElem?_eq_none (by rw [bitsOf_length]; omega)]

end Go.Proofs.Ytejcabdejoameaa.AI

/- How the law reads a field. -/
set_option linter.unusedSimpArgs false
namespace Go.Proofs.Ytejcabdejoameaa.AI
open Go

theorem take4 (a b c d : Value) : List.take 4 (List.drop 0 [a, b, c, d]) = [a, b, c, d] := rfl
theorem size4 (a b c d : Value) : (#[a, b, c, d] : Array Value).size = 4 := rfl
theorem list4 (a b c d : Value) : [a, b, c, d].toArray = #[a, b, c, d] := rfl


end Go.Proofs.Ytejcabdejoameaa.AI

/- Lists of fields, and whether they are few and short. -/
set_option linter.unusedSimpArgs false
namespace Go.Proofs.Ytejcabdejoameaa.AI
open Go

def flat (l : List Fld) : List Value := (l.map Fld.cells).flatten
theorem flat_length (l : List Fld) : (flat l).length = 4 * l.length := by
  induction l with
  | nil => rfl
  | cons f l ih => simp only [flat, List.map_cons, List.flatten_cons, zai, zal] at ih ⊢; rw [ih]; simp [Fld.cells]; omega
theorem flat_get : ∀ (l : List Fld) (i : Nat) (f : Fld), l[i]? = some f → List.take 4 (List.drop (i * 4) (flat l)) = f.cells := by
  intro l
  induction l with
  | nil => intro i f h; simp at h
  | cons g l ih =>
    intro i f h
    cases i with
    | zero => simp at h; subst h; simp [flat, Fld.cells]
    | succ i =>
      have := ih i f (by simpa using h)
      rw [← this]
      rw [show (i + 1) * 4 = i * 4 + 4 by omega]
      rfl

/-- A list of fields, as an argument. -/
def LA (H : Heap) (v : Value) (l : List Fld) : Prop := (v = .slice none 0 0 ∧ l = []) ∨ ∃ b, v = .slice (some ⟨b, 0, none⟩) l.length 4 ∧ (l = [] ∨ hget H b = some ⟨false, flat l⟩)
/-- The list stays where its block is not written. -/
def LAout (v : Value) (O : List Nat) : Prop := ∀ b n z, v = .slice (some ⟨b, 0, none⟩) n z → b ∉ O

def fewB (l : List Fld) : Bool := decide (l.length ≤ 40) && l.all fun f => decide (f.s.size ≤ 200)


end Go.Proofs.Ytejcabdejoameaa.AI

/- The chapter's example is answered with true. -/
namespace Go.Proofs.Ytejcabdejoameaa.AI
open Go

theorem awake_ac : ac tbl 400 109 [] [] = some (.bool true, []) := by kernel_rfl
theorem awake0 : AC tbl 109 [] [] = some (.bool true, []) := ac_AC tbl 400 _ _ _ _ awake_ac
theorem awake_any (H : Heap) : AC tbl 109 [] H = some (.bool true, H) := AC_iso (F := F109) rfl (by decide) rfl rfl rfl awake0 H

end Go.Proofs.Ytejcabdejoameaa.AI

/- What the laws over lists of fields share. -/
set_option linter.unusedSimpArgs false
namespace Go.Proofs.Ytejcabdejoameaa.AI
open Go

theorem binV_sne (s : ByteArray) : binV .neq (.string s) (.string s) = some (.bool false) := by
  simp only [binV, Op.stringOp]; simp [bne]; rfl

/-- A list's block stays below N. -/
def LB (H : Heap) (b : Option Addr) (z : Nat) (l : List Fld) (N : Nat) : Prop := ∀ (i : Nat) (f : Fld), l[i]? = some f → ∃ q, b = some ⟨q, 0, none⟩ ∧ z = 4 ∧ q < N ∧ hget H q = some ⟨false, flat l⟩
theorem LB.frame {H H' : Heap} {b : Option Addr} {z : Nat} {l : List Fld} {N : Nat} (h : LB H b z l N) {O : List Nat} (f : Frm O H H') (hO : ∀ i ∈ O, N ≤ i) : LB H' b z l N := by
  intro i x hx
  obtain ⟨q, h1, h2, h3, h4⟩ := h i x hx
  refine ⟨q, h1, h2, h3, ?_⟩
  rw [f.2 q (hget_lt h4) (fun hm => by have := hO q hm; omega)]; exact h4
theorem LA.lb {H : Heap} {v : Value} {l : List Fld} (h : LA H v l) : ∃ b z, v = .slice b l.length z ∧ LB H b z l H.length := by
  rcases h with ⟨rfl, rfl⟩ | ⟨b, rfl, hb⟩
  · exact ⟨none, 0, rfl, fun i f hi => by simp at hi⟩
  · refine ⟨_, _, rfl, fun i f hi => ⟨b, rfl, rfl, ?_⟩⟩
    rcases hb with rfl | hb
    · simp at hi
    · exact ⟨hget_lt hb, hb⟩

/-- Behind an error nothing is read. -/
theorem field_err {r : RS} (h : r.err ≠ 0) (right : Bool) (w : Int) : r.field right w = (0, r) := by simp [RS.field, h]
theorem read_err {r : RS} (h : r.err ≠ 0) (f : Fld) : (r.read f).2 = r ∧ (r.read f).1.kind = f.kind ∧ (0 ≤ f.kind → f.kind ≤ 3 → (r.read f).1.n = 0 ∧ (r.read f).1.s = ⟨#[]⟩) := by
  unfold RS.read
  split
  · simp [RS.unsigned, field_err h]
  · split
    · simp [RS.signed, field_err h, h]
    · split
      · simp [RS.flag, field_err h]
      · split
        · simp [RS.text, field_err h, h]
        · rename_i h0 h1 h2 h3
          exact ⟨rfl, rfl, fun a b => by omega⟩
theorem unsigned_ok {r : RS} (h : r.Ok) (w : Int) : (r.unsigned w).2.Ok := RS.field_ok h fun hr => by simp at hr; omega
theorem signed_ok {r : RS} (h : r.Ok) (w : Int) : (r.signed w).2.Ok := RS.field_ok h fun hr => by simp at hr; omega
theorem flag_ok {r : RS} (h : r.Ok) : r.flag.2.Ok := RS.field_ok h fun hr => by omega
theorem text_ok {r : RS} (h : r.Ok) (w : Int) : (r.text w).2.Ok := by
  have h1 := RS.field_ok h (right := lim w) (w := (wd w : Int)) (fun _ => by omega)
  unfold RS.text
  generalize r.field (lim w) (wd w) = x at *
  obtain ⟨n, r'⟩ := x
  simp only at h1 ⊢
  split
  · exact h1
  · split
    · exact ⟨h1.at_le, h1.size⟩
    · split
      · exact ⟨h1.at_le, h1.size⟩
      · rename_i h2 h3 h4
        simp only [RS.left, if_pos (Classical.not_not.1 h2)] at h4
        have := h1.at_le
        exact ⟨by simp only; omega, h1.size⟩
theorem read_ok {r : RS} (h : r.Ok) (f : Fld) : (r.read f).2.Ok := by
  unfold RS.read
  split
  · exact unsigned_ok h _
  · split
    · exact signed_ok h _
    · split
      · exact flag_ok h
      · split
        · exact text_ok h _
        · exact h

end Go.Proofs.Ytejcabdejoameaa.AI

/- BitioSigned in the interpreter. -/
set_option linter.unusedSimpArgs false
namespace Go.Proofs.Ytejcabdejoameaa.AI
open Go

theorem binV_seq (s : ByteArray) : binV .eql (.string s) (.string s) = some (.bool true) := by
  simp only [binV, Op.stringOp]; simp; rfl
theorem pow_cast (k : Nat) : (2 : Int) ^ k = ((2 ^ k : Nat) : Int) := by push_cast; rfl
theorem pow_dvd_pow_int {k j : Nat} (h : k ≤ j) : (2 : Int) ^ k ∣ 2 ^ j := ⟨2 ^ (j - k), by rw [← Int.pow_add]; congr 1; omega⟩
theorem u64_mod (n : Int) {k : Nat} (hk : k ≤ 64) : (((u64 n % 2 ^ k : Nat)) : Int) = n % 2 ^ k := by
  unfold u64
  have h0 : (0 : Int) ≤ n % 18446744073709551616 := by omega
  rw [Int.natCast_emod, Int.toNat_of_nonneg h0, ← pow_cast]
  exact Int.emod_emod_of_dvd n (by rw [show (18446744073709551616 : Int) = 2 ^ 64 by decide]; exact pow_dvd_pow_int hk)

/-- A number and its rest. -/
theorem signed_back {n : Int} {m : Nat} (h1 : -2 ^ m ≤ n) (h2 : n < 2 ^ m) : (if (2 : Int) ^ m ≤ n % 2 ^ (m + 1) then n % 2 ^ (m + 1) - 2 ^ (m + 1) else n % 2 ^ (m + 1)) = n := by
  have hp : (2 : Int) ^ (m + 1) = 2 * 2 ^ m := by rw [Int.pow_succ]; omega
  have hq := pow_pos' m
  rw [hp]
  generalize (2 : Int) ^ m = q at *
  by_cases h : 0 ≤ n
  · have : n % (2 * q) = n := Int.emod_eq_of_lt h (by omega)
    rw [this, if_neg (by omega)]
  · have : n % (2 * q) = n + 2 * q := by
      have h3 : (n + 2 * q) % (2 * q) = n % (2 * q) := by simp
      rw [← h3]; exact Int.emod_eq_of_lt (by omega) (by omega)
    rw [this, if_pos (by omega)]; omega

theorem read_back {n : Int} {m : Nat} {s : ByteArray} (hm : 1 ≤ m ∧ m ≤ 61) (h1 : -2 ^ m ≤ n) (h2 : n < 2 ^ m) (hs : IsStr (bitsOf (m + 1) (u64 n)) s) : newR s = ⟨s, 0, 0⟩ ∧ ((⟨s, 0, 0⟩ : RS).signed ((m + 1 : Nat) : Int)).1 = n := by
  have hsz : s.size = (m + 1 + 7) / 8 := by
    obtain ⟨d, _, hd, rfl⟩ := hs
    rw [strOf_size, hd, bitsOf_length]
  have hnr : newR s = ⟨s, 0, 0⟩ := by unfold newR; rw [if_neg (by omega)]
  refine ⟨hnr, ?_⟩
  have hv : valOf s 0 (m + 1) = u64 n % 2 ^ (m + 1) := valOf_read hs (by omega) (fun i hi => by
    rw [zaz, List.getD_eq_getElem?_getD, bitsOf_get _ _ _ hi]; rfl)
  have hf : (⟨s, 0, 0⟩ : RS).field true ((m + 1 : Nat) : Int) = (u64 n % 2 ^ (m + 1), ⟨s, m + 1, 0⟩) := by
    unfold RS.field
    rw [if_neg (by simp), if_neg (by simp), if_neg (by simp [RS.left]; omega)]
    simp only [Int.toNat_natCast, hv, zaz]
  have hd : decide ((2 : Int) ≤ ((m + 1 : Nat) : Int) ∧ ((m + 1 : Nat) : Int) ≤ 63) = true := by simp; omega
  have hmod := u64_mod n (k := m + 1) (by omega)
  have hb := signed_back h1 h2
  simp only [RS.signed, hd, hf, Int.toNat_natCast, Nat.add_sub_cancel, true_and]
  rw [← hmod] at hb
  have hc : (2 : Int) ^ m ≤ ((u64 n % 2 ^ (m + 1) : Nat) : Int) ↔ 2 ^ m ≤ u64 n % 2 ^ (m + 1) := by rw [pow_cast]; omega
  by_cases h : 2 ^ m ≤ u64 n % 2 ^ (m + 1)
  · rw [if_pos (hc.2 h)] at hb; rw [if_pos h]; exact hb
  · rw [if_neg (fun hh => h (hc.1 hh))] at hb; rw [if_neg h]; exact hb


end Go.Proofs.Ytejcabdejoameaa.AI

/- Fields as bits: what is written, what is read. -/
set_option linter.unusedSimpArgs false
namespace Go.Proofs.Ytejcabdejoameaa.AI
open Go

/-- Some of a string's bits. -/
def seg (s : ByteArray) (a n : Nat) : List Bool := (List.range n).map fun i => sbit s (a + i)
theorem seg_length (s : ByteArray) (a n : Nat) : (seg s a n).length = n := by simp [seg]
theorem seg_get {s : ByteArray} {a n i : Nat} (h : i < n) : (seg s a n)[i]? = some (sbit s (a + i)) := by simp [seg, h]
theorem seg_append (s : ByteArray) (a n m : Nat) : seg s a (n + m) = seg s a n ++ seg s (a + n) m := by
  unfold seg
  rw [List.range_add, List.map_append, List.map_map]
  congr 1
  apply List.map_congr_left
  intro i _
  simp [Nat.add_assoc]
theorem seg_zero (s : ByteArray) (a : Nat) : seg s a 0 = [] := rfl

theorem valOf_testBit (s : ByteArray) (a : Nat) : ∀ (w i : Nat), i < w → (valOf s a w).testBit (w - 1 - i) = sbit s (a + i) := by
  intro w
  induction w with
  | zero => intro i h; omega
  | succ w ih =>
    intro i h
    have hb : (sbit s (a + w)).toNat < 2 := by cases sbit s (a + w) <;> simp
    by_cases hi : i = w
    · subst hi
      rw [show i + 1 - 1 - i = 0 by omega, valOf, Nat.testBit_zero]
      cases sbit s (a + i) <;> simp <;> omega
    · rw [show w + 1 - 1 - i = (w - 1 - i) + 1 by omega, valOf, Nat.testBit_succ, ← ih i (by omega)]
      congr 1; omega
theorem bits_val (s : ByteArray) (a w : Nat) : bitsOf w (valOf s a w) = seg s a w := by
  apply List.ext_getElem?
  intro i
  by_cases hi : i < w
  · rw [bitsOf_get _ _ _ hi, seg_get hi, valOf_testBit s a w i hi]
  · rw [List.getElem?_eq_none (by rw [bitsOf_length]; omega), List.getElem?_eq_none (by rw [seg_length]; omega)]
theorem val_seg {s : ByteArray} {a w n : Nat} (h : seg s a w = bitsOf w n) : valOf s a w = n % 2 ^ w := by
  have := valOf_bits (s := s) (a := a) (w := w) (n := n) (fun i hi => by
    have h1 := seg_get (s := s) (a := a) hi
    rw [h, bitsOf_get _ _ _ hi] at h1
    exact (Option.some.inj h1).symm) w (Nat.le_refl _)
  simpa using this

/-- A text's bytes as numbers. -/
def nums (t : ByteArray) : List Nat := t.data.toList.map UInt8.toNat
theorem strOf_nums (t : ByteArray) : strOf (nums t) = t := by
  have h : (nums t).map UInt8.ofNat = t.data.toList := by
    unfold nums; rw [List.map_map]
    conv => rhs; rw [← List.map_id t.data.toList]
    apply List.map_congr_left
    intro b _; simp
  unfold strOf; rw [h]
theorem nums_strOf {d : List Nat} (h : ∀ x ∈ d, x < 256) : nums (strOf d) = d := by
  unfold nums strOf
  simp only [List.map_map]
  conv => rhs; rw [← List.map_id d]
  apply List.map_congr_left
  intro x hx
  have := h x hx
  simp; omega
theorem textBits_nums (t : ByteArray) : textBits t = ((nums t).map fun x => bitsOf 8 x).flatten := by
  unfold textBits nums; rw [List.map_map]; rfl
theorem nums_length (t : ByteArray) : (nums t).length = t.size := by unfold nums; rw [List.length_map, size_list]
theorem flat8_seg (s : ByteArray) (a : Nat) : ∀ n, ((readL s a n).map fun x => bitsOf 8 x).flatten = seg s a (8 * n) := by
  intro n
  induction n with
  | zero => rfl
  | succ n ih =>
    rw [readL_succ, List.map_append, List.flatten_append, ih, show 8 * (n + 1) = 8 * n + 8 by omega, seg_append]
    simp [bits_val]
theorem textBits_read (s : ByteArray) (a n : Nat) : textBits (strOf (readL s a n)) = seg s a (8 * n) := by
  rw [textBits_nums, nums_strOf (readL_small s a n), flat8_seg]
theorem textBits_length (t : ByteArray) : (textBits t).length = 8 * t.size := by
  rw [← textPre_all, textPre_length _ _ (Nat.le_refl _)]
theorem flat8_inj : ∀ {x y : List Nat}, (∀ v ∈ x, v < 256) → (∀ v ∈ y, v < 256) → x.length = y.length → (x.map fun v => bitsOf 8 v).flatten = (y.map fun v => bitsOf 8 v).flatten → x = y := by
  intro x
  induction x with
  | nil => intro y _ _ hl _; exact (List.eq_nil_of_length_eq_zero hl.symm).symm
  | cons a x ih =>
    intro y hx hy hl h
    cases y with
    | nil => simp at hl
    | cons b y =>
      simp only [List.map_cons, List.flatten_cons] at h
      have h1 := List.append_inj h (by rw [bitsOf_length, bitsOf_length])
      have h2 := ih (fun v hv => hx v (List.mem_cons_of_mem _ hv)) (fun v hv => hy v (List.mem_cons_of_mem _ hv)) (by simpa using hl) h1.2
      have ha := hx a List.mem_cons_self
      have hb := hy b List.mem_cons_self
      have : a = b := by
        apply Nat.eq_of_testBit_eq
        intro i
        by_cases hi : i < 8
        · have e1 := bitsOf_get 8 a (7 - i) (by omega)
          have e2 := bitsOf_get 8 b (7 - i) (by omega)
          rw [h1.1, e2] at e1
          have := Option.some.inj e1
          rw [show 8 - 1 - (7 - i) = i by omega] at this
          exact this.symm
        · rw [Nat.testBit_lt_two_pow (Nat.lt_of_lt_of_le ha (by calc 256 = 2 ^ 8 := by decide
                _ ≤ 2 ^ i := Nat.pow_le_pow_right (by omega) (by omega))), Nat.testBit_lt_two_pow (Nat.lt_of_lt_of_le hb (by calc 256 = 2 ^ 8 := by decide
                _ ≤ 2 ^ i := Nat.pow_le_pow_right (by omega) (by omega)))]
      rw [this, h2]
theorem nums_small (t : ByteArray) : ∀ x ∈ nums t, x < 256 := by
  intro x hx
  simp only [nums, List.mem_map] at hx
  obtain ⟨b, _, rfl⟩ := hx
  exact b.toNat_lt
theorem read_text {s t : ByteArray} {a : Nat} (h : seg s a (8 * t.size) = textBits t) : strOf (readL s a t.size) = t := by
  have : readL s a t.size = nums t := by
    apply flat8_inj (readL_small _ _ _) (nums_small t) (by rw [readL_length, nums_length])
    rw [flat8_seg, h, textBits_nums]
  rw [this, strOf_nums]

end Go.Proofs.Ytejcabdejoameaa.AI

/- The reference reader. -/
set_option linter.unusedSimpArgs false
namespace Go.Proofs.Ytejcabdejoameaa.AI
open Go

/-- What the reference reader has where the reader has this: nothing is left behind an error. -/
def RS.x (r : RS) : RS := if r.err = 0 then r else ⟨⟨#[]⟩, 0, r.err⟩
theorem RS.x_ok {r : RS} (h : r.err = 0) : r.x = r := if_pos h
theorem RS.x_err {r : RS} : r.x.err = r.err := by unfold RS.x; split <;> rfl
theorem RS.x_bad {r : RS} (h : r.err ≠ 0) : r.x = ⟨⟨#[]⟩, 0, r.err⟩ := if_neg h

theorem or64I (n : Nat) (b : Bool) (h : 2 * n + 1 < 9223372036854775808) : binV .or (.int .i64 ((2 * n : Nat) : Int)) (.int .i64 (b.toNat : Int)) = some (.int .i64 ((2 * n + b.toNat : Nat) : Int)) := by
  have hb : b.toNat ≤ 1 := by cases b <;> simp
  rw [binV_or]
  have : (BitVec.ofInt IntKind.i64.bits ((2 * n : Nat) : Int) ||| BitVec.ofInt IntKind.i64.bits (b.toNat : Int)).toNat = 2 * n + b.toNat := by
    rw [BitVec.toNat_or]
    simp only [BitVec.toNat_ofInt, IntKind.bits]
    have e1 : (((2 * n : Nat) : Int) % ((2 ^ 64 : Nat) : Int)).toNat = 2 * n := by
      rw [show ((2 ^ 64 : Nat) : Int) = 18446744073709551616 by decide]; omega
    have e2 : ((b.toNat : Int) % ((2 ^ 64 : Nat) : Int)).toNat = b.toNat := by
      rw [show ((2 ^ 64 : Nat) : Int) = 18446744073709551616 by decide]; omega
    rw [e1, e2]
    have := Nat.two_pow_add_eq_or_of_lt (i := 1) (b := b.toNat) (by omega) n
    simpa using this.symm
  rw [this, wrap_i64 (by omega) (by omega)]
theorem shlI1 (n : Nat) (h : 2 * n < 9223372036854775808) : binV .shl (.int .i64 (n : Int)) (.int .u64 1) = some (.int .i64 ((2 * n : Nat) : Int)) := by
  have : (2 : Int) ^ min (Int.toNat 1) IntKind.i64.bits = 2 := by rfl
  rw [binV_shl _ _ _ _ (by omega), this, wrap_i64 (by omega) (by omega)]; congr 2; omega

theorem xfail_spec {H : Heap} {p : Nat} {r : RS} {e : Int} (h : RSt H p r) : AC tbl 52 [.pointer (some ⟨p, 0, none⟩), .int .i64 e] H = some (.tuple #[], setR H p ⟨⟨#[]⟩, 0, e⟩) := by
  apply AC_eq
  apply AC_wp (F := F52) rfl (by simp [F52]) (.inl rfl)
  have hp := cells_get h
  have hpl := h.lt
  simp only [F52, ↓yaa, ↓yab, ↓yac, ↓yad, ↓yae, ↓yaf, ↓yag, ↓yah, ↓yai, ↓yaj, ↓yak, ↓yal, ↓yam, ↓yan, ↓yao, ↓yap, ↓yaq, ↓yar, ↓yas, ↓yat, ↓yau, ↓yav, ↓yaw, ↓yax, yay, yaz, yba, ybb, ybc, ybd, ybe, ybf, ybg, ybh, ybi, ybj, ybk, ybl, ybm, ybn, ybo, ybp, ybq, ybr, ybs, ybt, ybu, ybv, ares, tup, ybw, ybx, yby, argsE, dval, aop, ev, evs, evo, evp, fillL, addrOf, intOf?, ybz, yca, ycb, ycc, ycd, yce, ycf, zah, zag, reduceIte, Nat.reduceEqDiff, ycg, ych, yci, ycj, yck, ycl, ycm, ycn, yco, ycp, ycq, ycr, zap, zao, reduceCtorEq, zbb, zbc, zba, zaz, Nat.reduceAdd, Nat.reduceMul, zaq, zar, eqPtr, zae, zaf, zab, zaa, zac, zad , hload, hstore, zal, zam, Nat.reduceAdd, Nat.reduceLeDiff, zbb, zas, zat, one, zau, zaw, zav, splice, zaj, zak, zab, zaa, ycs, yct, ycu, ycv, ycw, ycx, ycy, ycz, zan, zai, zax, zay, and_self, true_and, and_true, lenV, yda, Nat.le_refl, if_true , hp, yen, hpl, List.set_set]
  all_goals (first | rfl | exact ⟨rfl, rfl⟩ | exact ⟨rfl, trivial⟩ | exact ⟨trivial, trivial⟩ | exact ⟨trivial, rfl⟩ | trivial)
theorem xleft_spec {H : Heap} {p : Nat} {r : RS} (h : RSt H p r.x) (ho : r.Ok) : AC tbl 34 [.pointer (some ⟨p, 0, none⟩)] H = some (.int .i64 r.left, H) := by
  apply AC_eq
  apply AC_wp (F := F34) rfl (by simp [F34]) (.inl rfl)
  have hp := cells_get h
  have h1 := ho.at_le
  have h2 := ho.size
  by_cases h3 : r.err = 0
  · rw [RS.x_ok h3] at hp
    have w1 : IntKind.i64.wrap (8 * (r.s.size : Int)) = 8 * (r.s.size : Int) := wrap_i64 (by omega) (by omega)
    have w2 : IntKind.i64.wrap (8 * (r.s.size : Int) - (r.at_ : Int)) = 8 * (r.s.size : Int) - (r.at_ : Int) := wrap_i64 (by omega) (by omega)
    simp only [F34, ↓yaa, ↓yab, ↓yac, ↓yad, ↓yae, ↓yaf, ↓yag, ↓yah, ↓yai, ↓yaj, ↓yak, ↓yal, ↓yam, ↓yan, ↓yao, ↓yap, ↓yaq, ↓yar, ↓yas, ↓yat, ↓yau, ↓yav, ↓yaw, ↓yax, yay, yaz, yba, ybb, ybc, ybd, ybe, ybf, ybg, ybh, ybi, ybj, ybk, ybl, ybm, ybn, ybo, ybp, ybq, ybr, ybs, ybt, ybu, ybv, ares, tup, ybw, ybx, yby, argsE, dval, aop, ev, evs, evo, evp, fillL, addrOf, intOf?, ybz, yca, ycb, ycc, ycd, yce, ycf, zah, zag, reduceIte, Nat.reduceEqDiff, ycg, ych, yci, ycj, yck, ycl, ycm, ycn, yco, ycp, ycq, ycr, zap, zao, reduceCtorEq, zbb, zbc, zba, zaz, Nat.reduceAdd, Nat.reduceMul, zaq, zar, eqPtr, zae, zaf, zab, zaa, zac, zad , hload, hstore, zal, zam, Nat.reduceAdd, Nat.reduceLeDiff, zbb, zas, zat, one, zau, zaw, zav, splice, zaj, zak, zab, zaa, ycs, yct, ycu, ycv, ycw, ycx, ycy, ycz, zan, zai, zax, zay, and_self, true_and, and_true, lenV, yda, Nat.le_refl, if_true , hp, w1, w2, RS.left, h3]
  · rw [RS.x_bad h3] at hp
    have w1 : IntKind.i64.wrap (8 * (((⟨#[]⟩ : ByteArray).size : Nat) : Int)) = 0 := by decide
    have w2 : IntKind.i64.wrap (0 - ((0 : Nat) : Int)) = 0 := by decide
    simp only [F34, ↓yaa, ↓yab, ↓yac, ↓yad, ↓yae, ↓yaf, ↓yag, ↓yah, ↓yai, ↓yaj, ↓yak, ↓yal, ↓yam, ↓yan, ↓yao, ↓yap, ↓yaq, ↓yar, ↓yas, ↓yat, ↓yau, ↓yav, ↓yaw, ↓yax, yay, yaz, yba, ybb, ybc, ybd, ybe, ybf, ybg, ybh, ybi, ybj, ybk, ybl, ybm, ybn, ybo, ybp, ybq, ybr, ybs, ybt, ybu, ybv, ares, tup, ybw, ybx, yby, argsE, dval, aop, ev, evs, evo, evp, fillL, addrOf, intOf?, ybz, yca, ycb, ycc, ycd, yce, ycf, zah, zag, reduceIte, Nat.reduceEqDiff, ycg, ych, yci, ycj, yck, ycl, ycm, ycn, yco, ycp, ycq, ycr, zap, zao, reduceCtorEq, zbb, zbc, zba, zaz, Nat.reduceAdd, Nat.reduceMul, zaq, zar, eqPtr, zae, zaf, zab, zaa, zac, zad , hload, hstore, zal, zam, Nat.reduceAdd, Nat.reduceLeDiff, zbb, zas, zat, one, zau, zaw, zav, splice, zaj, zak, zab, zaa, ycs, yct, ycu, ycv, ycw, ycx, ycy, ycz, zan, zai, zax, zay, and_self, true_and, and_true, lenV, yda, Nat.le_refl, if_true , hp, w1, w2, RS.left, h3]
theorem xget_spec {H : Heap} {p : Nat} {r : RS} {w : Int} (h : RSt H p r.x) (ho : r.Ok) (hw : r.err = 0 → 0 ≤ w ∧ w ≤ 63) :
    AC tbl 53 [.pointer (some ⟨p, 0, none⟩), .int .i64 w] H = some (.int .i64 ((r.field true w).1 : Nat), setR H p (r.field true w).2.x) := by
  apply AC_eq
  apply AC_wp (F := F53) rfl (by simp [F53]) (.inl rfl)
  have hp := cells_get h
  have hpl := h.lt
  by_cases h1 : r.err = 0
  · obtain ⟨hw0, hw1⟩ := hw h1
    have hleft := xleft_spec h ho
    rw [RS.x_ok h1] at hp h
    by_cases h2 : r.left < w
    · have hf : r.field true w = (0, { r with err := 9 }) := by simp [RS.field, h1, h2]
      have hx : ({ r with err := 9 } : RS).x = ⟨⟨#[]⟩, 0, 9⟩ := RS.x_bad (by simp)
      simp only [F53, ↓yaa, ↓yab, ↓yac, ↓yad, ↓yae, ↓yaf, ↓yag, ↓yah, ↓yai, ↓yaj, ↓yak, ↓yal, ↓yam, ↓yan, ↓yao, ↓yap, ↓yaq, ↓yar, ↓yas, ↓yat, ↓yau, ↓yav, ↓yaw, ↓yax, yay, yaz, yba, ybb, ybc, ybd, ybe, ybf, ybg, ybh, ybi, ybj, ybk, ybl, ybm, ybn, ybo, ybp, ybq, ybr, ybs, ybt, ybu, ybv, ares, tup, ybw, ybx, yby, argsE, dval, aop, ev, evs, evo, evp, fillL, addrOf, intOf?, ybz, yca, ycb, ycc, ycd, yce, ycf, zah, zag, reduceIte, Nat.reduceEqDiff, ycg, ych, yci, ycj, yck, ycl, ycm, ycn, yco, ycp, ycq, ycr, zap, zao, reduceCtorEq, zbb, zbc, zba, zaz, Nat.reduceAdd, Nat.reduceMul, zaq, zar, eqPtr, zae, zaf, zab, zaa, zac, zad , hload, hstore, zal, zam, Nat.reduceAdd, Nat.reduceLeDiff, zbb, zas, zat, one, zau, zaw, zav, splice, zaj, zak, zab, zaa, ycs, yct, ycu, ycv, ycw, ycx, ycy, ycz, zan, zai, zax, zay, and_self, true_and, and_true, lenV, yda, Nat.le_refl, if_true , hp, h1, ne_eq, not_true_eq_false, hleft, h2, xfail_spec h, hf, hx]
      all_goals (first | rfl | exact ⟨rfl, rfl⟩ | exact ⟨rfl, trivial⟩ | exact ⟨trivial, trivial⟩ | exact ⟨trivial, rfl⟩ | trivial)
    · obtain ⟨m, rfl⟩ : ∃ m : Nat, w = m := ⟨w.toNat, by omega⟩
      have hf : r.field true (m : Int) = (valOf r.s r.at_ m, { r with at_ := r.at_ + m }) := by simp [RS.field, h1, h2]
      have hx : ({ r with at_ := r.at_ + m } : RS).x = { r with at_ := r.at_ + m } := RS.x_ok h1
      have h3 : r.at_ + m ≤ 8 * r.s.size := by
        simp only [RS.left, if_pos h1] at h2; omega
      have hs := ho.size
      have hx0 : (⟨r.s, r.at_ + m, 0⟩ : RS).x = ⟨r.s, r.at_ + m, r.err⟩ := by rw [RS.x_ok rfl, h1]
      rw [hf]
      simp only [F53, ↓yaa, ↓yab, ↓yac, ↓yad, ↓yae, ↓yaf, ↓yag, ↓yah, ↓yai, ↓yaj, ↓yak, ↓yal, ↓yam, ↓yan, ↓yao, ↓yap, ↓yaq, ↓yar, ↓yas, ↓yat, ↓yau, ↓yav, ↓yaw, ↓yax, yay, yaz, yba, ybb, ybc, ybd, ybe, ybf, ybg, ybh, ybi, ybj, ybk, ybl, ybm, ybn, ybo, ybp, ybq, ybr, ybs, ybt, ybu, ybv, ares, tup, ybw, ybx, yby, argsE, dval, aop, ev, evs, evo, evp, fillL, addrOf, intOf?, ybz, yca, ycb, ycc, ycd, yce, ycf, zah, zag, reduceIte, Nat.reduceEqDiff, ycg, ych, yci, ycj, yck, ycl, ycm, ycn, yco, ycp, ycq, ycr, zap, zao, reduceCtorEq, zbb, zbc, zba, zaz, Nat.reduceAdd, Nat.reduceMul, zaq, zar, eqPtr, zae, zaf, zab, zaa, zac, zad , hload, hstore, zal, zam, Nat.reduceAdd, Nat.reduceLeDiff, zbb, zas, zat, one, zau, zaw, zav, splice, zaj, zak, zab, zaa, ycs, yct, ycu, ycv, ycw, ycx, ycy, ycz, zan, zai, zax, zay, and_self, true_and, and_true, lenV, yda, Nat.le_refl, if_true , hp, h1, ne_eq, not_true_eq_false, hleft, h2, hx]
      apply AW_loop_inv (fun j e H1 => j ≤ m ∧ e = [(0, .pointer (some ⟨p, 0, none⟩)), (1, .int .i64 (m : Int)), (5, .int .i64 (valOf r.s r.at_ (m - j) : Nat)), (6, .int .i64 ((m - j : Nat) : Int))] ∧ H1 = setR H p { r with at_ := r.at_ + (m - j) }) _ m
      · refine ⟨Nat.le_refl _, by rw [Nat.sub_self]; rfl, ?_⟩
        rw [Nat.sub_self]; exact (setR_same h).symm
      · rintro j e H1 ⟨hj, rfl, rfl⟩
        cases j with
        | zero =>
          have g0 : ¬ (m : Int) < (m : Int) := by omega
          simp only [↓yaa, ↓yab, ↓yac, ↓yad, ↓yae, ↓yaf, ↓yag, ↓yah, ↓yai, ↓yaj, ↓yak, ↓yal, ↓yam, ↓yan, ↓yao, ↓yap, ↓yaq, ↓yar, ↓yas, ↓yat, ↓yau, ↓yav, ↓yaw, ↓yax, yay, yaz, yba, ybb, ybc, ybd, ybe, ybf, ybg, ybh, ybi, ybj, ybk, ybl, ybm, ybn, ybo, ybp, ybq, ybr, ybs, ybt, ybu, ybv, ares, tup, ybw, ybx, yby, argsE, dval, aop, ev, evs, evo, evp, fillL, addrOf, intOf?, ybz, yca, ycb, ycc, ycd, yce, ycf, zah, zag, reduceIte, Nat.reduceEqDiff, ycg, ych, yci, ycj, yck, ycl, ycm, ycn, yco, ycp, ycq, ycr, zap, zao, reduceCtorEq, zbb, zbc, zba, zaz, Nat.reduceAdd, Nat.reduceMul, zaq, zar, eqPtr, zae, zaf, zab, zaa, zac, zad , g0, Nat.sub_zero, hx0, hx, and_self]
        | succ j =>
          have g0 : ((m - (j + 1) : Nat) : Int) < (m : Int) := by omega
          have hst : hget (setR H p { r with at_ := r.at_ + (m - (j + 1)) }) p = some ⟨true, [.string r.s, .int .i64 ((r.at_ + (m - (j + 1)) : Nat) : Int), .int .i64 r.err]⟩ := setR_st hpl _
          have hv := valOf_lt r.s r.at_ (m - (j + 1))
          have hv2 : 2 ^ (m - (j + 1)) ≤ 2 ^ 62 := Nat.pow_le_pow_right (by omega) (by omega)
          have hv3 : 2 * valOf r.s r.at_ (m - (j + 1)) + 1 < 9223372036854775808 := by
            have : (2 : Nat) ^ 62 = 4611686018427387904 := by decide
            omega
          obtain ⟨b, hb⟩ := str_get r.s ((r.at_ + (m - (j + 1))) / 8) (by omega)
          have hb8 : b.toNat < 256 := b.toNat_lt
          have hbit : b.toNat / 2 ^ (7 - (r.at_ + (m - (j + 1))) % 8) % 2 = (sbit r.s (r.at_ + (m - (j + 1)))).toNat := by
            rw [testBit_mod]; unfold sbit; rw [hb]; rfl
          have hdiv : b.toNat / 2 ^ (7 - (r.at_ + (m - (j + 1))) % 8) < 9223372036854775808 := Nat.lt_of_le_of_lt (Nat.div_le_self _ _) (by omega)
          have g1 : (0 : Int) ≤ (((r.at_ + (m - (j + 1))) / 8 : Nat) : Int) := by omega
          have g2 : IntKind.i64.wrap (((r.at_ + (m - (j + 1)) : Nat) : Int) + 1) = ((r.at_ + (m - j) : Nat) : Int) := by rw [wrap_i64 (by omega) (by omega)]; omega
          have g3 : IntKind.i64.wrap (((m - (j + 1) : Nat) : Int) + 1) = ((m - j : Nat) : Int) := by rw [wrap_i64 (by omega) (by omega)]; omega
          have g4 : IntKind.i64.wrap (b.toNat : Int) = (b.toNat : Int) := wrap_i64 (by omega) (by omega)
          simp only [↓yaa, ↓yab, ↓yac, ↓yad, ↓yae, ↓yaf, ↓yag, ↓yah, ↓yai, ↓yaj, ↓yak, ↓yal, ↓yam, ↓yan, ↓yao, ↓yap, ↓yaq, ↓yar, ↓yas, ↓yat, ↓yau, ↓yav, ↓yaw, ↓yax, yay, yaz, yba, ybb, ybc, ybd, ybe, ybf, ybg, ybh, ybi, ybj, ybk, ybl, ybm, ybn, ybo, ybp, ybq, ybr, ybs, ybt, ybu, ybv, ares, tup, ybw, ybx, yby, argsE, dval, aop, ev, evs, evo, evp, fillL, addrOf, intOf?, ybz, yca, ycb, ycc, ycd, yce, ycf, zah, zag, reduceIte, Nat.reduceEqDiff, ycg, ych, yci, ycj, yck, ycl, ycm, ycn, yco, ycp, ycq, ycr, zap, zao, reduceCtorEq, zbb, zbc, zba, zaz, Nat.reduceAdd, Nat.reduceMul, zaq, zar, eqPtr, zae, zaf, zab, zaa, zac, zad , hload, hstore, zal, zam, Nat.reduceAdd, Nat.reduceLeDiff, zbb, zas, zat, one, zau, zaw, zav, splice, zaj, zak, zab, zaa, ycs, yct, ycu, ycv, ycw, ycx, ycy, ycz, zan, zai, zax, zay, and_self, true_and, and_true, lenV, yda, Nat.le_refl, if_true , g0, hst, shlI1 _ (by omega : 2 * valOf r.s r.at_ (m - (j + 1)) < 9223372036854775808), quo8 _ (by omega : r.at_ + (m - (j + 1)) < 9223372036854775808), rem8, g1, Int.toNat_natCast, hb, g4,
            sub7 _ (by omega : (r.at_ + (m - (j + 1))) % 8 ≤ 7), shr64i _ _ (by omega : 7 - (r.at_ + (m - (j + 1))) % 8 ≤ 64), and64i _ hdiv, hbit, or64I _ _ hv3, g2, g3]
          refine ⟨j, by omega, by omega, ?_, ?_⟩
          · rw [show m - j = (m - (j + 1)) + 1 by omega, valOf]
          · show List.set (setR H p _) p _ = _
            exact setR_setR H p _ { r with at_ := r.at_ + (m - j) }
  · rw [RS.x_bad h1] at hp
    simp only [F53, ↓yaa, ↓yab, ↓yac, ↓yad, ↓yae, ↓yaf, ↓yag, ↓yah, ↓yai, ↓yaj, ↓yak, ↓yal, ↓yam, ↓yan, ↓yao, ↓yap, ↓yaq, ↓yar, ↓yas, ↓yat, ↓yau, ↓yav, ↓yaw, ↓yax, yay, yaz, yba, ybb, ybc, ybd, ybe, ybf, ybg, ybh, ybi, ybj, ybk, ybl, ybm, ybn, ybo, ybp, ybq, ybr, ybs, ybt, ybu, ybv, ares, tup, ybw, ybx, yby, argsE, dval, aop, ev, evs, evo, evp, fillL, addrOf, intOf?, ybz, yca, ycb, ycc, ycd, yce, ycf, zah, zag, reduceIte, Nat.reduceEqDiff, ycg, ych, yci, ycj, yck, ycl, ycm, ycn, yco, ycp, ycq, ycr, zap, zao, reduceCtorEq, zbb, zbc, zba, zaz, Nat.reduceAdd, Nat.reduceMul, zaq, zar, eqPtr, zae, zaf, zab, zaa, zac, zad , hload, hstore, zal, zam, Nat.reduceAdd, Nat.reduceLeDiff, zbb, zas, zat, one, zau, zaw, zav, splice, zaj, zak, zab, zaa, ycs, yct, ycu, ycv, ycw, ycx, ycy, ycz, zan, zai, zax, zay, and_self, true_and, and_true, lenV, yda, Nat.le_refl, if_true , hp, h1, ne_eq, not_false_eq_true, field_err h1]
    exact ⟨rfl, (setR_same h).symm⟩

theorem newX_eq (H : Heap) (s : ByteArray) : AC tbl 28 [.string s] H = some (.pointer (some ⟨H.length, 0, none⟩), H ++ [some ⟨true, (newR s).x.cells⟩]) := by
  apply AC_eq
  apply AC_wp (F := F28) rfl (by simp [F28]) (.inl rfl)
  by_cases h : (65536 : Int) < (s.size : Int)
  · have h' : 65536 < s.size := by omega
    simp only [F28, ↓yaa, ↓yab, ↓yac, ↓yad, ↓yae, ↓yaf, ↓yag, ↓yah, ↓yai, ↓yaj, ↓yak, ↓yal, ↓yam, ↓yan, ↓yao, ↓yap, ↓yaq, ↓yar, ↓yas, ↓yat, ↓yau, ↓yav, ↓yaw, ↓yax, yay, yaz, yba, ybb, ybc, ybd, ybe, ybf, ybg, ybh, ybi, ybj, ybk, ybl, ybm, ybn, ybo, ybp, ybq, ybr, ybs, ybt, ybu, ybv, ares, tup, ybw, ybx, yby, argsE, dval, aop, ev, evs, evo, evp, fillL, addrOf, intOf?, ybz, yca, ycb, ycc, ycd, yce, ycf, zah, zag, reduceIte, Nat.reduceEqDiff, ycg, ych, yci, ycj, yck, ycl, ycm, ycn, yco, ycp, ycq, ycr, zap, zao, reduceCtorEq, zbb, zbc, zba, zaz, Nat.reduceAdd, Nat.reduceMul, zaq, zar, eqPtr, zae, zaf, zab, zaa, zac, zad , hload, hstore, zal, zam, Nat.reduceAdd, Nat.reduceLeDiff, zbb, zas, zat, one, zau, zaw, zav, splice, zaj, zak, zab, zaa, ycs, yct, ycu, ycv, ycw, ycx, ycy, ycz, zan, zai, zax, zay, and_self, true_and, and_true, lenV, yda, Nat.le_refl, if_true , h]
    simp [newR, h', RS.cells, RS.x]; rfl
  · have h' : ¬ 65536 < s.size := by omega
    simp only [F28, ↓yaa, ↓yab, ↓yac, ↓yad, ↓yae, ↓yaf, ↓yag, ↓yah, ↓yai, ↓yaj, ↓yak, ↓yal, ↓yam, ↓yan, ↓yao, ↓yap, ↓yaq, ↓yar, ↓yas, ↓yat, ↓yau, ↓yav, ↓yaw, ↓yax, yay, yaz, yba, ybb, ybc, ybd, ybe, ybf, ybg, ybh, ybi, ybj, ybk, ybl, ybm, ybn, ybo, ybp, ybq, ybr, ybs, ybt, ybu, ybv, ares, tup, ybw, ybx, yby, argsE, dval, aop, ev, evs, evo, evp, fillL, addrOf, intOf?, ybz, yca, ycb, ycc, ycd, yce, ycf, zah, zag, reduceIte, Nat.reduceEqDiff, ycg, ych, yci, ycj, yck, ycl, ycm, ycn, yco, ycp, ycq, ycr, zap, zao, reduceCtorEq, zbb, zbc, zba, zaz, Nat.reduceAdd, Nat.reduceMul, zaq, zar, eqPtr, zae, zaf, zab, zaa, zac, zad , hload, hstore, zal, zam, Nat.reduceAdd, Nat.reduceLeDiff, zbb, zas, zat, one, zau, zaw, zav, splice, zaj, zak, zab, zaa, ycs, yct, ycu, ycv, ycw, ycx, ycy, ycz, zan, zai, zax, zay, and_self, true_and, and_true, lenV, yda, Nat.le_refl, if_true , h]
    simp [newR, h', RS.cells, RS.x]; rfl

theorem field_bad {r : RS} (h : r.err = 0) (w : Int) : r.field false w = (0, { r with err := 1 }) := by simp [RS.field, h]
theorem field_any {r : RS} (h : r.err ≠ 0) (a b : Bool) (w w' : Int) : r.field a w = r.field b w' := by rw [field_err h, field_err h]
theorem x_fail {r : RS} {e : Int} (he : e ≠ 0) : ({ r with err := e } : RS).x = ⟨⟨#[]⟩, 0, e⟩ := RS.x_bad he

theorem xunsigned_spec {H : Heap} {p : Nat} {r : RS} {w : Int} (h : RSt H p r.x) (ho : r.Ok) :
    AC tbl 29 [.pointer (some ⟨p, 0, none⟩), .int .i64 w] H = some (.int .i64 (r.unsigned w).1, setR H p (r.unsigned w).2.x) := by
  apply AC_eq
  apply AC_wp (F := F29) rfl (by simp [F29]) (.inl rfl)
  have hp := cells_get h
  have hpl := h.lt
  unfold RS.unsigned
  by_cases h1 : r.err = 0
  · by_cases h2 : 1 ≤ w ∧ w ≤ 63
    · have hd : decide (1 ≤ w ∧ w ≤ 63) = true := by simpa using h2
      have e1 : ¬ w < 1 := by omega
      have e2 : ¬ 63 < w := by omega
      have hg := xget_spec (w := w) h ho (fun _ => by omega)
      simp only [F29, ↓yaa, ↓yab, ↓yac, ↓yad, ↓yae, ↓yaf, ↓yag, ↓yah, ↓yai, ↓yaj, ↓yak, ↓yal, ↓yam, ↓yan, ↓yao, ↓yap, ↓yaq, ↓yar, ↓yas, ↓yat, ↓yau, ↓yav, ↓yaw, ↓yax, yay, yaz, yba, ybb, ybc, ybd, ybe, ybf, ybg, ybh, ybi, ybj, ybk, ybl, ybm, ybn, ybo, ybp, ybq, ybr, ybs, ybt, ybu, ybv, ares, tup, ybw, ybx, yby, argsE, dval, aop, ev, evs, evo, evp, fillL, addrOf, intOf?, ybz, yca, ycb, ycc, ycd, yce, ycf, zah, zag, reduceIte, Nat.reduceEqDiff, ycg, ych, yci, ycj, yck, ycl, ycm, ycn, yco, ycp, ycq, ycr, zap, zao, reduceCtorEq, zbb, zbc, zba, zaz, Nat.reduceAdd, Nat.reduceMul, zaq, zar, eqPtr, zae, zaf, zab, zaa, zac, zad , hload, hstore, zal, zam, Nat.reduceAdd, Nat.reduceLeDiff, zbb, zas, zat, one, zau, zaw, zav, splice, zaj, zak, zab, zaa, ycs, yct, ycu, ycv, ycw, ycx, ycy, ycz, zan, zai, zax, zay, and_self, true_and, and_true, lenV, yda, Nat.le_refl, if_true , hp, RS.x_err, h1, e1, e2, hg, hd]
      all_goals (first | rfl | exact ⟨rfl, rfl⟩ | exact ⟨rfl, trivial⟩ | exact ⟨trivial, trivial⟩ | exact ⟨trivial, rfl⟩ | trivial)
    · have hd : decide (1 ≤ w ∧ w ≤ 63) = false := by simpa using h2
      have hg := @xget_spec (setR H p ⟨⟨#[]⟩, 0, 1⟩) p { r with err := 1 } w (by rw [x_fail (by omega)]; exact setR_st hpl _) ⟨ho.at_le, ho.size⟩ (fun hh => by simp at hh)
      rw [field_err (by simp)] at hg
      simp only [x_fail (by omega : (1 : Int) ≠ 0), setR_setR] at hg
      by_cases e1 : w < 1
      · simp only [F29, ↓yaa, ↓yab, ↓yac, ↓yad, ↓yae, ↓yaf, ↓yag, ↓yah, ↓yai, ↓yaj, ↓yak, ↓yal, ↓yam, ↓yan, ↓yao, ↓yap, ↓yaq, ↓yar, ↓yas, ↓yat, ↓yau, ↓yav, ↓yaw, ↓yax, yay, yaz, yba, ybb, ybc, ybd, ybe, ybf, ybg, ybh, ybi, ybj, ybk, ybl, ybm, ybn, ybo, ybp, ybq, ybr, ybs, ybt, ybu, ybv, ares, tup, ybw, ybx, yby, argsE, dval, aop, ev, evs, evo, evp, fillL, addrOf, intOf?, ybz, yca, ycb, ycc, ycd, yce, ycf, zah, zag, reduceIte, Nat.reduceEqDiff, ycg, ych, yci, ycj, yck, ycl, ycm, ycn, yco, ycp, ycq, ycr, zap, zao, reduceCtorEq, zbb, zbc, zba, zaz, Nat.reduceAdd, Nat.reduceMul, zaq, zar, eqPtr, zae, zaf, zab, zaa, zac, zad , hload, hstore, zal, zam, Nat.reduceAdd, Nat.reduceLeDiff, zbb, zas, zat, one, zau, zaw, zav, splice, zaj, zak, zab, zaa, ycs, yct, ycu, ycv, ycw, ycx, ycy, ycz, zan, zai, zax, zay, and_self, true_and, and_true, lenV, yda, Nat.le_refl, if_true , hp, RS.x_err, h1, e1, xfail_spec h, hg, hd, field_bad h1, x_fail (by omega : (1 : Int) ≠ 0)]
        all_goals (first | rfl | exact ⟨rfl, rfl⟩ | exact ⟨rfl, trivial⟩ | exact ⟨trivial, trivial⟩ | exact ⟨trivial, rfl⟩ | trivial)
      · have e2 : 63 < w := by omega
        simp only [F29, ↓yaa, ↓yab, ↓yac, ↓yad, ↓yae, ↓yaf, ↓yag, ↓yah, ↓yai, ↓yaj, ↓yak, ↓yal, ↓yam, ↓yan, ↓yao, ↓yap, ↓yaq, ↓yar, ↓yas, ↓yat, ↓yau, ↓yav, ↓yaw, ↓yax, yay, yaz, yba, ybb, ybc, ybd, ybe, ybf, ybg, ybh, ybi, ybj, ybk, ybl, ybm, ybn, ybo, ybp, ybq, ybr, ybs, ybt, ybu, ybv, ares, tup, ybw, ybx, yby, argsE, dval, aop, ev, evs, evo, evp, fillL, addrOf, intOf?, ybz, yca, ycb, ycc, ycd, yce, ycf, zah, zag, reduceIte, Nat.reduceEqDiff, ycg, ych, yci, ycj, yck, ycl, ycm, ycn, yco, ycp, ycq, ycr, zap, zao, reduceCtorEq, zbb, zbc, zba, zaz, Nat.reduceAdd, Nat.reduceMul, zaq, zar, eqPtr, zae, zaf, zab, zaa, zac, zad , hload, hstore, zal, zam, Nat.reduceAdd, Nat.reduceLeDiff, zbb, zas, zat, one, zau, zaw, zav, splice, zaj, zak, zab, zaa, ycs, yct, ycu, ycv, ycw, ycx, ycy, ycz, zan, zai, zax, zay, and_self, true_and, and_true, lenV, yda, Nat.le_refl, if_true , hp, RS.x_err, h1, e1, e2, xfail_spec h, hg, hd, field_bad h1, x_fail (by omega : (1 : Int) ≠ 0)]
        all_goals (first | rfl | exact ⟨rfl, rfl⟩ | exact ⟨rfl, trivial⟩ | exact ⟨trivial, trivial⟩ | exact ⟨trivial, rfl⟩ | trivial)
  · simp only [F29, ↓yaa, ↓yab, ↓yac, ↓yad, ↓yae, ↓yaf, ↓yag, ↓yah, ↓yai, ↓yaj, ↓yak, ↓yal, ↓yam, ↓yan, ↓yao, ↓yap, ↓yaq, ↓yar, ↓yas, ↓yat, ↓yau, ↓yav, ↓yaw, ↓yax, yay, yaz, yba, ybb, ybc, ybd, ybe, ybf, ybg, ybh, ybi, ybj, ybk, ybl, ybm, ybn, ybo, ybp, ybq, ybr, ybs, ybt, ybu, ybv, ares, tup, ybw, ybx, yby, argsE, dval, aop, ev, evs, evo, evp, fillL, addrOf, intOf?, ybz, yca, ycb, ycc, ycd, yce, ycf, zah, zag, reduceIte, Nat.reduceEqDiff, ycg, ych, yci, ycj, yck, ycl, ycm, ycn, yco, ycp, ycq, ycr, zap, zao, reduceCtorEq, zbb, zbc, zba, zaz, Nat.reduceAdd, Nat.reduceMul, zaq, zar, eqPtr, zae, zaf, zab, zaa, zac, zad , hload, hstore, zal, zam, Nat.reduceAdd, Nat.reduceLeDiff, zbb, zas, zat, one, zau, zaw, zav, splice, zaj, zak, zab, zaa, ycs, yct, ycu, ycv, ycw, ycx, ycy, ycz, zan, zai, zax, zay, and_self, true_and, and_true, lenV, yda, Nat.le_refl, if_true , hp, RS.x_err, h1, xget_spec h ho (fun hh => absurd hh h1), field_err h1]
    all_goals (first | rfl | exact ⟨rfl, rfl⟩ | exact ⟨rfl, trivial⟩ | exact ⟨trivial, trivial⟩ | exact ⟨trivial, rfl⟩ | trivial)

theorem xflag_spec {H : Heap} {p : Nat} {r : RS} (h : RSt H p r.x) (ho : r.Ok) :
    AC tbl 31 [.pointer (some ⟨p, 0, none⟩)] H = some (.bool r.flag.1, setR H p r.flag.2.x) := by
  apply AC_eq
  apply AC_wp (F := F31) rfl (by simp [F31]) (.inl rfl)
  have hg := xget_spec (w := 1) h ho (fun _ => by omega)
  have e1 : decide ((((r.field true 1).1 : Nat) : Int) = 1) = decide ((r.field true 1).1 = 1) := by simp only [decide_eq_decide]; omega
  simp only [F31, ↓yaa, ↓yab, ↓yac, ↓yad, ↓yae, ↓yaf, ↓yag, ↓yah, ↓yai, ↓yaj, ↓yak, ↓yal, ↓yam, ↓yan, ↓yao, ↓yap, ↓yaq, ↓yar, ↓yas, ↓yat, ↓yau, ↓yav, ↓yaw, ↓yax, yay, yaz, yba, ybb, ybc, ybd, ybe, ybf, ybg, ybh, ybi, ybj, ybk, ybl, ybm, ybn, ybo, ybp, ybq, ybr, ybs, ybt, ybu, ybv, ares, tup, ybw, ybx, yby, argsE, dval, aop, ev, evs, evo, evp, fillL, addrOf, intOf?, ybz, yca, ycb, ycc, ycd, yce, ycf, zah, zag, reduceIte, Nat.reduceEqDiff, ycg, ych, yci, ycj, yck, ycl, ycm, ycn, yco, ycp, ycq, ycr, zap, zao, reduceCtorEq, zbb, zbc, zba, zaz, Nat.reduceAdd, Nat.reduceMul, zaq, zar, eqPtr, zae, zaf, zab, zaa, zac, zad , hg, e1, RS.flag]
  all_goals (first | rfl | exact ⟨rfl, rfl⟩ | exact ⟨rfl, trivial⟩ | exact ⟨trivial, trivial⟩ | exact ⟨trivial, rfl⟩ | trivial)


end Go.Proofs.Ytejcabdejoameaa.AI

/- Fields that are written are read, and those that are read are written. -/
set_option linter.unusedSimpArgs false
namespace Go.Proofs.Ytejcabdejoameaa.AI
open Go

theorem wfield_inv {s : WS} {right fits : Bool} {w n : Int} (h0 : s.err = 0) (h : (s.field right fits w n).err = 0) :
    right = true ∧ fits = true ∧ (s.bs.length : Int) + w ≤ 524288 ∧ s.field right fits w n = ⟨s.bs ++ bitsOf w.toNat (u64 n), 0⟩ := by
  unfold WS.field at h ⊢
  rw [if_neg (by simpa using h0)] at h ⊢
  cases right with
  | false => simp at h
  | true =>
    cases fits with
    | false => simp at h
    | true =>
      rw [if_neg (by simp), if_neg (by simp)] at h ⊢
      split at h
      · simp at h
      · rename_i h1
        rw [if_neg h1]
        exact ⟨rfl, rfl, by omega, by rw [h0]⟩
theorem wtext_inv {s : WS} {most : Int} {t : ByteArray} (h0 : s.err = 0) (h : (s.text most t).err = 0) :
    lim most = true ∧ (t.size : Int) ≤ most ∧ (s.bs.length : Int) + wd most + 8 * t.size ≤ 524288 ∧ s.text most t = ⟨s.bs ++ (bitsOf (wd most) t.size ++ textBits t), 0⟩ := by
  unfold WS.text at h ⊢
  rw [if_neg (by simpa using h0)] at h ⊢
  cases hl : lim most with
  | false => rw [hl] at h; simp at h
  | true =>
    rw [hl, if_neg (by simp)] at h
    rw [if_neg (by simp)]
    split at h
    · simp at h
    · rename_i h1
      rw [if_neg h1]
      exact ⟨rfl, by omega, by omega, by rw [h0, List.append_assoc]⟩

/-- A field that is written without an error lays some bits behind the others. -/
theorem write_ext {s : WS} {f : Fld} (h : (s.write f).err = 0) : s.err = 0 ∧ ∃ x, (s.write f).bs = s.bs ++ x := by
  have h0 : s.err = 0 := by
    refine Classical.byContradiction fun h1 => ?_
    have : s.write f = s := by
      unfold WS.write WS.unsigned WS.signed WS.flag WS.field WS.text
      simp [h1]
    rw [this] at h
    exact h1 h
  refine ⟨h0, ?_⟩
  unfold WS.write at h ⊢
  split
  · rename_i c; rw [if_pos c] at h; exact ⟨_, congrArg WS.bs (wfield_inv h0 h).2.2.2⟩
  · rename_i c; rw [if_neg c] at h
    split
    · rename_i c; rw [if_pos c] at h; exact ⟨_, congrArg WS.bs (wfield_inv h0 h).2.2.2⟩
    · rename_i c; rw [if_neg c] at h
      split
      · rename_i c; rw [if_pos c] at h; exact ⟨_, congrArg WS.bs (wfield_inv h0 h).2.2.2⟩
      · rename_i c; rw [if_neg c] at h
        split
        · rename_i c; rw [if_pos c] at h; exact ⟨_, congrArg WS.bs (wtext_inv h0 h).2.2.2⟩
        · exact ⟨[], by simp⟩

theorem IsStr.size {bs : List Bool} {s : ByteArray} (h : IsStr bs s) : s.size = (bs.length + 7) / 8 := by
  obtain ⟨d, _, hd, rfl⟩ := h
  rw [strOf_size, hd]
theorem seg_mid {pre mid tail : List Bool} {s : ByteArray} (h : IsStr (pre ++ mid ++ tail) s) : seg s pre.length mid.length = mid := by
  have hsz := h.size
  simp only [zai] at hsz
  apply List.ext_getElem?
  intro i
  by_cases hi : i < mid.length
  · rw [seg_get hi, sbit_of h (by omega), List.getD_eq_getElem?_getD, List.getElem?_append_left (by simp; omega), List.getElem?_append_right (by omega), Nat.add_sub_cancel_left, List.getElem?_eq_getElem hi]
    rfl
  · rw [List.getElem?_eq_none (by rw [seg_length]; omega), List.getElem?_eq_none (by omega)]
theorem seg_two {s : ByteArray} {a n m : Nat} {x y : List Bool} (h : seg s a (n + m) = x ++ y) (hn : x.length = n) : seg s a n = x ∧ seg s (a + n) m = y := by
  rw [seg_append] at h
  exact List.append_inj h (by rw [seg_length, hn])

/-- A reader's field with enough bits left. -/
theorem rfield_ok {s : ByteArray} {a : Nat} {w : Int} (h0 : 0 ≤ w) (h : a + w.toNat ≤ 8 * s.size) : (⟨s, a, 0⟩ : RS).field true w = (valOf s a w.toNat, ⟨s, a + w.toNat, 0⟩) := by
  unfold RS.field
  rw [if_neg (by simp), if_neg (by simp), if_neg (by simp [RS.left]; omega)]

theorem u64_nat {n : Int} (h0 : 0 ≤ n) (h1 : n < 18446744073709551616) : u64 n = n.toNat := by unfold u64; omega
theorem pow63 {w : Int} (h : w ≤ 63) : (2 : Int) ^ w.toNat ≤ 9223372036854775808 := by
  have : (2 : Nat) ^ w.toNat ≤ 2 ^ 63 := Nat.pow_le_pow_right (by omega) (by omega)
  rw [pow_cast]; omega

/-- What is read where a field was written. -/
theorem write_read {ws : WS} {f : Fld} {s : ByteArray} {tail : List Bool} (h : (ws.write f).err = 0) (hs : IsStr ((ws.write f).bs ++ tail) s) (hk : 0 ≤ f.kind ∧ f.kind ≤ 3) :
    (⟨s, ws.bs.length, 0⟩ : RS).read f = (⟨f.kind, if f.kind = 2 then 0 else f.width, if f.kind = 3 then 0 else if f.kind = 2 then (if f.n ≠ 0 then 1 else 0) else f.n, if f.kind = 3 then f.s else ⟨#[]⟩⟩, ⟨s, (ws.write f).bs.length, 0⟩) := by
  have h0 := (write_ext h).1
  have hsz := hs.size
  simp only [zai] at hsz
  by_cases k0 : f.kind = 0
  · have e : ws.write f = ws.unsigned f.width f.n := by simp [WS.write, k0]
    rw [e] at h hs hsz ⊢
    obtain ⟨r1, r2, r3, r4⟩ := wfield_inv h0 h
    rw [show ws.unsigned f.width f.n = _ from r4] at hs hsz ⊢
    simp only [decide_eq_true_eq] at r1 r2
    have hp := pow63 r1.2
    have hm := seg_mid hs
    rw [bitsOf_length] at hm
    have hv := val_seg hm
    have hn : u64 f.n = f.n.toNat := u64_nat r2.2.1 (by omega)
    have hlt : f.n.toNat < 2 ^ f.width.toNat := by have := r2.2.2; rw [pow_cast] at this; omega
    rw [hn, Nat.mod_eq_of_lt hlt] at hv
    simp only [zai, bitsOf_length] at hsz ⊢
    have hf := rfield_ok (s := s) (a := ws.bs.length) (w := f.width) (by omega) (by omega)
    have hd : decide (1 ≤ f.width ∧ f.width ≤ 63) = true := by simpa using r1
    simp only [RS.read, k0, RS.unsigned, hd, hf, hv]
    simp; omega
  · by_cases k1 : f.kind = 1
    · have e : ws.write f = ws.signed f.width f.n := by simp [WS.write, k1]
      rw [e] at h hs hsz ⊢
      obtain ⟨r1, r2, r3, r4⟩ := wfield_inv h0 h
      rw [show ws.signed f.width f.n = _ from r4] at hs hsz ⊢
      simp only [decide_eq_true_eq] at r1 r2
      have hm := seg_mid hs
      rw [bitsOf_length] at hm
      have hv := val_seg hm
      simp only [zai, bitsOf_length] at hsz ⊢
      have hf := rfield_ok (s := s) (a := ws.bs.length) (w := f.width) (by omega) (by omega)
      obtain ⟨m, hw⟩ : ∃ m : Nat, f.width = ((m + 1 : Nat) : Int) := ⟨(f.width - 1).toNat, by omega⟩
      have hd : decide (2 ≤ f.width ∧ f.width ≤ 63) = true := by simpa using r1
      have hsg : (⟨s, ws.bs.length, 0⟩ : RS).signed f.width = (f.n, ⟨s, ws.bs.length + f.width.toNat, 0⟩) := by
        have hmod := u64_mod f.n (k := m + 1) (by omega)
        have r3' := r2.2
        simp only [hw, Int.toNat_natCast, Nat.add_sub_cancel] at hf hv hd r3' ⊢
        have hb := signed_back r3'.1 r3'.2
        simp only [RS.signed, hd, hf, hv, Int.toNat_natCast, Nat.add_sub_cancel, true_and]
        rw [← hmod] at hb
        have hc : (2 : Int) ^ m ≤ ((u64 f.n % 2 ^ (m + 1) : Nat) : Int) ↔ 2 ^ m ≤ u64 f.n % 2 ^ (m + 1) := by rw [pow_cast]; omega
        by_cases hh : 2 ^ m ≤ u64 f.n % 2 ^ (m + 1)
        · rw [if_pos (hc.2 hh)] at hb; rw [if_pos hh, hb]
        · rw [if_neg (fun x => hh (hc.1 x))] at hb; rw [if_neg hh, hb]
      simp only [RS.read, k1, hsg]
      simp
    · by_cases k2 : f.kind = 2
      · have e : ws.write f = ws.flag (decide (f.n ≠ 0)) := by simp [WS.write, k2]
        rw [e] at h hs hsz ⊢
        obtain ⟨r1, r2, r3, r4⟩ := wfield_inv h0 h
        rw [show ws.flag (decide (f.n ≠ 0)) = _ from r4] at hs hsz ⊢
        have hm := seg_mid hs
        rw [bitsOf_length] at hm
        have hv := val_seg hm
        simp only [zai, bitsOf_length] at hsz ⊢
        have hf := rfield_ok (s := s) (a := ws.bs.length) (w := 1) (by omega) (by simp only [show (1 : Int).toNat = 1 from rfl] at hsz ⊢; omega)
        simp only [show (1 : Int).toNat = 1 from rfl] at hv hf hsz ⊢
        have hfl : (⟨s, ws.bs.length, 0⟩ : RS).flag = (decide (f.n ≠ 0), ⟨s, ws.bs.length + 1, 0⟩) := by
          simp only [RS.flag, hf, hv]
          by_cases hn : f.n = 0
          · simp [hn, u64]
          · simp [hn, u64]
        simp only [RS.read, k2, hfl]
        simp
      · have k3 : f.kind = 3 := by omega
        have e : ws.write f = ws.text f.width f.s := by simp [WS.write, k3]
        rw [e] at h hs hsz ⊢
        obtain ⟨r1, r2, r3, r4⟩ := wtext_inv h0 h
        rw [r4] at hs hsz ⊢
        have hm := seg_mid hs
        rw [zai, bitsOf_length, textBits_length] at hm
        obtain ⟨hm1, hm2⟩ := seg_two hm (bitsOf_length _ _)
        have hv := val_seg hm1
        simp only [zai, bitsOf_length, textBits_length] at hsz ⊢
        have hf := rfield_ok (s := s) (a := ws.bs.length) (w := (wd f.width : Int)) (by omega) (by simp only [Int.toNat_natCast]; omega)
        simp only [Int.toNat_natCast] at hf
        have hl : 1 ≤ f.width ∧ f.width ≤ 4095 := by simpa [lim] using r1
        have hlt : f.s.size < 2 ^ wd f.width := by
          have h2 := @blen_le f.width.toNat (wd f.width)
          have h3 : f.width.toNat < 2 ^ wd f.width := h2.1 (by unfold wd; rw [if_neg (by omega)]; omega)
          omega
        rw [Nat.mod_eq_of_lt hlt] at hv
        have ht := read_text hm2
        have hte : (⟨s, ws.bs.length, 0⟩ : RS).text f.width = (f.s, ⟨s, ws.bs.length + wd f.width + 8 * f.s.size, 0⟩) := by
          simp only [RS.text, r1, hf, hv]
          rw [if_neg (by simp), if_neg (by omega), if_neg (by simp [RS.left]; omega), ht]
        simp only [RS.read, k3, hte]
        simp [Nat.add_assoc]

end Go.Proofs.Ytejcabdejoameaa.AI

/- Fields that are read are written with the same bits. -/
set_option linter.unusedSimpArgs false
namespace Go.Proofs.Ytejcabdejoameaa.AI
open Go

theorem wfield_ok {bs : List Bool} {right fits : Bool} {w n : Int} (h1 : right = true) (h2 : fits = true) (h : (bs.length : Int) + w ≤ 524288) : (⟨bs, 0⟩ : WS).field right fits w n = ⟨bs ++ bitsOf w.toNat (u64 n), 0⟩ := by
  subst h1 h2
  unfold WS.field
  rw [if_neg (by simp), if_neg (by simp), if_neg (by simp), if_neg (by simp only; omega)]

theorem rtext_err0 {r : RS} {most : Int} (h : (r.text most).2.err = 0) : lim most = true ∧ r.err = 0 ∧ r.at_ + wd most + 8 * valOf r.s r.at_ (wd most) ≤ 8 * r.s.size ∧ ((valOf r.s r.at_ (wd most) : Nat) : Int) ≤ most ∧
    r.text most = (strOf (readL r.s (r.at_ + wd most) (valOf r.s r.at_ (wd most))), { r with at_ := r.at_ + wd most + 8 * valOf r.s r.at_ (wd most) }) := by
  unfold RS.text at h ⊢
  simp only at h ⊢
  split at h
  · rename_i h1; exact absurd h h1
  · rename_i h1
    obtain ⟨r1, r2, r3, r4⟩ := field_err0 (r := r) (right := lim most) (w := (wd most : Int)) (by simpa using h1)
    rw [r3] at h h1 ⊢
    simp only [Int.toNat_natCast] at h h1 ⊢
    rw [if_neg h1]
    split at h
    · simp at h
    · rename_i h2
      rw [if_neg h2]
      split at h
      · simp at h
      · rename_i h3
        rw [if_neg h3]
        simp only [RS.left, r2, if_true] at h3
        exact ⟨r1, r2, by omega, by omega, rfl⟩

theorem seg_pre (s : ByteArray) (a n : Nat) : seg s 0 a ++ seg s a n = seg s 0 (a + n) := by
  rw [seg_append, zaz]

/-- What was read so far is written once more. -/
theorem read_write {r : RS} {f : Fld} (hs : r.s.size ≤ 300) (ho : r.Ok) (h : (r.read f).2.err = 0) :
    r.err = 0 ∧ (r.read f).2.s = r.s ∧ (⟨seg r.s 0 r.at_, 0⟩ : WS).write (r.read f).1 = ⟨seg r.s 0 (r.read f).2.at_, 0⟩ := by
  have hat := ho.at_le
  have hl : (seg r.s 0 r.at_).length = r.at_ := seg_length _ _ _
  by_cases k0 : f.kind = 0
  · have e : r.read f = ({ f with n := (r.unsigned f.width).1, s := ⟨#[]⟩ }, (r.unsigned f.width).2) := by simp [RS.read, k0]
    rw [e] at h ⊢
    obtain ⟨r1, r2, r3, r4⟩ := field_err0 (r := r) (right := decide (1 ≤ f.width ∧ f.width ≤ 63)) (w := f.width) h
    have hu : r.unsigned f.width = (((valOf r.s r.at_ f.width.toNat : Nat) : Int), { r with at_ := r.at_ + f.width.toNat }) := by simp only [RS.unsigned, r3]
    rw [hu]
    simp only [decide_eq_true_eq] at r1
    have hv := valOf_lt r.s r.at_ f.width.toNat
    have hp := pow63 r1.2
    rw [pow_cast] at hp
    refine ⟨r2, rfl, ?_⟩
    simp only [WS.write, k0, if_true]
    unfold WS.unsigned
    rw [wfield_ok (by simpa using r1) (by simp only [decide_eq_true_eq]; refine ⟨r1, by omega, ?_⟩; rw [pow_cast]; omega) (by rw [hl]; omega), u64_nat (by omega) (by omega)]
    simp only [Int.toNat_natCast, bits_val, seg_pre]
  · by_cases k1 : f.kind = 1
    · have e : r.read f = ({ f with n := (r.signed f.width).1, s := ⟨#[]⟩ }, (r.signed f.width).2) := by simp [RS.read, k1]
      rw [e] at h ⊢
      obtain ⟨r1, r2, r3, r4⟩ := field_err0 (r := r) (right := decide (2 ≤ f.width ∧ f.width ≤ 63)) (w := f.width) h
      simp only [decide_eq_true_eq] at r1
      obtain ⟨m, hw⟩ : ∃ m : Nat, f.width = ((m + 1 : Nat) : Int) := ⟨(f.width - 1).toNat, by omega⟩
      have hv := valOf_lt r.s r.at_ (m + 1)
      have hp : (2 : Nat) ^ (m + 1) = 2 * 2 ^ m := by rw [Nat.pow_succ]; omega
      have hm2 : (2 : Nat) ^ (m + 1) ≤ 2 ^ 63 := Nat.pow_le_pow_right (by omega) (by omega)
      have hm0 := Nat.two_pow_pos m
      have h63 : (2 : Nat) ^ 63 = 9223372036854775808 := by decide
      have hu : r.signed f.width = (if 2 ^ m ≤ valOf r.s r.at_ (m + 1) then ((valOf r.s r.at_ (m + 1) : Nat) : Int) - 2 ^ (m + 1) else ((valOf r.s r.at_ (m + 1) : Nat) : Int), { r with at_ := r.at_ + (m + 1) }) := by
        simp only [hw, Int.toNat_natCast] at r3
        simp only [RS.signed, hw, r3, r2, true_and, Int.toNat_natCast, Nat.add_sub_cancel]
      rw [hu]
      refine ⟨r2, rfl, ?_⟩
      simp only [WS.write, k1, if_true]
      rw [if_neg (by omega)]
      unfold WS.signed
      have hmod : (u64 (if 2 ^ m ≤ valOf r.s r.at_ (m + 1) then ((valOf r.s r.at_ (m + 1) : Nat) : Int) - 2 ^ (m + 1) else ((valOf r.s r.at_ (m + 1) : Nat) : Int))) % 2 ^ (m + 1) = valOf r.s r.at_ (m + 1) % 2 ^ (m + 1) := by
        have h1 := u64_mod (if 2 ^ m ≤ valOf r.s r.at_ (m + 1) then ((valOf r.s r.at_ (m + 1) : Nat) : Int) - 2 ^ (m + 1) else ((valOf r.s r.at_ (m + 1) : Nat) : Int)) (k := m + 1) (by omega)
        have h2 : (if 2 ^ m ≤ valOf r.s r.at_ (m + 1) then ((valOf r.s r.at_ (m + 1) : Nat) : Int) - 2 ^ (m + 1) else ((valOf r.s r.at_ (m + 1) : Nat) : Int)) % 2 ^ (m + 1) = ((valOf r.s r.at_ (m + 1) : Nat) : Int) % 2 ^ (m + 1) := by
          split
          · rw [Int.sub_emod_right]
          · rfl
        rw [h2] at h1
        rw [pow_cast, ← Int.natCast_emod] at h1
        exact Int.ofNat.inj h1
      have hfit : -2 ^ m ≤ (if 2 ^ m ≤ valOf r.s r.at_ (m + 1) then ((valOf r.s r.at_ (m + 1) : Nat) : Int) - 2 ^ (m + 1) else ((valOf r.s r.at_ (m + 1) : Nat) : Int)) ∧ (if 2 ^ m ≤ valOf r.s r.at_ (m + 1) then ((valOf r.s r.at_ (m + 1) : Nat) : Int) - 2 ^ (m + 1) else ((valOf r.s r.at_ (m + 1) : Nat) : Int)) < 2 ^ m := by
        rw [pow_cast, pow_cast]
        split <;> constructor <;> omega
      rw [hw] at r1 ⊢
      rw [wfield_ok (by simpa using r1) (by simp only [decide_eq_true_eq, Int.toNat_natCast, Nat.add_sub_cancel]; exact ⟨r1, hfit⟩) (by rw [hl]; omega)]
      simp only [Int.toNat_natCast]
      rw [bitsOf_mod _ _ _ hmod, bits_val, seg_pre]
    · by_cases k2 : f.kind = 2
      · have e : r.read f = (⟨f.kind, 0, if r.flag.1 then 1 else 0, ⟨#[]⟩⟩, r.flag.2) := by simp [RS.read, k2]
        rw [e] at h ⊢
        obtain ⟨r1, r2, r3, r4⟩ := field_err0 (r := r) (right := true) (w := 1) h
        have hu : r.flag = (decide (valOf r.s r.at_ 1 = 1), { r with at_ := r.at_ + 1 }) := by simp only [RS.flag, r3]; rfl
        rw [hu]
        refine ⟨r2, rfl, ?_⟩
        have hv := valOf_lt r.s r.at_ 1
        simp only [WS.write, k2]
        rw [if_neg (by omega), if_neg (by omega), if_pos True.intro]
        unfold WS.flag
        rw [wfield_ok rfl rfl (by rw [hl]; omega)]
        have : u64 (if (decide ((if decide (valOf r.s r.at_ 1 = 1) = true then (1 : Int) else 0) ≠ 0)) = true then 1 else 0) = valOf r.s r.at_ 1 := by
          rcases (by omega : valOf r.s r.at_ 1 = 0 ∨ valOf r.s r.at_ 1 = 1) with h | h <;> rw [h] <;> decide
        rw [this]
        have := bits_val r.s r.at_ 1
        simp only [show (1 : Int).toNat = 1 from rfl, this, seg_pre]
      · by_cases k3 : f.kind = 3
        · have e : r.read f = ({ f with n := 0, s := (r.text f.width).1 }, (r.text f.width).2) := by simp [RS.read, k3]
          rw [e] at h ⊢
          obtain ⟨r1, r2, r3, r4, r5⟩ := rtext_err0 h
          rw [r5]
          refine ⟨r2, rfl, ?_⟩
          simp only [WS.write, k3]
          rw [if_neg (by omega), if_neg (by omega), if_neg (by omega), if_pos True.intro]
          unfold WS.text
          simp only [r1, strOf_size, readL_length]
          rw [if_neg (by simp), if_neg (by simp), if_neg (by rw [hl]; omega), bits_val, textBits_read, seg_pre, seg_pre]
        · have e : r.read f = (f, r) := by simp [RS.read, k0, k1, k2, k3]
          rw [e] at h ⊢
          refine ⟨h, rfl, ?_⟩
          simp [WS.write, k0, k1, k2, k3]

theorem valOf_zero (s : ByteArray) (a : Nat) : ∀ w, valOf s a w = 0 → ∀ i, i < w → sbit s (a + i) = false := by
  intro w h i hi
  have := valOf_testBit s a w i hi
  rw [h] at this
  simpa using this.symm

/-- A string whose rest is zeros is the one that its first bits make. -/
theorem isStr_seg {s : ByteArray} {a : Nat} (h1 : a ≤ 8 * s.size) (h2 : 8 * s.size < a + 8) (h3 : valOf s a (8 * s.size - a) = 0) : IsStr (seg s 0 a) s := by
  refine ⟨nums s, ⟨nums_small s, fun j x hx k hk => ?_⟩, by rw [nums_length, seg_length]; omega, (strOf_nums s).symm⟩
  have hj : j < s.size := by have := (List.getElem?_eq_some_iff.1 hx).1; rwa [nums_length] at this
  have hb : sbit s (8 * j + k) = x.testBit (7 - k) := by
    obtain ⟨b, b1, b2⟩ := byte_get s j hj
    have : x = b.toNat := by
      unfold nums at hx
      rw [List.getElem?_map, b2] at hx
      simpa using hx.symm
    unfold sbit
    rw [show (8 * j + k) / 8 = j by omega, show (8 * j + k) % 8 = k by omega, b1, this]
    rfl
  rw [← hb, List.getD_eq_getElem?_getD]
  by_cases hlt : 8 * j + k < a
  · rw [seg_get hlt, zaz]; rfl
  · rw [List.getElem?_eq_none (by rw [seg_length]; omega)]
    have := valOf_zero s a _ h3 (8 * j + k - a) (by omega)
    rw [show a + (8 * j + k - a) = 8 * j + k by omega] at this
    rw [this]; rfl

end Go.Proofs.Ytejcabdejoameaa.AI

/- The reference reader's texts and its end. -/
set_option linter.unusedSimpArgs false
namespace Go.Proofs.Ytejcabdejoameaa.AI
open Go

theorem xclose_spec {H : Heap} {p : Nat} {r : RS} (h : RSt H p r.x) (ho : r.Ok) : AC tbl 37 [.pointer (some ⟨p, 0, none⟩)] H = some (.int .i64 r.close, H) := by
  apply AC_eq
  apply AC_wp (F := F37) rfl (by simp [F37]) (.inl rfl)
  have hp := cells_get h
  have hpl := h.lt
  have hat := ho.at_le
  have hsz := ho.size
  by_cases h1 : r.err = 0
  · have hleft := xleft_spec h ho
    rw [RS.x_ok h1] at hp h
    by_cases h2 : 8 ≤ r.left
    · have hc : r.close = 10 := by simp [RS.close, h1, h2]
      simp only [F37, ↓yaa, ↓yab, ↓yac, ↓yad, ↓yae, ↓yaf, ↓yag, ↓yah, ↓yai, ↓yaj, ↓yak, ↓yal, ↓yam, ↓yan, ↓yao, ↓yap, ↓yaq, ↓yar, ↓yas, ↓yat, ↓yau, ↓yav, ↓yaw, ↓yax, yay, yaz, yba, ybb, ybc, ybd, ybe, ybf, ybg, ybh, ybi, ybj, ybk, ybl, ybm, ybn, ybo, ybp, ybq, ybr, ybs, ybt, ybu, ybv, ares, tup, ybw, ybx, yby, argsE, dval, aop, ev, evs, evo, evp, fillL, addrOf, intOf?, ybz, yca, ycb, ycc, ycd, yce, ycf, zah, zag, reduceIte, Nat.reduceEqDiff, ycg, ych, yci, ycj, yck, ycl, ycm, ycn, yco, ycp, ycq, ycr, zap, zao, reduceCtorEq, zbb, zbc, zba, zaz, Nat.reduceAdd, Nat.reduceMul, zaq, zar, eqPtr, zae, zaf, zab, zaa, zac, zad , hload, hstore, zal, zam, Nat.reduceAdd, Nat.reduceLeDiff, zbb, zas, zat, one, zau, zaw, zav, splice, zaj, zak, zab, zaa, ycs, yct, ycu, ycv, ycw, ycx, ycy, ycz, zan, zai, zax, zay, and_self, true_and, and_true, lenV, yda, Nat.le_refl, if_true , hp, h1, ne_eq, not_true_eq_false, hleft, h2, hc]
      all_goals (first | rfl | exact ⟨rfl, rfl⟩ | exact ⟨rfl, trivial⟩ | exact ⟨trivial, trivial⟩ | exact ⟨trivial, rfl⟩ | trivial)
    · have hl2 : r.left.toNat = 8 * r.s.size - r.at_ := by simp only [RS.left, if_pos h1]; omega
      have hc : r.close = if valOf r.s r.at_ (8 * r.s.size - r.at_) ≠ 0 then 10 else 0 := by
        unfold RS.close; rw [if_neg (by simpa using h1), if_neg h2, hl2]
      have w1 : IntKind.i64.wrap (8 * (r.s.size : Int)) = ((8 * r.s.size : Nat) : Int) := by rw [wrap_i64 (by omega) (by omega)]; omega
      simp only [F37, ↓yaa, ↓yab, ↓yac, ↓yad, ↓yae, ↓yaf, ↓yag, ↓yah, ↓yai, ↓yaj, ↓yak, ↓yal, ↓yam, ↓yan, ↓yao, ↓yap, ↓yaq, ↓yar, ↓yas, ↓yat, ↓yau, ↓yav, ↓yaw, ↓yax, yay, yaz, yba, ybb, ybc, ybd, ybe, ybf, ybg, ybh, ybi, ybj, ybk, ybl, ybm, ybn, ybo, ybp, ybq, ybr, ybs, ybt, ybu, ybv, ares, tup, ybw, ybx, yby, argsE, dval, aop, ev, evs, evo, evp, fillL, addrOf, intOf?, ybz, yca, ycb, ycc, ycd, yce, ycf, zah, zag, reduceIte, Nat.reduceEqDiff, ycg, ych, yci, ycj, yck, ycl, ycm, ycn, yco, ycp, ycq, ycr, zap, zao, reduceCtorEq, zbb, zbc, zba, zaz, Nat.reduceAdd, Nat.reduceMul, zaq, zar, eqPtr, zae, zaf, zab, zaa, zac, zad , hload, hstore, zal, zam, Nat.reduceAdd, Nat.reduceLeDiff, zbb, zas, zat, one, zau, zaw, zav, splice, zaj, zak, zab, zaa, ycs, yct, ycu, ycv, ycw, ycx, ycy, ycz, zan, zai, zax, zay, and_self, true_and, and_true, lenV, yda, Nat.le_refl, if_true , hp, h1, ne_eq, not_true_eq_false, hleft, h2]
      apply AW_loop_inv (fun j e H1 => j ≤ 8 * r.s.size - r.at_ ∧ e = [(0, .pointer (some ⟨p, 0, none⟩)), (3, .int .i64 ((8 * r.s.size - j : Nat) : Int))] ∧ H1 = H ∧ ∀ k, r.at_ ≤ k → k < 8 * r.s.size - j → sbit r.s k = false) _ (8 * r.s.size - r.at_)
      · refine ⟨Nat.le_refl _, by rw [show 8 * r.s.size - (8 * r.s.size - r.at_) = r.at_ by omega], rfl, fun k a b => by omega⟩
      · rintro j e H1 ⟨hj, rfl, rfl, hz⟩
        cases j with
        | zero =>
          have g0 : ¬ ((8 * r.s.size : Nat) : Int) < ((8 * r.s.size : Nat) : Int) := by omega
          have hv : valOf r.s r.at_ (8 * r.s.size - r.at_) = 0 := by
            have := valOf_bits (s := r.s) (a := r.at_) (w := 8 * r.s.size - r.at_) (n := 0) (fun i hi => by rw [hz _ (by omega) (by omega)]; simp) _ (Nat.le_refl _)
            rw [this]; simp
          rw [hv] at hc
          simp only [↓yaa, ↓yab, ↓yac, ↓yad, ↓yae, ↓yaf, ↓yag, ↓yah, ↓yai, ↓yaj, ↓yak, ↓yal, ↓yam, ↓yan, ↓yao, ↓yap, ↓yaq, ↓yar, ↓yas, ↓yat, ↓yau, ↓yav, ↓yaw, ↓yax, yay, yaz, yba, ybb, ybc, ybd, ybe, ybf, ybg, ybh, ybi, ybj, ybk, ybl, ybm, ybn, ybo, ybp, ybq, ybr, ybs, ybt, ybu, ybv, ares, tup, ybw, ybx, yby, argsE, dval, aop, ev, evs, evo, evp, fillL, addrOf, intOf?, ybz, yca, ycb, ycc, ycd, yce, ycf, zah, zag, reduceIte, Nat.reduceEqDiff, ycg, ych, yci, ycj, yck, ycl, ycm, ycn, yco, ycp, ycq, ycr, zap, zao, reduceCtorEq, zbb, zbc, zba, zaz, Nat.reduceAdd, Nat.reduceMul, zaq, zar, eqPtr, zae, zaf, zab, zaa, zac, zad , hload, hstore, zal, zam, Nat.reduceAdd, Nat.reduceLeDiff, zbb, zas, zat, one, zau, zaw, zav, splice, zaj, zak, zab, zaa, ycs, yct, ycu, ycv, ycw, ycx, ycy, ycz, zan, zai, zax, zay, and_self, true_and, and_true, lenV, yda, Nat.le_refl, if_true , hp, w1, Nat.sub_zero, g0, hc]
          all_goals (first | rfl | exact ⟨rfl, rfl⟩ | exact ⟨rfl, trivial⟩ | exact ⟨trivial, trivial⟩ | exact ⟨trivial, rfl⟩ | trivial)
        | succ j =>
          have g0 : ((8 * r.s.size - (j + 1) : Nat) : Int) < ((8 * r.s.size : Nat) : Int) := by omega
          obtain ⟨b, hb⟩ := str_get r.s ((8 * r.s.size - (j + 1)) / 8) (by omega)
          have hb8 : b.toNat < 256 := b.toNat_lt
          have hbit : b.toNat / 2 ^ (7 - (8 * r.s.size - (j + 1)) % 8) % 2 = (sbit r.s (8 * r.s.size - (j + 1))).toNat := by
            rw [testBit_mod]; unfold sbit; rw [hb]; rfl
          have hdiv : b.toNat / 2 ^ (7 - (8 * r.s.size - (j + 1)) % 8) < 9223372036854775808 := Nat.lt_of_le_of_lt (Nat.div_le_self _ _) (by omega)
          have g1 : (0 : Int) ≤ (((8 * r.s.size - (j + 1)) / 8 : Nat) : Int) := by omega
          have g3 : IntKind.i64.wrap (((8 * r.s.size - (j + 1) : Nat) : Int) + 1) = ((8 * r.s.size - j : Nat) : Int) := by rw [wrap_i64 (by omega) (by omega)]; omega
          have g4 : IntKind.i64.wrap (b.toNat : Int) = (b.toNat : Int) := wrap_i64 (by omega) (by omega)
          cases hs : sbit r.s (8 * r.s.size - (j + 1)) with
          | true =>
            have hv : valOf r.s r.at_ (8 * r.s.size - r.at_) ≠ 0 := fun hv => by
              have := valOf_zero _ _ _ hv (8 * r.s.size - (j + 1) - r.at_) (by omega)
              rw [show r.at_ + (8 * r.s.size - (j + 1) - r.at_) = 8 * r.s.size - (j + 1) by omega, hs] at this
              simp at this
            rw [if_pos hv] at hc
            rw [hs] at hbit
            simp only [↓yaa, ↓yab, ↓yac, ↓yad, ↓yae, ↓yaf, ↓yag, ↓yah, ↓yai, ↓yaj, ↓yak, ↓yal, ↓yam, ↓yan, ↓yao, ↓yap, ↓yaq, ↓yar, ↓yas, ↓yat, ↓yau, ↓yav, ↓yaw, ↓yax, yay, yaz, yba, ybb, ybc, ybd, ybe, ybf, ybg, ybh, ybi, ybj, ybk, ybl, ybm, ybn, ybo, ybp, ybq, ybr, ybs, ybt, ybu, ybv, ares, tup, ybw, ybx, yby, argsE, dval, aop, ev, evs, evo, evp, fillL, addrOf, intOf?, ybz, yca, ycb, ycc, ycd, yce, ycf, zah, zag, reduceIte, Nat.reduceEqDiff, ycg, ych, yci, ycj, yck, ycl, ycm, ycn, yco, ycp, ycq, ycr, zap, zao, reduceCtorEq, zbb, zbc, zba, zaz, Nat.reduceAdd, Nat.reduceMul, zaq, zar, eqPtr, zae, zaf, zab, zaa, zac, zad , hload, hstore, zal, zam, Nat.reduceAdd, Nat.reduceLeDiff, zbb, zas, zat, one, zau, zaw, zav, splice, zaj, zak, zab, zaa, ycs, yct, ycu, ycv, ycw, ycx, ycy, ycz, zan, zai, zax, zay, and_self, true_and, and_true, lenV, yda, Nat.le_refl, if_true , hp, w1, g0, quo8 _ (by omega : 8 * r.s.size - (j + 1) < 9223372036854775808), rem8, g1, Int.toNat_natCast, hb, g4, sub7 _ (by omega : (8 * r.s.size - (j + 1)) % 8 ≤ 7), shr64i _ _ (by omega : 7 - (8 * r.s.size - (j + 1)) % 8 ≤ 64), and64i _ hdiv, hbit, (show ((true.toNat : Nat) : Int) = 1 from rfl), hc]
            all_goals (first | rfl | exact ⟨rfl, rfl⟩ | exact ⟨rfl, trivial⟩ | exact ⟨trivial, trivial⟩ | exact ⟨trivial, rfl⟩ | trivial)
          | false =>
            rw [hs] at hbit
            have n0 : ¬ ((false.toNat : Nat) : Int) = 1 := by decide
            simp only [↓yaa, ↓yab, ↓yac, ↓yad, ↓yae, ↓yaf, ↓yag, ↓yah, ↓yai, ↓yaj, ↓yak, ↓yal, ↓yam, ↓yan, ↓yao, ↓yap, ↓yaq, ↓yar, ↓yas, ↓yat, ↓yau, ↓yav, ↓yaw, ↓yax, yay, yaz, yba, ybb, ybc, ybd, ybe, ybf, ybg, ybh, ybi, ybj, ybk, ybl, ybm, ybn, ybo, ybp, ybq, ybr, ybs, ybt, ybu, ybv, ares, tup, ybw, ybx, yby, argsE, dval, aop, ev, evs, evo, evp, fillL, addrOf, intOf?, ybz, yca, ycb, ycc, ycd, yce, ycf, zah, zag, reduceIte, Nat.reduceEqDiff, ycg, ych, yci, ycj, yck, ycl, ycm, ycn, yco, ycp, ycq, ycr, zap, zao, reduceCtorEq, zbb, zbc, zba, zaz, Nat.reduceAdd, Nat.reduceMul, zaq, zar, eqPtr, zae, zaf, zab, zaa, zac, zad , hload, hstore, zal, zam, Nat.reduceAdd, Nat.reduceLeDiff, zbb, zas, zat, one, zau, zaw, zav, splice, zaj, zak, zab, zaa, ycs, yct, ycu, ycv, ycw, ycx, ycy, ycz, zan, zai, zax, zay, and_self, true_and, and_true, lenV, yda, Nat.le_refl, if_true , hp, w1, g0, quo8 _ (by omega : 8 * r.s.size - (j + 1) < 9223372036854775808), rem8, g1, Int.toNat_natCast, hb, g4, sub7 _ (by omega : (8 * r.s.size - (j + 1)) % 8 ≤ 7), shr64i _ _ (by omega : 7 - (8 * r.s.size - (j + 1)) % 8 ≤ 64), and64i _ hdiv, hbit, n0, g3]
            refine ⟨j, by omega, by omega, rfl, rfl, fun k a b => ?_⟩
            by_cases hk : k = 8 * r.s.size - (j + 1)
            · rw [hk]; exact hs
            · exact hz k a (by omega)
  · have hc : r.close = r.err := by simp [RS.close, h1]
    rw [RS.x_bad h1] at hp
    simp only [F37, ↓yaa, ↓yab, ↓yac, ↓yad, ↓yae, ↓yaf, ↓yag, ↓yah, ↓yai, ↓yaj, ↓yak, ↓yal, ↓yam, ↓yan, ↓yao, ↓yap, ↓yaq, ↓yar, ↓yas, ↓yat, ↓yau, ↓yav, ↓yaw, ↓yax, yay, yaz, yba, ybb, ybc, ybd, ybe, ybf, ybg, ybh, ybi, ybj, ybk, ybl, ybm, ybn, ybo, ybp, ybq, ybr, ybs, ybt, ybu, ybv, ares, tup, ybw, ybx, yby, argsE, dval, aop, ev, evs, evo, evp, fillL, addrOf, intOf?, ybz, yca, ycb, ycc, ycd, yce, ycf, zah, zag, reduceIte, Nat.reduceEqDiff, ycg, ych, yci, ycj, yck, ycl, ycm, ycn, yco, ycp, ycq, ycr, zap, zao, reduceCtorEq, zbb, zbc, zba, zaz, Nat.reduceAdd, Nat.reduceMul, zaq, zar, eqPtr, zae, zaf, zab, zaa, zac, zad , hload, hstore, zal, zam, Nat.reduceAdd, Nat.reduceLeDiff, zbb, zas, zat, one, zau, zaw, zav, splice, zaj, zak, zab, zaa, ycs, yct, ycu, ycv, ycw, ycx, ycy, ycz, zan, zai, zax, zay, and_self, true_and, and_true, lenV, yda, Nat.le_refl, if_true , hp, h1, ne_eq, not_false_eq_true, hc]
    all_goals (first | rfl | exact ⟨rfl, rfl⟩ | exact ⟨rfl, trivial⟩ | exact ⟨trivial, trivial⟩ | exact ⟨trivial, rfl⟩ | trivial)

theorem xtext_spec {H : Heap} {p : Nat} {r : RS} {most : Int} (h : RSt H p r.x) (ho : r.Ok) (hm : Is64 most) {K : Value → Heap → Prop}
    (hk : ∀ H', RSt H' p (r.text most).2.x → Frm [p] H H' → K (.string (r.text most).1) H') : Op1 (AC tbl 32 [.pointer (some ⟨p, 0, none⟩), .int .i64 most] H) K := by
  apply AC_wp (F := F32) rfl (by simp [F32]) (.inl rfl)
  have hwd := wd_le (n := most) hm.2
  have hp := cells_get h
  have hpl := h.lt
  have n1 : ¬ (1 : Int) = 0 := by omega
  have n2 : ¬ (2 : Int) = 0 := by omega
  have n9 : ¬ (9 : Int) = 0 := by omega
  by_cases h1 : r.err = 0
  · by_cases h2 : lim most = true
    · have hlm : 1 ≤ most ∧ most ≤ 4095 := by simpa [lim] using h2
      have e1 : ¬ most < 1 := by omega
      have e2 : ¬ 4095 < most := by omega
      have hg := xget_spec (w := (wd most : Int)) h ho (fun _ => by omega)
      have hsm := @field_small r true (wd most) (fun _ => by omega)
      have hok := RS.field_ok ho (right := true) (w := (wd most : Int)) (fun _ => by omega)
      unfold RS.text at hk
      rw [h2] at hk
      generalize hx : r.field true (wd most) = x at *
      obtain ⟨n, r'⟩ := x
      simp only at hg hk hok hsm
      have hst := setR_st hpl r'.x
      have hc := cells_get hst
      by_cases h3 : r'.err = 0
      · by_cases h4 : most < (n : Int)
        · rw [if_neg (by simp [h3]), if_pos h4] at hk
          have hq : hget (setR H p ⟨⟨#[]⟩, 0, 2⟩) p = some ⟨true, [.string ⟨#[]⟩, .int .i64 ((0 : Nat) : Int), .int .i64 2]⟩ := setR_st hpl _
          simp only [F32, ↓yaa, ↓yab, ↓yac, ↓yad, ↓yae, ↓yaf, ↓yag, ↓yah, ↓yai, ↓yaj, ↓yak, ↓yal, ↓yam, ↓yan, ↓yao, ↓yap, ↓yaq, ↓yar, ↓yas, ↓yat, ↓yau, ↓yav, ↓yaw, ↓yax, yay, yaz, yba, ybb, ybc, ybd, ybe, ybf, ybg, ybh, ybi, ybj, ybk, ybl, ybm, ybn, ybo, ybp, ybq, ybr, ybs, ybt, ybu, ybv, ares, tup, ybw, ybx, yby, argsE, dval, aop, ev, evs, evo, evp, fillL, addrOf, intOf?, ybz, yca, ycb, ycc, ycd, yce, ycf, zah, zag, reduceIte, Nat.reduceEqDiff, ycg, ych, yci, ycj, yck, ycl, ycm, ycn, yco, ycp, ycq, ycr, zap, zao, reduceCtorEq, zbb, zbc, zba, zaz, Nat.reduceAdd, Nat.reduceMul, zaq, zar, eqPtr, zae, zaf, zab, zaa, zac, zad , hload, hstore, zal, zam, Nat.reduceAdd, Nat.reduceLeDiff, zbb, zas, zat, one, zau, zaw, zav, splice, zaj, zak, zab, zaa, ycs, yct, ycu, ycv, ycw, ycx, ycy, ycz, zan, zai, zax, zay, and_self, true_and, and_true, lenV, yda, Nat.le_refl, if_true , hp, RS.x_err, h1, e1, e2, refWidth most hm.2, hg, hc, h3, h4, xfail_spec hst, setR_setR, hq, n2, ne_eq, not_false_eq_true]
          exact hk _ (by rw [x_fail (by omega)]; exact setR_st hpl _) (setR_frm _ _ _)
        · have hleft := xleft_spec hst hok
          have w1 : IntKind.i64.wrap (8 * (n : Int)) = 8 * (n : Int) := wrap_i64 (by omega) (by omega)
          by_cases h5 : r'.left < 8 * (n : Int)
          · rw [if_neg (by simp [h3]), if_neg h4, if_pos h5] at hk
            have hq : hget (setR H p ⟨⟨#[]⟩, 0, 9⟩) p = some ⟨true, [.string ⟨#[]⟩, .int .i64 ((0 : Nat) : Int), .int .i64 9]⟩ := setR_st hpl _
            simp only [F32, ↓yaa, ↓yab, ↓yac, ↓yad, ↓yae, ↓yaf, ↓yag, ↓yah, ↓yai, ↓yaj, ↓yak, ↓yal, ↓yam, ↓yan, ↓yao, ↓yap, ↓yaq, ↓yar, ↓yas, ↓yat, ↓yau, ↓yav, ↓yaw, ↓yax, yay, yaz, yba, ybb, ybc, ybd, ybe, ybf, ybg, ybh, ybi, ybj, ybk, ybl, ybm, ybn, ybo, ybp, ybq, ybr, ybs, ybt, ybu, ybv, ares, tup, ybw, ybx, yby, argsE, dval, aop, ev, evs, evo, evp, fillL, addrOf, intOf?, ybz, yca, ycb, ycc, ycd, yce, ycf, zah, zag, reduceIte, Nat.reduceEqDiff, ycg, ych, yci, ycj, yck, ycl, ycm, ycn, yco, ycp, ycq, ycr, zap, zao, reduceCtorEq, zbb, zbc, zba, zaz, Nat.reduceAdd, Nat.reduceMul, zaq, zar, eqPtr, zae, zaf, zab, zaa, zac, zad , hload, hstore, zal, zam, Nat.reduceAdd, Nat.reduceLeDiff, zbb, zas, zat, one, zau, zaw, zav, splice, zaj, zak, zab, zaa, ycs, yct, ycu, ycv, ycw, ycx, ycy, ycz, zan, zai, zax, zay, and_self, true_and, and_true, lenV, yda, Nat.le_refl, if_true , hp, RS.x_err, h1, e1, e2, refWidth most hm.2, hg, hc, h3, h4, hleft, w1, h5, xfail_spec hst, setR_setR, hq, n9, ne_eq, not_false_eq_true]
            exact hk _ (by rw [x_fail (by omega)]; exact setR_st hpl _) (setR_frm _ _ _)
          · rw [if_neg (by simp [h3]), if_neg h4, if_neg h5] at hk
            have hn : n ≤ 4095 := by omega
            have hroom : r'.at_ + 8 * n ≤ 8 * r'.s.size := by
              simp only [RS.left, if_pos h3] at h5; omega
            have hmk : (0 : Int) ≤ (n : Int) ∧ (n : Int) ≤ (n : Int) ∧ (n : Int) ≤ 1000000000 ∧ (1 : Nat) ≤ 1000 := by omega
            have hsize := hok.size
            simp only [F32, ↓yaa, ↓yab, ↓yac, ↓yad, ↓yae, ↓yaf, ↓yag, ↓yah, ↓yai, ↓yaj, ↓yak, ↓yal, ↓yam, ↓yan, ↓yao, ↓yap, ↓yaq, ↓yar, ↓yas, ↓yat, ↓yau, ↓yav, ↓yaw, ↓yax, yay, yaz, yba, ybb, ybc, ybd, ybe, ybf, ybg, ybh, ybi, ybj, ybk, ybl, ybm, ybn, ybo, ybp, ybq, ybr, ybs, ybt, ybu, ybv, ares, tup, ybw, ybx, yby, argsE, dval, aop, ev, evs, evo, evp, fillL, addrOf, intOf?, ybz, yca, ycb, ycc, ycd, yce, ycf, zah, zag, reduceIte, Nat.reduceEqDiff, ycg, ych, yci, ycj, yck, ycl, ycm, ycn, yco, ycp, ycq, ycr, zap, zao, reduceCtorEq, zbb, zbc, zba, zaz, Nat.reduceAdd, Nat.reduceMul, zaq, zar, eqPtr, zae, zaf, zab, zaa, zac, zad , hload, hstore, zal, zam, Nat.reduceAdd, Nat.reduceLeDiff, zbb, zas, zat, one, zau, zaw, zav, splice, zaj, zak, zab, zaa, ycs, yct, ycu, ycv, ycw, ycx, ycy, ycz, zan, zai, zax, zay, and_self, true_and, and_true, lenV, yda, Nat.le_refl, if_true , hp, RS.x_err, h1, e1, e2, refWidth most hm.2, hg, hc, h3, h4, hleft, w1, h5, ne_eq, not_true_eq_false, hmk, Int.toNat_natCast, flat_zeros, setR_length]
            apply AW_loop_inv (fun j e H1 => j ≤ n ∧ e = [(0, .pointer (some ⟨p, 0, none⟩)), (5, .int .i64 (n : Int)), (6, .slice (some ⟨H.length, 0, none⟩) n 1), (7, .int .i64 ((n - j : Nat) : Int))] ∧
              H1 = setR H p { r' with at_ := r'.at_ + 8 * (n - j) } ++ [some ⟨true, u8s (partL r'.s r'.at_ (n - j) n)⟩]) _ n
            · refine ⟨Nat.le_refl _, by rw [Nat.sub_self]; rfl, ?_⟩
              rw [Nat.sub_self, partL_zero, RS.x_ok h3]; rfl
            · rintro j e H1 ⟨hj, rfl, rfl⟩
              cases j with
              | zero =>
                have g0 : ¬ (n : Int) < (n : Int) := by omega
                have hfin : RSt (setR H p { r' with at_ := r'.at_ + 8 * n } ++ [some ⟨true, u8s (readL r'.s r'.at_ n)⟩]) p ({ r' with at_ := r'.at_ + 8 * n } : RS).x := by
                  rw [RS.x_ok (r := { r' with at_ := r'.at_ + 8 * n }) h3]; exact gh_st hpl
                simp only [Nat.sub_zero, partL_all]
                by_cases hn0 : n = 0
                · subst hn0
                  simp only [↓yaa, ↓yab, ↓yac, ↓yad, ↓yae, ↓yaf, ↓yag, ↓yah, ↓yai, ↓yaj, ↓yak, ↓yal, ↓yam, ↓yan, ↓yao, ↓yap, ↓yaq, ↓yar, ↓yas, ↓yat, ↓yau, ↓yav, ↓yaw, ↓yax, yay, yaz, yba, ybb, ybc, ybd, ybe, ybf, ybg, ybh, ybi, ybj, ybk, ybl, ybm, ybn, ybo, ybp, ybq, ybr, ybs, ybt, ybu, ybv, ares, tup, ybw, ybx, yby, argsE, dval, aop, ev, evs, evo, evp, fillL, addrOf, intOf?, ybz, yca, ycb, ycc, ycd, yce, ycf, zah, zag, reduceIte, Nat.reduceEqDiff, ycg, ych, yci, ycj, yck, ycl, ycm, ycn, yco, ycp, ycq, ycr, zap, zao, reduceCtorEq, zbb, zbc, zba, zaz, Nat.reduceAdd, Nat.reduceMul, zaq, zar, eqPtr, zae, zaf, zab, zaa, zac, zad , hload, hstore, zal, zam, Nat.reduceAdd, Nat.reduceLeDiff, zbb, zas, zat, one, zau, zaw, zav, splice, zaj, zak, zab, zaa, ycs, yct, ycu, ycv, ycw, ycx, ycy, ycz, zan, zai, zax, zay, and_self, true_and, and_true, lenV, yda, Nat.le_refl, if_true , g0, bytesOf?]
                  exact hk _ hfin ((setR_frm _ _ _).push _)
                · have hl1 : 0 + n * 1 ≤ (u8s (readL r'.s r'.at_ n)).length := by rw [u8s_length, readL_length]; omega
                  have ht : List.take (n * 1) (List.drop 0 (u8s (readL r'.s r'.at_ n))) = u8s (readL r'.s r'.at_ n) := by
                    rw [List.drop_zero, Nat.mul_one]
                    exact List.take_of_length_le (by rw [u8s_length, readL_length]; exact Nat.le_refl _)
                  rw [zaz] at hl1
                  simp only [↓yaa, ↓yab, ↓yac, ↓yad, ↓yae, ↓yaf, ↓yag, ↓yah, ↓yai, ↓yaj, ↓yak, ↓yal, ↓yam, ↓yan, ↓yao, ↓yap, ↓yaq, ↓yar, ↓yas, ↓yat, ↓yau, ↓yav, ↓yaw, ↓yax, yay, yaz, yba, ybb, ybc, ybd, ybe, ybf, ybg, ybh, ybi, ybj, ybk, ybl, ybm, ybn, ybo, ybp, ybq, ybr, ybs, ybt, ybu, ybv, ares, tup, ybw, ybx, yby, argsE, dval, aop, ev, evs, evo, evp, fillL, addrOf, intOf?, ybz, yca, ycb, ycc, ycd, yce, ycf, zah, zag, reduceIte, Nat.reduceEqDiff, ycg, ych, yci, ycj, yck, ycl, ycm, ycn, yco, ycp, ycq, ycr, zap, zao, reduceCtorEq, zbb, zbc, zba, zaz, Nat.reduceAdd, Nat.reduceMul, zaq, zar, eqPtr, zae, zaf, zab, zaa, zac, zad , hload, hstore, zal, zam, Nat.reduceAdd, Nat.reduceLeDiff, zbb, zas, zat, one, zau, zaw, zav, splice, zaj, zak, zab, zaa, ycs, yct, ycu, ycv, ycw, ycx, ycy, ycz, zan, zai, zax, zay, and_self, true_and, and_true, lenV, yda, Nat.le_refl, if_true , g0, hn0, gh_get, hl1, ht, bytes_u8s _ (readL_small _ _ _)]
                  exact hk _ hfin ((setR_frm _ _ _).push _)
              | succ j =>
                have g0 : ((n - (j + 1) : Nat) : Int) < (n : Int) := by omega
                have hi : n - (j + 1) < n := by omega
                have g1 : (0 : Int) ≤ ((n - (j + 1) : Nat) : Int) ∧ ((n - (j + 1) : Nat) : Int) < (n : Int) := by omega
                have g2 : IntKind.i64.wrap (((n - (j + 1) : Nat) : Int) + 1) = ((n - j : Nat) : Int) := by rw [wrap_i64 (by omega) (by omega)]; omega
                have hf8 : (⟨r'.s, r'.at_ + 8 * (n - (j + 1)), r'.err⟩ : RS).field true 8 = (valOf r'.s (r'.at_ + 8 * (n - (j + 1))) 8, ⟨r'.s, r'.at_ + 8 * (n - (j + 1)) + 8, r'.err⟩) := by
                  rw [h3]; exact rfield_ok (by omega) (by simp only [show (8 : Int).toNat = 8 from rfl]; omega)
                have hget8 := @xget_spec (setR H p { r' with at_ := r'.at_ + 8 * (n - (j + 1)) } ++ [some ⟨true, u8s (partL r'.s r'.at_ (n - (j + 1)) n)⟩]) p { r' with at_ := r'.at_ + 8 * (n - (j + 1)) } 8
                  (by rw [RS.x_ok (r := { r' with at_ := r'.at_ + 8 * (n - (j + 1)) }) h3]; exact gh_st hpl) ⟨by simp only; omega, hsize⟩ (fun _ => by omega)
                rw [hf8] at hget8
                simp only at hget8
                rw [RS.x_ok (r := ⟨r'.s, r'.at_ + 8 * (n - (j + 1)) + 8, r'.err⟩) h3, gh_setR hpl] at hget8
                have hval := valOf_lt r'.s (r'.at_ + 8 * (n - (j + 1))) 8
                have hwv : IntKind.u8.wrap ((valOf r'.s (r'.at_ + 8 * (n - (j + 1))) 8 : Nat) : Int) = ((valOf r'.s (r'.at_ + 8 * (n - (j + 1))) 8 : Nat) : Int) := by rw [wrap_u8]; omega
                have hg3 : n - (j + 1) + 1 ≤ (u8s (partL r'.s r'.at_ (n - (j + 1)) n)).length := by rw [u8s_length, partL_length (by omega)]; omega
                simp only [↓yaa, ↓yab, ↓yac, ↓yad, ↓yae, ↓yaf, ↓yag, ↓yah, ↓yai, ↓yaj, ↓yak, ↓yal, ↓yam, ↓yan, ↓yao, ↓yap, ↓yaq, ↓yar, ↓yas, ↓yat, ↓yau, ↓yav, ↓yaw, ↓yax, yay, yaz, yba, ybb, ybc, ybd, ybe, ybf, ybg, ybh, ybi, ybj, ybk, ybl, ybm, ybn, ybo, ybp, ybq, ybr, ybs, ybt, ybu, ybv, ares, tup, ybw, ybx, yby, argsE, dval, aop, ev, evs, evo, evp, fillL, addrOf, intOf?, ybz, yca, ycb, ycc, ycd, yce, ycf, zah, zag, reduceIte, Nat.reduceEqDiff, ycg, ych, yci, ycj, yck, ycl, ycm, ycn, yco, ycp, ycq, ycr, zap, zao, reduceCtorEq, zbb, zbc, zba, zaz, Nat.reduceAdd, Nat.reduceMul, zaq, zar, eqPtr, zae, zaf, zab, zaa, zac, zad , hload, hstore, zal, zam, Nat.reduceAdd, Nat.reduceLeDiff, zbb, zas, zat, one, zau, zaw, zav, splice, zaj, zak, zab, zaa, ycs, yct, ycu, ycv, ycw, ycx, ycy, ycz, zan, zai, zax, zay, and_self, true_and, and_true, lenV, yda, Nat.le_refl, if_true , g0, hget8, hwv, g1, Int.toNat_natCast, Nat.mul_one, gh_get, hg3, u8s_set, partL_set hi, gh_set, g2]
                refine ⟨j, by omega, by omega, rfl, ?_⟩
                rw [show n - j = n - (j + 1) + 1 by omega, show r'.at_ + 8 * (n - (j + 1)) + 8 = r'.at_ + 8 * (n - (j + 1) + 1) by omega]
      · rw [if_pos (by simpa using h3)] at hk
        simp only [F32, ↓yaa, ↓yab, ↓yac, ↓yad, ↓yae, ↓yaf, ↓yag, ↓yah, ↓yai, ↓yaj, ↓yak, ↓yal, ↓yam, ↓yan, ↓yao, ↓yap, ↓yaq, ↓yar, ↓yas, ↓yat, ↓yau, ↓yav, ↓yaw, ↓yax, yay, yaz, yba, ybb, ybc, ybd, ybe, ybf, ybg, ybh, ybi, ybj, ybk, ybl, ybm, ybn, ybo, ybp, ybq, ybr, ybs, ybt, ybu, ybv, ares, tup, ybw, ybx, yby, argsE, dval, aop, ev, evs, evo, evp, fillL, addrOf, intOf?, ybz, yca, ycb, ycc, ycd, yce, ycf, zah, zag, reduceIte, Nat.reduceEqDiff, ycg, ych, yci, ycj, yck, ycl, ycm, ycn, yco, ycp, ycq, ycr, zap, zao, reduceCtorEq, zbb, zbc, zba, zaz, Nat.reduceAdd, Nat.reduceMul, zaq, zar, eqPtr, zae, zaf, zab, zaa, zac, zad , hload, hstore, zal, zam, Nat.reduceAdd, Nat.reduceLeDiff, zbb, zas, zat, one, zau, zaw, zav, splice, zaj, zak, zab, zaa, ycs, yct, ycu, ycv, ycw, ycx, ycy, ycz, zan, zai, zax, zay, and_self, true_and, and_true, lenV, yda, Nat.le_refl, if_true , hp, RS.x_err, h1, e1, e2, refWidth most hm.2, hg, hc, h3, ne_eq, not_false_eq_true]
        exact hk _ hst (setR_frm _ _ _)
    · have hl : lim most = false := by simpa using h2
      have hte : r.text most = (⟨#[]⟩, { r with err := 1 }) := by
        unfold RS.text; rw [hl, field_bad h1]; simp
      rw [hte] at hk
      have hg := @xget_spec (setR H p ⟨⟨#[]⟩, 0, 1⟩) p { r with err := 1 } (wd most) (by rw [x_fail (by omega)]; exact setR_st hpl _) ⟨ho.at_le, ho.size⟩ (fun hh => by simp at hh)
      rw [field_err (by simp)] at hg
      simp only [x_fail (by omega : (1 : Int) ≠ 0), setR_setR] at hg
      have hq : hget (setR H p ⟨⟨#[]⟩, 0, 1⟩) p = some ⟨true, [.string ⟨#[]⟩, .int .i64 ((0 : Nat) : Int), .int .i64 1]⟩ := setR_st hpl _
      have hfin := hk (setR H p ⟨⟨#[]⟩, 0, 1⟩) (by rw [x_fail (by omega)]; exact setR_st hpl _) (setR_frm _ _ _)
      by_cases e1 : most < 1
      · simp only [F32, ↓yaa, ↓yab, ↓yac, ↓yad, ↓yae, ↓yaf, ↓yag, ↓yah, ↓yai, ↓yaj, ↓yak, ↓yal, ↓yam, ↓yan, ↓yao, ↓yap, ↓yaq, ↓yar, ↓yas, ↓yat, ↓yau, ↓yav, ↓yaw, ↓yax, yay, yaz, yba, ybb, ybc, ybd, ybe, ybf, ybg, ybh, ybi, ybj, ybk, ybl, ybm, ybn, ybo, ybp, ybq, ybr, ybs, ybt, ybu, ybv, ares, tup, ybw, ybx, yby, argsE, dval, aop, ev, evs, evo, evp, fillL, addrOf, intOf?, ybz, yca, ycb, ycc, ycd, yce, ycf, zah, zag, reduceIte, Nat.reduceEqDiff, ycg, ych, yci, ycj, yck, ycl, ycm, ycn, yco, ycp, ycq, ycr, zap, zao, reduceCtorEq, zbb, zbc, zba, zaz, Nat.reduceAdd, Nat.reduceMul, zaq, zar, eqPtr, zae, zaf, zab, zaa, zac, zad , hload, hstore, zal, zam, Nat.reduceAdd, Nat.reduceLeDiff, zbb, zas, zat, one, zau, zaw, zav, splice, zaj, zak, zab, zaa, ycs, yct, ycu, ycv, ycw, ycx, ycy, ycz, zan, zai, zax, zay, and_self, true_and, and_true, lenV, yda, Nat.le_refl, if_true , hp, RS.x_err, h1, e1, refWidth most hm.2, xfail_spec h, hg, hq, n1, ne_eq, not_false_eq_true]
        exact hfin
      · have e2 : 4095 < most := by simp [lim] at hl; omega
        simp only [F32, ↓yaa, ↓yab, ↓yac, ↓yad, ↓yae, ↓yaf, ↓yag, ↓yah, ↓yai, ↓yaj, ↓yak, ↓yal, ↓yam, ↓yan, ↓yao, ↓yap, ↓yaq, ↓yar, ↓yas, ↓yat, ↓yau, ↓yav, ↓yaw, ↓yax, yay, yaz, yba, ybb, ybc, ybd, ybe, ybf, ybg, ybh, ybi, ybj, ybk, ybl, ybm, ybn, ybo, ybp, ybq, ybr, ybs, ybt, ybu, ybv, ares, tup, ybw, ybx, yby, argsE, dval, aop, ev, evs, evo, evp, fillL, addrOf, intOf?, ybz, yca, ycb, ycc, ycd, yce, ycf, zah, zag, reduceIte, Nat.reduceEqDiff, ycg, ych, yci, ycj, yck, ycl, ycm, ycn, yco, ycp, ycq, ycr, zap, zao, reduceCtorEq, zbb, zbc, zba, zaz, Nat.reduceAdd, Nat.reduceMul, zaq, zar, eqPtr, zae, zaf, zab, zaa, zac, zad , hload, hstore, zal, zam, Nat.reduceAdd, Nat.reduceLeDiff, zbb, zas, zat, one, zau, zaw, zav, splice, zaj, zak, zab, zaa, ycs, yct, ycu, ycv, ycw, ycx, ycy, ycz, zan, zai, zax, zay, and_self, true_and, and_true, lenV, yda, Nat.le_refl, if_true , hp, RS.x_err, h1, e1, e2, refWidth most hm.2, xfail_spec h, hg, hq, n1, ne_eq, not_false_eq_true]
        exact hfin
  · have hte : r.text most = (⟨#[]⟩, r) := by
      unfold RS.text; rw [field_err h1]; simp [h1]
    rw [hte] at hk
    have hg := xget_spec (w := (wd most : Int)) h ho (fun hh => absurd hh h1)
    rw [field_err h1, setR_same h] at hg
    simp only [F32, ↓yaa, ↓yab, ↓yac, ↓yad, ↓yae, ↓yaf, ↓yag, ↓yah, ↓yai, ↓yaj, ↓yak, ↓yal, ↓yam, ↓yan, ↓yao, ↓yap, ↓yaq, ↓yar, ↓yas, ↓yat, ↓yau, ↓yav, ↓yaw, ↓yax, yay, yaz, yba, ybb, ybc, ybd, ybe, ybf, ybg, ybh, ybi, ybj, ybk, ybl, ybm, ybn, ybo, ybp, ybq, ybr, ybs, ybt, ybu, ybv, ares, tup, ybw, ybx, yby, argsE, dval, aop, ev, evs, evo, evp, fillL, addrOf, intOf?, ybz, yca, ycb, ycc, ycd, yce, ycf, zah, zag, reduceIte, Nat.reduceEqDiff, ycg, ych, yci, ycj, yck, ycl, ycm, ycn, yco, ycp, ycq, ycr, zap, zao, reduceCtorEq, zbb, zbc, zba, zaz, Nat.reduceAdd, Nat.reduceMul, zaq, zar, eqPtr, zae, zaf, zab, zaa, zac, zad , hload, hstore, zal, zam, Nat.reduceAdd, Nat.reduceLeDiff, zbb, zas, zat, one, zau, zaw, zav, splice, zaj, zak, zab, zaa, ycs, yct, ycu, ycv, ycw, ycx, ycy, ycz, zan, zai, zax, zay, and_self, true_and, and_true, lenV, yda, Nat.le_refl, if_true , hp, RS.x_err, h1, refWidth most hm.2, hg, ne_eq, not_false_eq_true]
    exact hk H h (Frm.refl _ _)

end Go.Proofs.Ytejcabdejoameaa.AI

/- Writers and readers behind memory that stays as it is. -/
set_option linter.unusedSimpArgs false
namespace Go.Proofs.Ytejcabdejoameaa.AI
open Go

theorem Frm.gets {G H : Heap} (f : Frm [] G H) {i : Nat} {b : Blk} (h : hget G i = some b) : hget H i = some b := by rw [f.2 i (hget_lt h) (by simp)]; exact h
theorem Frm.new {G H H' : Heap} {O : List Nat} (f : Frm [] G H) (k : Frm O H H') (hO : ∀ i ∈ O, G.length ≤ i) : Frm [] G H' := f.trans k (fun i hi => .inr (hO i hi))

theorem wfieldlen {s : WS} {right fits : Bool} {w n : Int} (h : s.bs.length ≤ 524288) : (s.field right fits w n).bs.length ≤ 524288 := by
  unfold WS.field
  repeat' split
  all_goals first | exact h | (simp only [zai, bitsOf_length]; omega)
theorem wtextlen {s : WS} {most : Int} {t : ByteArray} (h : s.bs.length ≤ 524288) : (s.text most t).bs.length ≤ 524288 := by
  unfold WS.text
  repeat' split
  all_goals first | exact h | (simp only [zai, bitsOf_length, textBits_length]; omega)

structure WK (G H : Heap) (p : Nat) (s : WS) : Prop where
  ex : ∃ o, WSt H p o s.bs s.err ∧ ∀ q, o = some q → G.length ≤ q
  p : G.length ≤ p
  f : Frm [] G H
  len : s.bs.length ≤ 524288
structure VK (G H : Heap) (p : Nat) (s : WS) : Prop where
  ex : ∃ o, VSt H p o s.bs s.err ∧ ∀ q, o = some q → G.length ≤ q
  p : G.length ≤ p
  f : Frm [] G H
  len : s.bs.length ≤ 524288

section
variable {G H : Heap} {p : Nat} {s : WS} {K : Value → Heap → Prop}
theorem WK.frm (h : WK G H p s) {H' : Heap} (f : Frm [] H H') : WK G H' p s := by
  obtain ⟨o, h1, h2⟩ := h.ex
  exact ⟨⟨o, h1.frame f (by simp) (by simp), h2⟩, h.p, h.f.trans f (by simp), h.len⟩
theorem WK.fin (h : WK G H p s) {s' : WS} (hl : s'.bs.length ≤ 524288) {o : Option Nat} (ho : ∀ q, o = some q → G.length ≤ q) (hk : ∀ H', WK G H' p s' → K (.tuple #[]) H') : Wrote H p o s' K := by
  intro H' o' k1 k2 k3
  refine hk H' ⟨⟨o', k1, fun q hq => ?_⟩, h.p, h.f.new k2 fun i hi => ?_, hl⟩
  · rcases k3 q hq with k | k
    · exact ho q k
    · exact Nat.le_trans h.f.1 k
  · rcases List.mem_cons.1 hi with rfl | hi
    · exact h.p
    · exact ho i (by simpa [Option.mem_toList] using hi)
theorem WK.new (f : Frm [] G H) (hk : ∀ H', WK G H' H.length ⟨[], 0⟩ → K (.pointer (some ⟨H.length, 0, none⟩)) H') : Op1 (AC tbl 13 [] H) K := by
  rw [newWriter_eq, ycf]
  exact hk _ ⟨⟨none, newWriter_st H, by simp⟩, f.1, f.push _, by simp⟩
theorem WK.unsigned (h : WK G H p s) {w n : Int} (hn : Is64 n) (hk : ∀ H', WK G H' p (s.unsigned w n) → K (.tuple #[]) H') : Op1 (AC tbl 25 [.pointer (some ⟨p, 0, none⟩), .int .i64 w, .int .i64 n] H) K := by
  obtain ⟨o, h1, h2⟩ := h.ex
  exact unsigned_spec h1 h.len hn (h.fin (wfieldlen h.len) h2 hk)
theorem WK.flag (h : WK G H p s) {b : Bool} (hk : ∀ H', WK G H' p (s.flag b) → K (.tuple #[]) H') : Op1 (AC tbl 39 [.pointer (some ⟨p, 0, none⟩), .bool b] H) K := by
  obtain ⟨o, h1, h2⟩ := h.ex
  exact flag_spec h1 h.len (h.fin (wfieldlen h.len) h2 hk)
theorem WK.text (h : WK G H p s) {most : Int} {t : ByteArray} (hm : Is64 most) (ht : t.size ≤ 1000000000) (hk : ∀ H', WK G H' p (s.text most t) → K (.tuple #[]) H') : Op1 (AC tbl 38 [.pointer (some ⟨p, 0, none⟩), .int .i64 most, .string t] H) K := by
  obtain ⟨o, h1, h2⟩ := h.ex
  exact text_spec h1 h.len hm (by omega) (h.fin (wtextlen h.len) h2 hk)

open Classical in
/-- The string that some bits make. -/
noncomputable def bstr (bs : List Bool) : ByteArray := if h : ∃ s, IsStr bs s then h.choose else ⟨#[]⟩
theorem IsStr.eq {bs : List Bool} {s : ByteArray} (h : IsStr bs s) : s = bstr bs := by
  have hx : ∃ s, IsStr bs s := ⟨s, h⟩
  unfold bstr
  rw [dif_pos hx]
  exact h.same hx.choose_spec
/-- What a writer gives. -/
noncomputable def WS.out (s : WS) : ByteArray := if s.err = 0 then bstr s.bs else ⟨#[]⟩
theorem WK.bytes (h : WK G H p s) : AC tbl 17 [.pointer (some ⟨p, 0, none⟩)] H = some (.tuple #[.string s.out, .int .i64 s.err], H) ∧ IsStr s.bs (bstr s.bs) := by
  obtain ⟨o, h1, h2⟩ := h.ex
  obtain ⟨t, h3, h4⟩ := bytes_spec h1
  rw [h4]
  have := h3.eq
  subst this
  exact ⟨rfl, h3⟩

theorem VK.frm (h : VK G H p s) {H' : Heap} (f : Frm [] H H') : VK G H' p s := by
  obtain ⟨o, h1, h2⟩ := h.ex
  exact ⟨⟨o, h1.frame f (by simp) (by simp), h2⟩, h.p, h.f.trans f (by simp), h.len⟩
theorem VK.fin (h : VK G H p s) {s' : WS} (hl : s'.bs.length ≤ 524288) {o : Option Nat} (ho : ∀ q, o = some q → G.length ≤ q) (hk : ∀ H', VK G H' p s' → K (.tuple #[]) H') : VWrote H p o s' K := by
  intro H' o' k1 k2 k3
  refine hk H' ⟨⟨o', k1, fun q hq => ?_⟩, h.p, h.f.new k2 fun i hi => ?_, hl⟩
  · rcases k3 q hq with k | k
    · exact ho q k
    · exact Nat.le_trans h.f.1 k
  · rcases List.mem_cons.1 hi with rfl | hi
    · exact h.p
    · exact ho i (by simpa [Option.mem_toList] using hi)
theorem VK.new (f : Frm [] G H) (hk : ∀ H', VK G H' H.length ⟨[], 0⟩ → K (.pointer (some ⟨H.length, 0, none⟩)) H') : Op1 (AC tbl 14 [] H) K := by
  rw [newV_eq, ycf]
  exact hk _ ⟨⟨none, newV_st H, by simp⟩, f.1, f.push _, by simp⟩
theorem VK.unsigned (h : VK G H p s) {w n : Int} (hn : Is64 n) (hk : ∀ H', VK G H' p (s.unsigned w n) → K (.tuple #[]) H') : Op1 (AC tbl 43 [.pointer (some ⟨p, 0, none⟩), .int .i64 w, .int .i64 n] H) K := by
  obtain ⟨o, h1, h2⟩ := h.ex
  exact vunsigned_spec h1 h.len hn (h.fin (wfieldlen h.len) h2 hk)
theorem VK.flag (h : VK G H p s) {b : Bool} (hk : ∀ H', VK G H' p (s.flag b) → K (.tuple #[]) H') : Op1 (AC tbl 45 [.pointer (some ⟨p, 0, none⟩), .bool b] H) K := by
  obtain ⟨o, h1, h2⟩ := h.ex
  exact vflag_spec h1 h.len (h.fin (wfieldlen h.len) h2 hk)
theorem VK.text (h : VK G H p s) {most : Int} {t : ByteArray} (hm : Is64 most) (ht : t.size ≤ 1000000000) (hk : ∀ H', VK G H' p (s.text most t) → K (.tuple #[]) H') : Op1 (AC tbl 46 [.pointer (some ⟨p, 0, none⟩), .int .i64 most, .string t] H) K := by
  obtain ⟨o, h1, h2⟩ := h.ex
  exact vtext_spec h1 h.len hm ht (h.fin (wtextlen h.len) h2 hk)
theorem VK.bytes (h : VK G H p s) (hk : ∀ H', Frm [] H H' → K (.tuple #[.string s.out, .int .i64 s.err]) H') : Op1 (AC tbl 18 [.pointer (some ⟨p, 0, none⟩)] H) K := by
  obtain ⟨o, h1, h2⟩ := h.ex
  refine vbytes_spec h1 h.len fun t H' ht hf => ?_
  have := hk H' hf
  unfold WS.out at this
  by_cases he : s.err = 0
  · rw [if_pos he] at this ⊢
    rw [(ht he).eq]; exact this
  · rw [if_neg he] at this ⊢
    exact this
end

structure RK (G H : Heap) (p : Nat) (r : RS) : Prop where
  st : RSt H p r
  ok : r.Ok
  p : G.length ≤ p
  f : Frm [] G H
structure XK (G H : Heap) (p : Nat) (r : RS) : Prop where
  st : RSt H p r.x
  ok : r.Ok
  p : G.length ≤ p
  f : Frm [] G H
section
variable {G H : Heap} {p : Nat} {r : RS} {K : Value → Heap → Prop}
theorem RK.frm (h : RK G H p r) {H' : Heap} (f : Frm [] H H') : RK G H' p r := ⟨by unfold RSt; exact f.gets h.st, h.ok, h.p, h.f.trans f (by simp)⟩
theorem XK.frm (h : XK G H p r) {H' : Heap} (f : Frm [] H H') : XK G H' p r := ⟨by unfold RSt; exact f.gets h.st, h.ok, h.p, h.f.trans f (by simp)⟩
theorem RK.new (f : Frm [] G H) {t : ByteArray} (hk : ∀ H', RK G H' H.length (newR t) → K (.pointer (some ⟨H.length, 0, none⟩)) H') : Op1 (AC tbl 21 [.string t] H) K := by
  rw [newReader_eq, ycf]
  exact hk _ ⟨by unfold RSt; exact ydu, newR_ok t, f.1, f.push _⟩
theorem XK.new (f : Frm [] G H) {t : ByteArray} (hk : ∀ H', XK G H' H.length (newR t) → K (.pointer (some ⟨H.length, 0, none⟩)) H') : Op1 (AC tbl 28 [.string t] H) K := by
  rw [newX_eq, ycf]
  exact hk _ ⟨by unfold RSt; exact ydu, newR_ok t, f.1, f.push _⟩
theorem RK.set (h : RK G H p r) {r' : RS} (ho : r'.Ok) : RK G (setR H p r') p r' := ⟨setR_st h.st.lt _, ho, h.p, h.f.new (setR_frm _ _ _) (by simpa using h.p)⟩
theorem XK.set (h : XK G H p r) {r' : RS} (ho : r'.Ok) : XK G (setR H p r'.x) p r' := ⟨setR_st h.st.lt _, ho, h.p, h.f.new (setR_frm _ _ _) (by simpa using h.p)⟩
theorem RK.unsigned (h : RK G H p r) {w : Int} (hk : ∀ H', RK G H' p (r.unsigned w).2 → K (.int .i64 (r.unsigned w).1) H') : Op1 (AC tbl 40 [.pointer (some ⟨p, 0, none⟩), .int .i64 w] H) K := by
  rw [runsigned_spec h.st h.ok, ycf]
  exact hk _ (h.set (unsigned_ok h.ok w))
theorem XK.unsigned (h : XK G H p r) {w : Int} (hk : ∀ H', XK G H' p (r.unsigned w).2 → K (.int .i64 (r.unsigned w).1) H') : Op1 (AC tbl 29 [.pointer (some ⟨p, 0, none⟩), .int .i64 w] H) K := by
  rw [xunsigned_spec h.st h.ok, ycf]
  exact hk _ (h.set (unsigned_ok h.ok w))
theorem RK.flag (h : RK G H p r) (hk : ∀ H', RK G H' p r.flag.2 → K (.bool r.flag.1) H') : Op1 (AC tbl 41 [.pointer (some ⟨p, 0, none⟩)] H) K := by
  rw [rflag_spec h.st h.ok, ycf]
  exact hk _ (h.set (flag_ok h.ok))
theorem XK.flag (h : XK G H p r) (hk : ∀ H', XK G H' p r.flag.2 → K (.bool r.flag.1) H') : Op1 (AC tbl 31 [.pointer (some ⟨p, 0, none⟩)] H) K := by
  rw [xflag_spec h.st h.ok, ycf]
  exact hk _ (h.set (flag_ok h.ok))
theorem RK.text (h : RK G H p r) {w : Int} (hw : Is64 w) (hk : ∀ H', RK G H' p (r.text w).2 → K (.string (r.text w).1) H') : Op1 (AC tbl 42 [.pointer (some ⟨p, 0, none⟩), .int .i64 w] H) K :=
  rtext_spec h.st h.ok hw fun H' h1 h2 => hk H' ⟨h1, text_ok h.ok w, h.p, h.f.new h2 (by simpa using h.p)⟩
theorem XK.text (h : XK G H p r) {w : Int} (hw : Is64 w) (hk : ∀ H', XK G H' p (r.text w).2 → K (.string (r.text w).1) H') : Op1 (AC tbl 32 [.pointer (some ⟨p, 0, none⟩), .int .i64 w] H) K :=
  xtext_spec h.st h.ok hw fun H' h1 h2 => hk H' ⟨h1, text_ok h.ok w, h.p, h.f.new h2 (by simpa using h.p)⟩
theorem RK.close (h : RK G H p r) (hk : ∀ H', RK G H' p r → K (.int .i64 r.close) H') : Op1 (AC tbl 23 [.pointer (some ⟨p, 0, none⟩)] H) K :=
  close_spec h.st h.ok fun H' hf => hk H' (h.frm hf)
theorem XK.close (h : XK G H p r) : AC tbl 37 [.pointer (some ⟨p, 0, none⟩)] H = some (.int .i64 r.close, H) := xclose_spec h.st h.ok
end

end Go.Proofs.Ytejcabdejoameaa.AI

/- The bytes of an offer. -/
set_option linter.unusedSimpArgs false
set_option maxHeartbeats 4000000
namespace Go.Proofs.Ytejcabdejoameaa.AI
open Go

structure Off.Ok64 (o : Off) : Prop where
  root : Is64 o.root
  ver : Is64 o.next.ver
  first : Is64 o.next.first
  til : Is64 o.next.til
  ch : ∀ x ∈ o.next.ch, Is64 x
def chW (s : WS) (l : List Int) : WS := l.foldl (fun s c => s.unsigned 4 c) s
open Classical in
/-- What is written of an offer. -/
noncomputable def Off.ws (o : Off) : WS :=
  if o.next.Zero then (((({ bs := [], err := 0 } : WS).unsigned 5 o.root).flag o.opn).text 8 o.run).flag (decide (¬ o.next.Zero))
  else chW (((((((({ bs := [], err := 0 } : WS).unsigned 5 o.root).flag o.opn).text 8 o.run).flag (decide (¬ o.next.Zero))).unsigned 8 o.next.ver).unsigned 27 o.next.first).unsigned 27 o.next.til |>.unsigned 4 ((o.next.ch.length : Int) - 1)) o.next.ch
noncomputable def Off.enc (o : Off) : ByteArray × Int := if o.err ≠ 0 then (⟨#[]⟩, o.err) else (o.ws.out, o.ws.err)
theorem Off.run_small (o : Off) (h : o.err = 0) : o.run.size ≤ 1000000000 := by
  unfold Off.err at h
  split at h
  · omega
  · split at h
    · omega
    · omega

open Classical in
theorem f111 {H : Heap} {a : Option Addr} {z : Nat} {o : Off} (h : SI H a z o.next.ch) (hl : o.next.ch.length < 1000000000) (hok : o.Ok64) {K : Value → Heap → Prop} (hk : ∀ H', Frm [] H H' → K (.tuple #[.string o.enc.1, .int .i64 o.enc.2]) H') : Op1 (AC tbl 111 [o.v a z] H) K := by
  apply AC_wp (F := F111) rfl (by simp [F111]) (.inl rfl)
  have hov : o.v a z = .agg #[.int .i64 o.root, .bool o.opn, .string o.run, .int .i64 o.next.ver, .int .i64 o.next.first, .int .i64 o.next.til, .slice a o.next.ch.length z] := rfl
  have hlv : o.next.v a z = .agg #[.int .i64 o.next.ver, .int .i64 o.next.first, .int .i64 o.next.til, .slice a o.next.ch.length z] := rfl
  have hg : hget (H ++ [some ⟨true, [.int .i64 o.root, .bool o.opn, .string o.run, .int .i64 o.next.ver, .int .i64 o.next.first, .int .i64 o.next.til, .slice a o.next.ch.length z]⟩]) H.length = some ⟨true, [.int .i64 o.root, .bool o.opn, .string o.run, .int .i64 o.next.ver, .int .i64 o.next.first, .int .i64 o.next.til, .slice a o.next.ch.length z]⟩ := ydu
  have hi := h.push (some ⟨true, [.int .i64 o.root, .bool o.opn, .string o.run, .int .i64 o.next.ver, .int .i64 o.next.first, .int .i64 o.next.til, .slice a o.next.ch.length z]⟩)
  have hf0 : Frm [] H (H ++ [some ⟨true, [.int .i64 o.root, .bool o.opn, .string o.run, .int .i64 o.next.ver, .int .i64 o.next.first, .int .i64 o.next.til, .slice a o.next.ch.length z]⟩]) := (Frm.refl _ _).push _
  rw [hov]
  simp only [F111, ↓yaa, ↓yab, ↓yac, ↓yad, ↓yae, ↓yaf, ↓yag, ↓yah, ↓yai, ↓ydb, ↓ydc, ↓ydd, ↓yde, ↓ydf, ↓ydg, ↓yao, ↓yap, ↓ydh, ↓ydi, ↓ydj, ↓ydk, ↓ydl, ↓ydm, ↓ydn, ↓ydo, ↓ydp, ↓yax, yay, yaz, yba, ybb, ybc, ybd, ybe, ybf, ybg, ybh, ybi, ybj, ybk, ybl, ybm, ybn, ybo, ybp, ybq, ybr, ybs, ybt, ybu, ybv, ares, tup, ybw, ybx, yby, argsE, dval, aop, ev, evs, evo, evp, fillL, addrOf, intOf?, ybz, yca, ycb, ycc, ycd, yce, ycf, zah, zag, reduceIte, Nat.reduceEqDiff, ycg, ych, yci, ycj, yck, ycl, ycm, ycn, yco, ycp, ycq, ycr, zap, zao, reduceCtorEq, zbb, zbc, zba, zaz, Nat.reduceAdd, Nat.reduceMul, zaq, zar, eqPtr, zae, zaf, zab, zaa, zac, zad, hload, hstore, zal, zam, Nat.reduceAdd, Nat.reduceLeDiff, zbb, zas, zat, one, zau, zaw, zav, splice, zaj, zak, zab, zaa, ycs, yct, ycu, ycv, ycw, ycx, ycy, ycz, zan, zai, zax, zay, and_self, true_and, and_true, lenV, yda, Nat.le_refl, if_true, ydq, ydr, yds, ne_eq, not_true_eq_false, not_false_eq_true, ← decide_not, Decidable.not_not, ydt, ydu, ydz, ydv, ydw, List.drop_zero, eq_self, Bool.false_eq_true, List.getElem?_toArray, yea, yeb, List.nil_append, List.cons_append, Bool.false_and, Int.reduceEq, Int.reduceLT, Int.reduceLE, Int.reduceNe, zbc, zbb, yec, yed, yee, yef, ydx, ydy, take7, list7]
  generalize H ++ [some (⟨true, [.int .i64 o.root, .bool o.opn, .string o.run, .int .i64 o.next.ver, .int .i64 o.next.first, .int .i64 o.next.til, .slice a o.next.ch.length z]⟩ : Blk)] = G at *
  rw [← hov]
  refine f113 hi hl fun H1 hf1 => ?_
  unfold Off.enc at hk
  by_cases he : o.err = 0
  · rw [if_neg (by simpa using he)] at hk
    simp only [↓yaa, ↓yab, ↓yac, ↓yad, ↓yae, ↓yaf, ↓yag, ↓yah, ↓yai, ↓ydb, ↓ydc, ↓ydd, ↓yde, ↓ydf, ↓ydg, ↓yao, ↓yap, ↓ydh, ↓ydi, ↓ydj, ↓ydk, ↓ydl, ↓ydm, ↓ydn, ↓ydo, ↓ydp, ↓yax, yay, yaz, yba, ybb, ybc, ybd, ybe, ybf, ybg, ybh, ybi, ybj, ybk, ybl, ybm, ybn, ybo, ybp, ybq, ybr, ybs, ybt, ybu, ybv, ares, tup, ybw, ybx, yby, argsE, dval, aop, ev, evs, evo, evp, fillL, addrOf, intOf?, ybz, yca, ycb, ycc, ycd, yce, ycf, zah, zag, reduceIte, Nat.reduceEqDiff, ycg, ych, yci, ycj, yck, ycl, ycm, ycn, yco, ycp, ycq, ycr, zap, zao, reduceCtorEq, zbb, zbc, zba, zaz, Nat.reduceAdd, Nat.reduceMul, zaq, zar, eqPtr, zae, zaf, zab, zaa, zac, zad, hload, hstore, zal, zam, Nat.reduceAdd, Nat.reduceLeDiff, zbb, zas, zat, one, zau, zaw, zav, splice, zaj, zak, zab, zaa, ycs, yct, ycu, ycv, ycw, ycx, ycy, ycz, zan, zai, zax, zay, and_self, true_and, and_true, lenV, yda, Nat.le_refl, if_true, ydq, ydr, yds, ne_eq, not_true_eq_false, not_false_eq_true, ← decide_not, Decidable.not_not, ydt, ydu, ydz, ydv, ydw, List.drop_zero, eq_self, Bool.false_eq_true, List.getElem?_toArray, yea, yeb, List.nil_append, List.cons_append, Bool.false_and, Int.reduceEq, Int.reduceLT, Int.reduceLE, Int.reduceNe, zbc, zbb, yec, yed, yee, yef, ydx, ydy, he]
    refine WK.new hf1 fun H2 wk => ?_
    have q := wk.f.gets hg
    simp only [↓yaa, ↓yab, ↓yac, ↓yad, ↓yae, ↓yaf, ↓yag, ↓yah, ↓yai, ↓ydb, ↓ydc, ↓ydd, ↓yde, ↓ydf, ↓ydg, ↓yao, ↓yap, ↓ydh, ↓ydi, ↓ydj, ↓ydk, ↓ydl, ↓ydm, ↓ydn, ↓ydo, ↓ydp, ↓yax, yay, yaz, yba, ybb, ybc, ybd, ybe, ybf, ybg, ybh, ybi, ybj, ybk, ybl, ybm, ybn, ybo, ybp, ybq, ybr, ybs, ybt, ybu, ybv, ares, tup, ybw, ybx, yby, argsE, dval, aop, ev, evs, evo, evp, fillL, addrOf, intOf?, ybz, yca, ycb, ycc, ycd, yce, ycf, zah, zag, reduceIte, Nat.reduceEqDiff, ycg, ych, yci, ycj, yck, ycl, ycm, ycn, yco, ycp, ycq, ycr, zap, zao, reduceCtorEq, zbb, zbc, zba, zaz, Nat.reduceAdd, Nat.reduceMul, zaq, zar, eqPtr, zae, zaf, zab, zaa, zac, zad, hload, hstore, zal, zam, Nat.reduceAdd, Nat.reduceLeDiff, zbb, zas, zat, one, zau, zaw, zav, splice, zaj, zak, zab, zaa, ycs, yct, ycu, ycv, ycw, ycx, ycy, ycz, zan, zai, zax, zay, and_self, true_and, and_true, lenV, yda, Nat.le_refl, if_true, ydq, ydr, yds, ne_eq, not_true_eq_false, not_false_eq_true, ← decide_not, Decidable.not_not, ydt, ydu, ydz, ydv, ydw, List.drop_zero, eq_self, Bool.false_eq_true, List.getElem?_toArray, yea, yeb, List.nil_append, List.cons_append, Bool.false_and, Int.reduceEq, Int.reduceLT, Int.reduceLE, Int.reduceNe, zbc, zbb, yec, yed, yee, yef, ydx, ydy, q]
    refine wk.unsigned hok.root fun H3 wk => ?_
    have q := wk.f.gets hg
    simp only [↓yaa, ↓yab, ↓yac, ↓yad, ↓yae, ↓yaf, ↓yag, ↓yah, ↓yai, ↓ydb, ↓ydc, ↓ydd, ↓yde, ↓ydf, ↓ydg, ↓yao, ↓yap, ↓ydh, ↓ydi, ↓ydj, ↓ydk, ↓ydl, ↓ydm, ↓ydn, ↓ydo, ↓ydp, ↓yax, yay, yaz, yba, ybb, ybc, ybd, ybe, ybf, ybg, ybh, ybi, ybj, ybk, ybl, ybm, ybn, ybo, ybp, ybq, ybr, ybs, ybt, ybu, ybv, ares, tup, ybw, ybx, yby, argsE, dval, aop, ev, evs, evo, evp, fillL, addrOf, intOf?, ybz, yca, ycb, ycc, ycd, yce, ycf, zah, zag, reduceIte, Nat.reduceEqDiff, ycg, ych, yci, ycj, yck, ycl, ycm, ycn, yco, ycp, ycq, ycr, zap, zao, reduceCtorEq, zbb, zbc, zba, zaz, Nat.reduceAdd, Nat.reduceMul, zaq, zar, eqPtr, zae, zaf, zab, zaa, zac, zad, hload, hstore, zal, zam, Nat.reduceAdd, Nat.reduceLeDiff, zbb, zas, zat, one, zau, zaw, zav, splice, zaj, zak, zab, zaa, ycs, yct, ycu, ycv, ycw, ycx, ycy, ycz, zan, zai, zax, zay, and_self, true_and, and_true, lenV, yda, Nat.le_refl, if_true, ydq, ydr, yds, ne_eq, not_true_eq_false, not_false_eq_true, ← decide_not, Decidable.not_not, ydt, ydu, ydz, ydv, ydw, List.drop_zero, eq_self, Bool.false_eq_true, List.getElem?_toArray, yea, yeb, List.nil_append, List.cons_append, Bool.false_and, Int.reduceEq, Int.reduceLT, Int.reduceLE, Int.reduceNe, zbc, zbb, yec, yed, yee, yef, ydx, ydy, q]
    refine wk.flag fun H4 wk => ?_
    have q := wk.f.gets hg
    simp only [↓yaa, ↓yab, ↓yac, ↓yad, ↓yae, ↓yaf, ↓yag, ↓yah, ↓yai, ↓ydb, ↓ydc, ↓ydd, ↓yde, ↓ydf, ↓ydg, ↓yao, ↓yap, ↓ydh, ↓ydi, ↓ydj, ↓ydk, ↓ydl, ↓ydm, ↓ydn, ↓ydo, ↓ydp, ↓yax, yay, yaz, yba, ybb, ybc, ybd, ybe, ybf, ybg, ybh, ybi, ybj, ybk, ybl, ybm, ybn, ybo, ybp, ybq, ybr, ybs, ybt, ybu, ybv, ares, tup, ybw, ybx, yby, argsE, dval, aop, ev, evs, evo, evp, fillL, addrOf, intOf?, ybz, yca, ycb, ycc, ycd, yce, ycf, zah, zag, reduceIte, Nat.reduceEqDiff, ycg, ych, yci, ycj, yck, ycl, ycm, ycn, yco, ycp, ycq, ycr, zap, zao, reduceCtorEq, zbb, zbc, zba, zaz, Nat.reduceAdd, Nat.reduceMul, zaq, zar, eqPtr, zae, zaf, zab, zaa, zac, zad, hload, hstore, zal, zam, Nat.reduceAdd, Nat.reduceLeDiff, zbb, zas, zat, one, zau, zaw, zav, splice, zaj, zak, zab, zaa, ycs, yct, ycu, ycv, ycw, ycx, ycy, ycz, zan, zai, zax, zay, and_self, true_and, and_true, lenV, yda, Nat.le_refl, if_true, ydq, ydr, yds, ne_eq, not_true_eq_false, not_false_eq_true, ← decide_not, Decidable.not_not, ydt, ydu, ydz, ydv, ydw, List.drop_zero, eq_self, Bool.false_eq_true, List.getElem?_toArray, yea, yeb, List.nil_append, List.cons_append, Bool.false_and, Int.reduceEq, Int.reduceLT, Int.reduceLE, Int.reduceNe, zbc, zbb, yec, yed, yee, yef, ydx, ydy, q]
    refine wk.text ⟨by omega, by omega⟩ (o.run_small he) fun H5 wk => ?_
    have q := wk.f.gets hg
    simp only [↓yaa, ↓yab, ↓yac, ↓yad, ↓yae, ↓yaf, ↓yag, ↓yah, ↓yai, ↓ydb, ↓ydc, ↓ydd, ↓yde, ↓ydf, ↓ydg, ↓yao, ↓yap, ↓ydh, ↓ydi, ↓ydj, ↓ydk, ↓ydl, ↓ydm, ↓ydn, ↓ydo, ↓ydp, ↓yax, yay, yaz, yba, ybb, ybc, ybd, ybe, ybf, ybg, ybh, ybi, ybj, ybk, ybl, ybm, ybn, ybo, ybp, ybq, ybr, ybs, ybt, ybu, ybv, ares, tup, ybw, ybx, yby, argsE, dval, aop, ev, evs, evo, evp, fillL, addrOf, intOf?, ybz, yca, ycb, ycc, ycd, yce, ycf, zah, zag, reduceIte, Nat.reduceEqDiff, ycg, ych, yci, ycj, yck, ycl, ycm, ycn, yco, ycp, ycq, ycr, zap, zao, reduceCtorEq, zbb, zbc, zba, zaz, Nat.reduceAdd, Nat.reduceMul, zaq, zar, eqPtr, zae, zaf, zab, zaa, zac, zad, hload, hstore, zal, zam, Nat.reduceAdd, Nat.reduceLeDiff, zbb, zas, zat, one, zau, zaw, zav, splice, zaj, zak, zab, zaa, ycs, yct, ycu, ycv, ycw, ycx, ycy, ycz, zan, zai, zax, zay, and_self, true_and, and_true, lenV, yda, Nat.le_refl, if_true, ydq, ydr, yds, ne_eq, not_true_eq_false, not_false_eq_true, ← decide_not, Decidable.not_not, ydt, ydu, ydz, ydv, ydw, List.drop_zero, eq_self, Bool.false_eq_true, List.getElem?_toArray, yea, yeb, List.nil_append, List.cons_append, Bool.false_and, Int.reduceEq, Int.reduceLT, Int.reduceLE, Int.reduceNe, zbc, zbb, yec, yed, yee, yef, ydx, ydy, q, take4', list4', Nat.reduceLeDiff]
    rw [← hlv]
    refine f134 fun H6 hf6 => ?_
    have wk := wk.frm hf6
    simp only [↓yaa, ↓yab, ↓yac, ↓yad, ↓yae, ↓yaf, ↓yag, ↓yah, ↓yai, ↓ydb, ↓ydc, ↓ydd, ↓yde, ↓ydf, ↓ydg, ↓yao, ↓yap, ↓ydh, ↓ydi, ↓ydj, ↓ydk, ↓ydl, ↓ydm, ↓ydn, ↓ydo, ↓ydp, ↓yax, yay, yaz, yba, ybb, ybc, ybd, ybe, ybf, ybg, ybh, ybi, ybj, ybk, ybl, ybm, ybn, ybo, ybp, ybq, ybr, ybs, ybt, ybu, ybv, ares, tup, ybw, ybx, yby, argsE, dval, aop, ev, evs, evo, evp, fillL, addrOf, intOf?, ybz, yca, ycb, ycc, ycd, yce, ycf, zah, zag, reduceIte, Nat.reduceEqDiff, ycg, ych, yci, ycj, yck, ycl, ycm, ycn, yco, ycp, ycq, ycr, zap, zao, reduceCtorEq, zbb, zbc, zba, zaz, Nat.reduceAdd, Nat.reduceMul, zaq, zar, eqPtr, zae, zaf, zab, zaa, zac, zad, hload, hstore, zal, zam, Nat.reduceAdd, Nat.reduceLeDiff, zbb, zas, zat, one, zau, zaw, zav, splice, zaj, zak, zab, zaa, ycs, yct, ycu, ycv, ycw, ycx, ycy, ycz, zan, zai, zax, zay, and_self, true_and, and_true, lenV, yda, Nat.le_refl, if_true, ydq, ydr, yds, ne_eq, not_true_eq_false, not_false_eq_true, ← decide_not, Decidable.not_not, ydt, ydu, ydz, ydv, ydw, List.drop_zero, eq_self, Bool.false_eq_true, List.getElem?_toArray, yea, yeb, List.nil_append, List.cons_append, Bool.false_and, Int.reduceEq, Int.reduceLT, Int.reduceLE, Int.reduceNe, zbc, zbb, yec, yed, yee, yef, ydx, ydy]
    refine wk.flag fun H7 wk => ?_
    have q := wk.f.gets hg
    simp only [↓yaa, ↓yab, ↓yac, ↓yad, ↓yae, ↓yaf, ↓yag, ↓yah, ↓yai, ↓ydb, ↓ydc, ↓ydd, ↓yde, ↓ydf, ↓ydg, ↓yao, ↓yap, ↓ydh, ↓ydi, ↓ydj, ↓ydk, ↓ydl, ↓ydm, ↓ydn, ↓ydo, ↓ydp, ↓yax, yay, yaz, yba, ybb, ybc, ybd, ybe, ybf, ybg, ybh, ybi, ybj, ybk, ybl, ybm, ybn, ybo, ybp, ybq, ybr, ybs, ybt, ybu, ybv, ares, tup, ybw, ybx, yby, argsE, dval, aop, ev, evs, evo, evp, fillL, addrOf, intOf?, ybz, yca, ycb, ycc, ycd, yce, ycf, zah, zag, reduceIte, Nat.reduceEqDiff, ycg, ych, yci, ycj, yck, ycl, ycm, ycn, yco, ycp, ycq, ycr, zap, zao, reduceCtorEq, zbb, zbc, zba, zaz, Nat.reduceAdd, Nat.reduceMul, zaq, zar, eqPtr, zae, zaf, zab, zaa, zac, zad, hload, hstore, zal, zam, Nat.reduceAdd, Nat.reduceLeDiff, zbb, zas, zat, one, zau, zaw, zav, splice, zaj, zak, zab, zaa, ycs, yct, ycu, ycv, ycw, ycx, ycy, ycz, zan, zai, zax, zay, and_self, true_and, and_true, lenV, yda, Nat.le_refl, if_true, ydq, ydr, yds, ne_eq, not_true_eq_false, not_false_eq_true, ← decide_not, Decidable.not_not, ydt, ydu, ydz, ydv, ydw, List.drop_zero, eq_self, Bool.false_eq_true, List.getElem?_toArray, yea, yeb, List.nil_append, List.cons_append, Bool.false_and, Int.reduceEq, Int.reduceLT, Int.reduceLE, Int.reduceNe, zbc, zbb, yec, yed, yee, yef, ydx, ydy, q, take4', list4', Nat.reduceLeDiff]
    rw [← hlv]
    refine f134 fun H8 hf8 => ?_
    have wk := wk.frm hf8
    unfold Off.ws at hk
    by_cases hz : o.next.Zero
    · rw [if_pos hz] at hk
      simp only [hz, not_true_eq_false, zbc] at wk
      simp only [↓yaa, ↓yab, ↓yac, ↓yad, ↓yae, ↓yaf, ↓yag, ↓yah, ↓yai, ↓ydb, ↓ydc, ↓ydd, ↓yde, ↓ydf, ↓ydg, ↓yao, ↓yap, ↓ydh, ↓ydi, ↓ydj, ↓ydk, ↓ydl, ↓ydm, ↓ydn, ↓ydo, ↓ydp, ↓yax, yay, yaz, yba, ybb, ybc, ybd, ybe, ybf, ybg, ybh, ybi, ybj, ybk, ybl, ybm, ybn, ybo, ybp, ybq, ybr, ybs, ybt, ybu, ybv, ares, tup, ybw, ybx, yby, argsE, dval, aop, ev, evs, evo, evp, fillL, addrOf, intOf?, ybz, yca, ycb, ycc, ycd, yce, ycf, zah, zag, reduceIte, Nat.reduceEqDiff, ycg, ych, yci, ycj, yck, ycl, ycm, ycn, yco, ycp, ycq, ycr, zap, zao, reduceCtorEq, zbb, zbc, zba, zaz, Nat.reduceAdd, Nat.reduceMul, zaq, zar, eqPtr, zae, zaf, zab, zaa, zac, zad, hload, hstore, zal, zam, Nat.reduceAdd, Nat.reduceLeDiff, zbb, zas, zat, one, zau, zaw, zav, splice, zaj, zak, zab, zaa, ycs, yct, ycu, ycv, ycw, ycx, ycy, ycz, zan, zai, zax, zay, and_self, true_and, and_true, lenV, yda, Nat.le_refl, if_true, ydq, ydr, yds, ne_eq, not_true_eq_false, not_false_eq_true, ← decide_not, Decidable.not_not, ydt, ydu, ydz, ydv, ydw, List.drop_zero, eq_self, Bool.false_eq_true, List.getElem?_toArray, yea, yeb, List.nil_append, List.cons_append, Bool.false_and, Int.reduceEq, Int.reduceLT, Int.reduceLE, Int.reduceNe, zbc, zbb, yec, yed, yee, yef, ydx, ydy, hz]
      obtain ⟨hb, _⟩ := wk.bytes
      simp only [hz, not_true_eq_false, zbc] at hk
      simp only [↓yaa, ↓yab, ↓yac, ↓yad, ↓yae, ↓yaf, ↓yag, ↓yah, ↓yai, ↓ydb, ↓ydc, ↓ydd, ↓yde, ↓ydf, ↓ydg, ↓yao, ↓yap, ↓ydh, ↓ydi, ↓ydj, ↓ydk, ↓ydl, ↓ydm, ↓ydn, ↓ydo, ↓ydp, ↓yax, yay, yaz, yba, ybb, ybc, ybd, ybe, ybf, ybg, ybh, ybi, ybj, ybk, ybl, ybm, ybn, ybo, ybp, ybq, ybr, ybs, ybt, ybu, ybv, ares, tup, ybw, ybx, yby, argsE, dval, aop, ev, evs, evo, evp, fillL, addrOf, intOf?, ybz, yca, ycb, ycc, ycd, yce, ycf, zah, zag, reduceIte, Nat.reduceEqDiff, ycg, ych, yci, ycj, yck, ycl, ycm, ycn, yco, ycp, ycq, ycr, zap, zao, reduceCtorEq, zbb, zbc, zba, zaz, Nat.reduceAdd, Nat.reduceMul, zaq, zar, eqPtr, zae, zaf, zab, zaa, zac, zad, hload, hstore, zal, zam, Nat.reduceAdd, Nat.reduceLeDiff, zbb, zas, zat, one, zau, zaw, zav, splice, zaj, zak, zab, zaa, ycs, yct, ycu, ycv, ycw, ycx, ycy, ycz, zan, zai, zax, zay, and_self, true_and, and_true, lenV, yda, Nat.le_refl, if_true, ydq, ydr, yds, ne_eq, not_true_eq_false, not_false_eq_true, ← decide_not, Decidable.not_not, ydt, ydu, ydz, ydv, ydw, List.drop_zero, eq_self, Bool.false_eq_true, List.getElem?_toArray, yea, yeb, List.nil_append, List.cons_append, Bool.false_and, Int.reduceEq, Int.reduceLT, Int.reduceLE, Int.reduceNe, zbc, zbb, yec, yed, yee, yef, ydx, ydy, hb]
      exact hk _ (hf0.then wk.f)
    · rw [if_neg hz] at hk
      simp only [hz, not_false_eq_true, zbb] at wk
      simp only [hz, not_false_eq_true, zbb] at hk
      have q := wk.f.gets hg
      simp only [↓yaa, ↓yab, ↓yac, ↓yad, ↓yae, ↓yaf, ↓yag, ↓yah, ↓yai, ↓ydb, ↓ydc, ↓ydd, ↓yde, ↓ydf, ↓ydg, ↓yao, ↓yap, ↓ydh, ↓ydi, ↓ydj, ↓ydk, ↓ydl, ↓ydm, ↓ydn, ↓ydo, ↓ydp, ↓yax, yay, yaz, yba, ybb, ybc, ybd, ybe, ybf, ybg, ybh, ybi, ybj, ybk, ybl, ybm, ybn, ybo, ybp, ybq, ybr, ybs, ybt, ybu, ybv, ares, tup, ybw, ybx, yby, argsE, dval, aop, ev, evs, evo, evp, fillL, addrOf, intOf?, ybz, yca, ycb, ycc, ycd, yce, ycf, zah, zag, reduceIte, Nat.reduceEqDiff, ycg, ych, yci, ycj, yck, ycl, ycm, ycn, yco, ycp, ycq, ycr, zap, zao, reduceCtorEq, zbb, zbc, zba, zaz, Nat.reduceAdd, Nat.reduceMul, zaq, zar, eqPtr, zae, zaf, zab, zaa, zac, zad, hload, hstore, zal, zam, Nat.reduceAdd, Nat.reduceLeDiff, zbb, zas, zat, one, zau, zaw, zav, splice, zaj, zak, zab, zaa, ycs, yct, ycu, ycv, ycw, ycx, ycy, ycz, zan, zai, zax, zay, and_self, true_and, and_true, lenV, yda, Nat.le_refl, if_true, ydq, ydr, yds, ne_eq, not_true_eq_false, not_false_eq_true, ← decide_not, Decidable.not_not, ydt, ydu, ydz, ydv, ydw, List.drop_zero, eq_self, Bool.false_eq_true, List.getElem?_toArray, yea, yeb, List.nil_append, List.cons_append, Bool.false_and, Int.reduceEq, Int.reduceLT, Int.reduceLE, Int.reduceNe, zbc, zbb, yec, yed, yee, yef, ydx, ydy, hz, q, Nat.reduceAdd]
      refine wk.unsigned hok.ver fun H9 wk => ?_
      have q := wk.f.gets hg
      simp only [↓yaa, ↓yab, ↓yac, ↓yad, ↓yae, ↓yaf, ↓yag, ↓yah, ↓yai, ↓ydb, ↓ydc, ↓ydd, ↓yde, ↓ydf, ↓ydg, ↓yao, ↓yap, ↓ydh, ↓ydi, ↓ydj, ↓ydk, ↓ydl, ↓ydm, ↓ydn, ↓ydo, ↓ydp, ↓yax, yay, yaz, yba, ybb, ybc, ybd, ybe, ybf, ybg, ybh, ybi, ybj, ybk, ybl, ybm, ybn, ybo, ybp, ybq, ybr, ybs, ybt, ybu, ybv, ares, tup, ybw, ybx, yby, argsE, dval, aop, ev, evs, evo, evp, fillL, addrOf, intOf?, ybz, yca, ycb, ycc, ycd, yce, ycf, zah, zag, reduceIte, Nat.reduceEqDiff, ycg, ych, yci, ycj, yck, ycl, ycm, ycn, yco, ycp, ycq, ycr, zap, zao, reduceCtorEq, zbb, zbc, zba, zaz, Nat.reduceAdd, Nat.reduceMul, zaq, zar, eqPtr, zae, zaf, zab, zaa, zac, zad, hload, hstore, zal, zam, Nat.reduceAdd, Nat.reduceLeDiff, zbb, zas, zat, one, zau, zaw, zav, splice, zaj, zak, zab, zaa, ycs, yct, ycu, ycv, ycw, ycx, ycy, ycz, zan, zai, zax, zay, and_self, true_and, and_true, lenV, yda, Nat.le_refl, if_true, ydq, ydr, yds, ne_eq, not_true_eq_false, not_false_eq_true, ← decide_not, Decidable.not_not, ydt, ydu, ydz, ydv, ydw, List.drop_zero, eq_self, Bool.false_eq_true, List.getElem?_toArray, yea, yeb, List.nil_append, List.cons_append, Bool.false_and, Int.reduceEq, Int.reduceLT, Int.reduceLE, Int.reduceNe, zbc, zbb, yec, yed, yee, yef, ydx, ydy, q, Nat.reduceAdd]
      refine wk.unsigned hok.first fun H10 wk => ?_
      have q := wk.f.gets hg
      simp only [↓yaa, ↓yab, ↓yac, ↓yad, ↓yae, ↓yaf, ↓yag, ↓yah, ↓yai, ↓ydb, ↓ydc, ↓ydd, ↓yde, ↓ydf, ↓ydg, ↓yao, ↓yap, ↓ydh, ↓ydi, ↓ydj, ↓ydk, ↓ydl, ↓ydm, ↓ydn, ↓ydo, ↓ydp, ↓yax, yay, yaz, yba, ybb, ybc, ybd, ybe, ybf, ybg, ybh, ybi, ybj, ybk, ybl, ybm, ybn, ybo, ybp, ybq, ybr, ybs, ybt, ybu, ybv, ares, tup, ybw, ybx, yby, argsE, dval, aop, ev, evs, evo, evp, fillL, addrOf, intOf?, ybz, yca, ycb, ycc, ycd, yce, ycf, zah, zag, reduceIte, Nat.reduceEqDiff, ycg, ych, yci, ycj, yck, ycl, ycm, ycn, yco, ycp, ycq, ycr, zap, zao, reduceCtorEq, zbb, zbc, zba, zaz, Nat.reduceAdd, Nat.reduceMul, zaq, zar, eqPtr, zae, zaf, zab, zaa, zac, zad, hload, hstore, zal, zam, Nat.reduceAdd, Nat.reduceLeDiff, zbb, zas, zat, one, zau, zaw, zav, splice, zaj, zak, zab, zaa, ycs, yct, ycu, ycv, ycw, ycx, ycy, ycz, zan, zai, zax, zay, and_self, true_and, and_true, lenV, yda, Nat.le_refl, if_true, ydq, ydr, yds, ne_eq, not_true_eq_false, not_false_eq_true, ← decide_not, Decidable.not_not, ydt, ydu, ydz, ydv, ydw, List.drop_zero, eq_self, Bool.false_eq_true, List.getElem?_toArray, yea, yeb, List.nil_append, List.cons_append, Bool.false_and, Int.reduceEq, Int.reduceLT, Int.reduceLE, Int.reduceNe, zbc, zbb, yec, yed, yee, yef, ydx, ydy, q, Nat.reduceAdd]
      refine wk.unsigned hok.til fun H11 wk => ?_
      have q := wk.f.gets hg
      have w1 : IntKind.i64.wrap ((o.next.ch.length : Int) - 1) = (o.next.ch.length : Int) - 1 := wrap_i64 (by omega) (by omega)
      simp only [↓yaa, ↓yab, ↓yac, ↓yad, ↓yae, ↓yaf, ↓yag, ↓yah, ↓yai, ↓ydb, ↓ydc, ↓ydd, ↓yde, ↓ydf, ↓ydg, ↓yao, ↓yap, ↓ydh, ↓ydi, ↓ydj, ↓ydk, ↓ydl, ↓ydm, ↓ydn, ↓ydo, ↓ydp, ↓yax, yay, yaz, yba, ybb, ybc, ybd, ybe, ybf, ybg, ybh, ybi, ybj, ybk, ybl, ybm, ybn, ybo, ybp, ybq, ybr, ybs, ybt, ybu, ybv, ares, tup, ybw, ybx, yby, argsE, dval, aop, ev, evs, evo, evp, fillL, addrOf, intOf?, ybz, yca, ycb, ycc, ycd, yce, ycf, zah, zag, reduceIte, Nat.reduceEqDiff, ycg, ych, yci, ycj, yck, ycl, ycm, ycn, yco, ycp, ycq, ycr, zap, zao, reduceCtorEq, zbb, zbc, zba, zaz, Nat.reduceAdd, Nat.reduceMul, zaq, zar, eqPtr, zae, zaf, zab, zaa, zac, zad, hload, hstore, zal, zam, Nat.reduceAdd, Nat.reduceLeDiff, zbb, zas, zat, one, zau, zaw, zav, splice, zaj, zak, zab, zaa, ycs, yct, ycu, ycv, ycw, ycx, ycy, ycz, zan, zai, zax, zay, and_self, true_and, and_true, lenV, yda, Nat.le_refl, if_true, ydq, ydr, yds, ne_eq, not_true_eq_false, not_false_eq_true, ← decide_not, Decidable.not_not, ydt, ydu, ydz, ydv, ydw, List.drop_zero, eq_self, Bool.false_eq_true, List.getElem?_toArray, yea, yeb, List.nil_append, List.cons_append, Bool.false_and, Int.reduceEq, Int.reduceLT, Int.reduceLE, Int.reduceNe, zbc, zbb, yec, yed, yee, yef, ydx, ydy, q, Nat.reduceAdd, w1]
      refine wk.unsigned ⟨by omega, by omega⟩ fun H12 wk => ?_
      have q := wk.f.gets hg
      simp only [↓yaa, ↓yab, ↓yac, ↓yad, ↓yae, ↓yaf, ↓yag, ↓yah, ↓yai, ↓ydb, ↓ydc, ↓ydd, ↓yde, ↓ydf, ↓ydg, ↓yao, ↓yap, ↓ydh, ↓ydi, ↓ydj, ↓ydk, ↓ydl, ↓ydm, ↓ydn, ↓ydo, ↓ydp, ↓yax, yay, yaz, yba, ybb, ybc, ybd, ybe, ybf, ybg, ybh, ybi, ybj, ybk, ybl, ybm, ybn, ybo, ybp, ybq, ybr, ybs, ybt, ybu, ybv, ares, tup, ybw, ybx, yby, argsE, dval, aop, ev, evs, evo, evp, fillL, addrOf, intOf?, ybz, yca, ycb, ycc, ycd, yce, ycf, zah, zag, reduceIte, Nat.reduceEqDiff, ycg, ych, yci, ycj, yck, ycl, ycm, ycn, yco, ycp, ycq, ycr, zap, zao, reduceCtorEq, zbb, zbc, zba, zaz, Nat.reduceAdd, Nat.reduceMul, zaq, zar, eqPtr, zae, zaf, zab, zaa, zac, zad, hload, hstore, zal, zam, Nat.reduceAdd, Nat.reduceLeDiff, zbb, zas, zat, one, zau, zaw, zav, splice, zaj, zak, zab, zaa, ycs, yct, ycu, ycv, ycw, ycx, ycy, ycz, zan, zai, zax, zay, and_self, true_and, and_true, lenV, yda, Nat.le_refl, if_true, ydq, ydr, yds, ne_eq, not_true_eq_false, not_false_eq_true, ← decide_not, Decidable.not_not, ydt, ydu, ydz, ydv, ydw, List.drop_zero, eq_self, Bool.false_eq_true, List.getElem?_toArray, yea, yeb, List.nil_append, List.cons_append, Bool.false_and, Int.reduceEq, Int.reduceLT, Int.reduceLE, Int.reduceNe, zbc, zbb, yec, yed, yee, yef, ydx, ydy, q, Nat.reduceAdd]
      revert wk
      generalize hw0 : (((((((({ bs := [], err := 0 } : WS).unsigned 5 o.root).flag o.opn).text 8 o.run).flag true).unsigned 8 o.next.ver).unsigned 27 o.next.first).unsigned 27 o.next.til).unsigned 4 ((o.next.ch.length : Int) - 1) = w0 at hk
      intro wk
      apply AW_loop_inv (fun j e H0 => j ≤ o.next.ch.length ∧ e = [(5, .pointer (some ⟨H1.length, 0, none⟩)), (60, .slice a o.next.ch.length z), (61, .int .i64 (o.next.ch.length : Int)), (62, .int .i64 ((o.next.ch.length - j : Nat) : Int))] ∧ WK G H0 H1.length (chW w0 (o.next.ch.take (o.next.ch.length - j)))) _ o.next.ch.length
      · refine ⟨Nat.le_refl _, by rw [Nat.sub_self]; rfl, ?_⟩
        rw [Nat.sub_self]; exact wk
      · rintro j e H13 ⟨hj, rfl, wk⟩
        cases j with
        | zero =>
          have g0 : ¬ ((o.next.ch.length - 0 : Nat) : Int) < (o.next.ch.length : Int) := by omega
          rw [Nat.sub_zero, List.take_length] at wk
          obtain ⟨hb, _⟩ := wk.bytes
          simp only [↓yaa, ↓yab, ↓yac, ↓yad, ↓yae, ↓yaf, ↓yag, ↓yah, ↓yai, ↓ydb, ↓ydc, ↓ydd, ↓yde, ↓ydf, ↓ydg, ↓yao, ↓yap, ↓ydh, ↓ydi, ↓ydj, ↓ydk, ↓ydl, ↓ydm, ↓ydn, ↓ydo, ↓ydp, ↓yax, yay, yaz, yba, ybb, ybc, ybd, ybe, ybf, ybg, ybh, ybi, ybj, ybk, ybl, ybm, ybn, ybo, ybp, ybq, ybr, ybs, ybt, ybu, ybv, ares, tup, ybw, ybx, yby, argsE, dval, aop, ev, evs, evo, evp, fillL, addrOf, intOf?, ybz, yca, ycb, ycc, ycd, yce, ycf, zah, zag, reduceIte, Nat.reduceEqDiff, ycg, ych, yci, ycj, yck, ycl, ycm, ycn, yco, ycp, ycq, ycr, zap, zao, reduceCtorEq, zbb, zbc, zba, zaz, Nat.reduceAdd, Nat.reduceMul, zaq, zar, eqPtr, zae, zaf, zab, zaa, zac, zad, hload, hstore, zal, zam, Nat.reduceAdd, Nat.reduceLeDiff, zbb, zas, zat, one, zau, zaw, zav, splice, zaj, zak, zab, zaa, ycs, yct, ycu, ycv, ycw, ycx, ycy, ycz, zan, zai, zax, zay, and_self, true_and, and_true, lenV, yda, Nat.le_refl, if_true, ydq, ydr, yds, ne_eq, not_true_eq_false, not_false_eq_true, ← decide_not, Decidable.not_not, ydt, ydu, ydz, ydv, ydw, List.drop_zero, eq_self, Bool.false_eq_true, List.getElem?_toArray, yea, yeb, List.nil_append, List.cons_append, Bool.false_and, Int.reduceEq, Int.reduceLT, Int.reduceLE, Int.reduceNe, zbc, zbb, yec, yed, yee, yef, ydx, ydy, g0, hb]
          exact hk _ (hf0.then wk.f)
        | succ j =>
          obtain ⟨x, hx⟩ : ∃ x, o.next.ch[o.next.ch.length - (j + 1)]? = some x := ⟨_, List.getElem?_eq_getElem (by omega)⟩
          have hxo := hok.ch x (List.mem_of_getElem? hx)
          obtain ⟨b, o', w, cs, rfl, rfl, h3, h4⟩ := hi _ x hx
          have h3 := wk.f.gets h3
          have g0 : ((o.next.ch.length - (j + 1) : Nat) : Int) < (o.next.ch.length : Int) := by omega
          have g1 : (0 : Int) ≤ ((o.next.ch.length - (j + 1) : Nat) : Int) := by omega
          have g3 : IntKind.i64.wrap (((o.next.ch.length - (j + 1) : Nat) : Int) + 1) = ((o.next.ch.length - j : Nat) : Int) := by rw [wrap_i64 (by omega) (by omega)]; omega
          have q := wk.f.gets hg
          simp only [↓yaa, ↓yab, ↓yac, ↓yad, ↓yae, ↓yaf, ↓yag, ↓yah, ↓yai, ↓ydb, ↓ydc, ↓ydd, ↓yde, ↓ydf, ↓ydg, ↓yao, ↓yap, ↓ydh, ↓ydi, ↓ydj, ↓ydk, ↓ydl, ↓ydm, ↓ydn, ↓ydo, ↓ydp, ↓yax, yay, yaz, yba, ybb, ybc, ybd, ybe, ybf, ybg, ybh, ybi, ybj, ybk, ybl, ybm, ybn, ybo, ybp, ybq, ybr, ybs, ybt, ybu, ybv, ares, tup, ybw, ybx, yby, argsE, dval, aop, ev, evs, evo, evp, fillL, addrOf, intOf?, ybz, yca, ycb, ycc, ycd, yce, ycf, zah, zag, reduceIte, Nat.reduceEqDiff, ycg, ych, yci, ycj, yck, ycl, ycm, ycn, yco, ycp, ycq, ycr, zap, zao, reduceCtorEq, zbb, zbc, zba, zaz, Nat.reduceAdd, Nat.reduceMul, zaq, zar, eqPtr, zae, zaf, zab, zaa, zac, zad, hload, hstore, zal, zam, Nat.reduceAdd, Nat.reduceLeDiff, zbb, zas, zat, one, zau, zaw, zav, splice, zaj, zak, zab, zaa, ycs, yct, ycu, ycv, ycw, ycx, ycy, ycz, zan, zai, zax, zay, and_self, true_and, and_true, lenV, yda, Nat.le_refl, if_true, ydq, ydr, yds, ne_eq, not_true_eq_false, not_false_eq_true, ← decide_not, Decidable.not_not, ydt, ydu, ydz, ydv, ydw, List.drop_zero, eq_self, Bool.false_eq_true, List.getElem?_toArray, yea, yeb, List.nil_append, List.cons_append, Bool.false_and, Int.reduceEq, Int.reduceLT, Int.reduceLE, Int.reduceNe, zbc, zbb, yec, yed, yee, yef, ydx, ydy, g0, g1, Int.toNat_natCast, Nat.mul_one, h3, h4, q, Nat.reduceAdd]
          refine wk.unsigned hxo fun H14 wk => ?_
          simp only [↓yaa, ↓yab, ↓yac, ↓yad, ↓yae, ↓yaf, ↓yag, ↓yah, ↓yai, ↓ydb, ↓ydc, ↓ydd, ↓yde, ↓ydf, ↓ydg, ↓yao, ↓yap, ↓ydh, ↓ydi, ↓ydj, ↓ydk, ↓ydl, ↓ydm, ↓ydn, ↓ydo, ↓ydp, ↓yax, yay, yaz, yba, ybb, ybc, ybd, ybe, ybf, ybg, ybh, ybi, ybj, ybk, ybl, ybm, ybn, ybo, ybp, ybq, ybr, ybs, ybt, ybu, ybv, ares, tup, ybw, ybx, yby, argsE, dval, aop, ev, evs, evo, evp, fillL, addrOf, intOf?, ybz, yca, ycb, ycc, ycd, yce, ycf, zah, zag, reduceIte, Nat.reduceEqDiff, ycg, ych, yci, ycj, yck, ycl, ycm, ycn, yco, ycp, ycq, ycr, zap, zao, reduceCtorEq, zbb, zbc, zba, zaz, Nat.reduceAdd, Nat.reduceMul, zaq, zar, eqPtr, zae, zaf, zab, zaa, zac, zad, hload, hstore, zal, zam, Nat.reduceAdd, Nat.reduceLeDiff, zbb, zas, zat, one, zau, zaw, zav, splice, zaj, zak, zab, zaa, ycs, yct, ycu, ycv, ycw, ycx, ycy, ycz, zan, zai, zax, zay, and_self, true_and, and_true, lenV, yda, Nat.le_refl, if_true, ydq, ydr, yds, ne_eq, not_true_eq_false, not_false_eq_true, ← decide_not, Decidable.not_not, ydt, ydu, ydz, ydv, ydw, List.drop_zero, eq_self, Bool.false_eq_true, List.getElem?_toArray, yea, yeb, List.nil_append, List.cons_append, Bool.false_and, Int.reduceEq, Int.reduceLT, Int.reduceLE, Int.reduceNe, zbc, zbb, yec, yed, yee, yef, ydx, ydy, g3]
          refine ⟨j, by omega, by omega, rfl, ?_⟩
          rw [show o.next.ch.length - j = o.next.ch.length - (j + 1) + 1 by omega, List.take_add_one, hx]
          simpa [chW] using wk
  · rw [if_pos (by simpa using he)] at hk
    simp only [↓yaa, ↓yab, ↓yac, ↓yad, ↓yae, ↓yaf, ↓yag, ↓yah, ↓yai, ↓ydb, ↓ydc, ↓ydd, ↓yde, ↓ydf, ↓ydg, ↓yao, ↓yap, ↓ydh, ↓ydi, ↓ydj, ↓ydk, ↓ydl, ↓ydm, ↓ydn, ↓ydo, ↓ydp, ↓yax, yay, yaz, yba, ybb, ybc, ybd, ybe, ybf, ybg, ybh, ybi, ybj, ybk, ybl, ybm, ybn, ybo, ybp, ybq, ybr, ybs, ybt, ybu, ybv, ares, tup, ybw, ybx, yby, argsE, dval, aop, ev, evs, evo, evp, fillL, addrOf, intOf?, ybz, yca, ycb, ycc, ycd, yce, ycf, zah, zag, reduceIte, Nat.reduceEqDiff, ycg, ych, yci, ycj, yck, ycl, ycm, ycn, yco, ycp, ycq, ycr, zap, zao, reduceCtorEq, zbb, zbc, zba, zaz, Nat.reduceAdd, Nat.reduceMul, zaq, zar, eqPtr, zae, zaf, zab, zaa, zac, zad, hload, hstore, zal, zam, Nat.reduceAdd, Nat.reduceLeDiff, zbb, zas, zat, one, zau, zaw, zav, splice, zaj, zak, zab, zaa, ycs, yct, ycu, ycv, ycw, ycx, ycy, ycz, zan, zai, zax, zay, and_self, true_and, and_true, lenV, yda, Nat.le_refl, if_true, ydq, ydr, yds, ne_eq, not_true_eq_false, not_false_eq_true, ← decide_not, Decidable.not_not, ydt, ydu, ydz, ydv, ydw, List.drop_zero, eq_self, Bool.false_eq_true, List.getElem?_toArray, yea, yeb, List.nil_append, List.cons_append, Bool.false_and, Int.reduceEq, Int.reduceLT, Int.reduceLE, Int.reduceNe, zbc, zbb, yec, yed, yee, yef, ydx, ydy, he]
    exact hk _ (hf0.then hf1)

open Classical in
theorem f112 {H : Heap} {a : Option Addr} {z : Nat} {o : Off} (h : SI H a z o.next.ch) (hl : o.next.ch.length < 1000000000) (hok : o.Ok64) {K : Value → Heap → Prop} (hk : ∀ H', Frm [] H H' → K (.tuple #[.string o.enc.1, .int .i64 o.enc.2]) H') : Op1 (AC tbl 112 [o.v a z] H) K := by
  apply AC_wp (F := F112) rfl (by simp [F112]) (.inl rfl)
  have hov : o.v a z = .agg #[.int .i64 o.root, .bool o.opn, .string o.run, .int .i64 o.next.ver, .int .i64 o.next.first, .int .i64 o.next.til, .slice a o.next.ch.length z] := rfl
  have hlv : o.next.v a z = .agg #[.int .i64 o.next.ver, .int .i64 o.next.first, .int .i64 o.next.til, .slice a o.next.ch.length z] := rfl
  have hg : hget (H ++ [some ⟨true, [.int .i64 o.root, .bool o.opn, .string o.run, .int .i64 o.next.ver, .int .i64 o.next.first, .int .i64 o.next.til, .slice a o.next.ch.length z]⟩]) H.length = some ⟨true, [.int .i64 o.root, .bool o.opn, .string o.run, .int .i64 o.next.ver, .int .i64 o.next.first, .int .i64 o.next.til, .slice a o.next.ch.length z]⟩ := ydu
  have hi := h.push (some ⟨true, [.int .i64 o.root, .bool o.opn, .string o.run, .int .i64 o.next.ver, .int .i64 o.next.first, .int .i64 o.next.til, .slice a o.next.ch.length z]⟩)
  have hf0 : Frm [] H (H ++ [some ⟨true, [.int .i64 o.root, .bool o.opn, .string o.run, .int .i64 o.next.ver, .int .i64 o.next.first, .int .i64 o.next.til, .slice a o.next.ch.length z]⟩]) := (Frm.refl _ _).push _
  rw [hov]
  simp only [F112, ↓yaa, ↓yab, ↓yac, ↓yad, ↓yae, ↓yaf, ↓yag, ↓yah, ↓yai, ↓ydb, ↓ydc, ↓ydd, ↓yde, ↓ydf, ↓ydg, ↓yao, ↓yap, ↓ydh, ↓ydi, ↓ydj, ↓ydk, ↓ydl, ↓ydm, ↓ydn, ↓ydo, ↓ydp, ↓yax, yay, yaz, yba, ybb, ybc, ybd, ybe, ybf, ybg, ybh, ybi, ybj, ybk, ybl, ybm, ybn, ybo, ybp, ybq, ybr, ybs, ybt, ybu, ybv, ares, tup, ybw, ybx, yby, argsE, dval, aop, ev, evs, evo, evp, fillL, addrOf, intOf?, ybz, yca, ycb, ycc, ycd, yce, ycf, zah, zag, reduceIte, Nat.reduceEqDiff, ycg, ych, yci, ycj, yck, ycl, ycm, ycn, yco, ycp, ycq, ycr, zap, zao, reduceCtorEq, zbb, zbc, zba, zaz, Nat.reduceAdd, Nat.reduceMul, zaq, zar, eqPtr, zae, zaf, zab, zaa, zac, zad, hload, hstore, zal, zam, Nat.reduceAdd, Nat.reduceLeDiff, zbb, zas, zat, one, zau, zaw, zav, splice, zaj, zak, zab, zaa, ycs, yct, ycu, ycv, ycw, ycx, ycy, ycz, zan, zai, zax, zay, and_self, true_and, and_true, lenV, yda, Nat.le_refl, if_true, ydq, ydr, yds, ne_eq, not_true_eq_false, not_false_eq_true, ← decide_not, Decidable.not_not, ydt, ydu, ydz, ydv, ydw, List.drop_zero, eq_self, Bool.false_eq_true, List.getElem?_toArray, yea, yeb, List.nil_append, List.cons_append, Bool.false_and, Int.reduceEq, Int.reduceLT, Int.reduceLE, Int.reduceNe, zbc, zbb, yec, yed, yee, yef, ydx, ydy, take7, list7]
  generalize H ++ [some (⟨true, [.int .i64 o.root, .bool o.opn, .string o.run, .int .i64 o.next.ver, .int .i64 o.next.first, .int .i64 o.next.til, .slice a o.next.ch.length z]⟩ : Blk)] = G at *
  rw [← hov]
  refine f114 hi hl fun H1 hf1 => ?_
  unfold Off.enc at hk
  by_cases he : o.err = 0
  · rw [if_neg (by simpa using he)] at hk
    simp only [↓yaa, ↓yab, ↓yac, ↓yad, ↓yae, ↓yaf, ↓yag, ↓yah, ↓yai, ↓ydb, ↓ydc, ↓ydd, ↓yde, ↓ydf, ↓ydg, ↓yao, ↓yap, ↓ydh, ↓ydi, ↓ydj, ↓ydk, ↓ydl, ↓ydm, ↓ydn, ↓ydo, ↓ydp, ↓yax, yay, yaz, yba, ybb, ybc, ybd, ybe, ybf, ybg, ybh, ybi, ybj, ybk, ybl, ybm, ybn, ybo, ybp, ybq, ybr, ybs, ybt, ybu, ybv, ares, tup, ybw, ybx, yby, argsE, dval, aop, ev, evs, evo, evp, fillL, addrOf, intOf?, ybz, yca, ycb, ycc, ycd, yce, ycf, zah, zag, reduceIte, Nat.reduceEqDiff, ycg, ych, yci, ycj, yck, ycl, ycm, ycn, yco, ycp, ycq, ycr, zap, zao, reduceCtorEq, zbb, zbc, zba, zaz, Nat.reduceAdd, Nat.reduceMul, zaq, zar, eqPtr, zae, zaf, zab, zaa, zac, zad, hload, hstore, zal, zam, Nat.reduceAdd, Nat.reduceLeDiff, zbb, zas, zat, one, zau, zaw, zav, splice, zaj, zak, zab, zaa, ycs, yct, ycu, ycv, ycw, ycx, ycy, ycz, zan, zai, zax, zay, and_self, true_and, and_true, lenV, yda, Nat.le_refl, if_true, ydq, ydr, yds, ne_eq, not_true_eq_false, not_false_eq_true, ← decide_not, Decidable.not_not, ydt, ydu, ydz, ydv, ydw, List.drop_zero, eq_self, Bool.false_eq_true, List.getElem?_toArray, yea, yeb, List.nil_append, List.cons_append, Bool.false_and, Int.reduceEq, Int.reduceLT, Int.reduceLE, Int.reduceNe, zbc, zbb, yec, yed, yee, yef, ydx, ydy, he]
    refine VK.new hf1 fun H2 wk => ?_
    have q := wk.f.gets hg
    simp only [↓yaa, ↓yab, ↓yac, ↓yad, ↓yae, ↓yaf, ↓yag, ↓yah, ↓yai, ↓ydb, ↓ydc, ↓ydd, ↓yde, ↓ydf, ↓ydg, ↓yao, ↓yap, ↓ydh, ↓ydi, ↓ydj, ↓ydk, ↓ydl, ↓ydm, ↓ydn, ↓ydo, ↓ydp, ↓yax, yay, yaz, yba, ybb, ybc, ybd, ybe, ybf, ybg, ybh, ybi, ybj, ybk, ybl, ybm, ybn, ybo, ybp, ybq, ybr, ybs, ybt, ybu, ybv, ares, tup, ybw, ybx, yby, argsE, dval, aop, ev, evs, evo, evp, fillL, addrOf, intOf?, ybz, yca, ycb, ycc, ycd, yce, ycf, zah, zag, reduceIte, Nat.reduceEqDiff, ycg, ych, yci, ycj, yck, ycl, ycm, ycn, yco, ycp, ycq, ycr, zap, zao, reduceCtorEq, zbb, zbc, zba, zaz, Nat.reduceAdd, Nat.reduceMul, zaq, zar, eqPtr, zae, zaf, zab, zaa, zac, zad, hload, hstore, zal, zam, Nat.reduceAdd, Nat.reduceLeDiff, zbb, zas, zat, one, zau, zaw, zav, splice, zaj, zak, zab, zaa, ycs, yct, ycu, ycv, ycw, ycx, ycy, ycz, zan, zai, zax, zay, and_self, true_and, and_true, lenV, yda, Nat.le_refl, if_true, ydq, ydr, yds, ne_eq, not_true_eq_false, not_false_eq_true, ← decide_not, Decidable.not_not, ydt, ydu, ydz, ydv, ydw, List.drop_zero, eq_self, Bool.false_eq_true, List.getElem?_toArray, yea, yeb, List.nil_append, List.cons_append, Bool.false_and, Int.reduceEq, Int.reduceLT, Int.reduceLE, Int.reduceNe, zbc, zbb, yec, yed, yee, yef, ydx, ydy, q]
    refine wk.unsigned hok.root fun H3 wk => ?_
    have q := wk.f.gets hg
    simp only [↓yaa, ↓yab, ↓yac, ↓yad, ↓yae, ↓yaf, ↓yag, ↓yah, ↓yai, ↓ydb, ↓ydc, ↓ydd, ↓yde, ↓ydf, ↓ydg, ↓yao, ↓yap, ↓ydh, ↓ydi, ↓ydj, ↓ydk, ↓ydl, ↓ydm, ↓ydn, ↓ydo, ↓ydp, ↓yax, yay, yaz, yba, ybb, ybc, ybd, ybe, ybf, ybg, ybh, ybi, ybj, ybk, ybl, ybm, ybn, ybo, ybp, ybq, ybr, ybs, ybt, ybu, ybv, ares, tup, ybw, ybx, yby, argsE, dval, aop, ev, evs, evo, evp, fillL, addrOf, intOf?, ybz, yca, ycb, ycc, ycd, yce, ycf, zah, zag, reduceIte, Nat.reduceEqDiff, ycg, ych, yci, ycj, yck, ycl, ycm, ycn, yco, ycp, ycq, ycr, zap, zao, reduceCtorEq, zbb, zbc, zba, zaz, Nat.reduceAdd, Nat.reduceMul, zaq, zar, eqPtr, zae, zaf, zab, zaa, zac, zad, hload, hstore, zal, zam, Nat.reduceAdd, Nat.reduceLeDiff, zbb, zas, zat, one, zau, zaw, zav, splice, zaj, zak, zab, zaa, ycs, yct, ycu, ycv, ycw, ycx, ycy, ycz, zan, zai, zax, zay, and_self, true_and, and_true, lenV, yda, Nat.le_refl, if_true, ydq, ydr, yds, ne_eq, not_true_eq_false, not_false_eq_true, ← decide_not, Decidable.not_not, ydt, ydu, ydz, ydv, ydw, List.drop_zero, eq_self, Bool.false_eq_true, List.getElem?_toArray, yea, yeb, List.nil_append, List.cons_append, Bool.false_and, Int.reduceEq, Int.reduceLT, Int.reduceLE, Int.reduceNe, zbc, zbb, yec, yed, yee, yef, ydx, ydy, q]
    refine wk.flag fun H4 wk => ?_
    have q := wk.f.gets hg
    simp only [↓yaa, ↓yab, ↓yac, ↓yad, ↓yae, ↓yaf, ↓yag, ↓yah, ↓yai, ↓ydb, ↓ydc, ↓ydd, ↓yde, ↓ydf, ↓ydg, ↓yao, ↓yap, ↓ydh, ↓ydi, ↓ydj, ↓ydk, ↓ydl, ↓ydm, ↓ydn, ↓ydo, ↓ydp, ↓yax, yay, yaz, yba, ybb, ybc, ybd, ybe, ybf, ybg, ybh, ybi, ybj, ybk, ybl, ybm, ybn, ybo, ybp, ybq, ybr, ybs, ybt, ybu, ybv, ares, tup, ybw, ybx, yby, argsE, dval, aop, ev, evs, evo, evp, fillL, addrOf, intOf?, ybz, yca, ycb, ycc, ycd, yce, ycf, zah, zag, reduceIte, Nat.reduceEqDiff, ycg, ych, yci, ycj, yck, ycl, ycm, ycn, yco, ycp, ycq, ycr, zap, zao, reduceCtorEq, zbb, zbc, zba, zaz, Nat.reduceAdd, Nat.reduceMul, zaq, zar, eqPtr, zae, zaf, zab, zaa, zac, zad, hload, hstore, zal, zam, Nat.reduceAdd, Nat.reduceLeDiff, zbb, zas, zat, one, zau, zaw, zav, splice, zaj, zak, zab, zaa, ycs, yct, ycu, ycv, ycw, ycx, ycy, ycz, zan, zai, zax, zay, and_self, true_and, and_true, lenV, yda, Nat.le_refl, if_true, ydq, ydr, yds, ne_eq, not_true_eq_false, not_false_eq_true, ← decide_not, Decidable.not_not, ydt, ydu, ydz, ydv, ydw, List.drop_zero, eq_self, Bool.false_eq_true, List.getElem?_toArray, yea, yeb, List.nil_append, List.cons_append, Bool.false_and, Int.reduceEq, Int.reduceLT, Int.reduceLE, Int.reduceNe, zbc, zbb, yec, yed, yee, yef, ydx, ydy, q]
    refine wk.text ⟨by omega, by omega⟩ (o.run_small he) fun H5 wk => ?_
    have q := wk.f.gets hg
    simp only [↓yaa, ↓yab, ↓yac, ↓yad, ↓yae, ↓yaf, ↓yag, ↓yah, ↓yai, ↓ydb, ↓ydc, ↓ydd, ↓yde, ↓ydf, ↓ydg, ↓yao, ↓yap, ↓ydh, ↓ydi, ↓ydj, ↓ydk, ↓ydl, ↓ydm, ↓ydn, ↓ydo, ↓ydp, ↓yax, yay, yaz, yba, ybb, ybc, ybd, ybe, ybf, ybg, ybh, ybi, ybj, ybk, ybl, ybm, ybn, ybo, ybp, ybq, ybr, ybs, ybt, ybu, ybv, ares, tup, ybw, ybx, yby, argsE, dval, aop, ev, evs, evo, evp, fillL, addrOf, intOf?, ybz, yca, ycb, ycc, ycd, yce, ycf, zah, zag, reduceIte, Nat.reduceEqDiff, ycg, ych, yci, ycj, yck, ycl, ycm, ycn, yco, ycp, ycq, ycr, zap, zao, reduceCtorEq, zbb, zbc, zba, zaz, Nat.reduceAdd, Nat.reduceMul, zaq, zar, eqPtr, zae, zaf, zab, zaa, zac, zad, hload, hstore, zal, zam, Nat.reduceAdd, Nat.reduceLeDiff, zbb, zas, zat, one, zau, zaw, zav, splice, zaj, zak, zab, zaa, ycs, yct, ycu, ycv, ycw, ycx, ycy, ycz, zan, zai, zax, zay, and_self, true_and, and_true, lenV, yda, Nat.le_refl, if_true, ydq, ydr, yds, ne_eq, not_true_eq_false, not_false_eq_true, ← decide_not, Decidable.not_not, ydt, ydu, ydz, ydv, ydw, List.drop_zero, eq_self, Bool.false_eq_true, List.getElem?_toArray, yea, yeb, List.nil_append, List.cons_append, Bool.false_and, Int.reduceEq, Int.reduceLT, Int.reduceLE, Int.reduceNe, zbc, zbb, yec, yed, yee, yef, ydx, ydy, q, take4', list4', Nat.reduceLeDiff]
    rw [← hlv]
    refine f135 fun H6 hf6 => ?_
    have wk := wk.frm hf6
    simp only [↓yaa, ↓yab, ↓yac, ↓yad, ↓yae, ↓yaf, ↓yag, ↓yah, ↓yai, ↓ydb, ↓ydc, ↓ydd, ↓yde, ↓ydf, ↓ydg, ↓yao, ↓yap, ↓ydh, ↓ydi, ↓ydj, ↓ydk, ↓ydl, ↓ydm, ↓ydn, ↓ydo, ↓ydp, ↓yax, yay, yaz, yba, ybb, ybc, ybd, ybe, ybf, ybg, ybh, ybi, ybj, ybk, ybl, ybm, ybn, ybo, ybp, ybq, ybr, ybs, ybt, ybu, ybv, ares, tup, ybw, ybx, yby, argsE, dval, aop, ev, evs, evo, evp, fillL, addrOf, intOf?, ybz, yca, ycb, ycc, ycd, yce, ycf, zah, zag, reduceIte, Nat.reduceEqDiff, ycg, ych, yci, ycj, yck, ycl, ycm, ycn, yco, ycp, ycq, ycr, zap, zao, reduceCtorEq, zbb, zbc, zba, zaz, Nat.reduceAdd, Nat.reduceMul, zaq, zar, eqPtr, zae, zaf, zab, zaa, zac, zad, hload, hstore, zal, zam, Nat.reduceAdd, Nat.reduceLeDiff, zbb, zas, zat, one, zau, zaw, zav, splice, zaj, zak, zab, zaa, ycs, yct, ycu, ycv, ycw, ycx, ycy, ycz, zan, zai, zax, zay, and_self, true_and, and_true, lenV, yda, Nat.le_refl, if_true, ydq, ydr, yds, ne_eq, not_true_eq_false, not_false_eq_true, ← decide_not, Decidable.not_not, ydt, ydu, ydz, ydv, ydw, List.drop_zero, eq_self, Bool.false_eq_true, List.getElem?_toArray, yea, yeb, List.nil_append, List.cons_append, Bool.false_and, Int.reduceEq, Int.reduceLT, Int.reduceLE, Int.reduceNe, zbc, zbb, yec, yed, yee, yef, ydx, ydy]
    refine wk.flag fun H7 wk => ?_
    have q := wk.f.gets hg
    simp only [↓yaa, ↓yab, ↓yac, ↓yad, ↓yae, ↓yaf, ↓yag, ↓yah, ↓yai, ↓ydb, ↓ydc, ↓ydd, ↓yde, ↓ydf, ↓ydg, ↓yao, ↓yap, ↓ydh, ↓ydi, ↓ydj, ↓ydk, ↓ydl, ↓ydm, ↓ydn, ↓ydo, ↓ydp, ↓yax, yay, yaz, yba, ybb, ybc, ybd, ybe, ybf, ybg, ybh, ybi, ybj, ybk, ybl, ybm, ybn, ybo, ybp, ybq, ybr, ybs, ybt, ybu, ybv, ares, tup, ybw, ybx, yby, argsE, dval, aop, ev, evs, evo, evp, fillL, addrOf, intOf?, ybz, yca, ycb, ycc, ycd, yce, ycf, zah, zag, reduceIte, Nat.reduceEqDiff, ycg, ych, yci, ycj, yck, ycl, ycm, ycn, yco, ycp, ycq, ycr, zap, zao, reduceCtorEq, zbb, zbc, zba, zaz, Nat.reduceAdd, Nat.reduceMul, zaq, zar, eqPtr, zae, zaf, zab, zaa, zac, zad, hload, hstore, zal, zam, Nat.reduceAdd, Nat.reduceLeDiff, zbb, zas, zat, one, zau, zaw, zav, splice, zaj, zak, zab, zaa, ycs, yct, ycu, ycv, ycw, ycx, ycy, ycz, zan, zai, zax, zay, and_self, true_and, and_true, lenV, yda, Nat.le_refl, if_true, ydq, ydr, yds, ne_eq, not_true_eq_false, not_false_eq_true, ← decide_not, Decidable.not_not, ydt, ydu, ydz, ydv, ydw, List.drop_zero, eq_self, Bool.false_eq_true, List.getElem?_toArray, yea, yeb, List.nil_append, List.cons_append, Bool.false_and, Int.reduceEq, Int.reduceLT, Int.reduceLE, Int.reduceNe, zbc, zbb, yec, yed, yee, yef, ydx, ydy, q, take4', list4', Nat.reduceLeDiff]
    rw [← hlv]
    refine f135 fun H8 hf8 => ?_
    have wk := wk.frm hf8
    unfold Off.ws at hk
    by_cases hz : o.next.Zero
    · rw [if_pos hz] at hk
      simp only [hz, not_true_eq_false, zbc] at wk
      simp only [↓yaa, ↓yab, ↓yac, ↓yad, ↓yae, ↓yaf, ↓yag, ↓yah, ↓yai, ↓ydb, ↓ydc, ↓ydd, ↓yde, ↓ydf, ↓ydg, ↓yao, ↓yap, ↓ydh, ↓ydi, ↓ydj, ↓ydk, ↓ydl, ↓ydm, ↓ydn, ↓ydo, ↓ydp, ↓yax, yay, yaz, yba, ybb, ybc, ybd, ybe, ybf, ybg, ybh, ybi, ybj, ybk, ybl, ybm, ybn, ybo, ybp, ybq, ybr, ybs, ybt, ybu, ybv, ares, tup, ybw, ybx, yby, argsE, dval, aop, ev, evs, evo, evp, fillL, addrOf, intOf?, ybz, yca, ycb, ycc, ycd, yce, ycf, zah, zag, reduceIte, Nat.reduceEqDiff, ycg, ych, yci, ycj, yck, ycl, ycm, ycn, yco, ycp, ycq, ycr, zap, zao, reduceCtorEq, zbb, zbc, zba, zaz, Nat.reduceAdd, Nat.reduceMul, zaq, zar, eqPtr, zae, zaf, zab, zaa, zac, zad, hload, hstore, zal, zam, Nat.reduceAdd, Nat.reduceLeDiff, zbb, zas, zat, one, zau, zaw, zav, splice, zaj, zak, zab, zaa, ycs, yct, ycu, ycv, ycw, ycx, ycy, ycz, zan, zai, zax, zay, and_self, true_and, and_true, lenV, yda, Nat.le_refl, if_true, ydq, ydr, yds, ne_eq, not_true_eq_false, not_false_eq_true, ← decide_not, Decidable.not_not, ydt, ydu, ydz, ydv, ydw, List.drop_zero, eq_self, Bool.false_eq_true, List.getElem?_toArray, yea, yeb, List.nil_append, List.cons_append, Bool.false_and, Int.reduceEq, Int.reduceLT, Int.reduceLE, Int.reduceNe, zbc, zbb, yec, yed, yee, yef, ydx, ydy, hz]
      simp only [hz, not_true_eq_false, zbc] at hk
      refine wk.bytes fun H9 hf9 => ?_
      simp only [↓yaa, ↓yab, ↓yac, ↓yad, ↓yae, ↓yaf, ↓yag, ↓yah, ↓yai, ↓ydb, ↓ydc, ↓ydd, ↓yde, ↓ydf, ↓ydg, ↓yao, ↓yap, ↓ydh, ↓ydi, ↓ydj, ↓ydk, ↓ydl, ↓ydm, ↓ydn, ↓ydo, ↓ydp, ↓yax, yay, yaz, yba, ybb, ybc, ybd, ybe, ybf, ybg, ybh, ybi, ybj, ybk, ybl, ybm, ybn, ybo, ybp, ybq, ybr, ybs, ybt, ybu, ybv, ares, tup, ybw, ybx, yby, argsE, dval, aop, ev, evs, evo, evp, fillL, addrOf, intOf?, ybz, yca, ycb, ycc, ycd, yce, ycf, zah, zag, reduceIte, Nat.reduceEqDiff, ycg, ych, yci, ycj, yck, ycl, ycm, ycn, yco, ycp, ycq, ycr, zap, zao, reduceCtorEq, zbb, zbc, zba, zaz, Nat.reduceAdd, Nat.reduceMul, zaq, zar, eqPtr, zae, zaf, zab, zaa, zac, zad, hload, hstore, zal, zam, Nat.reduceAdd, Nat.reduceLeDiff, zbb, zas, zat, one, zau, zaw, zav, splice, zaj, zak, zab, zaa, ycs, yct, ycu, ycv, ycw, ycx, ycy, ycz, zan, zai, zax, zay, and_self, true_and, and_true, lenV, yda, Nat.le_refl, if_true, ydq, ydr, yds, ne_eq, not_true_eq_false, not_false_eq_true, ← decide_not, Decidable.not_not, ydt, ydu, ydz, ydv, ydw, List.drop_zero, eq_self, Bool.false_eq_true, List.getElem?_toArray, yea, yeb, List.nil_append, List.cons_append, Bool.false_and, Int.reduceEq, Int.reduceLT, Int.reduceLE, Int.reduceNe, zbc, zbb, yec, yed, yee, yef, ydx, ydy]
      exact hk _ (hf0.then (wk.f.then hf9))
    · rw [if_neg hz] at hk
      simp only [hz, not_false_eq_true, zbb] at wk
      simp only [hz, not_false_eq_true, zbb] at hk
      have q := wk.f.gets hg
      simp only [↓yaa, ↓yab, ↓yac, ↓yad, ↓yae, ↓yaf, ↓yag, ↓yah, ↓yai, ↓ydb, ↓ydc, ↓ydd, ↓yde, ↓ydf, ↓ydg, ↓yao, ↓yap, ↓ydh, ↓ydi, ↓ydj, ↓ydk, ↓ydl, ↓ydm, ↓ydn, ↓ydo, ↓ydp, ↓yax, yay, yaz, yba, ybb, ybc, ybd, ybe, ybf, ybg, ybh, ybi, ybj, ybk, ybl, ybm, ybn, ybo, ybp, ybq, ybr, ybs, ybt, ybu, ybv, ares, tup, ybw, ybx, yby, argsE, dval, aop, ev, evs, evo, evp, fillL, addrOf, intOf?, ybz, yca, ycb, ycc, ycd, yce, ycf, zah, zag, reduceIte, Nat.reduceEqDiff, ycg, ych, yci, ycj, yck, ycl, ycm, ycn, yco, ycp, ycq, ycr, zap, zao, reduceCtorEq, zbb, zbc, zba, zaz, Nat.reduceAdd, Nat.reduceMul, zaq, zar, eqPtr, zae, zaf, zab, zaa, zac, zad, hload, hstore, zal, zam, Nat.reduceAdd, Nat.reduceLeDiff, zbb, zas, zat, one, zau, zaw, zav, splice, zaj, zak, zab, zaa, ycs, yct, ycu, ycv, ycw, ycx, ycy, ycz, zan, zai, zax, zay, and_self, true_and, and_true, lenV, yda, Nat.le_refl, if_true, ydq, ydr, yds, ne_eq, not_true_eq_false, not_false_eq_true, ← decide_not, Decidable.not_not, ydt, ydu, ydz, ydv, ydw, List.drop_zero, eq_self, Bool.false_eq_true, List.getElem?_toArray, yea, yeb, List.nil_append, List.cons_append, Bool.false_and, Int.reduceEq, Int.reduceLT, Int.reduceLE, Int.reduceNe, zbc, zbb, yec, yed, yee, yef, ydx, ydy, hz, q, Nat.reduceAdd]
      refine wk.unsigned hok.ver fun H9 wk => ?_
      have q := wk.f.gets hg
      simp only [↓yaa, ↓yab, ↓yac, ↓yad, ↓yae, ↓yaf, ↓yag, ↓yah, ↓yai, ↓ydb, ↓ydc, ↓ydd, ↓yde, ↓ydf, ↓ydg, ↓yao, ↓yap, ↓ydh, ↓ydi, ↓ydj, ↓ydk, ↓ydl, ↓ydm, ↓ydn, ↓ydo, ↓ydp, ↓yax, yay, yaz, yba, ybb, ybc, ybd, ybe, ybf, ybg, ybh, ybi, ybj, ybk, ybl, ybm, ybn, ybo, ybp, ybq, ybr, ybs, ybt, ybu, ybv, ares, tup, ybw, ybx, yby, argsE, dval, aop, ev, evs, evo, evp, fillL, addrOf, intOf?, ybz, yca, ycb, ycc, ycd, yce, ycf, zah, zag, reduceIte, Nat.reduceEqDiff, ycg, ych, yci, ycj, yck, ycl, ycm, ycn, yco, ycp, ycq, ycr, zap, zao, reduceCtorEq, zbb, zbc, zba, zaz, Nat.reduceAdd, Nat.reduceMul, zaq, zar, eqPtr, zae, zaf, zab, zaa, zac, zad, hload, hstore, zal, zam, Nat.reduceAdd, Nat.reduceLeDiff, zbb, zas, zat, one, zau, zaw, zav, splice, zaj, zak, zab, zaa, ycs, yct, ycu, ycv, ycw, ycx, ycy, ycz, zan, zai, zax, zay, and_self, true_and, and_true, lenV, yda, Nat.le_refl, if_true, ydq, ydr, yds, ne_eq, not_true_eq_false, not_false_eq_true, ← decide_not, Decidable.not_not, ydt, ydu, ydz, ydv, ydw, List.drop_zero, eq_self, Bool.false_eq_true, List.getElem?_toArray, yea, yeb, List.nil_append, List.cons_append, Bool.false_and, Int.reduceEq, Int.reduceLT, Int.reduceLE, Int.reduceNe, zbc, zbb, yec, yed, yee, yef, ydx, ydy, q, Nat.reduceAdd]
      refine wk.unsigned hok.first fun H10 wk => ?_
      have q := wk.f.gets hg
      simp only [↓yaa, ↓yab, ↓yac, ↓yad, ↓yae, ↓yaf, ↓yag, ↓yah, ↓yai, ↓ydb, ↓ydc, ↓ydd, ↓yde, ↓ydf, ↓ydg, ↓yao, ↓yap, ↓ydh, ↓ydi, ↓ydj, ↓ydk, ↓ydl, ↓ydm, ↓ydn, ↓ydo, ↓ydp, ↓yax, yay, yaz, yba, ybb, ybc, ybd, ybe, ybf, ybg, ybh, ybi, ybj, ybk, ybl, ybm, ybn, ybo, ybp, ybq, ybr, ybs, ybt, ybu, ybv, ares, tup, ybw, ybx, yby, argsE, dval, aop, ev, evs, evo, evp, fillL, addrOf, intOf?, ybz, yca, ycb, ycc, ycd, yce, ycf, zah, zag, reduceIte, Nat.reduceEqDiff, ycg, ych, yci, ycj, yck, ycl, ycm, ycn, yco, ycp, ycq, ycr, zap, zao, reduceCtorEq, zbb, zbc, zba, zaz, Nat.reduceAdd, Nat.reduceMul, zaq, zar, eqPtr, zae, zaf, zab, zaa, zac, zad, hload, hstore, zal, zam, Nat.reduceAdd, Nat.reduceLeDiff, zbb, zas, zat, one, zau, zaw, zav, splice, zaj, zak, zab, zaa, ycs, yct, ycu, ycv, ycw, ycx, ycy, ycz, zan, zai, zax, zay, and_self, true_and, and_true, lenV, yda, Nat.le_refl, if_true, ydq, ydr, yds, ne_eq, not_true_eq_false, not_false_eq_true, ← decide_not, Decidable.not_not, ydt, ydu, ydz, ydv, ydw, List.drop_zero, eq_self, Bool.false_eq_true, List.getElem?_toArray, yea, yeb, List.nil_append, List.cons_append, Bool.false_and, Int.reduceEq, Int.reduceLT, Int.reduceLE, Int.reduceNe, zbc, zbb, yec, yed, yee, yef, ydx, ydy, q, Nat.reduceAdd]
      refine wk.unsigned hok.til fun H11 wk => ?_
      have q := wk.f.gets hg
      have w1 : IntKind.i64.wrap ((o.next.ch.length : Int) - 1) = (o.next.ch.length : Int) - 1 := wrap_i64 (by omega) (by omega)
      simp only [↓yaa, ↓yab, ↓yac, ↓yad, ↓yae, ↓yaf, ↓yag, ↓yah, ↓yai, ↓ydb, ↓ydc, ↓ydd, ↓yde, ↓ydf, ↓ydg, ↓yao, ↓yap, ↓ydh, ↓ydi, ↓ydj, ↓ydk, ↓ydl, ↓ydm, ↓ydn, ↓ydo, ↓ydp, ↓yax, yay, yaz, yba, ybb, ybc, ybd, ybe, ybf, ybg, ybh, ybi, ybj, ybk, ybl, ybm, ybn, ybo, ybp, ybq, ybr, ybs, ybt, ybu, ybv, ares, tup, ybw, ybx, yby, argsE, dval, aop, ev, evs, evo, evp, fillL, addrOf, intOf?, ybz, yca, ycb, ycc, ycd, yce, ycf, zah, zag, reduceIte, Nat.reduceEqDiff, ycg, ych, yci, ycj, yck, ycl, ycm, ycn, yco, ycp, ycq, ycr, zap, zao, reduceCtorEq, zbb, zbc, zba, zaz, Nat.reduceAdd, Nat.reduceMul, zaq, zar, eqPtr, zae, zaf, zab, zaa, zac, zad, hload, hstore, zal, zam, Nat.reduceAdd, Nat.reduceLeDiff, zbb, zas, zat, one, zau, zaw, zav, splice, zaj, zak, zab, zaa, ycs, yct, ycu, ycv, ycw, ycx, ycy, ycz, zan, zai, zax, zay, and_self, true_and, and_true, lenV, yda, Nat.le_refl, if_true, ydq, ydr, yds, ne_eq, not_true_eq_false, not_false_eq_true, ← decide_not, Decidable.not_not, ydt, ydu, ydz, ydv, ydw, List.drop_zero, eq_self, Bool.false_eq_true, List.getElem?_toArray, yea, yeb, List.nil_append, List.cons_append, Bool.false_and, Int.reduceEq, Int.reduceLT, Int.reduceLE, Int.reduceNe, zbc, zbb, yec, yed, yee, yef, ydx, ydy, q, Nat.reduceAdd, w1]
      refine wk.unsigned ⟨by omega, by omega⟩ fun H12 wk => ?_
      have q := wk.f.gets hg
      simp only [↓yaa, ↓yab, ↓yac, ↓yad, ↓yae, ↓yaf, ↓yag, ↓yah, ↓yai, ↓ydb, ↓ydc, ↓ydd, ↓yde, ↓ydf, ↓ydg, ↓yao, ↓yap, ↓ydh, ↓ydi, ↓ydj, ↓ydk, ↓ydl, ↓ydm, ↓ydn, ↓ydo, ↓ydp, ↓yax, yay, yaz, yba, ybb, ybc, ybd, ybe, ybf, ybg, ybh, ybi, ybj, ybk, ybl, ybm, ybn, ybo, ybp, ybq, ybr, ybs, ybt, ybu, ybv, ares, tup, ybw, ybx, yby, argsE, dval, aop, ev, evs, evo, evp, fillL, addrOf, intOf?, ybz, yca, ycb, ycc, ycd, yce, ycf, zah, zag, reduceIte, Nat.reduceEqDiff, ycg, ych, yci, ycj, yck, ycl, ycm, ycn, yco, ycp, ycq, ycr, zap, zao, reduceCtorEq, zbb, zbc, zba, zaz, Nat.reduceAdd, Nat.reduceMul, zaq, zar, eqPtr, zae, zaf, zab, zaa, zac, zad, hload, hstore, zal, zam, Nat.reduceAdd, Nat.reduceLeDiff, zbb, zas, zat, one, zau, zaw, zav, splice, zaj, zak, zab, zaa, ycs, yct, ycu, ycv, ycw, ycx, ycy, ycz, zan, zai, zax, zay, and_self, true_and, and_true, lenV, yda, Nat.le_refl, if_true, ydq, ydr, yds, ne_eq, not_true_eq_false, not_false_eq_true, ← decide_not, Decidable.not_not, ydt, ydu, ydz, ydv, ydw, List.drop_zero, eq_self, Bool.false_eq_true, List.getElem?_toArray, yea, yeb, List.nil_append, List.cons_append, Bool.false_and, Int.reduceEq, Int.reduceLT, Int.reduceLE, Int.reduceNe, zbc, zbb, yec, yed, yee, yef, ydx, ydy, q, Nat.reduceAdd]
      revert wk
      generalize hw0 : (((((((({ bs := [], err := 0 } : WS).unsigned 5 o.root).flag o.opn).text 8 o.run).flag true).unsigned 8 o.next.ver).unsigned 27 o.next.first).unsigned 27 o.next.til).unsigned 4 ((o.next.ch.length : Int) - 1) = w0 at hk
      intro wk
      apply AW_loop_inv (fun j e H0 => j ≤ o.next.ch.length ∧ e = [(1, .pointer (some ⟨H.length, 0, none⟩)), (5, .pointer (some ⟨H1.length, 0, none⟩)), (6, .int .i64 ((o.next.ch.length - j : Nat) : Int))] ∧ VK G H0 H1.length (chW w0 (o.next.ch.take (o.next.ch.length - j)))) _ o.next.ch.length
      · refine ⟨Nat.le_refl _, by rw [Nat.sub_self]; rfl, ?_⟩
        rw [Nat.sub_self]; exact wk
      · rintro j e H13 ⟨hj, rfl, wk⟩
        cases j with
        | zero =>
          have g0 : ¬ ((o.next.ch.length - 0 : Nat) : Int) < (o.next.ch.length : Int) := by omega
          rw [Nat.sub_zero, List.take_length] at wk
          have q := wk.f.gets hg
          simp only [↓yaa, ↓yab, ↓yac, ↓yad, ↓yae, ↓yaf, ↓yag, ↓yah, ↓yai, ↓ydb, ↓ydc, ↓ydd, ↓yde, ↓ydf, ↓ydg, ↓yao, ↓yap, ↓ydh, ↓ydi, ↓ydj, ↓ydk, ↓ydl, ↓ydm, ↓ydn, ↓ydo, ↓ydp, ↓yax, yay, yaz, yba, ybb, ybc, ybd, ybe, ybf, ybg, ybh, ybi, ybj, ybk, ybl, ybm, ybn, ybo, ybp, ybq, ybr, ybs, ybt, ybu, ybv, ares, tup, ybw, ybx, yby, argsE, dval, aop, ev, evs, evo, evp, fillL, addrOf, intOf?, ybz, yca, ycb, ycc, ycd, yce, ycf, zah, zag, reduceIte, Nat.reduceEqDiff, ycg, ych, yci, ycj, yck, ycl, ycm, ycn, yco, ycp, ycq, ycr, zap, zao, reduceCtorEq, zbb, zbc, zba, zaz, Nat.reduceAdd, Nat.reduceMul, zaq, zar, eqPtr, zae, zaf, zab, zaa, zac, zad, hload, hstore, zal, zam, Nat.reduceAdd, Nat.reduceLeDiff, zbb, zas, zat, one, zau, zaw, zav, splice, zaj, zak, zab, zaa, ycs, yct, ycu, ycv, ycw, ycx, ycy, ycz, zan, zai, zax, zay, and_self, true_and, and_true, lenV, yda, Nat.le_refl, if_true, ydq, ydr, yds, ne_eq, not_true_eq_false, not_false_eq_true, ← decide_not, Decidable.not_not, ydt, ydu, ydz, ydv, ydw, List.drop_zero, eq_self, Bool.false_eq_true, List.getElem?_toArray, yea, yeb, List.nil_append, List.cons_append, Bool.false_and, Int.reduceEq, Int.reduceLT, Int.reduceLE, Int.reduceNe, zbc, zbb, yec, yed, yee, yef, ydx, ydy, g0, q, Nat.reduceAdd]
          refine wk.bytes fun H14 hf14 => ?_
          simp only [↓yaa, ↓yab, ↓yac, ↓yad, ↓yae, ↓yaf, ↓yag, ↓yah, ↓yai, ↓ydb, ↓ydc, ↓ydd, ↓yde, ↓ydf, ↓ydg, ↓yao, ↓yap, ↓ydh, ↓ydi, ↓ydj, ↓ydk, ↓ydl, ↓ydm, ↓ydn, ↓ydo, ↓ydp, ↓yax, yay, yaz, yba, ybb, ybc, ybd, ybe, ybf, ybg, ybh, ybi, ybj, ybk, ybl, ybm, ybn, ybo, ybp, ybq, ybr, ybs, ybt, ybu, ybv, ares, tup, ybw, ybx, yby, argsE, dval, aop, ev, evs, evo, evp, fillL, addrOf, intOf?, ybz, yca, ycb, ycc, ycd, yce, ycf, zah, zag, reduceIte, Nat.reduceEqDiff, ycg, ych, yci, ycj, yck, ycl, ycm, ycn, yco, ycp, ycq, ycr, zap, zao, reduceCtorEq, zbb, zbc, zba, zaz, Nat.reduceAdd, Nat.reduceMul, zaq, zar, eqPtr, zae, zaf, zab, zaa, zac, zad, hload, hstore, zal, zam, Nat.reduceAdd, Nat.reduceLeDiff, zbb, zas, zat, one, zau, zaw, zav, splice, zaj, zak, zab, zaa, ycs, yct, ycu, ycv, ycw, ycx, ycy, ycz, zan, zai, zax, zay, and_self, true_and, and_true, lenV, yda, Nat.le_refl, if_true, ydq, ydr, yds, ne_eq, not_true_eq_false, not_false_eq_true, ← decide_not, Decidable.not_not, ydt, ydu, ydz, ydv, ydw, List.drop_zero, eq_self, Bool.false_eq_true, List.getElem?_toArray, yea, yeb, List.nil_append, List.cons_append, Bool.false_and, Int.reduceEq, Int.reduceLT, Int.reduceLE, Int.reduceNe, zbc, zbb, yec, yed, yee, yef, ydx, ydy]
          exact hk _ (hf0.then (wk.f.then hf14))
        | succ j =>
          obtain ⟨x, hx⟩ : ∃ x, o.next.ch[o.next.ch.length - (j + 1)]? = some x := ⟨_, List.getElem?_eq_getElem (by omega)⟩
          have hxo := hok.ch x (List.mem_of_getElem? hx)
          obtain ⟨b, o', w, cs, rfl, rfl, h3, h4⟩ := hi _ x hx
          have h3 := wk.f.gets h3
          have g0 : ((o.next.ch.length - (j + 1) : Nat) : Int) < (o.next.ch.length : Int) := by omega
          have g1 : (0 : Int) ≤ ((o.next.ch.length - (j + 1) : Nat) : Int) := by omega
          have g3 : IntKind.i64.wrap (((o.next.ch.length - (j + 1) : Nat) : Int) + 1) = ((o.next.ch.length - j : Nat) : Int) := by rw [wrap_i64 (by omega) (by omega)]; omega
          have q := wk.f.gets hg
          simp only [↓yaa, ↓yab, ↓yac, ↓yad, ↓yae, ↓yaf, ↓yag, ↓yah, ↓yai, ↓ydb, ↓ydc, ↓ydd, ↓yde, ↓ydf, ↓ydg, ↓yao, ↓yap, ↓ydh, ↓ydi, ↓ydj, ↓ydk, ↓ydl, ↓ydm, ↓ydn, ↓ydo, ↓ydp, ↓yax, yay, yaz, yba, ybb, ybc, ybd, ybe, ybf, ybg, ybh, ybi, ybj, ybk, ybl, ybm, ybn, ybo, ybp, ybq, ybr, ybs, ybt, ybu, ybv, ares, tup, ybw, ybx, yby, argsE, dval, aop, ev, evs, evo, evp, fillL, addrOf, intOf?, ybz, yca, ycb, ycc, ycd, yce, ycf, zah, zag, reduceIte, Nat.reduceEqDiff, ycg, ych, yci, ycj, yck, ycl, ycm, ycn, yco, ycp, ycq, ycr, zap, zao, reduceCtorEq, zbb, zbc, zba, zaz, Nat.reduceAdd, Nat.reduceMul, zaq, zar, eqPtr, zae, zaf, zab, zaa, zac, zad, hload, hstore, zal, zam, Nat.reduceAdd, Nat.reduceLeDiff, zbb, zas, zat, one, zau, zaw, zav, splice, zaj, zak, zab, zaa, ycs, yct, ycu, ycv, ycw, ycx, ycy, ycz, zan, zai, zax, zay, and_self, true_and, and_true, lenV, yda, Nat.le_refl, if_true, ydq, ydr, yds, ne_eq, not_true_eq_false, not_false_eq_true, ← decide_not, Decidable.not_not, ydt, ydu, ydz, ydv, ydw, List.drop_zero, eq_self, Bool.false_eq_true, List.getElem?_toArray, yea, yeb, List.nil_append, List.cons_append, Bool.false_and, Int.reduceEq, Int.reduceLT, Int.reduceLE, Int.reduceNe, zbc, zbb, yec, yed, yee, yef, ydx, ydy, g0, g1, Int.toNat_natCast, Nat.mul_one, h3, h4, q, Nat.reduceAdd]
          refine wk.unsigned hxo fun H14 wk => ?_
          simp only [↓yaa, ↓yab, ↓yac, ↓yad, ↓yae, ↓yaf, ↓yag, ↓yah, ↓yai, ↓ydb, ↓ydc, ↓ydd, ↓yde, ↓ydf, ↓ydg, ↓yao, ↓yap, ↓ydh, ↓ydi, ↓ydj, ↓ydk, ↓ydl, ↓ydm, ↓ydn, ↓ydo, ↓ydp, ↓yax, yay, yaz, yba, ybb, ybc, ybd, ybe, ybf, ybg, ybh, ybi, ybj, ybk, ybl, ybm, ybn, ybo, ybp, ybq, ybr, ybs, ybt, ybu, ybv, ares, tup, ybw, ybx, yby, argsE, dval, aop, ev, evs, evo, evp, fillL, addrOf, intOf?, ybz, yca, ycb, ycc, ycd, yce, ycf, zah, zag, reduceIte, Nat.reduceEqDiff, ycg, ych, yci, ycj, yck, ycl, ycm, ycn, yco, ycp, ycq, ycr, zap, zao, reduceCtorEq, zbb, zbc, zba, zaz, Nat.reduceAdd, Nat.reduceMul, zaq, zar, eqPtr, zae, zaf, zab, zaa, zac, zad, hload, hstore, zal, zam, Nat.reduceAdd, Nat.reduceLeDiff, zbb, zas, zat, one, zau, zaw, zav, splice, zaj, zak, zab, zaa, ycs, yct, ycu, ycv, ycw, ycx, ycy, ycz, zan, zai, zax, zay, and_self, true_and, and_true, lenV, yda, Nat.le_refl, if_true, ydq, ydr, yds, ne_eq, not_true_eq_false, not_false_eq_true, ← decide_not, Decidable.not_not, ydt, ydu, ydz, ydv, ydw, List.drop_zero, eq_self, Bool.false_eq_true, List.getElem?_toArray, yea, yeb, List.nil_append, List.cons_append, Bool.false_and, Int.reduceEq, Int.reduceLT, Int.reduceLE, Int.reduceNe, zbc, zbb, yec, yed, yee, yef, ydx, ydy, g3]
          refine ⟨j, by omega, by omega, rfl, ?_⟩
          rw [show o.next.ch.length - j = o.next.ch.length - (j + 1) + 1 by omega, List.take_add_one, hx]
          simpa [chW] using wk
  · rw [if_pos (by simpa using he)] at hk
    simp only [↓yaa, ↓yab, ↓yac, ↓yad, ↓yae, ↓yaf, ↓yag, ↓yah, ↓yai, ↓ydb, ↓ydc, ↓ydd, ↓yde, ↓ydf, ↓ydg, ↓yao, ↓yap, ↓ydh, ↓ydi, ↓ydj, ↓ydk, ↓ydl, ↓ydm, ↓ydn, ↓ydo, ↓ydp, ↓yax, yay, yaz, yba, ybb, ybc, ybd, ybe, ybf, ybg, ybh, ybi, ybj, ybk, ybl, ybm, ybn, ybo, ybp, ybq, ybr, ybs, ybt, ybu, ybv, ares, tup, ybw, ybx, yby, argsE, dval, aop, ev, evs, evo, evp, fillL, addrOf, intOf?, ybz, yca, ycb, ycc, ycd, yce, ycf, zah, zag, reduceIte, Nat.reduceEqDiff, ycg, ych, yci, ycj, yck, ycl, ycm, ycn, yco, ycp, ycq, ycr, zap, zao, reduceCtorEq, zbb, zbc, zba, zaz, Nat.reduceAdd, Nat.reduceMul, zaq, zar, eqPtr, zae, zaf, zab, zaa, zac, zad, hload, hstore, zal, zam, Nat.reduceAdd, Nat.reduceLeDiff, zbb, zas, zat, one, zau, zaw, zav, splice, zaj, zak, zab, zaa, ycs, yct, ycu, ycv, ycw, ycx, ycy, ycz, zan, zai, zax, zay, and_self, true_and, and_true, lenV, yda, Nat.le_refl, if_true, ydq, ydr, yds, ne_eq, not_true_eq_false, not_false_eq_true, ← decide_not, Decidable.not_not, ydt, ydu, ydz, ydv, ydw, List.drop_zero, eq_self, Bool.false_eq_true, List.getElem?_toArray, yea, yeb, List.nil_append, List.cons_append, Bool.false_and, Int.reduceEq, Int.reduceLT, Int.reduceLE, Int.reduceNe, zbc, zbb, yec, yed, yee, yef, ydx, ydy, he]
    exact hk _ (hf0.then hf1)

end Go.Proofs.Ytejcabdejoameaa.AI

/- Frames: when they are right. -/
set_option linter.unusedSimpArgs false
set_option maxHeartbeats 4000000
namespace Go.Proofs.Ytejcabdejoameaa.AI
open Go

theorem f162_0 (n m : Int) : AC tbl 162 [.int .i64 n, .int .i64 m] [] = some (.bool (decide (0 ≤ n ∧ n ≤ m)), []) := by
  apply AC_eq
  apply AC_wp (F := F162) rfl (by simp [F162]) (.inr rfl)
  unfold F162
  (repeat' (first | simp only [↓yaa, ↓yab, ↓yac, ↓yad, ↓yae, ↓yaf, ↓yag, ↓yah, ↓yai, ↓ydb, ↓ydc, ↓ydd, ↓yde, ↓ydf, ↓ydg, ↓yao, ↓yap, ↓ydh, ↓ydi, ↓ydj, ↓ydk, ↓ydl, ↓ydm, ↓ydn, ↓ydo, ↓ydp, ↓yax, yay, yaz, yba, ybb, ybc, ybd, ybe, ybf, ybg, ybh, ybi, ybj, ybk, ybl, ybm, ybn, ybo, ybp, ybq, ybr, ybs, ybt, ybu, ybv, ares, tup, ybw, ybx, yby, argsE, dval, aop, ev, evs, evo, evp, fillL, addrOf, intOf?, ybz, yca, ycb, ycc, ycd, yce, ycf, zah, zag, reduceIte, Nat.reduceEqDiff, ycg, ych, yci, ycj, yck, ycl, ycm, ycn, yco, ycp, ycq, ycr, zap, zao, reduceCtorEq, zbb, zbc, zba, zaz, Nat.reduceAdd, Nat.reduceMul, zaq, zar, eqPtr, zae, zaf, zab, zaa, zac, zad, hload, hstore, zal, zam, Nat.reduceAdd, Nat.reduceLeDiff, zbb, zas, zat, one, zau, zaw, zav, splice, zaj, zak, zab, zaa, ycs, yct, ycu, ycv, ycw, ycx, ycy, ycz, zan, zai, zax, zay, and_self, true_and, and_true, lenV, yda, Nat.le_refl, if_true, ydq, ydr, yds, ne_eq, not_true_eq_false, not_false_eq_true, ← decide_not, Decidable.not_not, ydt, ydu, ydz, ydv, ydw, List.drop_zero, eq_self, Bool.false_eq_true, List.getElem?_toArray, yea, yeb, List.nil_append, List.cons_append, Bool.false_and, Int.reduceEq, Int.reduceLT, Int.reduceLE, Int.reduceNe, zbc, zbb, yec, yed, yee, yef, ydx, ydy, false_and, zbc, *] | refine yeg (fun _ => ?_) (fun _ => ?_) | refine yeh (fun _ => ?_) (fun _ => ?_) | refine yei (fun _ => ?_) (fun _ => ?_) | refine yej (fun _ => ?_) (fun _ => ?_) | refine yek (fun _ => ?_) (fun _ => ?_) | refine yel (fun _ => ?_) (fun _ => ?_)))
theorem f162 (n m : Int) (H : Heap) : AC tbl 162 [.int .i64 n, .int .i64 m] H = some (.bool (decide (0 ≤ n ∧ n ≤ m)), H) := AC_iso (F := F162) rfl (by simp [F162]) rfl rfl rfl (f162_0 n m) H
theorem f163_0 (n m : Int) : AC tbl 163 [.int .i64 n, .int .i64 m] [] = some (.bool (decide (0 ≤ n ∧ n ≤ m)), []) := by
  apply AC_eq
  apply AC_wp (F := F163) rfl (by simp [F163]) (.inr rfl)
  unfold F163
  (repeat' (first | simp only [↓yaa, ↓yab, ↓yac, ↓yad, ↓yae, ↓yaf, ↓yag, ↓yah, ↓yai, ↓ydb, ↓ydc, ↓ydd, ↓yde, ↓ydf, ↓ydg, ↓yao, ↓yap, ↓ydh, ↓ydi, ↓ydj, ↓ydk, ↓ydl, ↓ydm, ↓ydn, ↓ydo, ↓ydp, ↓yax, yay, yaz, yba, ybb, ybc, ybd, ybe, ybf, ybg, ybh, ybi, ybj, ybk, ybl, ybm, ybn, ybo, ybp, ybq, ybr, ybs, ybt, ybu, ybv, ares, tup, ybw, ybx, yby, argsE, dval, aop, ev, evs, evo, evp, fillL, addrOf, intOf?, ybz, yca, ycb, ycc, ycd, yce, ycf, zah, zag, reduceIte, Nat.reduceEqDiff, ycg, ych, yci, ycj, yck, ycl, ycm, ycn, yco, ycp, ycq, ycr, zap, zao, reduceCtorEq, zbb, zbc, zba, zaz, Nat.reduceAdd, Nat.reduceMul, zaq, zar, eqPtr, zae, zaf, zab, zaa, zac, zad, hload, hstore, zal, zam, Nat.reduceAdd, Nat.reduceLeDiff, zbb, zas, zat, one, zau, zaw, zav, splice, zaj, zak, zab, zaa, ycs, yct, ycu, ycv, ycw, ycx, ycy, ycz, zan, zai, zax, zay, and_self, true_and, and_true, lenV, yda, Nat.le_refl, if_true, ydq, ydr, yds, ne_eq, not_true_eq_false, not_false_eq_true, ← decide_not, Decidable.not_not, ydt, ydu, ydz, ydv, ydw, List.drop_zero, eq_self, Bool.false_eq_true, List.getElem?_toArray, yea, yeb, List.nil_append, List.cons_append, Bool.false_and, Int.reduceEq, Int.reduceLT, Int.reduceLE, Int.reduceNe, zbc, zbb, yec, yed, yee, yef, ydx, ydy, false_and, zbc, *] | refine yeg (fun _ => ?_) (fun _ => ?_) | refine yeh (fun _ => ?_) (fun _ => ?_) | refine yei (fun _ => ?_) (fun _ => ?_) | refine yej (fun _ => ?_) (fun _ => ?_) | refine yek (fun _ => ?_) (fun _ => ?_) | refine yel (fun _ => ?_) (fun _ => ?_)))
theorem f163 (n m : Int) (H : Heap) : AC tbl 163 [.int .i64 n, .int .i64 m] H = some (.bool (decide (0 ≤ n ∧ n ≤ m)), H) := AC_iso (F := F163) rfl (by simp [F163]) rfl rfl rfl (f163_0 n m) H
theorem f173_0 (n : Int) : AC tbl 173 [.int .i64 n] [] = some (.bool (decide (-32768 ≤ n ∧ n ≤ 32767)), []) := by
  apply AC_eq
  apply AC_wp (F := F173) rfl (by simp [F173]) (.inr rfl)
  unfold F173
  (repeat' (first | simp only [↓yaa, ↓yab, ↓yac, ↓yad, ↓yae, ↓yaf, ↓yag, ↓yah, ↓yai, ↓ydb, ↓ydc, ↓ydd, ↓yde, ↓ydf, ↓ydg, ↓yao, ↓yap, ↓ydh, ↓ydi, ↓ydj, ↓ydk, ↓ydl, ↓ydm, ↓ydn, ↓ydo, ↓ydp, ↓yax, yay, yaz, yba, ybb, ybc, ybd, ybe, ybf, ybg, ybh, ybi, ybj, ybk, ybl, ybm, ybn, ybo, ybp, ybq, ybr, ybs, ybt, ybu, ybv, ares, tup, ybw, ybx, yby, argsE, dval, aop, ev, evs, evo, evp, fillL, addrOf, intOf?, ybz, yca, ycb, ycc, ycd, yce, ycf, zah, zag, reduceIte, Nat.reduceEqDiff, ycg, ych, yci, ycj, yck, ycl, ycm, ycn, yco, ycp, ycq, ycr, zap, zao, reduceCtorEq, zbb, zbc, zba, zaz, Nat.reduceAdd, Nat.reduceMul, zaq, zar, eqPtr, zae, zaf, zab, zaa, zac, zad, hload, hstore, zal, zam, Nat.reduceAdd, Nat.reduceLeDiff, zbb, zas, zat, one, zau, zaw, zav, splice, zaj, zak, zab, zaa, ycs, yct, ycu, ycv, ycw, ycx, ycy, ycz, zan, zai, zax, zay, and_self, true_and, and_true, lenV, yda, Nat.le_refl, if_true, ydq, ydr, yds, ne_eq, not_true_eq_false, not_false_eq_true, ← decide_not, Decidable.not_not, ydt, ydu, ydz, ydv, ydw, List.drop_zero, eq_self, Bool.false_eq_true, List.getElem?_toArray, yea, yeb, List.nil_append, List.cons_append, Bool.false_and, Int.reduceEq, Int.reduceLT, Int.reduceLE, Int.reduceNe, zbc, zbb, yec, yed, yee, yef, ydx, ydy, false_and, zbc, *] | refine yeg (fun _ => ?_) (fun _ => ?_) | refine yeh (fun _ => ?_) (fun _ => ?_) | refine yei (fun _ => ?_) (fun _ => ?_) | refine yej (fun _ => ?_) (fun _ => ?_) | refine yek (fun _ => ?_) (fun _ => ?_) | refine yel (fun _ => ?_) (fun _ => ?_)))
theorem f173 (n : Int) (H : Heap) : AC tbl 173 [.int .i64 n] H = some (.bool (decide (-32768 ≤ n ∧ n ≤ 32767)), H) := AC_iso (F := F173) rfl (by simp [F173]) rfl rfl rfl (f173_0 n) H

/-- A frame. -/
structure Fr where
  kind : Int
  source : Int
  target : Int
  list : Int
  seq : Int
  flow : Int
  number : Int
  error : Int
  slot : Int
  rank : Int
  epoch : Int
  data : ByteArray
def Fr.cells (f : Fr) : List Value := [.int .i64 f.kind, .int .i64 f.source, .int .i64 f.target, .int .i64 f.list, .int .i64 f.seq, .int .i64 f.flow, .int .i64 f.number, .int .i64 f.error, .int .i64 f.slot, .int .i64 f.rank, .int .i64 f.epoch, .string f.data]
def Fr.v (f : Fr) : Value := .agg #[.int .i64 f.kind, .int .i64 f.source, .int .i64 f.target, .int .i64 f.list, .int .i64 f.seq, .int .i64 f.flow, .int .i64 f.number, .int .i64 f.error, .int .i64 f.slot, .int .i64 f.rank, .int .i64 f.epoch, .string f.data]
/-- A right frame. -/
def Fr.Ok (f : Fr) : Prop := 1 ≤ f.kind ∧ f.kind ≤ 4 ∧ 0 ≤ f.source ∧ f.source ≤ 31 ∧ 0 ≤ f.list ∧ f.list ≤ 255 ∧ 0 ≤ f.seq ∧ f.seq ≤ 255 ∧ (f.kind = 3 → f.target = -1) ∧ (f.target = -1 ∨ 0 ≤ f.target ∧ f.target ≤ 31 ∧ f.target ≠ f.source) ∧ (f.kind ≤ 2 → f.target ≠ -1) ∧
  (f.kind ≠ 1 → f.flow = 0 ∧ f.number = 0) ∧ (f.kind ≠ 2 → f.error = 0) ∧ (f.kind ≠ 3 → f.slot = 0 ∧ f.rank = 0 ∧ f.epoch = 0) ∧ (f.kind = 2 → f.data.size = 0) ∧
  0 ≤ f.flow ∧ f.flow ≤ 255 ∧ 0 ≤ f.number ∧ f.number ≤ 65535 ∧ -32768 ≤ f.error ∧ f.error ≤ 32767 ∧ 0 ≤ f.slot ∧ f.slot ≤ 109951162 ∧ 0 ≤ f.rank ∧ f.rank ≤ 65535 ∧ 0 ≤ f.epoch ∧ f.epoch ≤ 65535
instance (f : Fr) : Decidable f.Ok := by unfold Fr.Ok; infer_instance
theorem take12 (a b c d e f g h i j k l : Value) : List.take 12 [a, b, c, d, e, f, g, h, i, j, k, l] = [a, b, c, d, e, f, g, h, i, j, k, l] := rfl
theorem list12 (a b c d e f g h i j k l : Value) : [a, b, c, d, e, f, g, h, i, j, k, l].toArray = #[a, b, c, d, e, f, g, h, i, j, k, l] := rfl

/-- The reference's check. -/
theorem f151_0 (f : Fr) : AC tbl 151 [f.v] [] = some (.int .i64 (if f.Ok then 0 else 1), []) := by
  apply AC_eq
  apply AC_wp (F := F151) rfl (by simp [F151]) (.inr rfl)
  unfold F151 Fr.v
  (repeat' (first | simp only [↓yaa, ↓yab, ↓yac, ↓yad, ↓yae, ↓yaf, ↓yag, ↓yah, ↓yai, ↓ydb, ↓ydc, ↓ydd, ↓yde, ↓ydf, ↓ydg, ↓yao, ↓yap, ↓ydh, ↓ydi, ↓ydj, ↓ydk, ↓ydl, ↓ydm, ↓ydn, ↓ydo, ↓ydp, ↓yax, yay, yaz, yba, ybb, ybc, ybd, ybe, ybf, ybg, ybh, ybi, ybj, ybk, ybl, ybm, ybn, ybo, ybp, ybq, ybr, ybs, ybt, ybu, ybv, ares, tup, ybw, ybx, yby, argsE, dval, aop, ev, evs, evo, evp, fillL, addrOf, intOf?, ybz, yca, ycb, ycc, ycd, yce, ycf, zah, zag, reduceIte, Nat.reduceEqDiff, ycg, ych, yci, ycj, yck, ycl, ycm, ycn, yco, ycp, ycq, ycr, zap, zao, reduceCtorEq, zbb, zbc, zba, zaz, Nat.reduceAdd, Nat.reduceMul, zaq, zar, eqPtr, zae, zaf, zab, zaa, zac, zad, hload, hstore, zal, zam, Nat.reduceAdd, Nat.reduceLeDiff, zbb, zas, zat, one, zau, zaw, zav, splice, zaj, zak, zab, zaa, ycs, yct, ycu, ycv, ycw, ycx, ycy, ycz, zan, zai, zax, zay, and_self, true_and, and_true, lenV, yda, Nat.le_refl, if_true, ydq, ydr, yds, ne_eq, not_true_eq_false, not_false_eq_true, ← decide_not, Decidable.not_not, ydt, ydu, ydz, ydv, ydw, List.drop_zero, eq_self, Bool.false_eq_true, List.getElem?_toArray, yea, yeb, List.nil_append, List.cons_append, Bool.false_and, Int.reduceEq, Int.reduceLT, Int.reduceLE, Int.reduceNe, zbc, zbb, yec, yed, yee, yef, ydx, ydy, f163, binV_strNe, eq_empty, *] | refine yeg (fun _ => ?_) (fun _ => ?_) | refine yeh (fun _ => ?_) (fun _ => ?_) | refine yei (fun _ => ?_) (fun _ => ?_) | refine yej (fun _ => ?_) (fun _ => ?_) | refine yek (fun _ => ?_) (fun _ => ?_) | refine yel (fun _ => ?_) (fun _ => ?_)))
  all_goals (first | ((rw [if_pos (by unfold Fr.Ok; omega)]); done) | ((rw [if_neg (by unfold Fr.Ok; omega)]); done) | (exfalso; omega))
theorem f151 (f : Fr) (H : Heap) : AC tbl 151 [f.v] H = some (.int .i64 (if f.Ok then 0 else 1), H) := AC_iso (F := F151) rfl (by simp [F151]) rfl rfl rfl (f151_0 f) H

theorem eqs12 {a b c d e f g h i j k a' b' c' d' e' f' g' h' i' j' k' : Int} {s s' : ByteArray} : eqL [.int, .int, .int, .int, .int, .int, .int, .int, .int, .int, .int, .str]
    [.int .i64 a, .int .i64 b, .int .i64 c, .int .i64 d, .int .i64 e, .int .i64 f, .int .i64 g, .int .i64 h, .int .i64 i, .int .i64 j, .int .i64 k, .string s]
    [.int .i64 a', .int .i64 b', .int .i64 c', .int .i64 d', .int .i64 e', .int .i64 f', .int .i64 g', .int .i64 h', .int .i64 i', .int .i64 j', .int .i64 k', .string s'] =
    some (decide (a = a' ∧ b = b' ∧ c = c' ∧ d = d' ∧ e = e' ∧ f = f' ∧ g = g' ∧ h = h' ∧ i = i' ∧ j = j' ∧ k = k' ∧ s = s')) := by
  have hs : (s == s') = decide (s = s') := by
    cases s with
    | mk d =>
      cases s' with
      | mk e =>
        show (d == e) = _
        by_cases h : d = e
        · subst h; simp
        · simp [h]
  simp only [eqL, eq1, if_true, zag, hs]
  by_cases h1 : a = a' <;> by_cases h2 : b = b' <;> by_cases h3 : c = c' <;> by_cases h4 : d = d' <;> by_cases h5 : e = e' <;> by_cases h6 : f = f' <;> simp [h1, h2, h3, h4, h5, h6]
  by_cases h1 : g = g' <;> by_cases h2 : h = h' <;> by_cases h3 : i = i' <;> by_cases h4 : j = j' <;> by_cases h5 : k = k' <;> by_cases h6 : s = s' <;> simp [h1, h2, h3, h4, h5, h6]

theorem f172_0 (a b c d e f g h i j k : Int) (s : ByteArray) : AC tbl 172 [.agg #[.int .i64 a, .int .i64 b, .int .i64 c, .int .i64 d, .int .i64 e, .int .i64 f, .int .i64 g, .int .i64 h, .int .i64 i, .int .i64 j, .int .i64 k, .string s]] [] =
    some (.bool (decide (0 ≤ c ∧ c ≤ 31 ∧ ¬ c = b)), []) := by
  apply AC_eq
  apply AC_wp (F := F172) rfl (by simp [F172]) (.inr rfl)
  unfold F172
  (repeat' (first | simp only [↓yaa, ↓yab, ↓yac, ↓yad, ↓yae, ↓yaf, ↓yag, ↓yah, ↓yai, ↓ydb, ↓ydc, ↓ydd, ↓yde, ↓ydf, ↓ydg, ↓yao, ↓yap, ↓ydh, ↓ydi, ↓ydj, ↓ydk, ↓ydl, ↓ydm, ↓ydn, ↓ydo, ↓ydp, ↓yax, yay, yaz, yba, ybb, ybc, ybd, ybe, ybf, ybg, ybh, ybi, ybj, ybk, ybl, ybm, ybn, ybo, ybp, ybq, ybr, ybs, ybt, ybu, ybv, ares, tup, ybw, ybx, yby, argsE, dval, aop, ev, evs, evo, evp, fillL, addrOf, intOf?, ybz, yca, ycb, ycc, ycd, yce, ycf, zah, zag, reduceIte, Nat.reduceEqDiff, ycg, ych, yci, ycj, yck, ycl, ycm, ycn, yco, ycp, ycq, ycr, zap, zao, reduceCtorEq, zbb, zbc, zba, zaz, Nat.reduceAdd, Nat.reduceMul, zaq, zar, eqPtr, zae, zaf, zab, zaa, zac, zad, hload, hstore, zal, zam, Nat.reduceAdd, Nat.reduceLeDiff, zbb, zas, zat, one, zau, zaw, zav, splice, zaj, zak, zab, zaa, ycs, yct, ycu, ycv, ycw, ycx, ycy, ycz, zan, zai, zax, zay, and_self, true_and, and_true, lenV, yda, Nat.le_refl, if_true, ydq, ydr, yds, ne_eq, not_true_eq_false, not_false_eq_true, ← decide_not, Decidable.not_not, ydt, ydu, ydz, ydv, ydw, List.drop_zero, eq_self, Bool.false_eq_true, List.getElem?_toArray, yea, yeb, List.nil_append, List.cons_append, Bool.false_and, Int.reduceEq, Int.reduceLT, Int.reduceLE, Int.reduceNe, zbc, zbb, yec, yed, yee, yef, ydx, ydy, f162, *] | refine yeg (fun _ => ?_) (fun _ => ?_) | refine yeh (fun _ => ?_) (fun _ => ?_) | refine yei (fun _ => ?_) (fun _ => ?_) | refine yej (fun _ => ?_) (fun _ => ?_) | refine yek (fun _ => ?_) (fun _ => ?_) | refine yel (fun _ => ?_) (fun _ => ?_)))
  all_goals ((try simp only [true_and, and_true, false_and, and_false, or_true, true_or, false_or, or_false, not_true_eq_false, not_false_eq_true, and_self, or_self]) <;> first | rfl | (exact vb_t (by omega)) | (exact vb_f (by omega)) | (exact vb_iff (by omega)) | (exfalso; omega))
theorem f172 (a b c d e f g h i j k : Int) (s : ByteArray) (H : Heap) : AC tbl 172 [.agg #[.int .i64 a, .int .i64 b, .int .i64 c, .int .i64 d, .int .i64 e, .int .i64 f, .int .i64 g, .int .i64 h, .int .i64 i, .int .i64 j, .int .i64 k, .string s]] H =
    some (.bool (decide (0 ≤ c ∧ c ≤ 31 ∧ ¬ c = b)), H) := AC_iso (F := F172) rfl (by simp [F172]) rfl rfl rfl (f172_0 a b c d e f g h i j k s) H

/-- The fields of a kind, and the rest. -/
def Fr.rest (f : Fr) : Fr := if f.kind = 1 then { f with flow := 0, number := 0, data := ⟨#[]⟩ } else if f.kind = 2 then { f with error := 0 } else if f.kind = 3 then { f with slot := 0, rank := 0, epoch := 0, data := ⟨#[]⟩ }
  else if f.kind = 4 then { f with data := ⟨#[]⟩ } else f
def Fr.fok (f : Fr) : Prop := (f.kind = 1 ∧ (0 ≤ f.target ∧ f.target ≤ 31 ∧ ¬ f.target = f.source) ∧ (0 ≤ f.flow ∧ f.flow ≤ 255) ∧ (0 ≤ f.number ∧ f.number ≤ 65535)) ∨ (f.kind = 2 ∧ (0 ≤ f.target ∧ f.target ≤ 31 ∧ ¬ f.target = f.source) ∧ (-32768 ≤ f.error ∧ f.error ≤ 32767)) ∨
  (f.kind = 3 ∧ f.target = -1 ∧ (0 ≤ f.slot ∧ f.slot ≤ 109951162) ∧ (0 ≤ f.rank ∧ f.rank ≤ 65535) ∧ (0 ≤ f.epoch ∧ f.epoch ≤ 65535)) ∨ (f.kind = 4 ∧ (f.target = -1 ∨ (0 ≤ f.target ∧ f.target ≤ 31 ∧ ¬ f.target = f.source)))
instance (f : Fr) : Decidable f.fok := by unfold Fr.fok; infer_instance
theorem size12 (a b c d e f g h i j k l : Value) : (#[a, b, c, d, e, f, g, h, i, j, k, l] : Array Value).size = 12 := rfl
theorem f161_0 (f : Fr) : AC tbl 161 [f.v] [] = some (.tuple #[f.rest.v, .bool (decide f.fok)], []) := by
  apply AC_eq
  apply AC_wp (F := F161) rfl (by simp [F161]) (.inr rfl)
  unfold F161 Fr.v
  (repeat' (first | simp only [↓yaa, ↓yab, ↓yac, ↓yad, ↓yae, ↓yaf, ↓yag, ↓yah, ↓yai, ↓ydb, ↓ydc, ↓ydd, ↓yde, ↓ydf, ↓ydg, ↓yao, ↓yap, ↓ydh, ↓ydi, ↓ydj, ↓ydk, ↓ydl, ↓ydm, ↓ydn, ↓ydo, ↓ydp, ↓yax, yay, yaz, yba, ybb, ybc, ybd, ybe, ybf, ybg, ybh, ybi, ybj, ybk, ybl, ybm, ybn, ybo, ybp, ybq, ybr, ybs, ybt, ybu, ybv, ares, tup, ybw, ybx, yby, argsE, dval, aop, ev, evs, evo, evp, fillL, addrOf, intOf?, ybz, yca, ycb, ycc, ycd, yce, ycf, zah, zag, reduceIte, Nat.reduceEqDiff, ycg, ych, yci, ycj, yck, ycl, ycm, ycn, yco, ycp, ycq, ycr, zap, zao, reduceCtorEq, zbb, zbc, zba, zaz, Nat.reduceAdd, Nat.reduceMul, zaq, zar, eqPtr, zae, zaf, zab, zaa, zac, zad, hload, hstore, zal, zam, Nat.reduceAdd, Nat.reduceLeDiff, zbb, zas, zat, one, zau, zaw, zav, splice, zaj, zak, zab, zaa, ycs, yct, ycu, ycv, ycw, ycx, ycy, ycz, zan, zai, zax, zay, and_self, true_and, and_true, lenV, yda, Nat.le_refl, if_true, ydq, ydr, yds, ne_eq, not_true_eq_false, not_false_eq_true, ← decide_not, Decidable.not_not, ydt, ydu, ydz, ydv, ydw, List.drop_zero, eq_self, Bool.false_eq_true, List.getElem?_toArray, yea, yeb, List.nil_append, List.cons_append, Bool.false_and, Int.reduceEq, Int.reduceLT, Int.reduceLE, Int.reduceNe, zbc, zbb, yec, yed, yee, yef, ydx, ydy, f162, f172, f173, size12, take12, list12, *] | refine yeg (fun _ => ?_) (fun _ => ?_) | refine yeh (fun _ => ?_) (fun _ => ?_) | refine yei (fun _ => ?_) (fun _ => ?_) | refine yej (fun _ => ?_) (fun _ => ?_) | refine yek (fun _ => ?_) (fun _ => ?_) | refine yel (fun _ => ?_) (fun _ => ?_)))
  all_goals (refine Op1_fin0 rfl ⟨?_, rfl⟩; simp only [Fr.rest, *, if_true, if_false, reduceIte, Int.reduceEq]; apply tup2; ((try simp only [true_and, and_true, false_and, and_false, or_true, true_or, false_or, or_false, not_true_eq_false, not_false_eq_true, and_self, or_self]) <;> first | rfl | (exact vb_t (by unfold Fr.fok; omega)) | (exact vb_f (by unfold Fr.fok; omega)) | (exact vb_iff (by unfold Fr.fok; omega)) | (exfalso; omega)))
theorem f161 (f : Fr) (H : Heap) : AC tbl 161 [f.v] H = some (.tuple #[f.rest.v, .bool (decide f.fok)], H) := AC_iso (F := F161) rfl (by simp [F161]) rfl rfl rfl (f161_0 f) H

theorem f150_0 (f : Fr) : AC tbl 150 [f.v] [] = some (.int .i64 (if f.Ok then 0 else 1), []) := by
  apply AC_eq
  apply AC_wp (F := F150) rfl (by simp [F150]) (.inr rfl)
  have h161 := f161 f
  have hr : f.rest.v = .agg #[.int .i64 f.rest.kind, .int .i64 f.rest.source, .int .i64 f.rest.target, .int .i64 f.rest.list, .int .i64 f.rest.seq, .int .i64 f.rest.flow, .int .i64 f.rest.number, .int .i64 f.rest.error, .int .i64 f.rest.slot, .int .i64 f.rest.rank, .int .i64 f.rest.epoch, .string f.rest.data] := rfl
  rw [hr] at h161
  have key : f.fok ∧ (f.rest.kind = f.kind ∧ f.rest.source = f.source ∧ f.rest.target = f.target ∧ f.rest.list = f.list ∧ f.rest.seq = f.seq ∧ f.rest.flow = 0 ∧ f.rest.number = 0 ∧ f.rest.error = 0 ∧ f.rest.slot = 0 ∧ f.rest.rank = 0 ∧ f.rest.epoch = 0 ∧ f.rest.data = ⟨#[]⟩) ∧ (0 ≤ f.source ∧ f.source ≤ 31) ∧ (0 ≤ f.list ∧ f.list ≤ 255) ∧ (0 ≤ f.seq ∧ f.seq ≤ 255) ↔ f.Ok := by
    unfold Fr.rest Fr.fok Fr.Ok
    have e0 : (⟨#[]⟩ : ByteArray).size = 0 := rfl
    split
    · simp only [eq_empty, e0, true_and, and_true]; omega
    · split
      · simp only [eq_empty, e0, true_and, and_true]; omega
      · split
        · simp only [eq_empty, e0, true_and, and_true]; omega
        · split
          · simp only [eq_empty, e0, true_and, and_true]; omega
          · simp only [eq_empty, e0, true_and, and_true]; omega
  rw [show (if f.Ok then (0 : Int) else 1) = if f.fok ∧ (f.rest.kind = f.kind ∧ f.rest.source = f.source ∧ f.rest.target = f.target ∧ f.rest.list = f.list ∧ f.rest.seq = f.seq ∧ f.rest.flow = 0 ∧ f.rest.number = 0 ∧ f.rest.error = 0 ∧ f.rest.slot = 0 ∧ f.rest.rank = 0 ∧ f.rest.epoch = 0 ∧ f.rest.data = ⟨#[]⟩) ∧ (0 ≤ f.source ∧ f.source ≤ 31) ∧ (0 ≤ f.list ∧ f.list ≤ 255) ∧ (0 ≤ f.seq ∧ f.seq ≤ 255) then 0 else 1 by
    simp only [key]]
  clear key hr
  generalize f.rest = r at *
  rw [Fr.v] at *
  unfold F150
  (repeat' (first | simp only [↓yaa, ↓yab, ↓yac, ↓yad, ↓yae, ↓yaf, ↓yag, ↓yah, ↓yai, ↓ydb, ↓ydc, ↓ydd, ↓yde, ↓ydf, ↓ydg, ↓yao, ↓yap, ↓ydh, ↓ydi, ↓ydj, ↓ydk, ↓ydl, ↓ydm, ↓ydn, ↓ydo, ↓ydp, ↓yax, yay, yaz, yba, ybb, ybc, ybd, ybe, ybf, ybg, ybh, ybi, ybj, ybk, ybl, ybm, ybn, ybo, ybp, ybq, ybr, ybs, ybt, ybu, ybv, ares, tup, ybw, ybx, yby, argsE, dval, aop, ev, evs, evo, evp, fillL, addrOf, intOf?, ybz, yca, ycb, ycc, ycd, yce, ycf, zah, zag, reduceIte, Nat.reduceEqDiff, ycg, ych, yci, ycj, yck, ycl, ycm, ycn, yco, ycp, ycq, ycr, zap, zao, reduceCtorEq, zbb, zbc, zba, zaz, Nat.reduceAdd, Nat.reduceMul, zaq, zar, eqPtr, zae, zaf, zab, zaa, zac, zad, hload, hstore, zal, zam, Nat.reduceAdd, Nat.reduceLeDiff, zbb, zas, zat, one, zau, zaw, zav, splice, zaj, zak, zab, zaa, ycs, yct, ycu, ycv, ycw, ycx, ycy, ycz, zan, zai, zax, zay, and_self, true_and, and_true, lenV, yda, Nat.le_refl, if_true, ydq, ydr, yds, ne_eq, not_true_eq_false, not_false_eq_true, ← decide_not, Decidable.not_not, ydt, ydu, ydz, ydv, ydw, List.drop_zero, eq_self, Bool.false_eq_true, List.getElem?_toArray, yea, yeb, List.nil_append, List.cons_append, Bool.false_and, Int.reduceEq, Int.reduceLT, Int.reduceLE, Int.reduceNe, zbc, zbb, yec, yed, yee, yef, ydx, ydy, f162, size12, take12, list12, eqs12, h161, zal, zam, and_false, false_and, true_and, and_true, if_false, *] | refine yeg (fun _ => ?_) (fun _ => ?_) | refine yeh (fun _ => ?_) (fun _ => ?_) | refine yei (fun _ => ?_) (fun _ => ?_) | refine yej (fun _ => ?_) (fun _ => ?_) | refine yek (fun _ => ?_) (fun _ => ?_) | refine yel (fun _ => ?_) (fun _ => ?_)))
  all_goals all_goals (first | rfl | exact ⟨rfl, rfl⟩ | exact ⟨rfl, trivial⟩ | exact ⟨trivial, trivial⟩ | exact ⟨trivial, rfl⟩ | trivial)
theorem f150 (f : Fr) (H : Heap) : AC tbl 150 [f.v] H = some (.int .i64 (if f.Ok then 0 else 1), H) := AC_iso (F := F150) rfl (by simp [F150]) rfl rfl rfl (f150_0 f) H

end Go.Proofs.Ytejcabdejoameaa.AI

