/- What is proved on the way to BeaconBack, part 4: an interpreter of the code, its soundness, and what the functions answer. -/
import Derived.Calls
import Derived.Orders
import Derived.RowKit3
import Derived.KernelRfl
import Derived.WalkKit
import Derived.Laws.IdiomStrings
import Derived.Laws.StructEq
import Derived.LoopN
import Derived.Test.YtejcabdejoameaaRows
import Derived.ProofKit
import Derived.OpenShut
import Derived.Test.YtejcabdejoameaaBb3
/- The reader's texts. -/
set_option linter.unusedSimpArgs false
namespace Go.Proofs.Ytejcabdejoameaa.AI
open Go

/-- The bytes that n times eight bits make. -/
def readL (s : ByteArray) (a n : Nat) : List Nat := (List.range n).map fun i => valOf s (a + 8 * i) 8
def RS.text (r : RS) (most : Int) : ByteArray × RS :=
  let x := r.field (lim most) (wd most)
  if x.2.err ≠ 0 then (⟨#[]⟩, x.2) else if most < (x.1 : Int) then (⟨#[]⟩, { x.2 with err := 2 }) else if x.2.left < 8 * (x.1 : Int) then (⟨#[]⟩, { x.2 with err := 9 })
  else (strOf (readL x.2.s x.2.at_ x.1), { x.2 with at_ := x.2.at_ + 8 * x.1 })

theorem readL_length (s : ByteArray) (a n : Nat) : (readL s a n).length = n := by simp [readL]
theorem readL_succ (s : ByteArray) (a n : Nat) : readL s a (n + 1) = readL s a n ++ [valOf s (a + 8 * n) 8] := by simp [readL, List.range_succ]
theorem readL_small (s : ByteArray) (a n : Nat) : ∀ x ∈ readL s a n, x < 256 := by
  intro x hx
  simp only [readL, List.mem_map] at hx
  obtain ⟨i, _, rfl⟩ := hx
  exact valOf_lt s _ 8

/-- What is read so far, and zeros. -/
def partL (s : ByteArray) (a i n : Nat) : List Nat := readL s a i ++ List.replicate (n - i) 0
theorem partL_length {s : ByteArray} {a i n : Nat} (h : i ≤ n) : (partL s a i n).length = n := by simp [partL, readL_length]; omega
theorem partL_zero (s : ByteArray) (a n : Nat) : partL s a 0 n = List.replicate n 0 := by simp [partL, readL]
theorem partL_all (s : ByteArray) (a n : Nat) : partL s a n n = readL s a n := by simp [partL]
theorem partL_set {s : ByteArray} {a i n : Nat} (h : i < n) : (partL s a i n).set i (valOf s (a + 8 * i) 8) = partL s a (i + 1) n := by
  unfold partL
  rw [List.set_append_right _ _ (by rw [readL_length]; exact Nat.le_refl _), readL_length, Nat.sub_self, readL_succ]
  obtain ⟨k, hk⟩ : ∃ k, n - i = k + 1 := ⟨n - i - 1, by omega⟩
  rw [hk, show n - (i + 1) = k by omega, List.replicate_succ, zaj]
  simp

theorem flat_zeros (n : Nat) : (List.replicate n [Value.int .u8 0]).flatten = u8s (List.replicate n 0) := by
  induction n with
  | zero => rfl
  | succ n ih => rw [List.replicate_succ, List.flatten_cons, ih]; rfl

section
variable {H : Heap} {p : Nat} {r r' : RS} {x y : Option Blk}
theorem gh_get : hget (setR H p r ++ [x]) H.length = x := by rw [hget_app]; simp [setR_length]
theorem gh_st (hp : p < H.length) : RSt (setR H p r ++ [x]) p r := by
  unfold RSt; rw [hget_append_lt (by simpa [setR_length] using hp)]; exact setR_st hp r
theorem gh_set : (setR H p r ++ [x]).set H.length y = setR H p r ++ [y] := by
  rw [List.set_append_right _ _ (by simp [setR_length])]; simp [setR_length]
theorem gh_setR (hp : p < H.length) : setR (setR H p r ++ [x]) p r' = setR H p r' ++ [x] := by
  unfold setR
  rw [List.set_append_left _ _ (by simpa using hp), List.set_set]
end

theorem rtext_spec {H : Heap} {p : Nat} {r : RS} {most : Int} (h : RSt H p r) (ho : r.Ok) (hm : Is64 most) {K : Value → Heap → Prop}
    (hk : ∀ H', RSt H' p (r.text most).2 → Frm [p] H H' → K (.string (r.text most).1) H') : Op1 (AC tbl 42 [.pointer (some ⟨p, 0, none⟩), .int .i64 most] H) K := by
  apply AC_wp (F := F42) rfl (by simp [F42]) (.inl rfl)
  have hwd := wd_le (n := most) hm.2
  have hpl := h.lt
  have hsm := @field_small r (lim most) (wd most) (fun _ => by omega)
  have hsp := @rfield_spec H p r (lim most) (wd most) h ho (fun _ => by omega)
  have he0 := @field_err0 r (lim most) (wd most)
  have hok := RS.field_ok ho (right := lim most) (w := (wd most : Int)) (fun _ => by omega)
  unfold RS.text at hk
  generalize hx : r.field (lim most) (wd most) = x at *
  obtain ⟨n, r'⟩ := x
  simp only at hsm hsp he0 hk hok
  have hwr : IntKind.i64.wrap (n : Int) = (n : Int) := wrap_i64 (by omega) (by omega)
  have hst := setR_st hpl r'
  have hc := cells_get hst
  by_cases h1 : r'.err = 0
  · obtain ⟨hr, hr0, hf, hl⟩ := he0 h1
    have hlm : 1 ≤ most ∧ most ≤ 4095 := by simpa [lim] using hr
    by_cases h2 : most < (n : Int)
    · simp only [F42, ↓yaa, ↓yab, ↓yac, ↓yad, ↓yae, ↓yaf, ↓yag, ↓yah, ↓yai, ↓yaj, ↓yak, ↓yal, ↓yam, ↓yan, ↓yao, ↓yap, ↓yaq, ↓yar, ↓yas, ↓yat, ↓yau, ↓yav, ↓yaw, ↓yax, yay, yaz, yba, ybb, ybc, ybd, ybe, ybf, ybg, ybh, ybi, ybj, ybk, ybl, ybm, ybn, ybo, ybp, ybq, ybr, ybs, ybt, ybu, ybv, ares, tup, ybw, ybx, yby, argsE, dval, aop, ev, evs, evo, evp, fillL, addrOf, intOf?, ybz, yca, ycb, ycc, ycd, yce, ycf, zah, zag, reduceIte, Nat.reduceEqDiff, ycg, ych, yci, ycj, yck, ycl, ycm, ycn, yco, ycp, ycq, ycr, zap, zao, reduceCtorEq, zbb, zbc, zba, zaz, Nat.reduceAdd, Nat.reduceMul, zaq, zar, eqPtr, zae, zaf, zab, zaa, zac, zad , hload, hstore, zal, zam, Nat.reduceAdd, Nat.reduceLeDiff, zbb, zas, zat, one, zau, zaw, zav, splice, zaj, zak, zab, zaa, ycs, yct, ycu, ycv, ycw, ycx, ycy, ycz, zan, zai, zax, zay, and_self, true_and, and_true, lenV, yda, Nat.le_refl, if_true , limit, width most hm.2, hsp, hwr, hc, h1, ne_eq, not_true_eq_false, h2, fail_spec hst]
      rw [if_neg (by simp [h1]), if_pos h2] at hk
      have := hk (setR (setR H p r') p (r'.fail 2)) ?_ ?_
      · exact this
      · rw [setR_setR]; simp only [RS.fail, h1, if_true]; exact setR_st hpl _
      · rw [setR_setR]; exact setR_frm _ _ _
    · have hleft := left_spec hst hok
      have w1 : IntKind.i64.wrap (8 * (n : Int)) = 8 * (n : Int) := wrap_i64 (by omega) (by omega)
      by_cases h3 : r'.left < 8 * (n : Int)
      · simp only [F42, ↓yaa, ↓yab, ↓yac, ↓yad, ↓yae, ↓yaf, ↓yag, ↓yah, ↓yai, ↓yaj, ↓yak, ↓yal, ↓yam, ↓yan, ↓yao, ↓yap, ↓yaq, ↓yar, ↓yas, ↓yat, ↓yau, ↓yav, ↓yaw, ↓yax, yay, yaz, yba, ybb, ybc, ybd, ybe, ybf, ybg, ybh, ybi, ybj, ybk, ybl, ybm, ybn, ybo, ybp, ybq, ybr, ybs, ybt, ybu, ybv, ares, tup, ybw, ybx, yby, argsE, dval, aop, ev, evs, evo, evp, fillL, addrOf, intOf?, ybz, yca, ycb, ycc, ycd, yce, ycf, zah, zag, reduceIte, Nat.reduceEqDiff, ycg, ych, yci, ycj, yck, ycl, ycm, ycn, yco, ycp, ycq, ycr, zap, zao, reduceCtorEq, zbb, zbc, zba, zaz, Nat.reduceAdd, Nat.reduceMul, zaq, zar, eqPtr, zae, zaf, zab, zaa, zac, zad , hload, hstore, zal, zam, Nat.reduceAdd, Nat.reduceLeDiff, zbb, zas, zat, one, zau, zaw, zav, splice, zaj, zak, zab, zaa, ycs, yct, ycu, ycv, ycw, ycx, ycy, ycz, zan, zai, zax, zay, and_self, true_and, and_true, lenV, yda, Nat.le_refl, if_true , limit, width most hm.2, hsp, hwr, hc, h1, ne_eq, not_true_eq_false, h2, w1, hleft, h3, fail_spec hst]
        rw [if_neg (by simp [h1]), if_neg h2, if_pos h3] at hk
        have := hk (setR (setR H p r') p (r'.fail 9)) ?_ ?_
        · exact this
        · rw [setR_setR]; simp only [RS.fail, h1, if_true]; exact setR_st hpl _
        · rw [setR_setR]; exact setR_frm _ _ _
      · rw [if_neg (by simp [h1]), if_neg h2, if_neg h3] at hk
        have hn : n ≤ 4095 := by omega
        have hroom : r'.at_ + 8 * n ≤ 8 * r'.s.size := by
          simp only [RS.left, if_pos h1] at h3; omega
        have hmk : (0 : Int) ≤ (n : Int) ∧ (n : Int) ≤ (n : Int) ∧ (n : Int) ≤ 1000000000 ∧ (1 : Nat) ≤ 1000 := by omega
        have hsize := hok.size
        simp only [F42, ↓yaa, ↓yab, ↓yac, ↓yad, ↓yae, ↓yaf, ↓yag, ↓yah, ↓yai, ↓yaj, ↓yak, ↓yal, ↓yam, ↓yan, ↓yao, ↓yap, ↓yaq, ↓yar, ↓yas, ↓yat, ↓yau, ↓yav, ↓yaw, ↓yax, yay, yaz, yba, ybb, ybc, ybd, ybe, ybf, ybg, ybh, ybi, ybj, ybk, ybl, ybm, ybn, ybo, ybp, ybq, ybr, ybs, ybt, ybu, ybv, ares, tup, ybw, ybx, yby, argsE, dval, aop, ev, evs, evo, evp, fillL, addrOf, intOf?, ybz, yca, ycb, ycc, ycd, yce, ycf, zah, zag, reduceIte, Nat.reduceEqDiff, ycg, ych, yci, ycj, yck, ycl, ycm, ycn, yco, ycp, ycq, ycr, zap, zao, reduceCtorEq, zbb, zbc, zba, zaz, Nat.reduceAdd, Nat.reduceMul, zaq, zar, eqPtr, zae, zaf, zab, zaa, zac, zad , hload, hstore, zal, zam, Nat.reduceAdd, Nat.reduceLeDiff, zbb, zas, zat, one, zau, zaw, zav, splice, zaj, zak, zab, zaa, ycs, yct, ycu, ycv, ycw, ycx, ycy, ycz, zan, zai, zax, zay, and_self, true_and, and_true, lenV, yda, Nat.le_refl, if_true , limit, width most hm.2, hsp, hwr, hc, h1, ne_eq, not_true_eq_false, h2, w1, hleft, h3, hmk, Int.toNat_natCast, flat_zeros, setR_length]
        apply AW_loop_inv (fun j e H1 => j ≤ n ∧ e = [(6, .func (.func 48) #[.pointer (some ⟨p, 0, none⟩)] #[]), (7, .slice (some ⟨H.length, 0, none⟩) n 1), (41, .int .i64 (n : Int)), (42, .int .i64 ((n - j : Nat) : Int))] ∧
          H1 = setR H p { r' with at_ := r'.at_ + 8 * (n - j) } ++ [some ⟨true, u8s (partL r'.s r'.at_ (n - j) n)⟩]) _ n
        · refine ⟨Nat.le_refl _, by rw [Nat.sub_self]; rfl, ?_⟩
          rw [Nat.sub_self, partL_zero]; rfl
        · rintro j e H1 ⟨hj, rfl, rfl⟩
          cases j with
          | zero =>
            have g0 : ¬ (n : Int) < (n : Int) := by omega
            simp only [Nat.sub_zero, partL_all]
            by_cases hn0 : n = 0
            · subst hn0
              simp only [↓yaa, ↓yab, ↓yac, ↓yad, ↓yae, ↓yaf, ↓yag, ↓yah, ↓yai, ↓yaj, ↓yak, ↓yal, ↓yam, ↓yan, ↓yao, ↓yap, ↓yaq, ↓yar, ↓yas, ↓yat, ↓yau, ↓yav, ↓yaw, ↓yax, yay, yaz, yba, ybb, ybc, ybd, ybe, ybf, ybg, ybh, ybi, ybj, ybk, ybl, ybm, ybn, ybo, ybp, ybq, ybr, ybs, ybt, ybu, ybv, ares, tup, ybw, ybx, yby, argsE, dval, aop, ev, evs, evo, evp, fillL, addrOf, intOf?, ybz, yca, ycb, ycc, ycd, yce, ycf, zah, zag, reduceIte, Nat.reduceEqDiff, ycg, ych, yci, ycj, yck, ycl, ycm, ycn, yco, ycp, ycq, ycr, zap, zao, reduceCtorEq, zbb, zbc, zba, zaz, Nat.reduceAdd, Nat.reduceMul, zaq, zar, eqPtr, zae, zaf, zab, zaa, zac, zad , hload, hstore, zal, zam, Nat.reduceAdd, Nat.reduceLeDiff, zbb, zas, zat, one, zau, zaw, zav, splice, zaj, zak, zab, zaa, ycs, yct, ycu, ycv, ycw, ycx, ycy, ycz, zan, zai, zax, zay, and_self, true_and, and_true, lenV, yda, Nat.le_refl, if_true , g0, bytesOf?]
              exact hk _ (gh_st hpl) ((setR_frm _ _ _).push _)
            · have hl1 : 0 + n * 1 ≤ (u8s (readL r'.s r'.at_ n)).length := by rw [u8s_length, readL_length]; omega
              have ht : List.take (n * 1) (List.drop 0 (u8s (readL r'.s r'.at_ n))) = u8s (readL r'.s r'.at_ n) := by
                rw [List.drop_zero, Nat.mul_one]
                exact List.take_of_length_le (by rw [u8s_length, readL_length]; exact Nat.le_refl _)
              rw [zaz] at hl1
              simp only [↓yaa, ↓yab, ↓yac, ↓yad, ↓yae, ↓yaf, ↓yag, ↓yah, ↓yai, ↓yaj, ↓yak, ↓yal, ↓yam, ↓yan, ↓yao, ↓yap, ↓yaq, ↓yar, ↓yas, ↓yat, ↓yau, ↓yav, ↓yaw, ↓yax, yay, yaz, yba, ybb, ybc, ybd, ybe, ybf, ybg, ybh, ybi, ybj, ybk, ybl, ybm, ybn, ybo, ybp, ybq, ybr, ybs, ybt, ybu, ybv, ares, tup, ybw, ybx, yby, argsE, dval, aop, ev, evs, evo, evp, fillL, addrOf, intOf?, ybz, yca, ycb, ycc, ycd, yce, ycf, zah, zag, reduceIte, Nat.reduceEqDiff, ycg, ych, yci, ycj, yck, ycl, ycm, ycn, yco, ycp, ycq, ycr, zap, zao, reduceCtorEq, zbb, zbc, zba, zaz, Nat.reduceAdd, Nat.reduceMul, zaq, zar, eqPtr, zae, zaf, zab, zaa, zac, zad , hload, hstore, zal, zam, Nat.reduceAdd, Nat.reduceLeDiff, zbb, zas, zat, one, zau, zaw, zav, splice, zaj, zak, zab, zaa, ycs, yct, ycu, ycv, ycw, ycx, ycy, ycz, zan, zai, zax, zay, and_self, true_and, and_true, lenV, yda, Nat.le_refl, if_true , g0, hn0, gh_get, hl1, ht, bytes_u8s _ (readL_small _ _ _)]
              exact hk _ (gh_st hpl) ((setR_frm _ _ _).push _)
          | succ j =>
            have g0 : ((n - (j + 1) : Nat) : Int) < (n : Int) := by omega
            have hi : n - (j + 1) < n := by omega
            have g1 : (0 : Int) ≤ ((n - (j + 1) : Nat) : Int) ∧ ((n - (j + 1) : Nat) : Int) < (n : Int) := by omega
            have g2 : IntKind.i64.wrap (((n - (j + 1) : Nat) : Int) + 1) = ((n - j : Nat) : Int) := by rw [wrap_i64 (by omega) (by omega)]; omega
            have hget8 := @get_spec (setR H p { r' with at_ := r'.at_ + 8 * (n - (j + 1)) } ++ [some ⟨true, u8s (partL r'.s r'.at_ (n - (j + 1)) n)⟩]) p { r' with at_ := r'.at_ + 8 * (n - (j + 1)) } 8 (gh_st hpl) (by omega) (by simp only; omega) (by simp only; omega)
            rw [gh_setR hpl] at hget8
            simp only [show ((8 : Nat) : Int) = 8 from rfl] at hget8
            have hval := valOf_lt r'.s (r'.at_ + 8 * (n - (j + 1))) 8
            have hg3 : n - (j + 1) + 1 ≤ (u8s (partL r'.s r'.at_ (n - (j + 1)) n)).length := by rw [u8s_length, partL_length (by omega)]; omega
            have happ : ∀ v : Value, #[v].toList ++ [Value.int IntKind.i64 8] ++ #[].toList = [v, Value.int IntKind.i64 8] := fun _ => rfl
            simp only [↓yaa, ↓yab, ↓yac, ↓yad, ↓yae, ↓yaf, ↓yag, ↓yah, ↓yai, ↓yaj, ↓yak, ↓yal, ↓yam, ↓yan, ↓yao, ↓yap, ↓yaq, ↓yar, ↓yas, ↓yat, ↓yau, ↓yav, ↓yaw, ↓yax, yay, yaz, yba, ybb, ybc, ybd, ybe, ybf, ybg, ybh, ybi, ybj, ybk, ybl, ybm, ybn, ybo, ybp, ybq, ybr, ybs, ybt, ybu, ybv, ares, tup, ybw, ybx, yby, argsE, dval, aop, ev, evs, evo, evp, fillL, addrOf, intOf?, ybz, yca, ycb, ycc, ycd, yce, ycf, zah, zag, reduceIte, Nat.reduceEqDiff, ycg, ych, yci, ycj, yck, ycl, ycm, ycn, yco, ycp, ycq, ycr, zap, zao, reduceCtorEq, zbb, zbc, zba, zaz, Nat.reduceAdd, Nat.reduceMul, zaq, zar, eqPtr, zae, zaf, zab, zaa, zac, zad , hload, hstore, zal, zam, Nat.reduceAdd, Nat.reduceLeDiff, zbb, zas, zat, one, zau, zaw, zav, splice, zaj, zak, zab, zaa, ycs, yct, ycu, ycv, ycw, ycx, ycy, ycz, zan, zai, zax, zay, and_self, true_and, and_true, lenV, yda, Nat.le_refl, if_true , g0, happ, hget8, wrap_small _ hval, g1, Int.toNat_natCast, Nat.mul_one, gh_get, hg3, u8s_set, partL_set hi, gh_set, g2]
            refine ⟨j, by omega, by omega, rfl, ?_⟩
            rw [show n - j = n - (j + 1) + 1 by omega, show r'.at_ + 8 * (n - (j + 1)) + 8 = r'.at_ + 8 * (n - (j + 1) + 1) by omega]
  · simp only [F42, ↓yaa, ↓yab, ↓yac, ↓yad, ↓yae, ↓yaf, ↓yag, ↓yah, ↓yai, ↓yaj, ↓yak, ↓yal, ↓yam, ↓yan, ↓yao, ↓yap, ↓yaq, ↓yar, ↓yas, ↓yat, ↓yau, ↓yav, ↓yaw, ↓yax, yay, yaz, yba, ybb, ybc, ybd, ybe, ybf, ybg, ybh, ybi, ybj, ybk, ybl, ybm, ybn, ybo, ybp, ybq, ybr, ybs, ybt, ybu, ybv, ares, tup, ybw, ybx, yby, argsE, dval, aop, ev, evs, evo, evp, fillL, addrOf, intOf?, ybz, yca, ycb, ycc, ycd, yce, ycf, zah, zag, reduceIte, Nat.reduceEqDiff, ycg, ych, yci, ycj, yck, ycl, ycm, ycn, yco, ycp, ycq, ycr, zap, zao, reduceCtorEq, zbb, zbc, zba, zaz, Nat.reduceAdd, Nat.reduceMul, zaq, zar, eqPtr, zae, zaf, zab, zaa, zac, zad , hload, hstore, zal, zam, Nat.reduceAdd, Nat.reduceLeDiff, zbb, zas, zat, one, zau, zaw, zav, splice, zaj, zak, zab, zaa, ycs, yct, ycu, ycv, ycw, ycx, ycy, ycz, zan, zai, zax, zay, and_self, true_and, and_true, lenV, yda, Nat.le_refl, if_true , limit, width most hm.2, hsp, hwr, hc, h1, ne_eq, not_false_eq_true]
    rw [if_pos (by simpa using h1)] at hk
    exact hk _ hst (setR_frm _ _ _)

end Go.Proofs.Ytejcabdejoameaa.AI

/- The reader's end. -/
set_option linter.unusedSimpArgs false
namespace Go.Proofs.Ytejcabdejoameaa.AI
open Go

def RS.close (r : RS) : Int := if r.err ≠ 0 then r.err else if 8 ≤ r.left then 10 else if valOf r.s r.at_ r.left.toNat ≠ 0 then 10 else 0

theorem vc_ptr' (a : Option Addr) : (Value.pointer a).cells.toList = [.pointer a] := rfl
theorem ydz {H : Heap} {x y : Option Blk} : (H ++ [x]).set H.length y = H ++ [y] := by rw [List.set_append_right _ _ (Nat.le_refl _)]; simp
theorem ydt (cs : Array Value) : (Value.agg cs).cells = cs := rfl

theorem ones_spec {H : Heap} {b p : Nat} {r : RS} (hb : hget H b = some ⟨true, [.pointer (some ⟨p, 0, none⟩)]⟩) (h : RSt H p r) (ho : r.Ok) (he : r.err = 0) (hl : ¬ 8 ≤ r.left) {K : Value → Heap → Prop}
    (hk : ∀ H', Frm [] H H' → K (.bool (decide (valOf r.s r.at_ r.left.toNat ≠ 0))) H') : Op1 (AC tbl 47 [.pointer (some ⟨b, 0, none⟩)] H) K := by
  apply AC_wp (F := F47) rfl (by simp [F47]) (.inl rfl)
  have hc := cells_get h
  have hbl := hget_lt hb
  have hpl := h.lt
  have h1 := ho.at_le
  have h2 := ho.size
  have hleft : r.left = ((8 * r.s.size - r.at_ : Nat) : Int) := by unfold RS.left; rw [if_pos he]; omega
  have hst : RSt (H ++ [some ⟨true, r.cells⟩]) H.length r := by unfold RSt; exact ydu
  have hstp : RSt (H ++ [some ⟨true, r.cells⟩]) p r := by unfold RSt; rw [hget_append_lt hpl]; exact h
  have hsp := left_spec hstp ho
  rw [hleft] at hl hk hsp
  simp only [Int.toNat_natCast] at hk
  have hg := get_spec (w := 8 * r.s.size - r.at_) hst (by omega) (by omega) (by omega)
  have hcell : r.cells = [.string r.s, .int .i64 (r.at_ : Int), .int .i64 r.err] := rfl
  rw [hcell] at hsp hg
  have e3 : ∀ a b c : Value, List.take 3 (List.drop 0 [a, b, c]) = [a, b, c] := fun _ _ _ => rfl
  have e4 : ∀ a b c : Value, (#[a, b, c] : Array Value).size = 3 := fun _ _ _ => rfl
  have hbit : (decide (¬ (((valOf r.s r.at_ (8 * r.s.size - r.at_) : Nat) : Int) = 0))) = decide (valOf r.s r.at_ (8 * r.s.size - r.at_) ≠ 0) := by simp only [decide_eq_decide]; omega
  simp only [F47, ↓yaa, ↓yab, ↓yac, ↓yad, ↓yae, ↓yaf, ↓yag, ↓yah, ↓yai, ↓yaj, ↓yak, ↓yal, ↓yam, ↓yan, ↓yao, ↓yap, ↓yaq, ↓yar, ↓yas, ↓yat, ↓yau, ↓yav, ↓yaw, ↓yax, yay, yaz, yba, ybb, ybc, ybd, ybe, ybf, ybg, ybh, ybi, ybj, ybk, ybl, ybm, ybn, ybo, ybp, ybq, ybr, ybs, ybt, ybu, ybv, ares, tup, ybw, ybx, yby, argsE, dval, aop, ev, evs, evo, evp, fillL, addrOf, intOf?, ybz, yca, ycb, ycc, ycd, yce, ycf, zah, zag, reduceIte, Nat.reduceEqDiff, ycg, ych, yci, ycj, yck, ycl, ycm, ycn, yco, ycp, ycq, ycr, zap, zao, reduceCtorEq, zbb, zbc, zba, zaz, Nat.reduceAdd, Nat.reduceMul, zaq, zar, eqPtr, zae, zaf, zab, zaa, zac, zad , hload, hstore, zal, zam, Nat.reduceAdd, Nat.reduceLeDiff, zbb, zas, zat, one, zau, zaw, zav, splice, zaj, zak, zab, zaa, ycs, yct, ycu, ycv, ycw, ycx, ycy, ycz, zan, zai, zax, zay, and_self, true_and, and_true, lenV, yda, Nat.le_refl, if_true , hb, hc, e3, ydt, e4, ydu, ydz, yem, hbl, hsp, hg, ne_eq, hbit]
  exact hk _ (((Frm.refl [] H).push _).set (i := H.length) _ (.inr (Nat.le_refl _)))

theorem close_spec {H : Heap} {p : Nat} {r : RS} (h : RSt H p r) (ho : r.Ok) {K : Value → Heap → Prop} (hk : ∀ H', Frm [] H H' → K (.int .i64 r.close) H') : Op1 (AC tbl 23 [.pointer (some ⟨p, 0, none⟩)] H) K := by
  apply AC_wp (F := F23) rfl (by simp [F23]) (.inl rfl)
  have hpl := h.lt
  have hstp : RSt (H ++ [some ⟨true, [.pointer (some ⟨p, 0, none⟩)]⟩]) p r := by unfold RSt; rw [hget_append_lt hpl]; exact h
  have hc := cells_get hstp
  have hsp := left_spec hstp ho
  by_cases h1 : r.err = 0
  · by_cases h2 : 8 ≤ r.left
    · simp only [F23, ↓yaa, ↓yab, ↓yac, ↓yad, ↓yae, ↓yaf, ↓yag, ↓yah, ↓yai, ↓yaj, ↓yak, ↓yal, ↓yam, ↓yan, ↓yao, ↓yap, ↓yaq, ↓yar, ↓yas, ↓yat, ↓yau, ↓yav, ↓yaw, ↓yax, yay, yaz, yba, ybb, ybc, ybd, ybe, ybf, ybg, ybh, ybi, ybj, ybk, ybl, ybm, ybn, ybo, ybp, ybq, ybr, ybs, ybt, ybu, ybv, ares, tup, ybw, ybx, yby, argsE, dval, aop, ev, evs, evo, evp, fillL, addrOf, intOf?, ybz, yca, ycb, ycc, ycd, yce, ycf, zah, zag, reduceIte, Nat.reduceEqDiff, ycg, ych, yci, ycj, yck, ycl, ycm, ycn, yco, ycp, ycq, ycr, zap, zao, reduceCtorEq, zbb, zbc, zba, zaz, Nat.reduceAdd, Nat.reduceMul, zaq, zar, eqPtr, zae, zaf, zab, zaa, zac, zad , hload, hstore, zal, zam, Nat.reduceAdd, Nat.reduceLeDiff, zbb, zas, zat, one, zau, zaw, zav, splice, zaj, zak, zab, zaa, ycs, yct, ycu, ycv, ycw, ycx, ycy, ycz, zan, zai, zax, zay, and_self, true_and, and_true, lenV, yda, Nat.le_refl, if_true , vc_ptr', ydu, hc, h1, ne_eq, not_true_eq_false, hsp, h2]
      have : r.close = 10 := by simp [RS.close, h1, h2]
      rw [← this]
      exact hk _ ((Frm.refl _ _).push _)
    · have happ : ∀ v : Value, (#[] : Array Value).toList ++ ([] : List Value) ++ #[v].toList = [v] := fun _ => rfl
      simp only [F23, ↓yaa, ↓yab, ↓yac, ↓yad, ↓yae, ↓yaf, ↓yag, ↓yah, ↓yai, ↓yaj, ↓yak, ↓yal, ↓yam, ↓yan, ↓yao, ↓yap, ↓yaq, ↓yar, ↓yas, ↓yat, ↓yau, ↓yav, ↓yaw, ↓yax, yay, yaz, yba, ybb, ybc, ybd, ybe, ybf, ybg, ybh, ybi, ybj, ybk, ybl, ybm, ybn, ybo, ybp, ybq, ybr, ybs, ybt, ybu, ybv, ares, tup, ybw, ybx, yby, argsE, dval, aop, ev, evs, evo, evp, fillL, addrOf, intOf?, ybz, yca, ycb, ycc, ycd, yce, ycf, zah, zag, reduceIte, Nat.reduceEqDiff, ycg, ych, yci, ycj, yck, ycl, ycm, ycn, yco, ycp, ycq, ycr, zap, zao, reduceCtorEq, zbb, zbc, zba, zaz, Nat.reduceAdd, Nat.reduceMul, zaq, zar, eqPtr, zae, zaf, zab, zaa, zac, zad , hload, hstore, zal, zam, Nat.reduceAdd, Nat.reduceLeDiff, zbb, zas, zat, one, zau, zaw, zav, splice, zaj, zak, zab, zaa, ycs, yct, ycu, ycv, ycw, ycx, ycy, ycz, zan, zai, zax, zay, and_self, true_and, and_true, lenV, yda, Nat.le_refl, if_true , vc_ptr', ydu, hc, h1, ne_eq, not_true_eq_false, hsp, h2, happ]
      refine ones_spec ydu hstp ho h1 h2 fun H1 hf => ?_
      by_cases h3 : valOf r.s r.at_ r.left.toNat = 0
      · have : r.close = 0 := by simp only [RS.close, h1, h2, h3]; simp
        simp only [↓yaa, ↓yab, ↓yac, ↓yad, ↓yae, ↓yaf, ↓yag, ↓yah, ↓yai, ↓yaj, ↓yak, ↓yal, ↓yam, ↓yan, ↓yao, ↓yap, ↓yaq, ↓yar, ↓yas, ↓yat, ↓yau, ↓yav, ↓yaw, ↓yax, yay, yaz, yba, ybb, ybc, ybd, ybe, ybf, ybg, ybh, ybi, ybj, ybk, ybl, ybm, ybn, ybo, ybp, ybq, ybr, ybs, ybt, ybu, ybv, ares, tup, ybw, ybx, yby, argsE, dval, aop, ev, evs, evo, evp, fillL, addrOf, intOf?, ybz, yca, ycb, ycc, ycd, yce, ycf, zah, zag, reduceIte, Nat.reduceEqDiff, ycg, ych, yci, ycj, yck, ycl, ycm, ycn, yco, ycp, ycq, ycr, zap, zao, reduceCtorEq, zbb, zbc, zba, zaz, Nat.reduceAdd, Nat.reduceMul, zaq, zar, eqPtr, zae, zaf, zab, zaa, zac, zad , h3, ne_eq, not_true_eq_false]
        rw [← this]
        exact hk _ (((Frm.refl _ _).push _).trans hf (by simp))
      · have : r.close = 10 := by simp [RS.close, h1, h2, h3]
        simp only [↓yaa, ↓yab, ↓yac, ↓yad, ↓yae, ↓yaf, ↓yag, ↓yah, ↓yai, ↓yaj, ↓yak, ↓yal, ↓yam, ↓yan, ↓yao, ↓yap, ↓yaq, ↓yar, ↓yas, ↓yat, ↓yau, ↓yav, ↓yaw, ↓yax, yay, yaz, yba, ybb, ybc, ybd, ybe, ybf, ybg, ybh, ybi, ybj, ybk, ybl, ybm, ybn, ybo, ybp, ybq, ybr, ybs, ybt, ybu, ybv, ares, tup, ybw, ybx, yby, argsE, dval, aop, ev, evs, evo, evp, fillL, addrOf, intOf?, ybz, yca, ycb, ycc, ycd, yce, ycf, zah, zag, reduceIte, Nat.reduceEqDiff, ycg, ych, yci, ycj, yck, ycl, ycm, ycn, yco, ycp, ycq, ycr, zap, zao, reduceCtorEq, zbb, zbc, zba, zaz, Nat.reduceAdd, Nat.reduceMul, zaq, zar, eqPtr, zae, zaf, zab, zaa, zac, zad , h3, ne_eq, not_false_eq_true]
        rw [← this]
        exact hk _ (((Frm.refl _ _).push _).trans hf (by simp))
  · simp only [F23, ↓yaa, ↓yab, ↓yac, ↓yad, ↓yae, ↓yaf, ↓yag, ↓yah, ↓yai, ↓yaj, ↓yak, ↓yal, ↓yam, ↓yan, ↓yao, ↓yap, ↓yaq, ↓yar, ↓yas, ↓yat, ↓yau, ↓yav, ↓yaw, ↓yax, yay, yaz, yba, ybb, ybc, ybd, ybe, ybf, ybg, ybh, ybi, ybj, ybk, ybl, ybm, ybn, ybo, ybp, ybq, ybr, ybs, ybt, ybu, ybv, ares, tup, ybw, ybx, yby, argsE, dval, aop, ev, evs, evo, evp, fillL, addrOf, intOf?, ybz, yca, ycb, ycc, ycd, yce, ycf, zah, zag, reduceIte, Nat.reduceEqDiff, ycg, ych, yci, ycj, yck, ycl, ycm, ycn, yco, ycp, ycq, ycr, zap, zao, reduceCtorEq, zbb, zbc, zba, zaz, Nat.reduceAdd, Nat.reduceMul, zaq, zar, eqPtr, zae, zaf, zab, zaa, zac, zad , hload, hstore, zal, zam, Nat.reduceAdd, Nat.reduceLeDiff, zbb, zas, zat, one, zau, zaw, zav, splice, zaj, zak, zab, zaa, ycs, yct, ycu, ycv, ycw, ycx, ycy, ycz, zan, zai, zax, zay, and_self, true_and, and_true, lenV, yda, Nat.le_refl, if_true , vc_ptr', ydu, hc, h1, ne_eq, not_false_eq_true]
    have : r.close = r.err := by simp [RS.close, h1]
    rw [← this]
    exact hk _ ((Frm.refl _ _).push _)

end Go.Proofs.Ytejcabdejoameaa.AI

/- Guards and choices whose value is not known yet; functions reckoned in a memory of their own; lists of numbers in memory. -/
set_option linter.unusedSimpArgs false
namespace Go.Proofs.Ytejcabdejoameaa.AI
open Go

section
variable {tbl : Nat → Option AFn} {e : Env} {H : Heap} {R : Env → Heap → Prop} {Q : AExit → Env → Heap → Prop} {K : Value → Heap → Prop}

def GuardO (tbl : Nat → Option AFn) (o : Option Value) (b : Bool) (d : Option Nat) (op : AOp) (r : List AOper) (e : Env) (H : Heap) (R : Env → Heap → Prop) : Prop := match o with
  | some (.bool c) => if c = b then AO tbl (⟨d, none, op⟩ :: r) e H R else AO tbl r (putE e d undef) H R
  | some _ => AO tbl r (putE e d undef) H R
  | none => False
theorem ydb {d : Option Nat} {t : Nat} {b : Bool} {op : AOp} {r : List AOper} : AO tbl (⟨d, some (t, b), op⟩ :: r) e H R = GuardO tbl (lk e t) b d op r e H R := by
  unfold GuardO
  split
  · rename_i c hc
    exact AO_guard hc
  · rename_i v hv hne
    unfold AO
    have : want ⟨d, some (t, b), op⟩ e = some false := by
      simp only [want, hne]
    simp only [aops, step, this, zag]
  · rename_i hn
    unfold AO
    simp [aops, step, want, hn]
theorem ydc {d : Option Nat} {op : AOp} {r : List AOper} : GuardO tbl (some (.bool true)) true d op r e H R = Op1 (dval (AC tbl) op e H) (COps tbl d r e R) := by simp only [GuardO, if_true]; exact AO_op
theorem ydd {d : Option Nat} {op : AOp} {r : List AOper} : GuardO tbl (some (.bool false)) false d op r e H R = Op1 (dval (AC tbl) op e H) (COps tbl d r e R) := by simp only [GuardO, if_true]; exact AO_op
theorem yde {d : Option Nat} {op : AOp} {r : List AOper} : GuardO tbl (some (.bool true)) false d op r e H R = AO tbl r (putE e d undef) H R := by simp [GuardO]
theorem ydf {d : Option Nat} {op : AOp} {r : List AOper} : GuardO tbl (some (.bool false)) true d op r e H R = AO tbl r (putE e d undef) H R := by simp [GuardO]
theorem ydg {d : Option Nat} {b : Bool} {op : AOp} {r : List AOper} : GuardO tbl (some undef) b d op r e H R = AO tbl r (putE e d undef) H R := by simp [GuardO, undef]
theorem yej {p : Prop} {hp : Decidable p} {b : Bool} {d : Option Nat} {op : AOp} {r : List AOper} (h1 : p → GuardO tbl (some (.bool true)) b d op r e H R) (h2 : ¬ p → GuardO tbl (some (.bool false)) b d op r e H R) :
    GuardO tbl (some (.bool (@decide p hp))) b d op r e H R := by
  by_cases h : p
  · rw [decide_eq_true h]; exact h1 h
  · rw [decide_eq_false h]; exact h2 h
theorem GO_of {x : Bool} {b : Bool} {d : Option Nat} {op : AOp} {r : List AOper} (h1 : x = true → GuardO tbl (some (.bool true)) b d op r e H R) (h2 : x = false → GuardO tbl (some (.bool false)) b d op r e H R) :
    GuardO tbl (some (.bool x)) b d op r e H R := by
  cases x
  · exact h2 rfl
  · exact h1 rfl

def GuardD (tbl : Nat → Option AFn) (o : Option Value) (b : Bool) (d : Option Nat) (op : AOp) (eff : Bool) (back : Nat) (r : List DOper) (hist : List Heap) (e : Env) (H : Heap) (R : Env → Heap → Prop) : Prop := match o with
  | some (.bool c) => if c = b then Op1 (dval (AC tbl) op e H) (CDops tbl d op eff back r hist e H R) else AOD tbl r (if eff then H :: hist else hist) (putE e d undef) H R
  | some _ => AOD tbl r (if eff then H :: hist else hist) (putE e d undef) H R
  | none => False
theorem ydh {d : Option Nat} {t : Nat} {b : Bool} {op : AOp} {eff : Bool} {back : Nat} {r : List DOper} {hist : List Heap} : AOD tbl (⟨⟨d, some (t, b), op⟩, eff, back⟩ :: r) hist e H R = GuardD tbl (lk e t) b d op eff back r hist e H R := by
  unfold GuardD
  split
  · rename_i c hc
    exact AOD_guard hc
  · rename_i v hv hne
    unfold AOD
    have : want ⟨d, some (t, b), op⟩ e = some false := by
      simp only [want, hne]
    simp only [aopsD, step, this, zag, okBack]
    simp
  · rename_i hn
    unfold AOD
    simp [aopsD, step, want, hn]
theorem ydi {d : Option Nat} {op : AOp} {eff : Bool} {back : Nat} {r : List DOper} {hist : List Heap} : GuardD tbl (some (.bool true)) true d op eff back r hist e H R = Op1 (dval (AC tbl) op e H) (CDops tbl d op eff back r hist e H R) := by simp only [GuardD, if_true]
theorem ydj {d : Option Nat} {op : AOp} {eff : Bool} {back : Nat} {r : List DOper} {hist : List Heap} : GuardD tbl (some (.bool false)) false d op eff back r hist e H R = Op1 (dval (AC tbl) op e H) (CDops tbl d op eff back r hist e H R) := by simp only [GuardD, if_true]
theorem ydk {d : Option Nat} {op : AOp} {back : Nat} {r : List DOper} {hist : List Heap} : GuardD tbl (some (.bool true)) false d op false back r hist e H R = AOD tbl r hist (putE e d undef) H R := by simp [GuardD]
theorem ydl {d : Option Nat} {op : AOp} {back : Nat} {r : List DOper} {hist : List Heap} : GuardD tbl (some (.bool false)) true d op false back r hist e H R = AOD tbl r hist (putE e d undef) H R := by simp [GuardD]
theorem ydm {d : Option Nat} {op : AOp} {back : Nat} {r : List DOper} {hist : List Heap} : GuardD tbl (some (.bool true)) false d op true back r hist e H R = AOD tbl r (H :: hist) (putE e d undef) H R := by simp [GuardD]
theorem ydn {d : Option Nat} {op : AOp} {back : Nat} {r : List DOper} {hist : List Heap} : GuardD tbl (some (.bool false)) true d op true back r hist e H R = AOD tbl r (H :: hist) (putE e d undef) H R := by simp [GuardD]
theorem ydo {d : Option Nat} {b : Bool} {op : AOp} {back : Nat} {r : List DOper} {hist : List Heap} : GuardD tbl (some undef) b d op false back r hist e H R = AOD tbl r hist (putE e d undef) H R := by simp [GuardD, undef]
theorem ydp {d : Option Nat} {b : Bool} {op : AOp} {back : Nat} {r : List DOper} {hist : List Heap} : GuardD tbl (some undef) b d op true back r hist e H R = AOD tbl r (H :: hist) (putE e d undef) H R := by simp [GuardD, undef]
theorem yel {p : Prop} {hp : Decidable p} {b : Bool} {d : Option Nat} {op : AOp} {eff : Bool} {back : Nat} {r : List DOper} {hist : List Heap} (h1 : p → GuardD tbl (some (.bool true)) b d op eff back r hist e H R) (h2 : ¬ p → GuardD tbl (some (.bool false)) b d op eff back r hist e H R) :
    GuardD tbl (some (.bool (@decide p hp))) b d op eff back r hist e H R := by
  by_cases h : p
  · rw [decide_eq_true h]; exact h1 h
  · rw [decide_eq_false h]; exact h2 h
theorem GD_of {x : Bool} {b : Bool} {d : Option Nat} {op : AOp} {eff : Bool} {back : Nat} {r : List DOper} {hist : List Heap} (h1 : x = true → GuardD tbl (some (.bool true)) b d op eff back r hist e H R) (h2 : x = false → GuardD tbl (some (.bool false)) b d op eff back r hist e H R) :
    GuardD tbl (some (.bool x)) b d op eff back r hist e H R := by
  cases x
  · exact h2 rfl
  · exact h1 rfl

/-! ### A memory of one's own -/
theorem fin0 {v : Value} (h : idsB 9 0 v = true) : fin true 0 v H = (v, []) := by
  unfold fin
  rw [if_pos]
  · simp
  · simp [h]
theorem ydq {k : IntKind} {n : Int} : fin true 0 (.int k n) H = (.int k n, []) := fin0 rfl
theorem ydr {b : Bool} : fin true 0 (.bool b) H = (.bool b, []) := fin0 rfl
theorem yds {s : ByteArray} : fin true 0 (.string s) H = (.string s, []) := fin0 rfl
end

theorem tlLoop (bs : ByteArray) : ∀ (k i : Nat) (r : List UInt8), bs.size - i = k → ByteArray.toList.loop bs i r = r.reverse ++ bs.data.toList.drop i := by
  intro k
  induction k with
  | zero =>
    intro i r h
    unfold ByteArray.toList.loop
    rw [if_neg (by omega)]
    have : bs.data.toList.length ≤ i := by rw [Array.length_toList]; show bs.size ≤ i; omega
    rw [List.drop_eq_nil_of_le this]; simp
  | succ k ih =>
    intro i r h
    unfold ByteArray.toList.loop
    rw [if_pos (by omega), ih (i + 1) _ (by omega)]
    have hi : i < bs.data.toList.length := by rw [Array.length_toList]; show i < bs.size; omega
    rw [List.drop_eq_getElem_cons hi]
    have : bs.get! i = bs.data.toList[i] := by
      show bs.data[i]! = _
      rw [getElem!_pos bs.data i (by simpa using hi)]
      simp
    rw [this]; simp
theorem toList_data (s : ByteArray) : s.toList = s.data.toList := by
  unfold ByteArray.toList
  rw [tlLoop s _ 0 [] rfl]; simp
theorem toList_eq (a b : ByteArray) : (a.toList == b.toList) = decide (a = b) := by
  rw [toList_data, toList_data]
  cases a with
  | mk d =>
    cases b with
    | mk e =>
      by_cases h : d = e
      · subst h; simp
      · have : ¬ d.toList = e.toList := fun x => h (Array.toList_inj.1 x)
        simp [h, this]
theorem binV_strEq (a b : ByteArray) : binV .eql (.string a) (.string b) = some (.bool (decide (a = b))) := by
  rw [← toList_eq]; rfl
theorem binV_strNe (a b : ByteArray) : binV .neq (.string a) (.string b) = some (.bool (decide (¬ a = b))) := by
  rw [decide_not, ← toList_eq]; rfl
theorem size_zero {s : ByteArray} (h : s.size = 0) : s = ⟨#[]⟩ := by
  cases s with
  | mk d => rw [Array.eq_empty_of_size_eq_zero h]
theorem eq_empty {s : ByteArray} : s = ⟨#[]⟩ ↔ s.size = 0 := ⟨fun h => by rw [h]; rfl, size_zero⟩

section
variable {tbl : Nat → Option AFn} {e : Env} {H : Heap} {R : Env → Heap → Prop} {Q : AExit → Env → Heap → Prop}
theorem yeg {p : Prop} {hp : Decidable (¬ p)} {a b : ACode} (h1 : p → AW tbl b e H Q) (h2 : ¬ p → AW tbl a e H Q) : CondA tbl (some (.bool (@decide (¬ p) hp))) a b e H Q := by
  by_cases h : p
  · rw [decide_eq_false (not_not_intro h)]; exact h1 h
  · rw [decide_eq_true h]; exact h2 h
theorem yei {p : Prop} {hp : Decidable (¬ p)} {b : Bool} {d : Option Nat} {op : AOp} {r : List AOper} (h1 : p → GuardO tbl (some (.bool false)) b d op r e H R) (h2 : ¬ p → GuardO tbl (some (.bool true)) b d op r e H R) :
    GuardO tbl (some (.bool (@decide (¬ p) hp))) b d op r e H R := by
  by_cases h : p
  · rw [decide_eq_false (not_not_intro h)]; exact h1 h
  · rw [decide_eq_true h]; exact h2 h
theorem yek {p : Prop} {hp : Decidable (¬ p)} {b : Bool} {d : Option Nat} {op : AOp} {eff : Bool} {back : Nat} {r : List DOper} {hist : List Heap} (h1 : p → GuardD tbl (some (.bool false)) b d op eff back r hist e H R) (h2 : ¬ p → GuardD tbl (some (.bool true)) b d op eff back r hist e H R) :
    GuardD tbl (some (.bool (@decide (¬ p) hp))) b d op eff back r hist e H R := by
  by_cases h : p
  · rw [decide_eq_false (not_not_intro h)]; exact h1 h
  · rw [decide_eq_true h]; exact h2 h
end

theorem tup2 {v a b : Value} (h : a = b) : Value.tuple #[v, a] = Value.tuple #[v, b] := by rw [h]
theorem Op1_fin0 {v : Value} {H : Heap} {K : Value → Heap → Prop} (h : idsB 9 0 v = true) (hk : K v []) : Op1 (some (fin true 0 v H)) K := by rw [fin0 h, ycf]; exact hk
theorem vb_t {q : Prop} {hq : Decidable q} (h : q) : Value.bool true = Value.bool (@decide q hq) := by rw [decide_eq_true h]
theorem vb_f {q : Prop} {hq : Decidable q} (h : ¬ q) : Value.bool false = Value.bool (@decide q hq) := by rw [decide_eq_false h]
theorem vb_iff {p q : Prop} {hp : Decidable p} {hq : Decidable q} (h : p ↔ q) : Value.bool (@decide p hp) = Value.bool (@decide q hq) := by congr 1; exact decide_eq_decide.2 h
theorem yec {a b : Option Blk} {r : Heap} : hget (a :: b :: r) 1 = b := rfl
theorem yed {a b c : Option Blk} {r : Heap} : hget (a :: b :: c :: r) 2 = c := rfl
theorem yee {a b c d : Option Blk} {r : Heap} : hget (a :: b :: c :: d :: r) 3 = d := rfl
theorem yef {a b c d e : Option Blk} {r : Heap} : hget (a :: b :: c :: d :: e :: r) 4 = e := rfl
theorem yea {b : Option Blk} {r : Heap} : hget (b :: r) 0 = b := rfl
theorem yeb {b : Option Blk} {r : Heap} {n : Nat} : hget (b :: r) (n + 1) = hget r n := rfl
theorem ydv {H : Heap} {a b : Option Blk} : hget (H ++ [a] ++ [b]) (H.length + 1) = b := by rw [hget_app]; simp
theorem ydx {H : Heap} {a b : Option Blk} : hget (H ++ [a] ++ [b]) H.length = a := by rw [hget_append_lt (by simp)]; simp [hget]
theorem ydy {H : Heap} {a b y : Option Blk} : (H ++ [a] ++ [b]).set H.length y = H ++ [y] ++ [b] := by simp
theorem ydw {H : Heap} {a b y : Option Blk} : (H ++ [a] ++ [b]).set (H.length + 1) y = H ++ [a] ++ [y] := by simp

end Go.Proofs.Ytejcabdejoameaa.AI

/- Lists of numbers in memory; hopping lists. -/
set_option linter.unusedSimpArgs false
set_option maxHeartbeats 4000000
namespace Go.Proofs.Ytejcabdejoameaa.AI
open Go

/-- A list of numbers, as a slice. -/
def SI (H : Heap) (a : Option Addr) (z : Nat) (l : List Int) : Prop := ∀ (i : Nat) (x : Int), l[i]? = some x → ∃ b o w cs, a = some ⟨b, o, none⟩ ∧ z = 1 ∧ hget H b = some ⟨w, cs⟩ ∧ cs[o + i]? = some (.int .i64 x)
theorem SI.frame {H H' : Heap} {a : Option Addr} {z : Nat} {l : List Int} (h : SI H a z l) {O : List Nat} (f : Frm O H H') (hO : ∀ b o, a = some ⟨b, o, none⟩ → b ∉ O) : SI H' a z l := by
  intro i x hx
  obtain ⟨b, o, w, cs, h1, h2, h3, h4⟩ := h i x hx
  exact ⟨b, o, w, cs, h1, h2, by rw [f.2 b (hget_lt h3) (hO b o h1)]; exact h3, h4⟩
theorem SI.frame0 {H H' : Heap} {a : Option Addr} {z : Nat} {l : List Int} (h : SI H a z l) (f : Frm [] H H') : SI H' a z l := h.frame f (by simp)
theorem SI.push {H : Heap} {a : Option Addr} {z : Nat} {l : List Int} (h : SI H a z l) (b : Option Blk) : SI (H ++ [b]) a z l := h.frame0 ((Frm.refl _ _).push b)
theorem SI.take {H : Heap} {a : Option Addr} {z : Nat} {l : List Int} (h : SI H a z l) (n : Nat) : SI H a z (l.take n) := by
  intro i x hx
  rw [List.getElem?_take] at hx
  split at hx
  · exact h i x hx
  · simp at hx
theorem SI.nil {H : Heap} {a : Option Addr} {z : Nat} : SI H a z [] := fun i x h => by simp at h

/-- The first place of a number. -/
def idx (x : Int) : List Int → Int
  | [] => -1
  | y :: l => if y = x then 0 else if idx x l = -1 then -1 else idx x l + 1
theorem idx_ge (x : Int) : ∀ l, -1 ≤ idx x l := by
  intro l
  induction l with
  | nil => simp [idx]
  | cons y l ih =>
    unfold idx
    split
    · omega
    · split <;> omega
theorem idx_mem (x : Int) : ∀ l, (0 ≤ idx x l) ↔ x ∈ l := by
  intro l
  induction l with
  | nil => simp [idx]
  | cons y l ih =>
    have := idx_ge x l
    unfold idx
    split
    · rename_i h; subst h; simp
    · rename_i h
      have h' : ¬ x = y := fun e => h e.symm
      split
      · rename_i h2; rw [h2] at ih; simp [h'] at ih ⊢; exact ih
      · rename_i h2
        simp only [List.mem_cons, h', false_or]
        rw [← ih]; omega

theorem lenL_wrap {n : Nat} (h : n < 9223372036854775808) : IntKind.i64.wrap ((n : Nat) : Int) = (n : Int) := wrap_i64 (by omega) (by omega)

/-- slices.Index: whatever it returns, it is not negative just where the number is there. -/
theorem f174 {H : Heap} {a : Option Addr} {z : Nat} {l : List Int} {x : Int} (h : SI H a z l) (hl : l.length < 1000000000) : ∃ n : Int, (0 ≤ n ↔ x ∈ l) ∧ AC tbl 174 [.slice a l.length z, .int .i64 x] H = some (.int .i64 n, H) := by
  have : Op1 (AC tbl 174 [.slice a l.length z, .int .i64 x] H) fun v H' => ∃ n : Int, (0 ≤ n ↔ x ∈ l) ∧ v = .int .i64 n ∧ H' = H := by
    apply AC_wp (F := F174) rfl (by simp [F174]) (.inl rfl)
    unfold F174
    (repeat' (first | simp only [↓yaa, ↓yab, ↓yac, ↓yad, ↓yae, ↓yaf, ↓yag, ↓yah, ↓yai, ↓ydb, ↓ydc, ↓ydd, ↓yde, ↓ydf, ↓ydg, ↓yao, ↓yap, ↓ydh, ↓ydi, ↓ydj, ↓ydk, ↓ydl, ↓ydm, ↓ydn, ↓ydo, ↓ydp, ↓yax, yay, yaz, yba, ybb, ybc, ybd, ybe, ybf, ybg, ybh, ybi, ybj, ybk, ybl, ybm, ybn, ybo, ybp, ybq, ybr, ybs, ybt, ybu, ybv, ares, tup, ybw, ybx, yby, argsE, dval, aop, ev, evs, evo, evp, fillL, addrOf, intOf?, ybz, yca, ycb, ycc, ycd, yce, ycf, zah, zag, reduceIte, Nat.reduceEqDiff, ycg, ych, yci, ycj, yck, ycl, ycm, ycn, yco, ycp, ycq, ycr, zap, zao, reduceCtorEq, zbb, zbc, zba, zaz, Nat.reduceAdd, Nat.reduceMul, zaq, zar, eqPtr, zae, zaf, zab, zaa, zac, zad, hload, hstore, zal, zam, Nat.reduceAdd, Nat.reduceLeDiff, zbb, zas, zat, one, zau, zaw, zav, splice, zaj, zak, zab, zaa, ycs, yct, ycu, ycv, ycw, ycx, ycy, ycz, zan, zai, zax, zay, and_self, true_and, and_true, lenV, yda, Nat.le_refl, if_true, ydq, ydr, yds, ne_eq, not_true_eq_false, not_false_eq_true, ← decide_not, Decidable.not_not, ydt, ydu, ydz, ydv, ydw, List.drop_zero, eq_self, Bool.false_eq_true, List.getElem?_toArray, yea, yeb, List.nil_append, List.cons_append, Bool.false_and, Int.reduceEq, Int.reduceLT, Int.reduceLE, Int.reduceNe, zbc, zbb, yec, yed, yee, yef, ydx, ydy, *] | refine yeg (fun _ => ?_) (fun _ => ?_) | refine yeh (fun _ => ?_) (fun _ => ?_) | refine yei (fun _ => ?_) (fun _ => ?_) | refine yej (fun _ => ?_) (fun _ => ?_) | refine yek (fun _ => ?_) (fun _ => ?_) | refine yel (fun _ => ?_) (fun _ => ?_)))
    apply AW_loop_inv (fun j e H1 => j ≤ l.length ∧ e = [(0, .slice a l.length z), (1, .int .i64 x), (7, .int .i64 (l.length : Int)), (8, .int .i64 ((l.length - j : Nat) : Int))] ∧ H1 = H ∧ x ∉ l.take (l.length - j)) _ l.length
    · refine ⟨Nat.le_refl _, by rw [Nat.sub_self]; rfl, rfl, by simp⟩
    · rintro j e H1 ⟨hj, rfl, rfl, hx⟩
      cases j with
      | zero =>
        have g0 : ¬ ((l.length - 0 : Nat) : Int) < (l.length : Int) := by omega
        rw [Nat.sub_zero, List.take_length] at hx
        simp only [↓yaa, ↓yab, ↓yac, ↓yad, ↓yae, ↓yaf, ↓yag, ↓yah, ↓yai, ↓ydb, ↓ydc, ↓ydd, ↓yde, ↓ydf, ↓ydg, ↓yao, ↓yap, ↓ydh, ↓ydi, ↓ydj, ↓ydk, ↓ydl, ↓ydm, ↓ydn, ↓ydo, ↓ydp, ↓yax, yay, yaz, yba, ybb, ybc, ybd, ybe, ybf, ybg, ybh, ybi, ybj, ybk, ybl, ybm, ybn, ybo, ybp, ybq, ybr, ybs, ybt, ybu, ybv, ares, tup, ybw, ybx, yby, argsE, dval, aop, ev, evs, evo, evp, fillL, addrOf, intOf?, ybz, yca, ycb, ycc, ycd, yce, ycf, zah, zag, reduceIte, Nat.reduceEqDiff, ycg, ych, yci, ycj, yck, ycl, ycm, ycn, yco, ycp, ycq, ycr, zap, zao, reduceCtorEq, zbb, zbc, zba, zaz, Nat.reduceAdd, Nat.reduceMul, zaq, zar, eqPtr, zae, zaf, zab, zaa, zac, zad, hload, hstore, zal, zam, Nat.reduceAdd, Nat.reduceLeDiff, zbb, zas, zat, one, zau, zaw, zav, splice, zaj, zak, zab, zaa, ycs, yct, ycu, ycv, ycw, ycx, ycy, ycz, zan, zai, zax, zay, and_self, true_and, and_true, lenV, yda, Nat.le_refl, if_true, ydq, ydr, yds, ne_eq, not_true_eq_false, not_false_eq_true, ← decide_not, Decidable.not_not, ydt, ydu, ydz, ydv, ydw, List.drop_zero, eq_self, Bool.false_eq_true, List.getElem?_toArray, yea, yeb, List.nil_append, List.cons_append, Bool.false_and, Int.reduceEq, Int.reduceLT, Int.reduceLE, Int.reduceNe, zbc, zbb, yec, yed, yee, yef, ydx, ydy, g0]
        exact ⟨-1, ⟨fun h => by omega, fun h => absurd h hx⟩, rfl⟩
      | succ j =>
        obtain ⟨y, hy⟩ : ∃ y, l[l.length - (j + 1)]? = some y := ⟨_, List.getElem?_eq_getElem (by omega)⟩
        obtain ⟨b, o, w, cs, rfl, rfl, h3, h4⟩ := h _ y hy
        have g0 : ((l.length - (j + 1) : Nat) : Int) < (l.length : Int) := by omega
        have g1 : (0 : Int) ≤ ((l.length - (j + 1) : Nat) : Int) := by omega
        have g3 : IntKind.i64.wrap (((l.length - (j + 1) : Nat) : Int) + 1) = ((l.length - j : Nat) : Int) := by rw [wrap_i64 (by omega) (by omega)]; omega
        by_cases e : x = y
        · subst e
          simp only [↓yaa, ↓yab, ↓yac, ↓yad, ↓yae, ↓yaf, ↓yag, ↓yah, ↓yai, ↓ydb, ↓ydc, ↓ydd, ↓yde, ↓ydf, ↓ydg, ↓yao, ↓yap, ↓ydh, ↓ydi, ↓ydj, ↓ydk, ↓ydl, ↓ydm, ↓ydn, ↓ydo, ↓ydp, ↓yax, yay, yaz, yba, ybb, ybc, ybd, ybe, ybf, ybg, ybh, ybi, ybj, ybk, ybl, ybm, ybn, ybo, ybp, ybq, ybr, ybs, ybt, ybu, ybv, ares, tup, ybw, ybx, yby, argsE, dval, aop, ev, evs, evo, evp, fillL, addrOf, intOf?, ybz, yca, ycb, ycc, ycd, yce, ycf, zah, zag, reduceIte, Nat.reduceEqDiff, ycg, ych, yci, ycj, yck, ycl, ycm, ycn, yco, ycp, ycq, ycr, zap, zao, reduceCtorEq, zbb, zbc, zba, zaz, Nat.reduceAdd, Nat.reduceMul, zaq, zar, eqPtr, zae, zaf, zab, zaa, zac, zad, hload, hstore, zal, zam, Nat.reduceAdd, Nat.reduceLeDiff, zbb, zas, zat, one, zau, zaw, zav, splice, zaj, zak, zab, zaa, ycs, yct, ycu, ycv, ycw, ycx, ycy, ycz, zan, zai, zax, zay, and_self, true_and, and_true, lenV, yda, Nat.le_refl, if_true, ydq, ydr, yds, ne_eq, not_true_eq_false, not_false_eq_true, ← decide_not, Decidable.not_not, ydt, ydu, ydz, ydv, ydw, List.drop_zero, eq_self, Bool.false_eq_true, List.getElem?_toArray, yea, yeb, List.nil_append, List.cons_append, Bool.false_and, Int.reduceEq, Int.reduceLT, Int.reduceLE, Int.reduceNe, zbc, zbb, yec, yed, yee, yef, ydx, ydy, g0, g1, Int.toNat_natCast, Nat.mul_one, h3, h4]
          exact ⟨_, ⟨fun _ => List.mem_of_getElem? hy, fun _ => g1⟩, rfl⟩
        · simp only [↓yaa, ↓yab, ↓yac, ↓yad, ↓yae, ↓yaf, ↓yag, ↓yah, ↓yai, ↓ydb, ↓ydc, ↓ydd, ↓yde, ↓ydf, ↓ydg, ↓yao, ↓yap, ↓ydh, ↓ydi, ↓ydj, ↓ydk, ↓ydl, ↓ydm, ↓ydn, ↓ydo, ↓ydp, ↓yax, yay, yaz, yba, ybb, ybc, ybd, ybe, ybf, ybg, ybh, ybi, ybj, ybk, ybl, ybm, ybn, ybo, ybp, ybq, ybr, ybs, ybt, ybu, ybv, ares, tup, ybw, ybx, yby, argsE, dval, aop, ev, evs, evo, evp, fillL, addrOf, intOf?, ybz, yca, ycb, ycc, ycd, yce, ycf, zah, zag, reduceIte, Nat.reduceEqDiff, ycg, ych, yci, ycj, yck, ycl, ycm, ycn, yco, ycp, ycq, ycr, zap, zao, reduceCtorEq, zbb, zbc, zba, zaz, Nat.reduceAdd, Nat.reduceMul, zaq, zar, eqPtr, zae, zaf, zab, zaa, zac, zad, hload, hstore, zal, zam, Nat.reduceAdd, Nat.reduceLeDiff, zbb, zas, zat, one, zau, zaw, zav, splice, zaj, zak, zab, zaa, ycs, yct, ycu, ycv, ycw, ycx, ycy, ycz, zan, zai, zax, zay, and_self, true_and, and_true, lenV, yda, Nat.le_refl, if_true, ydq, ydr, yds, ne_eq, not_true_eq_false, not_false_eq_true, ← decide_not, Decidable.not_not, ydt, ydu, ydz, ydv, ydw, List.drop_zero, eq_self, Bool.false_eq_true, List.getElem?_toArray, yea, yeb, List.nil_append, List.cons_append, Bool.false_and, Int.reduceEq, Int.reduceLT, Int.reduceLE, Int.reduceNe, zbc, zbb, yec, yed, yee, yef, ydx, ydy, g0, g1, Int.toNat_natCast, Nat.mul_one, h3, h4, e, g3]
          refine ⟨j, by omega, by omega, rfl, rfl, ?_⟩
          rw [show l.length - j = l.length - (j + 1) + 1 by omega, List.take_add_one, hy]
          simp only [List.mem_append, not_or]
          exact ⟨hx, by simpa using e⟩
  obtain ⟨v, H', h1, n, h2, rfl, rfl⟩ := this
  exact ⟨n, h2, h1⟩
theorem f165 {H : Heap} {a : Option Addr} {z : Nat} {l : List Int} {x : Int} (h : SI H a z l) (hl : l.length < 1000000000) : AC tbl 165 [.slice a l.length z, .int .i64 x] H = some (.bool (decide (x ∈ l)), H) := by
  apply AC_eq
  apply AC_wp (F := F165) rfl (by simp [F165]) (.inl rfl)
  obtain ⟨n, hn, he⟩ := f174 (x := x) h hl
  unfold F165
  simp only [↓yaa, ↓yab, ↓yac, ↓yad, ↓yae, ↓yaf, ↓yag, ↓yah, ↓yai, ↓ydb, ↓ydc, ↓ydd, ↓yde, ↓ydf, ↓ydg, ↓yao, ↓yap, ↓ydh, ↓ydi, ↓ydj, ↓ydk, ↓ydl, ↓ydm, ↓ydn, ↓ydo, ↓ydp, ↓yax, yay, yaz, yba, ybb, ybc, ybd, ybe, ybf, ybg, ybh, ybi, ybj, ybk, ybl, ybm, ybn, ybo, ybp, ybq, ybr, ybs, ybt, ybu, ybv, ares, tup, ybw, ybx, yby, argsE, dval, aop, ev, evs, evo, evp, fillL, addrOf, intOf?, ybz, yca, ycb, ycc, ycd, yce, ycf, zah, zag, reduceIte, Nat.reduceEqDiff, ycg, ych, yci, ycj, yck, ycl, ycm, ycn, yco, ycp, ycq, ycr, zap, zao, reduceCtorEq, zbb, zbc, zba, zaz, Nat.reduceAdd, Nat.reduceMul, zaq, zar, eqPtr, zae, zaf, zab, zaa, zac, zad, hload, hstore, zal, zam, Nat.reduceAdd, Nat.reduceLeDiff, zbb, zas, zat, one, zau, zaw, zav, splice, zaj, zak, zab, zaa, ycs, yct, ycu, ycv, ycw, ycx, ycy, ycz, zan, zai, zax, zay, and_self, true_and, and_true, lenV, yda, Nat.le_refl, if_true, ydq, ydr, yds, ne_eq, not_true_eq_false, not_false_eq_true, ← decide_not, Decidable.not_not, ydt, ydu, ydz, ydv, ydw, List.drop_zero, eq_self, Bool.false_eq_true, List.getElem?_toArray, yea, yeb, List.nil_append, List.cons_append, Bool.false_and, Int.reduceEq, Int.reduceLT, Int.reduceLE, Int.reduceNe, zbc, zbb, yec, yed, yee, yef, ydx, ydy, he, hn]
theorem f167 {H : Heap} {a : Option Addr} {z : Nat} {l : List Int} {x : Int} (h : SI H a z l) (hl : l.length < 1000000000) : AC tbl 167 [.slice a l.length z, .int .i64 x] H = some (.bool (decide (x ∈ l)), H) := by
  apply AC_eq
  apply AC_wp (F := F167) rfl (by simp [F167]) (.inl rfl)
  unfold F167
  (repeat' (first | simp only [↓yaa, ↓yab, ↓yac, ↓yad, ↓yae, ↓yaf, ↓yag, ↓yah, ↓yai, ↓ydb, ↓ydc, ↓ydd, ↓yde, ↓ydf, ↓ydg, ↓yao, ↓yap, ↓ydh, ↓ydi, ↓ydj, ↓ydk, ↓ydl, ↓ydm, ↓ydn, ↓ydo, ↓ydp, ↓yax, yay, yaz, yba, ybb, ybc, ybd, ybe, ybf, ybg, ybh, ybi, ybj, ybk, ybl, ybm, ybn, ybo, ybp, ybq, ybr, ybs, ybt, ybu, ybv, ares, tup, ybw, ybx, yby, argsE, dval, aop, ev, evs, evo, evp, fillL, addrOf, intOf?, ybz, yca, ycb, ycc, ycd, yce, ycf, zah, zag, reduceIte, Nat.reduceEqDiff, ycg, ych, yci, ycj, yck, ycl, ycm, ycn, yco, ycp, ycq, ycr, zap, zao, reduceCtorEq, zbb, zbc, zba, zaz, Nat.reduceAdd, Nat.reduceMul, zaq, zar, eqPtr, zae, zaf, zab, zaa, zac, zad, hload, hstore, zal, zam, Nat.reduceAdd, Nat.reduceLeDiff, zbb, zas, zat, one, zau, zaw, zav, splice, zaj, zak, zab, zaa, ycs, yct, ycu, ycv, ycw, ycx, ycy, ycz, zan, zai, zax, zay, and_self, true_and, and_true, lenV, yda, Nat.le_refl, if_true, ydq, ydr, yds, ne_eq, not_true_eq_false, not_false_eq_true, ← decide_not, Decidable.not_not, ydt, ydu, ydz, ydv, ydw, List.drop_zero, eq_self, Bool.false_eq_true, List.getElem?_toArray, yea, yeb, List.nil_append, List.cons_append, Bool.false_and, Int.reduceEq, Int.reduceLT, Int.reduceLE, Int.reduceNe, zbc, zbb, yec, yed, yee, yef, ydx, ydy, *] | refine yeg (fun _ => ?_) (fun _ => ?_) | refine yeh (fun _ => ?_) (fun _ => ?_) | refine yei (fun _ => ?_) (fun _ => ?_) | refine yej (fun _ => ?_) (fun _ => ?_) | refine yek (fun _ => ?_) (fun _ => ?_) | refine yel (fun _ => ?_) (fun _ => ?_)))
  apply AW_loop_inv (fun j e H1 => j ≤ l.length ∧ e = [(0, .slice a l.length z), (1, .int .i64 x), (5, .int .i64 ((l.length - j : Nat) : Int))] ∧ H1 = H ∧ x ∉ l.take (l.length - j)) _ l.length
  · refine ⟨Nat.le_refl _, by rw [Nat.sub_self]; rfl, rfl, by simp⟩
  · rintro j e H1 ⟨hj, rfl, rfl, hx⟩
    cases j with
    | zero =>
      have g0 : ¬ ((l.length - 0 : Nat) : Int) < (l.length : Int) := by omega
      rw [Nat.sub_zero, List.take_length] at hx
      simp only [↓yaa, ↓yab, ↓yac, ↓yad, ↓yae, ↓yaf, ↓yag, ↓yah, ↓yai, ↓ydb, ↓ydc, ↓ydd, ↓yde, ↓ydf, ↓ydg, ↓yao, ↓yap, ↓ydh, ↓ydi, ↓ydj, ↓ydk, ↓ydl, ↓ydm, ↓ydn, ↓ydo, ↓ydp, ↓yax, yay, yaz, yba, ybb, ybc, ybd, ybe, ybf, ybg, ybh, ybi, ybj, ybk, ybl, ybm, ybn, ybo, ybp, ybq, ybr, ybs, ybt, ybu, ybv, ares, tup, ybw, ybx, yby, argsE, dval, aop, ev, evs, evo, evp, fillL, addrOf, intOf?, ybz, yca, ycb, ycc, ycd, yce, ycf, zah, zag, reduceIte, Nat.reduceEqDiff, ycg, ych, yci, ycj, yck, ycl, ycm, ycn, yco, ycp, ycq, ycr, zap, zao, reduceCtorEq, zbb, zbc, zba, zaz, Nat.reduceAdd, Nat.reduceMul, zaq, zar, eqPtr, zae, zaf, zab, zaa, zac, zad, hload, hstore, zal, zam, Nat.reduceAdd, Nat.reduceLeDiff, zbb, zas, zat, one, zau, zaw, zav, splice, zaj, zak, zab, zaa, ycs, yct, ycu, ycv, ycw, ycx, ycy, ycz, zan, zai, zax, zay, and_self, true_and, and_true, lenV, yda, Nat.le_refl, if_true, ydq, ydr, yds, ne_eq, not_true_eq_false, not_false_eq_true, ← decide_not, Decidable.not_not, ydt, ydu, ydz, ydv, ydw, List.drop_zero, eq_self, Bool.false_eq_true, List.getElem?_toArray, yea, yeb, List.nil_append, List.cons_append, Bool.false_and, Int.reduceEq, Int.reduceLT, Int.reduceLE, Int.reduceNe, zbc, zbb, yec, yed, yee, yef, ydx, ydy, g0, hx]
    | succ j =>
      obtain ⟨y, hy⟩ : ∃ y, l[l.length - (j + 1)]? = some y := ⟨_, List.getElem?_eq_getElem (by omega)⟩
      obtain ⟨b, o, w, cs, rfl, rfl, h3, h4⟩ := h _ y hy
      have g0 : ((l.length - (j + 1) : Nat) : Int) < (l.length : Int) := by omega
      have g1 : (0 : Int) ≤ ((l.length - (j + 1) : Nat) : Int) := by omega
      have g3 : IntKind.i64.wrap (((l.length - (j + 1) : Nat) : Int) + 1) = ((l.length - j : Nat) : Int) := by rw [wrap_i64 (by omega) (by omega)]; omega
      by_cases e : y = x
      · subst e
        have := List.mem_of_getElem? hy
        simp only [↓yaa, ↓yab, ↓yac, ↓yad, ↓yae, ↓yaf, ↓yag, ↓yah, ↓yai, ↓ydb, ↓ydc, ↓ydd, ↓yde, ↓ydf, ↓ydg, ↓yao, ↓yap, ↓ydh, ↓ydi, ↓ydj, ↓ydk, ↓ydl, ↓ydm, ↓ydn, ↓ydo, ↓ydp, ↓yax, yay, yaz, yba, ybb, ybc, ybd, ybe, ybf, ybg, ybh, ybi, ybj, ybk, ybl, ybm, ybn, ybo, ybp, ybq, ybr, ybs, ybt, ybu, ybv, ares, tup, ybw, ybx, yby, argsE, dval, aop, ev, evs, evo, evp, fillL, addrOf, intOf?, ybz, yca, ycb, ycc, ycd, yce, ycf, zah, zag, reduceIte, Nat.reduceEqDiff, ycg, ych, yci, ycj, yck, ycl, ycm, ycn, yco, ycp, ycq, ycr, zap, zao, reduceCtorEq, zbb, zbc, zba, zaz, Nat.reduceAdd, Nat.reduceMul, zaq, zar, eqPtr, zae, zaf, zab, zaa, zac, zad, hload, hstore, zal, zam, Nat.reduceAdd, Nat.reduceLeDiff, zbb, zas, zat, one, zau, zaw, zav, splice, zaj, zak, zab, zaa, ycs, yct, ycu, ycv, ycw, ycx, ycy, ycz, zan, zai, zax, zay, and_self, true_and, and_true, lenV, yda, Nat.le_refl, if_true, ydq, ydr, yds, ne_eq, not_true_eq_false, not_false_eq_true, ← decide_not, Decidable.not_not, ydt, ydu, ydz, ydv, ydw, List.drop_zero, eq_self, Bool.false_eq_true, List.getElem?_toArray, yea, yeb, List.nil_append, List.cons_append, Bool.false_and, Int.reduceEq, Int.reduceLT, Int.reduceLE, Int.reduceNe, zbc, zbb, yec, yed, yee, yef, ydx, ydy, g0, g1, Int.toNat_natCast, Nat.mul_one, h3, h4, this]
      · simp only [↓yaa, ↓yab, ↓yac, ↓yad, ↓yae, ↓yaf, ↓yag, ↓yah, ↓yai, ↓ydb, ↓ydc, ↓ydd, ↓yde, ↓ydf, ↓ydg, ↓yao, ↓yap, ↓ydh, ↓ydi, ↓ydj, ↓ydk, ↓ydl, ↓ydm, ↓ydn, ↓ydo, ↓ydp, ↓yax, yay, yaz, yba, ybb, ybc, ybd, ybe, ybf, ybg, ybh, ybi, ybj, ybk, ybl, ybm, ybn, ybo, ybp, ybq, ybr, ybs, ybt, ybu, ybv, ares, tup, ybw, ybx, yby, argsE, dval, aop, ev, evs, evo, evp, fillL, addrOf, intOf?, ybz, yca, ycb, ycc, ycd, yce, ycf, zah, zag, reduceIte, Nat.reduceEqDiff, ycg, ych, yci, ycj, yck, ycl, ycm, ycn, yco, ycp, ycq, ycr, zap, zao, reduceCtorEq, zbb, zbc, zba, zaz, Nat.reduceAdd, Nat.reduceMul, zaq, zar, eqPtr, zae, zaf, zab, zaa, zac, zad, hload, hstore, zal, zam, Nat.reduceAdd, Nat.reduceLeDiff, zbb, zas, zat, one, zau, zaw, zav, splice, zaj, zak, zab, zaa, ycs, yct, ycu, ycv, ycw, ycx, ycy, ycz, zan, zai, zax, zay, and_self, true_and, and_true, lenV, yda, Nat.le_refl, if_true, ydq, ydr, yds, ne_eq, not_true_eq_false, not_false_eq_true, ← decide_not, Decidable.not_not, ydt, ydu, ydz, ydv, ydw, List.drop_zero, eq_self, Bool.false_eq_true, List.getElem?_toArray, yea, yeb, List.nil_append, List.cons_append, Bool.false_and, Int.reduceEq, Int.reduceLT, Int.reduceLE, Int.reduceNe, zbc, zbb, yec, yed, yee, yef, ydx, ydy, g0, g1, Int.toNat_natCast, Nat.mul_one, h3, h4, e, g3]
        refine ⟨j, by omega, by omega, rfl, rfl, ?_⟩
        rw [show l.length - j = l.length - (j + 1) + 1 by omega, List.take_add_one, hy]
        simp only [List.mem_append, not_or]
        exact ⟨hx, by simpa using fun h => e h.symm⟩

/-- Different channels. -/
def Chans (l : List Int) : Prop := 0 < l.length ∧ ∀ i x, l[i]? = some x → (0 ≤ x ∧ x < 16) ∧ x ∉ l.take i
theorem f164_0 (x : Int) : AC tbl 164 [.int .i64 x] [] = some (.bool (decide (0 ≤ x ∧ x < 16)), []) := by
  apply AC_eq
  apply AC_wp (F := F164) rfl (by simp [F164]) (.inr rfl)
  unfold F164
  (repeat' (first | simp only [↓yaa, ↓yab, ↓yac, ↓yad, ↓yae, ↓yaf, ↓yag, ↓yah, ↓yai, ↓ydb, ↓ydc, ↓ydd, ↓yde, ↓ydf, ↓ydg, ↓yao, ↓yap, ↓ydh, ↓ydi, ↓ydj, ↓ydk, ↓ydl, ↓ydm, ↓ydn, ↓ydo, ↓ydp, ↓yax, yay, yaz, yba, ybb, ybc, ybd, ybe, ybf, ybg, ybh, ybi, ybj, ybk, ybl, ybm, ybn, ybo, ybp, ybq, ybr, ybs, ybt, ybu, ybv, ares, tup, ybw, ybx, yby, argsE, dval, aop, ev, evs, evo, evp, fillL, addrOf, intOf?, ybz, yca, ycb, ycc, ycd, yce, ycf, zah, zag, reduceIte, Nat.reduceEqDiff, ycg, ych, yci, ycj, yck, ycl, ycm, ycn, yco, ycp, ycq, ycr, zap, zao, reduceCtorEq, zbb, zbc, zba, zaz, Nat.reduceAdd, Nat.reduceMul, zaq, zar, eqPtr, zae, zaf, zab, zaa, zac, zad, hload, hstore, zal, zam, Nat.reduceAdd, Nat.reduceLeDiff, zbb, zas, zat, one, zau, zaw, zav, splice, zaj, zak, zab, zaa, ycs, yct, ycu, ycv, ycw, ycx, ycy, ycz, zan, zai, zax, zay, and_self, true_and, and_true, lenV, yda, Nat.le_refl, if_true, ydq, ydr, yds, ne_eq, not_true_eq_false, not_false_eq_true, ← decide_not, Decidable.not_not, ydt, ydu, ydz, ydv, ydw, List.drop_zero, eq_self, Bool.false_eq_true, List.getElem?_toArray, yea, yeb, List.nil_append, List.cons_append, Bool.false_and, Int.reduceEq, Int.reduceLT, Int.reduceLE, Int.reduceNe, zbc, zbb, yec, yed, yee, yef, ydx, ydy, false_and, *] | refine yeg (fun _ => ?_) (fun _ => ?_) | refine yeh (fun _ => ?_) (fun _ => ?_) | refine yei (fun _ => ?_) (fun _ => ?_) | refine yej (fun _ => ?_) (fun _ => ?_) | refine yek (fun _ => ?_) (fun _ => ?_) | refine yel (fun _ => ?_) (fun _ => ?_)))
theorem f164 (x : Int) (H : Heap) : AC tbl 164 [.int .i64 x] H = some (.bool (decide (0 ≤ x ∧ x < 16)), H) := AC_iso (F := F164) rfl (by simp [F164]) rfl rfl rfl (f164_0 x) H
theorem f166_0 (x : Int) : AC tbl 166 [.int .i64 x] [] = some (.bool (decide (0 ≤ x ∧ x < 16)), []) := by
  apply AC_eq
  apply AC_wp (F := F166) rfl (by simp [F166]) (.inr rfl)
  unfold F166
  (repeat' (first | simp only [↓yaa, ↓yab, ↓yac, ↓yad, ↓yae, ↓yaf, ↓yag, ↓yah, ↓yai, ↓ydb, ↓ydc, ↓ydd, ↓yde, ↓ydf, ↓ydg, ↓yao, ↓yap, ↓ydh, ↓ydi, ↓ydj, ↓ydk, ↓ydl, ↓ydm, ↓ydn, ↓ydo, ↓ydp, ↓yax, yay, yaz, yba, ybb, ybc, ybd, ybe, ybf, ybg, ybh, ybi, ybj, ybk, ybl, ybm, ybn, ybo, ybp, ybq, ybr, ybs, ybt, ybu, ybv, ares, tup, ybw, ybx, yby, argsE, dval, aop, ev, evs, evo, evp, fillL, addrOf, intOf?, ybz, yca, ycb, ycc, ycd, yce, ycf, zah, zag, reduceIte, Nat.reduceEqDiff, ycg, ych, yci, ycj, yck, ycl, ycm, ycn, yco, ycp, ycq, ycr, zap, zao, reduceCtorEq, zbb, zbc, zba, zaz, Nat.reduceAdd, Nat.reduceMul, zaq, zar, eqPtr, zae, zaf, zab, zaa, zac, zad, hload, hstore, zal, zam, Nat.reduceAdd, Nat.reduceLeDiff, zbb, zas, zat, one, zau, zaw, zav, splice, zaj, zak, zab, zaa, ycs, yct, ycu, ycv, ycw, ycx, ycy, ycz, zan, zai, zax, zay, and_self, true_and, and_true, lenV, yda, Nat.le_refl, if_true, ydq, ydr, yds, ne_eq, not_true_eq_false, not_false_eq_true, ← decide_not, Decidable.not_not, ydt, ydu, ydz, ydv, ydw, List.drop_zero, eq_self, Bool.false_eq_true, List.getElem?_toArray, yea, yeb, List.nil_append, List.cons_append, Bool.false_and, Int.reduceEq, Int.reduceLT, Int.reduceLE, Int.reduceNe, zbc, zbb, yec, yed, yee, yef, ydx, ydy, false_and, *] | refine yeg (fun _ => ?_) (fun _ => ?_) | refine yeh (fun _ => ?_) (fun _ => ?_) | refine yei (fun _ => ?_) (fun _ => ?_) | refine yej (fun _ => ?_) (fun _ => ?_) | refine yek (fun _ => ?_) (fun _ => ?_) | refine yel (fun _ => ?_) (fun _ => ?_)))
theorem f166 (x : Int) (H : Heap) : AC tbl 166 [.int .i64 x] H = some (.bool (decide (0 ≤ x ∧ x < 16)), H) := AC_iso (F := F166) rfl (by simp [F166]) rfl rfl rfl (f166_0 x) H

open Classical in
theorem f153 {H : Heap} {a : Option Addr} {z : Nat} {l : List Int} (h : SI H a z l) (hl : l.length < 1000000000) : AC tbl 153 [.slice a l.length z] H = some (.bool (decide (Chans l)), H) := by
  apply AC_eq
  apply AC_wp (F := F153) rfl (by simp [F153]) (.inl rfl)
  unfold F153
  (repeat' (first | simp only [↓yaa, ↓yab, ↓yac, ↓yad, ↓yae, ↓yaf, ↓yag, ↓yah, ↓yai, ↓ydb, ↓ydc, ↓ydd, ↓yde, ↓ydf, ↓ydg, ↓yao, ↓yap, ↓ydh, ↓ydi, ↓ydj, ↓ydk, ↓ydl, ↓ydm, ↓ydn, ↓ydo, ↓ydp, ↓yax, yay, yaz, yba, ybb, ybc, ybd, ybe, ybf, ybg, ybh, ybi, ybj, ybk, ybl, ybm, ybn, ybo, ybp, ybq, ybr, ybs, ybt, ybu, ybv, ares, tup, ybw, ybx, yby, argsE, dval, aop, ev, evs, evo, evp, fillL, addrOf, intOf?, ybz, yca, ycb, ycc, ycd, yce, ycf, zah, zag, reduceIte, Nat.reduceEqDiff, ycg, ych, yci, ycj, yck, ycl, ycm, ycn, yco, ycp, ycq, ycr, zap, zao, reduceCtorEq, zbb, zbc, zba, zaz, Nat.reduceAdd, Nat.reduceMul, zaq, zar, eqPtr, zae, zaf, zab, zaa, zac, zad, hload, hstore, zal, zam, Nat.reduceAdd, Nat.reduceLeDiff, zbb, zas, zat, one, zau, zaw, zav, splice, zaj, zak, zab, zaa, ycs, yct, ycu, ycv, ycw, ycx, ycy, ycz, zan, zai, zax, zay, and_self, true_and, and_true, lenV, yda, Nat.le_refl, if_true, ydq, ydr, yds, ne_eq, not_true_eq_false, not_false_eq_true, ← decide_not, Decidable.not_not, ydt, ydu, ydz, ydv, ydw, List.drop_zero, eq_self, Bool.false_eq_true, List.getElem?_toArray, yea, yeb, List.nil_append, List.cons_append, Bool.false_and, Int.reduceEq, Int.reduceLT, Int.reduceLE, Int.reduceNe, zbc, zbb, yec, yed, yee, yef, ydx, ydy, *] | refine yeg (fun _ => ?_) (fun _ => ?_) | refine yeh (fun _ => ?_) (fun _ => ?_) | refine yei (fun _ => ?_) (fun _ => ?_) | refine yej (fun _ => ?_) (fun _ => ?_) | refine yek (fun _ => ?_) (fun _ => ?_) | refine yel (fun _ => ?_) (fun _ => ?_)))
  apply AW_loop_inv (fun j e H1 => j ≤ l.length ∧ e = [(0, .slice a l.length z), (5, .slice a l.length z), (6, .int .i64 (l.length : Int)), (7, .int .i64 ((l.length - j : Nat) : Int))] ∧ H1 = H ∧ ∀ i x, i < l.length - j → l[i]? = some x → (0 ≤ x ∧ x < 16) ∧ x ∉ l.take i) _ l.length
  · refine ⟨Nat.le_refl _, by rw [Nat.sub_self]; rfl, rfl, fun i x hi => by omega⟩
  · rintro j e H1 ⟨hj, rfl, rfl, hx⟩
    cases j with
    | zero =>
      have g0 : ¬ ((l.length - 0 : Nat) : Int) < (l.length : Int) := by omega
      simp only [↓yaa, ↓yab, ↓yac, ↓yad, ↓yae, ↓yaf, ↓yag, ↓yah, ↓yai, ↓ydb, ↓ydc, ↓ydd, ↓yde, ↓ydf, ↓ydg, ↓yao, ↓yap, ↓ydh, ↓ydi, ↓ydj, ↓ydk, ↓ydl, ↓ydm, ↓ydn, ↓ydo, ↓ydp, ↓yax, yay, yaz, yba, ybb, ybc, ybd, ybe, ybf, ybg, ybh, ybi, ybj, ybk, ybl, ybm, ybn, ybo, ybp, ybq, ybr, ybs, ybt, ybu, ybv, ares, tup, ybw, ybx, yby, argsE, dval, aop, ev, evs, evo, evp, fillL, addrOf, intOf?, ybz, yca, ycb, ycc, ycd, yce, ycf, zah, zag, reduceIte, Nat.reduceEqDiff, ycg, ych, yci, ycj, yck, ycl, ycm, ycn, yco, ycp, ycq, ycr, zap, zao, reduceCtorEq, zbb, zbc, zba, zaz, Nat.reduceAdd, Nat.reduceMul, zaq, zar, eqPtr, zae, zaf, zab, zaa, zac, zad, hload, hstore, zal, zam, Nat.reduceAdd, Nat.reduceLeDiff, zbb, zas, zat, one, zau, zaw, zav, splice, zaj, zak, zab, zaa, ycs, yct, ycu, ycv, ycw, ycx, ycy, ycz, zan, zai, zax, zay, and_self, true_and, and_true, lenV, yda, Nat.le_refl, if_true, ydq, ydr, yds, ne_eq, not_true_eq_false, not_false_eq_true, ← decide_not, Decidable.not_not, ydt, ydu, ydz, ydv, ydw, List.drop_zero, eq_self, Bool.false_eq_true, List.getElem?_toArray, yea, yeb, List.nil_append, List.cons_append, Bool.false_and, Int.reduceEq, Int.reduceLT, Int.reduceLE, Int.reduceNe, zbc, zbb, yec, yed, yee, yef, ydx, ydy, g0]
      apply vb_iff
      refine ⟨fun hh => ⟨by omega, fun i x hi => hx i x (by have := (List.getElem?_eq_some_iff.1 hi).1; omega) hi⟩, fun hh => by have := hh.1; omega⟩
    | succ j =>
      obtain ⟨y, hy⟩ : ∃ y, l[l.length - (j + 1)]? = some y := ⟨_, List.getElem?_eq_getElem (by omega)⟩
      have htk := f165 (x := y) (h.take (l.length - (j + 1))) (by rw [List.length_take]; omega)
      rw [show (l.take (l.length - (j + 1))).length = l.length - (j + 1) by rw [List.length_take]; omega] at htk
      obtain ⟨b, o, w, cs, rfl, rfl, h3, h4⟩ := h _ y hy
      have g0 : ((l.length - (j + 1) : Nat) : Int) < (l.length : Int) := by omega
      have g1 : (0 : Int) ≤ ((l.length - (j + 1) : Nat) : Int) := by omega
      have g2 : ((l.length - (j + 1) : Nat) : Int) ≤ (l.length : Int) := by omega
      have g3 : IntKind.i64.wrap (((l.length - (j + 1) : Nat) : Int) + 1) = ((l.length - j : Nat) : Int) := by rw [wrap_i64 (by omega) (by omega)]; omega
      have g4 : 0 < l.length := by omega
      by_cases c1 : 0 ≤ y ∧ y < 16
      · by_cases c2 : y ∈ l.take (l.length - (j + 1))
        · simp only [↓yaa, ↓yab, ↓yac, ↓yad, ↓yae, ↓yaf, ↓yag, ↓yah, ↓yai, ↓ydb, ↓ydc, ↓ydd, ↓yde, ↓ydf, ↓ydg, ↓yao, ↓yap, ↓ydh, ↓ydi, ↓ydj, ↓ydk, ↓ydl, ↓ydm, ↓ydn, ↓ydo, ↓ydp, ↓yax, yay, yaz, yba, ybb, ybc, ybd, ybe, ybf, ybg, ybh, ybi, ybj, ybk, ybl, ybm, ybn, ybo, ybp, ybq, ybr, ybs, ybt, ybu, ybv, ares, tup, ybw, ybx, yby, argsE, dval, aop, ev, evs, evo, evp, fillL, addrOf, intOf?, ybz, yca, ycb, ycc, ycd, yce, ycf, zah, zag, reduceIte, Nat.reduceEqDiff, ycg, ych, yci, ycj, yck, ycl, ycm, ycn, yco, ycp, ycq, ycr, zap, zao, reduceCtorEq, zbb, zbc, zba, zaz, Nat.reduceAdd, Nat.reduceMul, zaq, zar, eqPtr, zae, zaf, zab, zaa, zac, zad, hload, hstore, zal, zam, Nat.reduceAdd, Nat.reduceLeDiff, zbb, zas, zat, one, zau, zaw, zav, splice, zaj, zak, zab, zaa, ycs, yct, ycu, ycv, ycw, ycx, ycy, ycz, zan, zai, zax, zay, and_self, true_and, and_true, lenV, yda, Nat.le_refl, if_true, ydq, ydr, yds, ne_eq, not_true_eq_false, not_false_eq_true, ← decide_not, Decidable.not_not, ydt, ydu, ydz, ydv, ydw, List.drop_zero, eq_self, Bool.false_eq_true, List.getElem?_toArray, yea, yeb, List.nil_append, List.cons_append, Bool.false_and, Int.reduceEq, Int.reduceLT, Int.reduceLE, Int.reduceNe, zbc, zbb, yec, yed, yee, yef, ydx, ydy, g0, g1, g2, g4, Int.toNat_natCast, Nat.mul_one, Nat.zero_mul, Nat.sub_zero, h3, h4, f164, c1, boundsOf, htk, c2]
          exact vb_f fun hh => (hh.2 _ y hy).2 c2
        · simp only [↓yaa, ↓yab, ↓yac, ↓yad, ↓yae, ↓yaf, ↓yag, ↓yah, ↓yai, ↓ydb, ↓ydc, ↓ydd, ↓yde, ↓ydf, ↓ydg, ↓yao, ↓yap, ↓ydh, ↓ydi, ↓ydj, ↓ydk, ↓ydl, ↓ydm, ↓ydn, ↓ydo, ↓ydp, ↓yax, yay, yaz, yba, ybb, ybc, ybd, ybe, ybf, ybg, ybh, ybi, ybj, ybk, ybl, ybm, ybn, ybo, ybp, ybq, ybr, ybs, ybt, ybu, ybv, ares, tup, ybw, ybx, yby, argsE, dval, aop, ev, evs, evo, evp, fillL, addrOf, intOf?, ybz, yca, ycb, ycc, ycd, yce, ycf, zah, zag, reduceIte, Nat.reduceEqDiff, ycg, ych, yci, ycj, yck, ycl, ycm, ycn, yco, ycp, ycq, ycr, zap, zao, reduceCtorEq, zbb, zbc, zba, zaz, Nat.reduceAdd, Nat.reduceMul, zaq, zar, eqPtr, zae, zaf, zab, zaa, zac, zad, hload, hstore, zal, zam, Nat.reduceAdd, Nat.reduceLeDiff, zbb, zas, zat, one, zau, zaw, zav, splice, zaj, zak, zab, zaa, ycs, yct, ycu, ycv, ycw, ycx, ycy, ycz, zan, zai, zax, zay, and_self, true_and, and_true, lenV, yda, Nat.le_refl, if_true, ydq, ydr, yds, ne_eq, not_true_eq_false, not_false_eq_true, ← decide_not, Decidable.not_not, ydt, ydu, ydz, ydv, ydw, List.drop_zero, eq_self, Bool.false_eq_true, List.getElem?_toArray, yea, yeb, List.nil_append, List.cons_append, Bool.false_and, Int.reduceEq, Int.reduceLT, Int.reduceLE, Int.reduceNe, zbc, zbb, yec, yed, yee, yef, ydx, ydy, g0, g1, g2, g4, Int.toNat_natCast, Nat.mul_one, Nat.zero_mul, Nat.sub_zero, h3, h4, f164, c1, boundsOf, htk, c2, g3]
          refine ⟨j, by omega, by omega, rfl, rfl, fun i x hi hix => ?_⟩
          by_cases hi2 : i = l.length - (j + 1)
          · subst hi2; rw [hy] at hix; injection hix with hix; subst hix; exact ⟨c1, c2⟩
          · exact hx i x (by omega) hix
      · simp only [↓yaa, ↓yab, ↓yac, ↓yad, ↓yae, ↓yaf, ↓yag, ↓yah, ↓yai, ↓ydb, ↓ydc, ↓ydd, ↓yde, ↓ydf, ↓ydg, ↓yao, ↓yap, ↓ydh, ↓ydi, ↓ydj, ↓ydk, ↓ydl, ↓ydm, ↓ydn, ↓ydo, ↓ydp, ↓yax, yay, yaz, yba, ybb, ybc, ybd, ybe, ybf, ybg, ybh, ybi, ybj, ybk, ybl, ybm, ybn, ybo, ybp, ybq, ybr, ybs, ybt, ybu, ybv, ares, tup, ybw, ybx, yby, argsE, dval, aop, ev, evs, evo, evp, fillL, addrOf, intOf?, ybz, yca, ycb, ycc, ycd, yce, ycf, zah, zag, reduceIte, Nat.reduceEqDiff, ycg, ych, yci, ycj, yck, ycl, ycm, ycn, yco, ycp, ycq, ycr, zap, zao, reduceCtorEq, zbb, zbc, zba, zaz, Nat.reduceAdd, Nat.reduceMul, zaq, zar, eqPtr, zae, zaf, zab, zaa, zac, zad, hload, hstore, zal, zam, Nat.reduceAdd, Nat.reduceLeDiff, zbb, zas, zat, one, zau, zaw, zav, splice, zaj, zak, zab, zaa, ycs, yct, ycu, ycv, ycw, ycx, ycy, ycz, zan, zai, zax, zay, and_self, true_and, and_true, lenV, yda, Nat.le_refl, if_true, ydq, ydr, yds, ne_eq, not_true_eq_false, not_false_eq_true, ← decide_not, Decidable.not_not, ydt, ydu, ydz, ydv, ydw, List.drop_zero, eq_self, Bool.false_eq_true, List.getElem?_toArray, yea, yeb, List.nil_append, List.cons_append, Bool.false_and, Int.reduceEq, Int.reduceLT, Int.reduceLE, Int.reduceNe, zbc, zbb, yec, yed, yee, yef, ydx, ydy, g0, g1, Int.toNat_natCast, Nat.mul_one, h3, h4, f164, c1]
        exact vb_f fun hh => c1 (hh.2 _ y hy).1

open Classical in
theorem f154 {H : Heap} {a : Option Addr} {z : Nat} {l : List Int} (h : SI H a z l) (hl : l.length < 1000000000) : AC tbl 154 [.slice a l.length z] H = some (.bool (decide (Chans l)), H) := by
  apply AC_eq
  apply AC_wp (F := F154) rfl (by simp [F154]) (.inl rfl)
  unfold F154
  (repeat' (first | simp only [↓yaa, ↓yab, ↓yac, ↓yad, ↓yae, ↓yaf, ↓yag, ↓yah, ↓yai, ↓ydb, ↓ydc, ↓ydd, ↓yde, ↓ydf, ↓ydg, ↓yao, ↓yap, ↓ydh, ↓ydi, ↓ydj, ↓ydk, ↓ydl, ↓ydm, ↓ydn, ↓ydo, ↓ydp, ↓yax, yay, yaz, yba, ybb, ybc, ybd, ybe, ybf, ybg, ybh, ybi, ybj, ybk, ybl, ybm, ybn, ybo, ybp, ybq, ybr, ybs, ybt, ybu, ybv, ares, tup, ybw, ybx, yby, argsE, dval, aop, ev, evs, evo, evp, fillL, addrOf, intOf?, ybz, yca, ycb, ycc, ycd, yce, ycf, zah, zag, reduceIte, Nat.reduceEqDiff, ycg, ych, yci, ycj, yck, ycl, ycm, ycn, yco, ycp, ycq, ycr, zap, zao, reduceCtorEq, zbb, zbc, zba, zaz, Nat.reduceAdd, Nat.reduceMul, zaq, zar, eqPtr, zae, zaf, zab, zaa, zac, zad, hload, hstore, zal, zam, Nat.reduceAdd, Nat.reduceLeDiff, zbb, zas, zat, one, zau, zaw, zav, splice, zaj, zak, zab, zaa, ycs, yct, ycu, ycv, ycw, ycx, ycy, ycz, zan, zai, zax, zay, and_self, true_and, and_true, lenV, yda, Nat.le_refl, if_true, ydq, ydr, yds, ne_eq, not_true_eq_false, not_false_eq_true, ← decide_not, Decidable.not_not, ydt, ydu, ydz, ydv, ydw, List.drop_zero, eq_self, Bool.false_eq_true, List.getElem?_toArray, yea, yeb, List.nil_append, List.cons_append, Bool.false_and, Int.reduceEq, Int.reduceLT, Int.reduceLE, Int.reduceNe, zbc, zbb, yec, yed, yee, yef, ydx, ydy, *] | refine yeg (fun _ => ?_) (fun _ => ?_) | refine yeh (fun _ => ?_) (fun _ => ?_) | refine yei (fun _ => ?_) (fun _ => ?_) | refine yej (fun _ => ?_) (fun _ => ?_) | refine yek (fun _ => ?_) (fun _ => ?_) | refine yel (fun _ => ?_) (fun _ => ?_)))
  apply AW_loop_inv (fun j e H1 => j ≤ l.length ∧ e = [(0, .slice a l.length z), (3, .int .i64 ((l.length - j : Nat) : Int))] ∧ H1 = H ∧ ∀ i x, i < l.length - j → l[i]? = some x → (0 ≤ x ∧ x < 16) ∧ x ∉ l.take i) _ l.length
  · refine ⟨Nat.le_refl _, by rw [Nat.sub_self]; rfl, rfl, fun i x hi => by omega⟩
  · rintro j e H1 ⟨hj, rfl, rfl, hx⟩
    cases j with
    | zero =>
      have g0 : ¬ ((l.length - 0 : Nat) : Int) < (l.length : Int) := by omega
      simp only [↓yaa, ↓yab, ↓yac, ↓yad, ↓yae, ↓yaf, ↓yag, ↓yah, ↓yai, ↓ydb, ↓ydc, ↓ydd, ↓yde, ↓ydf, ↓ydg, ↓yao, ↓yap, ↓ydh, ↓ydi, ↓ydj, ↓ydk, ↓ydl, ↓ydm, ↓ydn, ↓ydo, ↓ydp, ↓yax, yay, yaz, yba, ybb, ybc, ybd, ybe, ybf, ybg, ybh, ybi, ybj, ybk, ybl, ybm, ybn, ybo, ybp, ybq, ybr, ybs, ybt, ybu, ybv, ares, tup, ybw, ybx, yby, argsE, dval, aop, ev, evs, evo, evp, fillL, addrOf, intOf?, ybz, yca, ycb, ycc, ycd, yce, ycf, zah, zag, reduceIte, Nat.reduceEqDiff, ycg, ych, yci, ycj, yck, ycl, ycm, ycn, yco, ycp, ycq, ycr, zap, zao, reduceCtorEq, zbb, zbc, zba, zaz, Nat.reduceAdd, Nat.reduceMul, zaq, zar, eqPtr, zae, zaf, zab, zaa, zac, zad, hload, hstore, zal, zam, Nat.reduceAdd, Nat.reduceLeDiff, zbb, zas, zat, one, zau, zaw, zav, splice, zaj, zak, zab, zaa, ycs, yct, ycu, ycv, ycw, ycx, ycy, ycz, zan, zai, zax, zay, and_self, true_and, and_true, lenV, yda, Nat.le_refl, if_true, ydq, ydr, yds, ne_eq, not_true_eq_false, not_false_eq_true, ← decide_not, Decidable.not_not, ydt, ydu, ydz, ydv, ydw, List.drop_zero, eq_self, Bool.false_eq_true, List.getElem?_toArray, yea, yeb, List.nil_append, List.cons_append, Bool.false_and, Int.reduceEq, Int.reduceLT, Int.reduceLE, Int.reduceNe, zbc, zbb, yec, yed, yee, yef, ydx, ydy, g0]
      apply vb_iff
      refine ⟨fun hh => ⟨by omega, fun i x hi => hx i x (by have := (List.getElem?_eq_some_iff.1 hi).1; omega) hi⟩, fun hh => by have := hh.1; omega⟩
    | succ j =>
      obtain ⟨y, hy⟩ : ∃ y, l[l.length - (j + 1)]? = some y := ⟨_, List.getElem?_eq_getElem (by omega)⟩
      have htk := f167 (x := y) (h.take (l.length - (j + 1))) (by rw [List.length_take]; omega)
      rw [show (l.take (l.length - (j + 1))).length = l.length - (j + 1) by rw [List.length_take]; omega] at htk
      obtain ⟨b, o, w, cs, rfl, rfl, h3, h4⟩ := h _ y hy
      have g0 : ((l.length - (j + 1) : Nat) : Int) < (l.length : Int) := by omega
      have g1 : (0 : Int) ≤ ((l.length - (j + 1) : Nat) : Int) := by omega
      have g2 : ((l.length - (j + 1) : Nat) : Int) ≤ (l.length : Int) := by omega
      have g3 : IntKind.i64.wrap (((l.length - (j + 1) : Nat) : Int) + 1) = ((l.length - j : Nat) : Int) := by rw [wrap_i64 (by omega) (by omega)]; omega
      have g4 : 0 < l.length := by omega
      by_cases c1 : 0 ≤ y ∧ y < 16
      · by_cases c2 : y ∈ l.take (l.length - (j + 1))
        · simp only [↓yaa, ↓yab, ↓yac, ↓yad, ↓yae, ↓yaf, ↓yag, ↓yah, ↓yai, ↓ydb, ↓ydc, ↓ydd, ↓yde, ↓ydf, ↓ydg, ↓yao, ↓yap, ↓ydh, ↓ydi, ↓ydj, ↓ydk, ↓ydl, ↓ydm, ↓ydn, ↓ydo, ↓ydp, ↓yax, yay, yaz, yba, ybb, ybc, ybd, ybe, ybf, ybg, ybh, ybi, ybj, ybk, ybl, ybm, ybn, ybo, ybp, ybq, ybr, ybs, ybt, ybu, ybv, ares, tup, ybw, ybx, yby, argsE, dval, aop, ev, evs, evo, evp, fillL, addrOf, intOf?, ybz, yca, ycb, ycc, ycd, yce, ycf, zah, zag, reduceIte, Nat.reduceEqDiff, ycg, ych, yci, ycj, yck, ycl, ycm, ycn, yco, ycp, ycq, ycr, zap, zao, reduceCtorEq, zbb, zbc, zba, zaz, Nat.reduceAdd, Nat.reduceMul, zaq, zar, eqPtr, zae, zaf, zab, zaa, zac, zad, hload, hstore, zal, zam, Nat.reduceAdd, Nat.reduceLeDiff, zbb, zas, zat, one, zau, zaw, zav, splice, zaj, zak, zab, zaa, ycs, yct, ycu, ycv, ycw, ycx, ycy, ycz, zan, zai, zax, zay, and_self, true_and, and_true, lenV, yda, Nat.le_refl, if_true, ydq, ydr, yds, ne_eq, not_true_eq_false, not_false_eq_true, ← decide_not, Decidable.not_not, ydt, ydu, ydz, ydv, ydw, List.drop_zero, eq_self, Bool.false_eq_true, List.getElem?_toArray, yea, yeb, List.nil_append, List.cons_append, Bool.false_and, Int.reduceEq, Int.reduceLT, Int.reduceLE, Int.reduceNe, zbc, zbb, yec, yed, yee, yef, ydx, ydy, g0, g1, g2, g4, Int.toNat_natCast, Nat.mul_one, Nat.zero_mul, Nat.sub_zero, h3, h4, f166, c1, boundsOf, htk, c2]
          exact vb_f fun hh => (hh.2 _ y hy).2 c2
        · simp only [↓yaa, ↓yab, ↓yac, ↓yad, ↓yae, ↓yaf, ↓yag, ↓yah, ↓yai, ↓ydb, ↓ydc, ↓ydd, ↓yde, ↓ydf, ↓ydg, ↓yao, ↓yap, ↓ydh, ↓ydi, ↓ydj, ↓ydk, ↓ydl, ↓ydm, ↓ydn, ↓ydo, ↓ydp, ↓yax, yay, yaz, yba, ybb, ybc, ybd, ybe, ybf, ybg, ybh, ybi, ybj, ybk, ybl, ybm, ybn, ybo, ybp, ybq, ybr, ybs, ybt, ybu, ybv, ares, tup, ybw, ybx, yby, argsE, dval, aop, ev, evs, evo, evp, fillL, addrOf, intOf?, ybz, yca, ycb, ycc, ycd, yce, ycf, zah, zag, reduceIte, Nat.reduceEqDiff, ycg, ych, yci, ycj, yck, ycl, ycm, ycn, yco, ycp, ycq, ycr, zap, zao, reduceCtorEq, zbb, zbc, zba, zaz, Nat.reduceAdd, Nat.reduceMul, zaq, zar, eqPtr, zae, zaf, zab, zaa, zac, zad, hload, hstore, zal, zam, Nat.reduceAdd, Nat.reduceLeDiff, zbb, zas, zat, one, zau, zaw, zav, splice, zaj, zak, zab, zaa, ycs, yct, ycu, ycv, ycw, ycx, ycy, ycz, zan, zai, zax, zay, and_self, true_and, and_true, lenV, yda, Nat.le_refl, if_true, ydq, ydr, yds, ne_eq, not_true_eq_false, not_false_eq_true, ← decide_not, Decidable.not_not, ydt, ydu, ydz, ydv, ydw, List.drop_zero, eq_self, Bool.false_eq_true, List.getElem?_toArray, yea, yeb, List.nil_append, List.cons_append, Bool.false_and, Int.reduceEq, Int.reduceLT, Int.reduceLE, Int.reduceNe, zbc, zbb, yec, yed, yee, yef, ydx, ydy, g0, g1, g2, g4, Int.toNat_natCast, Nat.mul_one, Nat.zero_mul, Nat.sub_zero, h3, h4, f166, c1, boundsOf, htk, c2, g3]
          refine ⟨j, by omega, by omega, rfl, rfl, fun i x hi hix => ?_⟩
          by_cases hi2 : i = l.length - (j + 1)
          · subst hi2; rw [hy] at hix; injection hix with hix; subst hix; exact ⟨c1, c2⟩
          · exact hx i x (by omega) hix
      · simp only [↓yaa, ↓yab, ↓yac, ↓yad, ↓yae, ↓yaf, ↓yag, ↓yah, ↓yai, ↓ydb, ↓ydc, ↓ydd, ↓yde, ↓ydf, ↓ydg, ↓yao, ↓yap, ↓ydh, ↓ydi, ↓ydj, ↓ydk, ↓ydl, ↓ydm, ↓ydn, ↓ydo, ↓ydp, ↓yax, yay, yaz, yba, ybb, ybc, ybd, ybe, ybf, ybg, ybh, ybi, ybj, ybk, ybl, ybm, ybn, ybo, ybp, ybq, ybr, ybs, ybt, ybu, ybv, ares, tup, ybw, ybx, yby, argsE, dval, aop, ev, evs, evo, evp, fillL, addrOf, intOf?, ybz, yca, ycb, ycc, ycd, yce, ycf, zah, zag, reduceIte, Nat.reduceEqDiff, ycg, ych, yci, ycj, yck, ycl, ycm, ycn, yco, ycp, ycq, ycr, zap, zao, reduceCtorEq, zbb, zbc, zba, zaz, Nat.reduceAdd, Nat.reduceMul, zaq, zar, eqPtr, zae, zaf, zab, zaa, zac, zad, hload, hstore, zal, zam, Nat.reduceAdd, Nat.reduceLeDiff, zbb, zas, zat, one, zau, zaw, zav, splice, zaj, zak, zab, zaa, ycs, yct, ycu, ycv, ycw, ycx, ycy, ycz, zan, zai, zax, zay, and_self, true_and, and_true, lenV, yda, Nat.le_refl, if_true, ydq, ydr, yds, ne_eq, not_true_eq_false, not_false_eq_true, ← decide_not, Decidable.not_not, ydt, ydu, ydz, ydv, ydw, List.drop_zero, eq_self, Bool.false_eq_true, List.getElem?_toArray, yea, yeb, List.nil_append, List.cons_append, Bool.false_and, Int.reduceEq, Int.reduceLT, Int.reduceLE, Int.reduceNe, zbc, zbb, yec, yed, yee, yef, ydx, ydy, g0, g1, Int.toNat_natCast, Nat.mul_one, h3, h4, f166, c1]
        exact vb_f fun hh => c1 (hh.2 _ y hy).1

end Go.Proofs.Ytejcabdejoameaa.AI

/- Hopping lists and offers: when they are right, and when they are the same. -/
set_option linter.unusedSimpArgs false
set_option maxHeartbeats 4000000
namespace Go.Proofs.Ytejcabdejoameaa.AI
open Go

structure HopL where
  ver : Int
  first : Int
  til : Int
  ch : List Int
structure Off where
  root : Int
  opn : Bool
  run : ByteArray
  next : HopL
def HopL.v (l : HopL) (a : Option Addr) (z : Nat) : Value := .agg #[.int .i64 l.ver, .int .i64 l.first, .int .i64 l.til, .slice a l.ch.length z]
def Off.v (o : Off) (a : Option Addr) (z : Nat) : Value := .agg #[.int .i64 o.root, .bool o.opn, .string o.run, .int .i64 o.next.ver, .int .i64 o.next.first, .int .i64 o.next.til, .slice a o.next.ch.length z]
def HopL.Zero (l : HopL) : Prop := l.ver = 0 ∧ l.first = 0 ∧ l.til = 0 ∧ (l.ch.length : Int) = 0
def HopL.Ok (l : HopL) : Prop := 0 ≤ l.ver ∧ l.ver < 256 ∧ 0 ≤ l.first ∧ l.first < l.til ∧ l.til ≤ 109951163 ∧ Chans l.ch
open Classical in
/-- The first error of an offer. -/
noncomputable def Off.err (o : Off) : Int := if o.root < 0 ∨ 32 ≤ o.root then 2 else if 8 < (o.run.size : Int) then 8 else if ¬ o.next.Zero ∧ ¬ o.next.Ok then 1 else 0

open Classical in
theorem f134 {H : Heap} {a : Option Addr} {z : Nat} {l : HopL} {K : Value → Heap → Prop} (hk : ∀ H', Frm [] H H' → K (.bool (decide l.Zero)) H') : Op1 (AC tbl 134 [l.v a z] H) K := by
  apply AC_wp (F := F134) rfl (by simp [F134]) (.inl rfl)
  have hk2 : ∀ H' b, Value.bool b = .bool (decide l.Zero) → Frm [] H H' → K (.bool b) H' := fun H' b hb hf => by rw [hb]; exact hk H' hf
  clear hk
  unfold F134 HopL.v
  (repeat' (first | simp only [↓yaa, ↓yab, ↓yac, ↓yad, ↓yae, ↓yaf, ↓yag, ↓yah, ↓yai, ↓ydb, ↓ydc, ↓ydd, ↓yde, ↓ydf, ↓ydg, ↓yao, ↓yap, ↓ydh, ↓ydi, ↓ydj, ↓ydk, ↓ydl, ↓ydm, ↓ydn, ↓ydo, ↓ydp, ↓yax, yay, yaz, yba, ybb, ybc, ybd, ybe, ybf, ybg, ybh, ybi, ybj, ybk, ybl, ybm, ybn, ybo, ybp, ybq, ybr, ybs, ybt, ybu, ybv, ares, tup, ybw, ybx, yby, argsE, dval, aop, ev, evs, evo, evp, fillL, addrOf, intOf?, ybz, yca, ycb, ycc, ycd, yce, ycf, zah, zag, reduceIte, Nat.reduceEqDiff, ycg, ych, yci, ycj, yck, ycl, ycm, ycn, yco, ycp, ycq, ycr, zap, zao, reduceCtorEq, zbb, zbc, zba, zaz, Nat.reduceAdd, Nat.reduceMul, zaq, zar, eqPtr, zae, zaf, zab, zaa, zac, zad, hload, hstore, zal, zam, Nat.reduceAdd, Nat.reduceLeDiff, zbb, zas, zat, one, zau, zaw, zav, splice, zaj, zak, zab, zaa, ycs, yct, ycu, ycv, ycw, ycx, ycy, ycz, zan, zai, zax, zay, and_self, true_and, and_true, lenV, yda, Nat.le_refl, if_true, ydq, ydr, yds, ne_eq, not_true_eq_false, not_false_eq_true, ← decide_not, Decidable.not_not, ydt, ydu, ydz, ydv, ydw, List.drop_zero, eq_self, Bool.false_eq_true, List.getElem?_toArray, yea, yeb, List.nil_append, List.cons_append, Bool.false_and, Int.reduceEq, Int.reduceLT, Int.reduceLE, Int.reduceNe, zbc, zbb, yec, yed, yee, yef, ydx, ydy, *] | refine yeg (fun _ => ?_) (fun _ => ?_) | refine yeh (fun _ => ?_) (fun _ => ?_) | refine yei (fun _ => ?_) (fun _ => ?_) | refine yej (fun _ => ?_) (fun _ => ?_) | refine yek (fun _ => ?_) (fun _ => ?_) | refine yel (fun _ => ?_) (fun _ => ?_)))
  all_goals (refine hk2 _ _ ?_ ((Frm.refl _ _).push _); clear hk2; ((try simp only [true_and, and_true, false_and, and_false, or_true, true_or, false_or, or_false, not_true_eq_false, not_false_eq_true, and_self, or_self]) <;> first | rfl | (exact vb_t (by unfold HopL.Zero; omega)) | (exact vb_f (by unfold HopL.Zero; omega)) | (exact vb_iff (by unfold HopL.Zero; omega)) | (exfalso; omega)))
open Classical in
theorem f135 {H : Heap} {a : Option Addr} {z : Nat} {l : HopL} {K : Value → Heap → Prop} (hk : ∀ H', Frm [] H H' → K (.bool (decide l.Zero)) H') : Op1 (AC tbl 135 [l.v a z] H) K := by
  apply AC_wp (F := F135) rfl (by simp [F135]) (.inl rfl)
  have hk2 : ∀ H' b, Value.bool b = .bool (decide l.Zero) → Frm [] H H' → K (.bool b) H' := fun H' b hb hf => by rw [hb]; exact hk H' hf
  clear hk
  unfold F135 HopL.v
  (repeat' (first | simp only [↓yaa, ↓yab, ↓yac, ↓yad, ↓yae, ↓yaf, ↓yag, ↓yah, ↓yai, ↓ydb, ↓ydc, ↓ydd, ↓yde, ↓ydf, ↓ydg, ↓yao, ↓yap, ↓ydh, ↓ydi, ↓ydj, ↓ydk, ↓ydl, ↓ydm, ↓ydn, ↓ydo, ↓ydp, ↓yax, yay, yaz, yba, ybb, ybc, ybd, ybe, ybf, ybg, ybh, ybi, ybj, ybk, ybl, ybm, ybn, ybo, ybp, ybq, ybr, ybs, ybt, ybu, ybv, ares, tup, ybw, ybx, yby, argsE, dval, aop, ev, evs, evo, evp, fillL, addrOf, intOf?, ybz, yca, ycb, ycc, ycd, yce, ycf, zah, zag, reduceIte, Nat.reduceEqDiff, ycg, ych, yci, ycj, yck, ycl, ycm, ycn, yco, ycp, ycq, ycr, zap, zao, reduceCtorEq, zbb, zbc, zba, zaz, Nat.reduceAdd, Nat.reduceMul, zaq, zar, eqPtr, zae, zaf, zab, zaa, zac, zad, hload, hstore, zal, zam, Nat.reduceAdd, Nat.reduceLeDiff, zbb, zas, zat, one, zau, zaw, zav, splice, zaj, zak, zab, zaa, ycs, yct, ycu, ycv, ycw, ycx, ycy, ycz, zan, zai, zax, zay, and_self, true_and, and_true, lenV, yda, Nat.le_refl, if_true, ydq, ydr, yds, ne_eq, not_true_eq_false, not_false_eq_true, ← decide_not, Decidable.not_not, ydt, ydu, ydz, ydv, ydw, List.drop_zero, eq_self, Bool.false_eq_true, List.getElem?_toArray, yea, yeb, List.nil_append, List.cons_append, Bool.false_and, Int.reduceEq, Int.reduceLT, Int.reduceLE, Int.reduceNe, zbc, zbb, yec, yed, yee, yef, ydx, ydy, *] | refine yeg (fun _ => ?_) (fun _ => ?_) | refine yeh (fun _ => ?_) (fun _ => ?_) | refine yei (fun _ => ?_) (fun _ => ?_) | refine yej (fun _ => ?_) (fun _ => ?_) | refine yek (fun _ => ?_) (fun _ => ?_) | refine yel (fun _ => ?_) (fun _ => ?_)))
  all_goals (refine hk2 _ _ ?_ ((Frm.refl _ _).push _); clear hk2; ((try simp only [true_and, and_true, false_and, and_false, or_true, true_or, false_or, or_false, not_true_eq_false, not_false_eq_true, and_self, or_self]) <;> first | rfl | (exact vb_t (by unfold HopL.Zero; omega)) | (exact vb_f (by unfold HopL.Zero; omega)) | (exact vb_iff (by unfold HopL.Zero; omega)) | (exfalso; omega)))

open Classical in
theorem f136 {H : Heap} {a : Option Addr} {z : Nat} {l : HopL} (h : SI H a z l.ch) (hl : l.ch.length < 1000000000) {K : Value → Heap → Prop} (hk : ∀ H', Frm [] H H' → K (.int .i64 (if l.Ok then 0 else 1)) H') : Op1 (AC tbl 136 [l.v a z] H) K := by
  apply AC_wp (F := F136) rfl (by simp [F136]) (.inl rfl)
  have hc := fun b => f153 (h.push b) hl
  unfold HopL.Ok at hk
  unfold HopL.v
  by_cases hC : Chans l.ch
  · have hk0 : ∀ H', Frm [] H H' → (0 ≤ l.ver ∧ l.ver < 256 ∧ 0 ≤ l.first ∧ l.first < l.til ∧ l.til ≤ 109951163) → K (.int .i64 0) H' := fun H' hf hh => by
      have := hk H' hf; rwa [if_pos ⟨hh.1, hh.2.1, hh.2.2.1, hh.2.2.2.1, hh.2.2.2.2, hC⟩] at this
    have hk1 : ∀ H', Frm [] H H' → ¬ (0 ≤ l.ver ∧ l.ver < 256 ∧ 0 ≤ l.first ∧ l.first < l.til ∧ l.til ≤ 109951163) → K (.int .i64 1) H' := fun H' hf hh => by
      have := hk H' hf; rwa [if_neg (fun q => hh ⟨q.1, q.2.1, q.2.2.1, q.2.2.2.1, q.2.2.2.2.1⟩)] at this
    simp only [hC, zbb] at hc
    clear hk hC h
    unfold F136
    (repeat' (first | simp only [↓yaa, ↓yab, ↓yac, ↓yad, ↓yae, ↓yaf, ↓yag, ↓yah, ↓yai, ↓ydb, ↓ydc, ↓ydd, ↓yde, ↓ydf, ↓ydg, ↓yao, ↓yap, ↓ydh, ↓ydi, ↓ydj, ↓ydk, ↓ydl, ↓ydm, ↓ydn, ↓ydo, ↓ydp, ↓yax, yay, yaz, yba, ybb, ybc, ybd, ybe, ybf, ybg, ybh, ybi, ybj, ybk, ybl, ybm, ybn, ybo, ybp, ybq, ybr, ybs, ybt, ybu, ybv, ares, tup, ybw, ybx, yby, argsE, dval, aop, ev, evs, evo, evp, fillL, addrOf, intOf?, ybz, yca, ycb, ycc, ycd, yce, ycf, zah, zag, reduceIte, Nat.reduceEqDiff, ycg, ych, yci, ycj, yck, ycl, ycm, ycn, yco, ycp, ycq, ycr, zap, zao, reduceCtorEq, zbb, zbc, zba, zaz, Nat.reduceAdd, Nat.reduceMul, zaq, zar, eqPtr, zae, zaf, zab, zaa, zac, zad, hload, hstore, zal, zam, Nat.reduceAdd, Nat.reduceLeDiff, zbb, zas, zat, one, zau, zaw, zav, splice, zaj, zak, zab, zaa, ycs, yct, ycu, ycv, ycw, ycx, ycy, ycz, zan, zai, zax, zay, and_self, true_and, and_true, lenV, yda, Nat.le_refl, if_true, ydq, ydr, yds, ne_eq, not_true_eq_false, not_false_eq_true, ← decide_not, Decidable.not_not, ydt, ydu, ydz, ydv, ydw, List.drop_zero, eq_self, Bool.false_eq_true, List.getElem?_toArray, yea, yeb, List.nil_append, List.cons_append, Bool.false_and, Int.reduceEq, Int.reduceLT, Int.reduceLE, Int.reduceNe, zbc, zbb, yec, yed, yee, yef, ydx, ydy, *] | refine yeg (fun _ => ?_) (fun _ => ?_) | refine yeh (fun _ => ?_) (fun _ => ?_) | refine yei (fun _ => ?_) (fun _ => ?_) | refine yej (fun _ => ?_) (fun _ => ?_) | refine yek (fun _ => ?_) (fun _ => ?_) | refine yel (fun _ => ?_) (fun _ => ?_)))
    all_goals first | (refine hk1 _ ((Frm.refl _ _).push _) ?_; clear hk0 hk1 hc; omega) | (refine hk0 _ ((Frm.refl _ _).push _) ?_; clear hk0 hk1 hc; omega)
  · have hk1 : ∀ H', Frm [] H H' → K (.int .i64 1) H' := fun H' hf => by
      have := hk H' hf; rwa [if_neg (fun q => hC q.2.2.2.2.2)] at this
    simp only [hC, zbc] at hc
    clear hk hC h
    unfold F136
    (repeat' (first | simp only [↓yaa, ↓yab, ↓yac, ↓yad, ↓yae, ↓yaf, ↓yag, ↓yah, ↓yai, ↓ydb, ↓ydc, ↓ydd, ↓yde, ↓ydf, ↓ydg, ↓yao, ↓yap, ↓ydh, ↓ydi, ↓ydj, ↓ydk, ↓ydl, ↓ydm, ↓ydn, ↓ydo, ↓ydp, ↓yax, yay, yaz, yba, ybb, ybc, ybd, ybe, ybf, ybg, ybh, ybi, ybj, ybk, ybl, ybm, ybn, ybo, ybp, ybq, ybr, ybs, ybt, ybu, ybv, ares, tup, ybw, ybx, yby, argsE, dval, aop, ev, evs, evo, evp, fillL, addrOf, intOf?, ybz, yca, ycb, ycc, ycd, yce, ycf, zah, zag, reduceIte, Nat.reduceEqDiff, ycg, ych, yci, ycj, yck, ycl, ycm, ycn, yco, ycp, ycq, ycr, zap, zao, reduceCtorEq, zbb, zbc, zba, zaz, Nat.reduceAdd, Nat.reduceMul, zaq, zar, eqPtr, zae, zaf, zab, zaa, zac, zad, hload, hstore, zal, zam, Nat.reduceAdd, Nat.reduceLeDiff, zbb, zas, zat, one, zau, zaw, zav, splice, zaj, zak, zab, zaa, ycs, yct, ycu, ycv, ycw, ycx, ycy, ycz, zan, zai, zax, zay, and_self, true_and, and_true, lenV, yda, Nat.le_refl, if_true, ydq, ydr, yds, ne_eq, not_true_eq_false, not_false_eq_true, ← decide_not, Decidable.not_not, ydt, ydu, ydz, ydv, ydw, List.drop_zero, eq_self, Bool.false_eq_true, List.getElem?_toArray, yea, yeb, List.nil_append, List.cons_append, Bool.false_and, Int.reduceEq, Int.reduceLT, Int.reduceLE, Int.reduceNe, zbc, zbb, yec, yed, yee, yef, ydx, ydy, *] | refine yeg (fun _ => ?_) (fun _ => ?_) | refine yeh (fun _ => ?_) (fun _ => ?_) | refine yei (fun _ => ?_) (fun _ => ?_) | refine yej (fun _ => ?_) (fun _ => ?_) | refine yek (fun _ => ?_) (fun _ => ?_) | refine yel (fun _ => ?_) (fun _ => ?_)))
    all_goals exact hk1 _ ((Frm.refl _ _).push _)
open Classical in
theorem f137 {H : Heap} {a : Option Addr} {z : Nat} {l : HopL} (h : SI H a z l.ch) (hl : l.ch.length < 1000000000) {K : Value → Heap → Prop} (hk : ∀ H', Frm [] H H' → K (.int .i64 (if l.Ok then 0 else 1)) H') : Op1 (AC tbl 137 [l.v a z] H) K := by
  apply AC_wp (F := F137) rfl (by simp [F137]) (.inl rfl)
  have hc := fun b => f154 (h.push b) hl
  unfold HopL.Ok at hk
  unfold HopL.v
  by_cases hC : Chans l.ch
  · have hk0 : ∀ H', Frm [] H H' → (0 ≤ l.ver ∧ l.ver < 256 ∧ 0 ≤ l.first ∧ l.first < l.til ∧ l.til ≤ 109951163) → K (.int .i64 0) H' := fun H' hf hh => by
      have := hk H' hf; rwa [if_pos ⟨hh.1, hh.2.1, hh.2.2.1, hh.2.2.2.1, hh.2.2.2.2, hC⟩] at this
    have hk1 : ∀ H', Frm [] H H' → ¬ (0 ≤ l.ver ∧ l.ver < 256 ∧ 0 ≤ l.first ∧ l.first < l.til ∧ l.til ≤ 109951163) → K (.int .i64 1) H' := fun H' hf hh => by
      have := hk H' hf; rwa [if_neg (fun q => hh ⟨q.1, q.2.1, q.2.2.1, q.2.2.2.1, q.2.2.2.2.1⟩)] at this
    simp only [hC, zbb] at hc
    clear hk hC h
    unfold F137
    (repeat' (first | simp only [↓yaa, ↓yab, ↓yac, ↓yad, ↓yae, ↓yaf, ↓yag, ↓yah, ↓yai, ↓ydb, ↓ydc, ↓ydd, ↓yde, ↓ydf, ↓ydg, ↓yao, ↓yap, ↓ydh, ↓ydi, ↓ydj, ↓ydk, ↓ydl, ↓ydm, ↓ydn, ↓ydo, ↓ydp, ↓yax, yay, yaz, yba, ybb, ybc, ybd, ybe, ybf, ybg, ybh, ybi, ybj, ybk, ybl, ybm, ybn, ybo, ybp, ybq, ybr, ybs, ybt, ybu, ybv, ares, tup, ybw, ybx, yby, argsE, dval, aop, ev, evs, evo, evp, fillL, addrOf, intOf?, ybz, yca, ycb, ycc, ycd, yce, ycf, zah, zag, reduceIte, Nat.reduceEqDiff, ycg, ych, yci, ycj, yck, ycl, ycm, ycn, yco, ycp, ycq, ycr, zap, zao, reduceCtorEq, zbb, zbc, zba, zaz, Nat.reduceAdd, Nat.reduceMul, zaq, zar, eqPtr, zae, zaf, zab, zaa, zac, zad, hload, hstore, zal, zam, Nat.reduceAdd, Nat.reduceLeDiff, zbb, zas, zat, one, zau, zaw, zav, splice, zaj, zak, zab, zaa, ycs, yct, ycu, ycv, ycw, ycx, ycy, ycz, zan, zai, zax, zay, and_self, true_and, and_true, lenV, yda, Nat.le_refl, if_true, ydq, ydr, yds, ne_eq, not_true_eq_false, not_false_eq_true, ← decide_not, Decidable.not_not, ydt, ydu, ydz, ydv, ydw, List.drop_zero, eq_self, Bool.false_eq_true, List.getElem?_toArray, yea, yeb, List.nil_append, List.cons_append, Bool.false_and, Int.reduceEq, Int.reduceLT, Int.reduceLE, Int.reduceNe, zbc, zbb, yec, yed, yee, yef, ydx, ydy, *] | refine yeg (fun _ => ?_) (fun _ => ?_) | refine yeh (fun _ => ?_) (fun _ => ?_) | refine yei (fun _ => ?_) (fun _ => ?_) | refine yej (fun _ => ?_) (fun _ => ?_) | refine yek (fun _ => ?_) (fun _ => ?_) | refine yel (fun _ => ?_) (fun _ => ?_)))
    all_goals first | (refine hk1 _ ((Frm.refl _ _).push _) ?_; clear hk0 hk1 hc; omega) | (refine hk0 _ ((Frm.refl _ _).push _) ?_; clear hk0 hk1 hc; omega)
  · have hk1 : ∀ H', Frm [] H H' → K (.int .i64 1) H' := fun H' hf => by
      have := hk H' hf; rwa [if_neg (fun q => hC q.2.2.2.2.2)] at this
    simp only [hC, zbc] at hc
    clear hk hC h
    unfold F137
    (repeat' (first | simp only [↓yaa, ↓yab, ↓yac, ↓yad, ↓yae, ↓yaf, ↓yag, ↓yah, ↓yai, ↓ydb, ↓ydc, ↓ydd, ↓yde, ↓ydf, ↓ydg, ↓yao, ↓yap, ↓ydh, ↓ydi, ↓ydj, ↓ydk, ↓ydl, ↓ydm, ↓ydn, ↓ydo, ↓ydp, ↓yax, yay, yaz, yba, ybb, ybc, ybd, ybe, ybf, ybg, ybh, ybi, ybj, ybk, ybl, ybm, ybn, ybo, ybp, ybq, ybr, ybs, ybt, ybu, ybv, ares, tup, ybw, ybx, yby, argsE, dval, aop, ev, evs, evo, evp, fillL, addrOf, intOf?, ybz, yca, ycb, ycc, ycd, yce, ycf, zah, zag, reduceIte, Nat.reduceEqDiff, ycg, ych, yci, ycj, yck, ycl, ycm, ycn, yco, ycp, ycq, ycr, zap, zao, reduceCtorEq, zbb, zbc, zba, zaz, Nat.reduceAdd, Nat.reduceMul, zaq, zar, eqPtr, zae, zaf, zab, zaa, zac, zad, hload, hstore, zal, zam, Nat.reduceAdd, Nat.reduceLeDiff, zbb, zas, zat, one, zau, zaw, zav, splice, zaj, zak, zab, zaa, ycs, yct, ycu, ycv, ycw, ycx, ycy, ycz, zan, zai, zax, zay, and_self, true_and, and_true, lenV, yda, Nat.le_refl, if_true, ydq, ydr, yds, ne_eq, not_true_eq_false, not_false_eq_true, ← decide_not, Decidable.not_not, ydt, ydu, ydz, ydv, ydw, List.drop_zero, eq_self, Bool.false_eq_true, List.getElem?_toArray, yea, yeb, List.nil_append, List.cons_append, Bool.false_and, Int.reduceEq, Int.reduceLT, Int.reduceLE, Int.reduceNe, zbc, zbb, yec, yed, yee, yef, ydx, ydy, *] | refine yeg (fun _ => ?_) (fun _ => ?_) | refine yeh (fun _ => ?_) (fun _ => ?_) | refine yei (fun _ => ?_) (fun _ => ?_) | refine yej (fun _ => ?_) (fun _ => ?_) | refine yek (fun _ => ?_) (fun _ => ?_) | refine yel (fun _ => ?_) (fun _ => ?_)))
    all_goals exact hk1 _ ((Frm.refl _ _).push _)

theorem Frm.then {H H1 H2 : Heap} (h : Frm [] H H1) (k : Frm [] H1 H2) : Frm [] H H2 := h.trans k (by simp)
theorem list4' (a b c d : Value) : [a, b, c, d].toArray = #[a, b, c, d] := rfl
theorem take4' (a b c d e f g : Value) : List.take 4 (List.drop 3 [a, b, c, d, e, f, g]) = [d, e, f, g] := rfl
open Classical in
theorem f113 {H : Heap} {a : Option Addr} {z : Nat} {o : Off} (h : SI H a z o.next.ch) (hl : o.next.ch.length < 1000000000) {K : Value → Heap → Prop} (hk : ∀ H', Frm [] H H' → K (.int .i64 o.err) H') : Op1 (AC tbl 113 [o.v a z] H) K := by
  apply AC_wp (F := F113) rfl (by simp [F113]) (.inl rfl)
  have hlv : o.next.v a z = .agg #[.int .i64 o.next.ver, .int .i64 o.next.first, .int .i64 o.next.til, .slice a o.next.ch.length z] := rfl
  unfold Off.err at hk
  unfold Off.v
  have hf0 : ∀ b, Frm [] H (H ++ [b]) := fun b => (Frm.refl _ _).push b
  have hg : hget (H ++ [some ⟨true, [.int .i64 o.root, .bool o.opn, .string o.run, .int .i64 o.next.ver, .int .i64 o.next.first, .int .i64 o.next.til, .slice a o.next.ch.length z]⟩]) H.length = some ⟨true, [.int .i64 o.root, .bool o.opn, .string o.run, .int .i64 o.next.ver, .int .i64 o.next.first, .int .i64 o.next.til, .slice a o.next.ch.length z]⟩ := ydu
  by_cases c1 : o.root < 0 ∨ 32 ≤ o.root
  · rw [if_pos c1] at hk
    unfold F113
    (repeat' (first | simp only [↓yaa, ↓yab, ↓yac, ↓yad, ↓yae, ↓yaf, ↓yag, ↓yah, ↓yai, ↓ydb, ↓ydc, ↓ydd, ↓yde, ↓ydf, ↓ydg, ↓yao, ↓yap, ↓ydh, ↓ydi, ↓ydj, ↓ydk, ↓ydl, ↓ydm, ↓ydn, ↓ydo, ↓ydp, ↓yax, yay, yaz, yba, ybb, ybc, ybd, ybe, ybf, ybg, ybh, ybi, ybj, ybk, ybl, ybm, ybn, ybo, ybp, ybq, ybr, ybs, ybt, ybu, ybv, ares, tup, ybw, ybx, yby, argsE, dval, aop, ev, evs, evo, evp, fillL, addrOf, intOf?, ybz, yca, ycb, ycc, ycd, yce, ycf, zah, zag, reduceIte, Nat.reduceEqDiff, ycg, ych, yci, ycj, yck, ycl, ycm, ycn, yco, ycp, ycq, ycr, zap, zao, reduceCtorEq, zbb, zbc, zba, zaz, Nat.reduceAdd, Nat.reduceMul, zaq, zar, eqPtr, zae, zaf, zab, zaa, zac, zad, hload, hstore, zal, zam, Nat.reduceAdd, Nat.reduceLeDiff, zbb, zas, zat, one, zau, zaw, zav, splice, zaj, zak, zab, zaa, ycs, yct, ycu, ycv, ycw, ycx, ycy, ycz, zan, zai, zax, zay, and_self, true_and, and_true, lenV, yda, Nat.le_refl, if_true, ydq, ydr, yds, ne_eq, not_true_eq_false, not_false_eq_true, ← decide_not, Decidable.not_not, ydt, ydu, ydz, ydv, ydw, List.drop_zero, eq_self, Bool.false_eq_true, List.getElem?_toArray, yea, yeb, List.nil_append, List.cons_append, Bool.false_and, Int.reduceEq, Int.reduceLT, Int.reduceLE, Int.reduceNe, zbc, zbb, yec, yed, yee, yef, ydx, ydy, *] | refine yeg (fun _ => ?_) (fun _ => ?_) | refine yeh (fun _ => ?_) (fun _ => ?_) | refine yei (fun _ => ?_) (fun _ => ?_) | refine yej (fun _ => ?_) (fun _ => ?_) | refine yek (fun _ => ?_) (fun _ => ?_) | refine yel (fun _ => ?_) (fun _ => ?_)))
    all_goals first | exact hk _ (hf0 _) | omega
  · by_cases c2 : 8 < (o.run.size : Int)
    · rw [if_neg c1, if_pos c2] at hk
      have e1 : ¬ o.root < 0 := by omega
      have e2 : ¬ 32 ≤ o.root := by omega
      simp only [F113, ↓yaa, ↓yab, ↓yac, ↓yad, ↓yae, ↓yaf, ↓yag, ↓yah, ↓yai, ↓ydb, ↓ydc, ↓ydd, ↓yde, ↓ydf, ↓ydg, ↓yao, ↓yap, ↓ydh, ↓ydi, ↓ydj, ↓ydk, ↓ydl, ↓ydm, ↓ydn, ↓ydo, ↓ydp, ↓yax, yay, yaz, yba, ybb, ybc, ybd, ybe, ybf, ybg, ybh, ybi, ybj, ybk, ybl, ybm, ybn, ybo, ybp, ybq, ybr, ybs, ybt, ybu, ybv, ares, tup, ybw, ybx, yby, argsE, dval, aop, ev, evs, evo, evp, fillL, addrOf, intOf?, ybz, yca, ycb, ycc, ycd, yce, ycf, zah, zag, reduceIte, Nat.reduceEqDiff, ycg, ych, yci, ycj, yck, ycl, ycm, ycn, yco, ycp, ycq, ycr, zap, zao, reduceCtorEq, zbb, zbc, zba, zaz, Nat.reduceAdd, Nat.reduceMul, zaq, zar, eqPtr, zae, zaf, zab, zaa, zac, zad, hload, hstore, zal, zam, Nat.reduceAdd, Nat.reduceLeDiff, zbb, zas, zat, one, zau, zaw, zav, splice, zaj, zak, zab, zaa, ycs, yct, ycu, ycv, ycw, ycx, ycy, ycz, zan, zai, zax, zay, and_self, true_and, and_true, lenV, yda, Nat.le_refl, if_true, ydq, ydr, yds, ne_eq, not_true_eq_false, not_false_eq_true, ← decide_not, Decidable.not_not, ydt, ydu, ydz, ydv, ydw, List.drop_zero, eq_self, Bool.false_eq_true, List.getElem?_toArray, yea, yeb, List.nil_append, List.cons_append, Bool.false_and, Int.reduceEq, Int.reduceLT, Int.reduceLE, Int.reduceNe, zbc, zbb, yec, yed, yee, yef, ydx, ydy, e1, e2, c2]
      exact hk _ (hf0 _)
    · rw [if_neg c1, if_neg c2] at hk
      have e1 : ¬ o.root < 0 := by omega
      have e2 : ¬ 32 ≤ o.root := by omega
      simp only [F113, ↓yaa, ↓yab, ↓yac, ↓yad, ↓yae, ↓yaf, ↓yag, ↓yah, ↓yai, ↓ydb, ↓ydc, ↓ydd, ↓yde, ↓ydf, ↓ydg, ↓yao, ↓yap, ↓ydh, ↓ydi, ↓ydj, ↓ydk, ↓ydl, ↓ydm, ↓ydn, ↓ydo, ↓ydp, ↓yax, yay, yaz, yba, ybb, ybc, ybd, ybe, ybf, ybg, ybh, ybi, ybj, ybk, ybl, ybm, ybn, ybo, ybp, ybq, ybr, ybs, ybt, ybu, ybv, ares, tup, ybw, ybx, yby, argsE, dval, aop, ev, evs, evo, evp, fillL, addrOf, intOf?, ybz, yca, ycb, ycc, ycd, yce, ycf, zah, zag, reduceIte, Nat.reduceEqDiff, ycg, ych, yci, ycj, yck, ycl, ycm, ycn, yco, ycp, ycq, ycr, zap, zao, reduceCtorEq, zbb, zbc, zba, zaz, Nat.reduceAdd, Nat.reduceMul, zaq, zar, eqPtr, zae, zaf, zab, zaa, zac, zad, hload, hstore, zal, zam, Nat.reduceAdd, Nat.reduceLeDiff, zbb, zas, zat, one, zau, zaw, zav, splice, zaj, zak, zab, zaa, ycs, yct, ycu, ycv, ycw, ycx, ycy, ycz, zan, zai, zax, zay, and_self, true_and, and_true, lenV, yda, Nat.le_refl, if_true, ydq, ydr, yds, ne_eq, not_true_eq_false, not_false_eq_true, ← decide_not, Decidable.not_not, ydt, ydu, ydz, ydv, ydw, List.drop_zero, eq_self, Bool.false_eq_true, List.getElem?_toArray, yea, yeb, List.nil_append, List.cons_append, Bool.false_and, Int.reduceEq, Int.reduceLT, Int.reduceLE, Int.reduceNe, zbc, zbb, yec, yed, yee, yef, ydx, ydy, e1, e2, c2, take4', list4', Nat.reduceLeDiff]
      rw [← hlv]
      refine f134 fun H1 hf1 => ?_
      have hg1 := (hf1.2 _ (by simp) (by simp)).trans hg
      by_cases c3 : o.next.Zero
      · rw [if_neg (fun q => q.1 c3)] at hk
        simp only [↓yaa, ↓yab, ↓yac, ↓yad, ↓yae, ↓yaf, ↓yag, ↓yah, ↓yai, ↓ydb, ↓ydc, ↓ydd, ↓yde, ↓ydf, ↓ydg, ↓yao, ↓yap, ↓ydh, ↓ydi, ↓ydj, ↓ydk, ↓ydl, ↓ydm, ↓ydn, ↓ydo, ↓ydp, ↓yax, yay, yaz, yba, ybb, ybc, ybd, ybe, ybf, ybg, ybh, ybi, ybj, ybk, ybl, ybm, ybn, ybo, ybp, ybq, ybr, ybs, ybt, ybu, ybv, ares, tup, ybw, ybx, yby, argsE, dval, aop, ev, evs, evo, evp, fillL, addrOf, intOf?, ybz, yca, ycb, ycc, ycd, yce, ycf, zah, zag, reduceIte, Nat.reduceEqDiff, ycg, ych, yci, ycj, yck, ycl, ycm, ycn, yco, ycp, ycq, ycr, zap, zao, reduceCtorEq, zbb, zbc, zba, zaz, Nat.reduceAdd, Nat.reduceMul, zaq, zar, eqPtr, zae, zaf, zab, zaa, zac, zad, hload, hstore, zal, zam, Nat.reduceAdd, Nat.reduceLeDiff, zbb, zas, zat, one, zau, zaw, zav, splice, zaj, zak, zab, zaa, ycs, yct, ycu, ycv, ycw, ycx, ycy, ycz, zan, zai, zax, zay, and_self, true_and, and_true, lenV, yda, Nat.le_refl, if_true, ydq, ydr, yds, ne_eq, not_true_eq_false, not_false_eq_true, ← decide_not, Decidable.not_not, ydt, ydu, ydz, ydv, ydw, List.drop_zero, eq_self, Bool.false_eq_true, List.getElem?_toArray, yea, yeb, List.nil_append, List.cons_append, Bool.false_and, Int.reduceEq, Int.reduceLT, Int.reduceLE, Int.reduceNe, zbc, zbb, yec, yed, yee, yef, ydx, ydy, c3]
        exact hk _ ((hf0 _).then hf1)
      · simp only [↓yaa, ↓yab, ↓yac, ↓yad, ↓yae, ↓yaf, ↓yag, ↓yah, ↓yai, ↓ydb, ↓ydc, ↓ydd, ↓yde, ↓ydf, ↓ydg, ↓yao, ↓yap, ↓ydh, ↓ydi, ↓ydj, ↓ydk, ↓ydl, ↓ydm, ↓ydn, ↓ydo, ↓ydp, ↓yax, yay, yaz, yba, ybb, ybc, ybd, ybe, ybf, ybg, ybh, ybi, ybj, ybk, ybl, ybm, ybn, ybo, ybp, ybq, ybr, ybs, ybt, ybu, ybv, ares, tup, ybw, ybx, yby, argsE, dval, aop, ev, evs, evo, evp, fillL, addrOf, intOf?, ybz, yca, ycb, ycc, ycd, yce, ycf, zah, zag, reduceIte, Nat.reduceEqDiff, ycg, ych, yci, ycj, yck, ycl, ycm, ycn, yco, ycp, ycq, ycr, zap, zao, reduceCtorEq, zbb, zbc, zba, zaz, Nat.reduceAdd, Nat.reduceMul, zaq, zar, eqPtr, zae, zaf, zab, zaa, zac, zad, hload, hstore, zal, zam, Nat.reduceAdd, Nat.reduceLeDiff, zbb, zas, zat, one, zau, zaw, zav, splice, zaj, zak, zab, zaa, ycs, yct, ycu, ycv, ycw, ycx, ycy, ycz, zan, zai, zax, zay, and_self, true_and, and_true, lenV, yda, Nat.le_refl, if_true, ydq, ydr, yds, ne_eq, not_true_eq_false, not_false_eq_true, ← decide_not, Decidable.not_not, ydt, ydu, ydz, ydv, ydw, List.drop_zero, eq_self, Bool.false_eq_true, List.getElem?_toArray, yea, yeb, List.nil_append, List.cons_append, Bool.false_and, Int.reduceEq, Int.reduceLT, Int.reduceLE, Int.reduceNe, zbc, zbb, yec, yed, yee, yef, ydx, ydy, c3, hg1, take4', list4']
        rw [← hlv]
        refine f136 ((h.push _).frame0 hf1) hl fun H2 hf2 => ?_
        by_cases c4 : o.next.Ok
        · rw [if_neg (fun q => q.2 c4)] at hk
          simp only [↓yaa, ↓yab, ↓yac, ↓yad, ↓yae, ↓yaf, ↓yag, ↓yah, ↓yai, ↓ydb, ↓ydc, ↓ydd, ↓yde, ↓ydf, ↓ydg, ↓yao, ↓yap, ↓ydh, ↓ydi, ↓ydj, ↓ydk, ↓ydl, ↓ydm, ↓ydn, ↓ydo, ↓ydp, ↓yax, yay, yaz, yba, ybb, ybc, ybd, ybe, ybf, ybg, ybh, ybi, ybj, ybk, ybl, ybm, ybn, ybo, ybp, ybq, ybr, ybs, ybt, ybu, ybv, ares, tup, ybw, ybx, yby, argsE, dval, aop, ev, evs, evo, evp, fillL, addrOf, intOf?, ybz, yca, ycb, ycc, ycd, yce, ycf, zah, zag, reduceIte, Nat.reduceEqDiff, ycg, ych, yci, ycj, yck, ycl, ycm, ycn, yco, ycp, ycq, ycr, zap, zao, reduceCtorEq, zbb, zbc, zba, zaz, Nat.reduceAdd, Nat.reduceMul, zaq, zar, eqPtr, zae, zaf, zab, zaa, zac, zad, hload, hstore, zal, zam, Nat.reduceAdd, Nat.reduceLeDiff, zbb, zas, zat, one, zau, zaw, zav, splice, zaj, zak, zab, zaa, ycs, yct, ycu, ycv, ycw, ycx, ycy, ycz, zan, zai, zax, zay, and_self, true_and, and_true, lenV, yda, Nat.le_refl, if_true, ydq, ydr, yds, ne_eq, not_true_eq_false, not_false_eq_true, ← decide_not, Decidable.not_not, ydt, ydu, ydz, ydv, ydw, List.drop_zero, eq_self, Bool.false_eq_true, List.getElem?_toArray, yea, yeb, List.nil_append, List.cons_append, Bool.false_and, Int.reduceEq, Int.reduceLT, Int.reduceLE, Int.reduceNe, zbc, zbb, yec, yed, yee, yef, ydx, ydy, c4]
          exact hk _ (((hf0 _).then hf1).then hf2)
        · rw [if_pos ⟨c3, c4⟩] at hk
          simp only [↓yaa, ↓yab, ↓yac, ↓yad, ↓yae, ↓yaf, ↓yag, ↓yah, ↓yai, ↓ydb, ↓ydc, ↓ydd, ↓yde, ↓ydf, ↓ydg, ↓yao, ↓yap, ↓ydh, ↓ydi, ↓ydj, ↓ydk, ↓ydl, ↓ydm, ↓ydn, ↓ydo, ↓ydp, ↓yax, yay, yaz, yba, ybb, ybc, ybd, ybe, ybf, ybg, ybh, ybi, ybj, ybk, ybl, ybm, ybn, ybo, ybp, ybq, ybr, ybs, ybt, ybu, ybv, ares, tup, ybw, ybx, yby, argsE, dval, aop, ev, evs, evo, evp, fillL, addrOf, intOf?, ybz, yca, ycb, ycc, ycd, yce, ycf, zah, zag, reduceIte, Nat.reduceEqDiff, ycg, ych, yci, ycj, yck, ycl, ycm, ycn, yco, ycp, ycq, ycr, zap, zao, reduceCtorEq, zbb, zbc, zba, zaz, Nat.reduceAdd, Nat.reduceMul, zaq, zar, eqPtr, zae, zaf, zab, zaa, zac, zad, hload, hstore, zal, zam, Nat.reduceAdd, Nat.reduceLeDiff, zbb, zas, zat, one, zau, zaw, zav, splice, zaj, zak, zab, zaa, ycs, yct, ycu, ycv, ycw, ycx, ycy, ycz, zan, zai, zax, zay, and_self, true_and, and_true, lenV, yda, Nat.le_refl, if_true, ydq, ydr, yds, ne_eq, not_true_eq_false, not_false_eq_true, ← decide_not, Decidable.not_not, ydt, ydu, ydz, ydv, ydw, List.drop_zero, eq_self, Bool.false_eq_true, List.getElem?_toArray, yea, yeb, List.nil_append, List.cons_append, Bool.false_and, Int.reduceEq, Int.reduceLT, Int.reduceLE, Int.reduceNe, zbc, zbb, yec, yed, yee, yef, ydx, ydy, c4, if_false]
          exact hk _ (((hf0 _).then hf1).then hf2)
open Classical in
theorem f114 {H : Heap} {a : Option Addr} {z : Nat} {o : Off} (h : SI H a z o.next.ch) (hl : o.next.ch.length < 1000000000) {K : Value → Heap → Prop} (hk : ∀ H', Frm [] H H' → K (.int .i64 o.err) H') : Op1 (AC tbl 114 [o.v a z] H) K := by
  apply AC_wp (F := F114) rfl (by simp [F114]) (.inl rfl)
  have hlv : o.next.v a z = .agg #[.int .i64 o.next.ver, .int .i64 o.next.first, .int .i64 o.next.til, .slice a o.next.ch.length z] := rfl
  unfold Off.err at hk
  unfold Off.v
  have hf0 : ∀ b, Frm [] H (H ++ [b]) := fun b => (Frm.refl _ _).push b
  have hg : hget (H ++ [some ⟨true, [.int .i64 o.root, .bool o.opn, .string o.run, .int .i64 o.next.ver, .int .i64 o.next.first, .int .i64 o.next.til, .slice a o.next.ch.length z]⟩]) H.length = some ⟨true, [.int .i64 o.root, .bool o.opn, .string o.run, .int .i64 o.next.ver, .int .i64 o.next.first, .int .i64 o.next.til, .slice a o.next.ch.length z]⟩ := ydu
  by_cases c1 : o.root < 0 ∨ 32 ≤ o.root
  · rw [if_pos c1] at hk
    unfold F114
    (repeat' (first | simp only [↓yaa, ↓yab, ↓yac, ↓yad, ↓yae, ↓yaf, ↓yag, ↓yah, ↓yai, ↓ydb, ↓ydc, ↓ydd, ↓yde, ↓ydf, ↓ydg, ↓yao, ↓yap, ↓ydh, ↓ydi, ↓ydj, ↓ydk, ↓ydl, ↓ydm, ↓ydn, ↓ydo, ↓ydp, ↓yax, yay, yaz, yba, ybb, ybc, ybd, ybe, ybf, ybg, ybh, ybi, ybj, ybk, ybl, ybm, ybn, ybo, ybp, ybq, ybr, ybs, ybt, ybu, ybv, ares, tup, ybw, ybx, yby, argsE, dval, aop, ev, evs, evo, evp, fillL, addrOf, intOf?, ybz, yca, ycb, ycc, ycd, yce, ycf, zah, zag, reduceIte, Nat.reduceEqDiff, ycg, ych, yci, ycj, yck, ycl, ycm, ycn, yco, ycp, ycq, ycr, zap, zao, reduceCtorEq, zbb, zbc, zba, zaz, Nat.reduceAdd, Nat.reduceMul, zaq, zar, eqPtr, zae, zaf, zab, zaa, zac, zad, hload, hstore, zal, zam, Nat.reduceAdd, Nat.reduceLeDiff, zbb, zas, zat, one, zau, zaw, zav, splice, zaj, zak, zab, zaa, ycs, yct, ycu, ycv, ycw, ycx, ycy, ycz, zan, zai, zax, zay, and_self, true_and, and_true, lenV, yda, Nat.le_refl, if_true, ydq, ydr, yds, ne_eq, not_true_eq_false, not_false_eq_true, ← decide_not, Decidable.not_not, ydt, ydu, ydz, ydv, ydw, List.drop_zero, eq_self, Bool.false_eq_true, List.getElem?_toArray, yea, yeb, List.nil_append, List.cons_append, Bool.false_and, Int.reduceEq, Int.reduceLT, Int.reduceLE, Int.reduceNe, zbc, zbb, yec, yed, yee, yef, ydx, ydy, *] | refine yeg (fun _ => ?_) (fun _ => ?_) | refine yeh (fun _ => ?_) (fun _ => ?_) | refine yei (fun _ => ?_) (fun _ => ?_) | refine yej (fun _ => ?_) (fun _ => ?_) | refine yek (fun _ => ?_) (fun _ => ?_) | refine yel (fun _ => ?_) (fun _ => ?_)))
    all_goals first | exact hk _ (hf0 _) | omega
  · by_cases c2 : 8 < (o.run.size : Int)
    · rw [if_neg c1, if_pos c2] at hk
      have e1 : ¬ o.root < 0 := by omega
      have e2 : ¬ 32 ≤ o.root := by omega
      simp only [F114, ↓yaa, ↓yab, ↓yac, ↓yad, ↓yae, ↓yaf, ↓yag, ↓yah, ↓yai, ↓ydb, ↓ydc, ↓ydd, ↓yde, ↓ydf, ↓ydg, ↓yao, ↓yap, ↓ydh, ↓ydi, ↓ydj, ↓ydk, ↓ydl, ↓ydm, ↓ydn, ↓ydo, ↓ydp, ↓yax, yay, yaz, yba, ybb, ybc, ybd, ybe, ybf, ybg, ybh, ybi, ybj, ybk, ybl, ybm, ybn, ybo, ybp, ybq, ybr, ybs, ybt, ybu, ybv, ares, tup, ybw, ybx, yby, argsE, dval, aop, ev, evs, evo, evp, fillL, addrOf, intOf?, ybz, yca, ycb, ycc, ycd, yce, ycf, zah, zag, reduceIte, Nat.reduceEqDiff, ycg, ych, yci, ycj, yck, ycl, ycm, ycn, yco, ycp, ycq, ycr, zap, zao, reduceCtorEq, zbb, zbc, zba, zaz, Nat.reduceAdd, Nat.reduceMul, zaq, zar, eqPtr, zae, zaf, zab, zaa, zac, zad, hload, hstore, zal, zam, Nat.reduceAdd, Nat.reduceLeDiff, zbb, zas, zat, one, zau, zaw, zav, splice, zaj, zak, zab, zaa, ycs, yct, ycu, ycv, ycw, ycx, ycy, ycz, zan, zai, zax, zay, and_self, true_and, and_true, lenV, yda, Nat.le_refl, if_true, ydq, ydr, yds, ne_eq, not_true_eq_false, not_false_eq_true, ← decide_not, Decidable.not_not, ydt, ydu, ydz, ydv, ydw, List.drop_zero, eq_self, Bool.false_eq_true, List.getElem?_toArray, yea, yeb, List.nil_append, List.cons_append, Bool.false_and, Int.reduceEq, Int.reduceLT, Int.reduceLE, Int.reduceNe, zbc, zbb, yec, yed, yee, yef, ydx, ydy, e1, e2, c2]
      exact hk _ (hf0 _)
    · rw [if_neg c1, if_neg c2] at hk
      have e1 : ¬ o.root < 0 := by omega
      have e2 : ¬ 32 ≤ o.root := by omega
      simp only [F114, ↓yaa, ↓yab, ↓yac, ↓yad, ↓yae, ↓yaf, ↓yag, ↓yah, ↓yai, ↓ydb, ↓ydc, ↓ydd, ↓yde, ↓ydf, ↓ydg, ↓yao, ↓yap, ↓ydh, ↓ydi, ↓ydj, ↓ydk, ↓ydl, ↓ydm, ↓ydn, ↓ydo, ↓ydp, ↓yax, yay, yaz, yba, ybb, ybc, ybd, ybe, ybf, ybg, ybh, ybi, ybj, ybk, ybl, ybm, ybn, ybo, ybp, ybq, ybr, ybs, ybt, ybu, ybv, ares, tup, ybw, ybx, yby, argsE, dval, aop, ev, evs, evo, evp, fillL, addrOf, intOf?, ybz, yca, ycb, ycc, ycd, yce, ycf, zah, zag, reduceIte, Nat.reduceEqDiff, ycg, ych, yci, ycj, yck, ycl, ycm, ycn, yco, ycp, ycq, ycr, zap, zao, reduceCtorEq, zbb, zbc, zba, zaz, Nat.reduceAdd, Nat.reduceMul, zaq, zar, eqPtr, zae, zaf, zab, zaa, zac, zad, hload, hstore, zal, zam, Nat.reduceAdd, Nat.reduceLeDiff, zbb, zas, zat, one, zau, zaw, zav, splice, zaj, zak, zab, zaa, ycs, yct, ycu, ycv, ycw, ycx, ycy, ycz, zan, zai, zax, zay, and_self, true_and, and_true, lenV, yda, Nat.le_refl, if_true, ydq, ydr, yds, ne_eq, not_true_eq_false, not_false_eq_true, ← decide_not, Decidable.not_not, ydt, ydu, ydz, ydv, ydw, List.drop_zero, eq_self, Bool.false_eq_true, List.getElem?_toArray, yea, yeb, List.nil_append, List.cons_append, Bool.false_and, Int.reduceEq, Int.reduceLT, Int.reduceLE, Int.reduceNe, zbc, zbb, yec, yed, yee, yef, ydx, ydy, e1, e2, c2, take4', list4', Nat.reduceLeDiff]
      rw [← hlv]
      refine f135 fun H1 hf1 => ?_
      have hg1 := (hf1.2 _ (by simp) (by simp)).trans hg
      by_cases c3 : o.next.Zero
      · rw [if_neg (fun q => q.1 c3)] at hk
        simp only [↓yaa, ↓yab, ↓yac, ↓yad, ↓yae, ↓yaf, ↓yag, ↓yah, ↓yai, ↓ydb, ↓ydc, ↓ydd, ↓yde, ↓ydf, ↓ydg, ↓yao, ↓yap, ↓ydh, ↓ydi, ↓ydj, ↓ydk, ↓ydl, ↓ydm, ↓ydn, ↓ydo, ↓ydp, ↓yax, yay, yaz, yba, ybb, ybc, ybd, ybe, ybf, ybg, ybh, ybi, ybj, ybk, ybl, ybm, ybn, ybo, ybp, ybq, ybr, ybs, ybt, ybu, ybv, ares, tup, ybw, ybx, yby, argsE, dval, aop, ev, evs, evo, evp, fillL, addrOf, intOf?, ybz, yca, ycb, ycc, ycd, yce, ycf, zah, zag, reduceIte, Nat.reduceEqDiff, ycg, ych, yci, ycj, yck, ycl, ycm, ycn, yco, ycp, ycq, ycr, zap, zao, reduceCtorEq, zbb, zbc, zba, zaz, Nat.reduceAdd, Nat.reduceMul, zaq, zar, eqPtr, zae, zaf, zab, zaa, zac, zad, hload, hstore, zal, zam, Nat.reduceAdd, Nat.reduceLeDiff, zbb, zas, zat, one, zau, zaw, zav, splice, zaj, zak, zab, zaa, ycs, yct, ycu, ycv, ycw, ycx, ycy, ycz, zan, zai, zax, zay, and_self, true_and, and_true, lenV, yda, Nat.le_refl, if_true, ydq, ydr, yds, ne_eq, not_true_eq_false, not_false_eq_true, ← decide_not, Decidable.not_not, ydt, ydu, ydz, ydv, ydw, List.drop_zero, eq_self, Bool.false_eq_true, List.getElem?_toArray, yea, yeb, List.nil_append, List.cons_append, Bool.false_and, Int.reduceEq, Int.reduceLT, Int.reduceLE, Int.reduceNe, zbc, zbb, yec, yed, yee, yef, ydx, ydy, c3]
        exact hk _ ((hf0 _).then hf1)
      · simp only [↓yaa, ↓yab, ↓yac, ↓yad, ↓yae, ↓yaf, ↓yag, ↓yah, ↓yai, ↓ydb, ↓ydc, ↓ydd, ↓yde, ↓ydf, ↓ydg, ↓yao, ↓yap, ↓ydh, ↓ydi, ↓ydj, ↓ydk, ↓ydl, ↓ydm, ↓ydn, ↓ydo, ↓ydp, ↓yax, yay, yaz, yba, ybb, ybc, ybd, ybe, ybf, ybg, ybh, ybi, ybj, ybk, ybl, ybm, ybn, ybo, ybp, ybq, ybr, ybs, ybt, ybu, ybv, ares, tup, ybw, ybx, yby, argsE, dval, aop, ev, evs, evo, evp, fillL, addrOf, intOf?, ybz, yca, ycb, ycc, ycd, yce, ycf, zah, zag, reduceIte, Nat.reduceEqDiff, ycg, ych, yci, ycj, yck, ycl, ycm, ycn, yco, ycp, ycq, ycr, zap, zao, reduceCtorEq, zbb, zbc, zba, zaz, Nat.reduceAdd, Nat.reduceMul, zaq, zar, eqPtr, zae, zaf, zab, zaa, zac, zad, hload, hstore, zal, zam, Nat.reduceAdd, Nat.reduceLeDiff, zbb, zas, zat, one, zau, zaw, zav, splice, zaj, zak, zab, zaa, ycs, yct, ycu, ycv, ycw, ycx, ycy, ycz, zan, zai, zax, zay, and_self, true_and, and_true, lenV, yda, Nat.le_refl, if_true, ydq, ydr, yds, ne_eq, not_true_eq_false, not_false_eq_true, ← decide_not, Decidable.not_not, ydt, ydu, ydz, ydv, ydw, List.drop_zero, eq_self, Bool.false_eq_true, List.getElem?_toArray, yea, yeb, List.nil_append, List.cons_append, Bool.false_and, Int.reduceEq, Int.reduceLT, Int.reduceLE, Int.reduceNe, zbc, zbb, yec, yed, yee, yef, ydx, ydy, c3, hg1, take4', list4']
        rw [← hlv]
        refine f137 ((h.push _).frame0 hf1) hl fun H2 hf2 => ?_
        by_cases c4 : o.next.Ok
        · rw [if_neg (fun q => q.2 c4)] at hk
          simp only [↓yaa, ↓yab, ↓yac, ↓yad, ↓yae, ↓yaf, ↓yag, ↓yah, ↓yai, ↓ydb, ↓ydc, ↓ydd, ↓yde, ↓ydf, ↓ydg, ↓yao, ↓yap, ↓ydh, ↓ydi, ↓ydj, ↓ydk, ↓ydl, ↓ydm, ↓ydn, ↓ydo, ↓ydp, ↓yax, yay, yaz, yba, ybb, ybc, ybd, ybe, ybf, ybg, ybh, ybi, ybj, ybk, ybl, ybm, ybn, ybo, ybp, ybq, ybr, ybs, ybt, ybu, ybv, ares, tup, ybw, ybx, yby, argsE, dval, aop, ev, evs, evo, evp, fillL, addrOf, intOf?, ybz, yca, ycb, ycc, ycd, yce, ycf, zah, zag, reduceIte, Nat.reduceEqDiff, ycg, ych, yci, ycj, yck, ycl, ycm, ycn, yco, ycp, ycq, ycr, zap, zao, reduceCtorEq, zbb, zbc, zba, zaz, Nat.reduceAdd, Nat.reduceMul, zaq, zar, eqPtr, zae, zaf, zab, zaa, zac, zad, hload, hstore, zal, zam, Nat.reduceAdd, Nat.reduceLeDiff, zbb, zas, zat, one, zau, zaw, zav, splice, zaj, zak, zab, zaa, ycs, yct, ycu, ycv, ycw, ycx, ycy, ycz, zan, zai, zax, zay, and_self, true_and, and_true, lenV, yda, Nat.le_refl, if_true, ydq, ydr, yds, ne_eq, not_true_eq_false, not_false_eq_true, ← decide_not, Decidable.not_not, ydt, ydu, ydz, ydv, ydw, List.drop_zero, eq_self, Bool.false_eq_true, List.getElem?_toArray, yea, yeb, List.nil_append, List.cons_append, Bool.false_and, Int.reduceEq, Int.reduceLT, Int.reduceLE, Int.reduceNe, zbc, zbb, yec, yed, yee, yef, ydx, ydy, c4]
          exact hk _ (((hf0 _).then hf1).then hf2)
        · rw [if_pos ⟨c3, c4⟩] at hk
          simp only [↓yaa, ↓yab, ↓yac, ↓yad, ↓yae, ↓yaf, ↓yag, ↓yah, ↓yai, ↓ydb, ↓ydc, ↓ydd, ↓yde, ↓ydf, ↓ydg, ↓yao, ↓yap, ↓ydh, ↓ydi, ↓ydj, ↓ydk, ↓ydl, ↓ydm, ↓ydn, ↓ydo, ↓ydp, ↓yax, yay, yaz, yba, ybb, ybc, ybd, ybe, ybf, ybg, ybh, ybi, ybj, ybk, ybl, ybm, ybn, ybo, ybp, ybq, ybr, ybs, ybt, ybu, ybv, ares, tup, ybw, ybx, yby, argsE, dval, aop, ev, evs, evo, evp, fillL, addrOf, intOf?, ybz, yca, ycb, ycc, ycd, yce, ycf, zah, zag, reduceIte, Nat.reduceEqDiff, ycg, ych, yci, ycj, yck, ycl, ycm, ycn, yco, ycp, ycq, ycr, zap, zao, reduceCtorEq, zbb, zbc, zba, zaz, Nat.reduceAdd, Nat.reduceMul, zaq, zar, eqPtr, zae, zaf, zab, zaa, zac, zad, hload, hstore, zal, zam, Nat.reduceAdd, Nat.reduceLeDiff, zbb, zas, zat, one, zau, zaw, zav, splice, zaj, zak, zab, zaa, ycs, yct, ycu, ycv, ycw, ycx, ycy, ycz, zan, zai, zax, zay, and_self, true_and, and_true, lenV, yda, Nat.le_refl, if_true, ydq, ydr, yds, ne_eq, not_true_eq_false, not_false_eq_true, ← decide_not, Decidable.not_not, ydt, ydu, ydz, ydv, ydw, List.drop_zero, eq_self, Bool.false_eq_true, List.getElem?_toArray, yea, yeb, List.nil_append, List.cons_append, Bool.false_and, Int.reduceEq, Int.reduceLT, Int.reduceLE, Int.reduceNe, zbc, zbb, yec, yed, yee, yef, ydx, ydy, c4, if_false]
          exact hk _ (((hf0 _).then hf1).then hf2)

end Go.Proofs.Ytejcabdejoameaa.AI

/- Offers that are the same, and small ones. -/
set_option linter.unusedSimpArgs false
set_option maxHeartbeats 4000000
namespace Go.Proofs.Ytejcabdejoameaa.AI
open Go

def HopL.Eqv (l m : HopL) : Prop := l.ver = m.ver ∧ l.first = m.first ∧ l.til = m.til ∧ l.ch = m.ch
def Off.Eqv (o p : Off) : Prop := o.root = p.root ∧ o.opn = p.opn ∧ o.run = p.run ∧ o.next.Eqv p.next

open Classical in
theorem f148 {H : Heap} {a a' : Option Addr} {z z' : Nat} {l m : HopL} (h : SI H a z l.ch) (h' : SI H a' z' m.ch) (hl : l.ch.length < 1000000000) {K : Value → Heap → Prop} (hk : ∀ H', Frm [] H H' → K (.bool (decide (l.Eqv m))) H') : Op1 (AC tbl 148 [l.v a z, m.v a' z'] H) K := by
  apply AC_wp (F := F148) rfl (by simp [F148]) (.inl rfl)
  have hf0 : ∀ b c, Frm [] H (H ++ [b] ++ [c]) := fun b c => ((Frm.refl _ _).push b).push c
  have k0 : ∀ H', Frm [] H H' → ¬ l.Eqv m → K (.bool false) H' := fun H' hf hh => by have := hk H' hf; rwa [decide_eq_false hh] at this
  have k1 : ∀ H', Frm [] H H' → l.Eqv m → K (.bool true) H' := fun H' hf hh => by have := hk H' hf; rwa [decide_eq_true hh] at this
  clear hk
  unfold HopL.v
  by_cases c : l.ver = m.ver ∧ l.first = m.first ∧ l.til = m.til ∧ (l.ch.length : Int) = (m.ch.length : Int)
  · obtain ⟨c1, c2, c3, c4⟩ := c
    have hlen : l.ch.length = m.ch.length := by omega
    simp only [F148, ↓yaa, ↓yab, ↓yac, ↓yad, ↓yae, ↓yaf, ↓yag, ↓yah, ↓yai, ↓ydb, ↓ydc, ↓ydd, ↓yde, ↓ydf, ↓ydg, ↓yao, ↓yap, ↓ydh, ↓ydi, ↓ydj, ↓ydk, ↓ydl, ↓ydm, ↓ydn, ↓ydo, ↓ydp, ↓yax, yay, yaz, yba, ybb, ybc, ybd, ybe, ybf, ybg, ybh, ybi, ybj, ybk, ybl, ybm, ybn, ybo, ybp, ybq, ybr, ybs, ybt, ybu, ybv, ares, tup, ybw, ybx, yby, argsE, dval, aop, ev, evs, evo, evp, fillL, addrOf, intOf?, ybz, yca, ycb, ycc, ycd, yce, ycf, zah, zag, reduceIte, Nat.reduceEqDiff, ycg, ych, yci, ycj, yck, ycl, ycm, ycn, yco, ycp, ycq, ycr, zap, zao, reduceCtorEq, zbb, zbc, zba, zaz, Nat.reduceAdd, Nat.reduceMul, zaq, zar, eqPtr, zae, zaf, zab, zaa, zac, zad, hload, hstore, zal, zam, Nat.reduceAdd, Nat.reduceLeDiff, zbb, zas, zat, one, zau, zaw, zav, splice, zaj, zak, zab, zaa, ycs, yct, ycu, ycv, ycw, ycx, ycy, ycz, zan, zai, zax, zay, and_self, true_and, and_true, lenV, yda, Nat.le_refl, if_true, ydq, ydr, yds, ne_eq, not_true_eq_false, not_false_eq_true, ← decide_not, Decidable.not_not, ydt, ydu, ydz, ydv, ydw, List.drop_zero, eq_self, Bool.false_eq_true, List.getElem?_toArray, yea, yeb, List.nil_append, List.cons_append, Bool.false_and, Int.reduceEq, Int.reduceLT, Int.reduceLE, Int.reduceNe, zbc, zbb, yec, yed, yee, yef, ydx, ydy, c1, c2, c3, c4]
    rw [hlen]
    have hi := (h.push (some ⟨true, [.int .i64 m.ver, .int .i64 m.first, .int .i64 m.til, .slice a m.ch.length z]⟩)).push (some ⟨true, [.int .i64 m.ver, .int .i64 m.first, .int .i64 m.til, .slice a' m.ch.length z']⟩)
    have hi' := (h'.push (some ⟨true, [.int .i64 m.ver, .int .i64 m.first, .int .i64 m.til, .slice a m.ch.length z]⟩)).push (some ⟨true, [.int .i64 m.ver, .int .i64 m.first, .int .i64 m.til, .slice a' m.ch.length z']⟩)
    have fin : ∀ P, P = (H ++ [some ⟨true, [.int .i64 m.ver, .int .i64 m.first, .int .i64 m.til, .slice a m.ch.length z]⟩] ++ [some (⟨true, [.int .i64 m.ver, .int .i64 m.first, .int .i64 m.til, .slice a' m.ch.length z']⟩ : Blk)]) → Frm [] H P ∧ hget P H.length = some ⟨true, [.int .i64 m.ver, .int .i64 m.first, .int .i64 m.til, .slice a m.ch.length z]⟩ ∧ hget P (H.length + 1) = some ⟨true, [.int .i64 m.ver, .int .i64 m.first, .int .i64 m.til, .slice a' m.ch.length z']⟩ ∧ SI P a z l.ch ∧ SI P a' z' m.ch := by
      rintro P rfl
      exact ⟨hf0 _ _, ydx, ydv, hi, hi'⟩
    clear hi hi'
    generalize hP : (H ++ [some ⟨true, [.int .i64 m.ver, .int .i64 m.first, .int .i64 m.til, .slice a m.ch.length z]⟩] ++ [some (⟨true, [.int .i64 m.ver, .int .i64 m.first, .int .i64 m.til, .slice a' m.ch.length z']⟩ : Blk)]) = P at *
    obtain ⟨p1, p2, p3, p4, p5⟩ := fin P rfl
    apply AW_loop_inv (fun j e H1 => j ≤ m.ch.length ∧ e = [(2, .pointer (some ⟨H.length, 0, none⟩)), (3, .pointer (some ⟨H.length + 1, 0, none⟩)), (5, .int .i64 ((m.ch.length - j : Nat) : Int))] ∧ H1 = P ∧ l.ch.take (m.ch.length - j) = m.ch.take (m.ch.length - j)) _ m.ch.length
    · refine ⟨Nat.le_refl _, by rw [Nat.sub_self]; rfl, rfl, by rw [Nat.sub_self]; rfl⟩
    · rintro j e H1 ⟨hj, rfl, rfl, heq⟩
      cases j with
      | zero =>
        have g0 : ¬ ((m.ch.length - 0 : Nat) : Int) < (m.ch.length : Int) := by omega
        simp only [↓yaa, ↓yab, ↓yac, ↓yad, ↓yae, ↓yaf, ↓yag, ↓yah, ↓yai, ↓ydb, ↓ydc, ↓ydd, ↓yde, ↓ydf, ↓ydg, ↓yao, ↓yap, ↓ydh, ↓ydi, ↓ydj, ↓ydk, ↓ydl, ↓ydm, ↓ydn, ↓ydo, ↓ydp, ↓yax, yay, yaz, yba, ybb, ybc, ybd, ybe, ybf, ybg, ybh, ybi, ybj, ybk, ybl, ybm, ybn, ybo, ybp, ybq, ybr, ybs, ybt, ybu, ybv, ares, tup, ybw, ybx, yby, argsE, dval, aop, ev, evs, evo, evp, fillL, addrOf, intOf?, ybz, yca, ycb, ycc, ycd, yce, ycf, zah, zag, reduceIte, Nat.reduceEqDiff, ycg, ych, yci, ycj, yck, ycl, ycm, ycn, yco, ycp, ycq, ycr, zap, zao, reduceCtorEq, zbb, zbc, zba, zaz, Nat.reduceAdd, Nat.reduceMul, zaq, zar, eqPtr, zae, zaf, zab, zaa, zac, zad, hload, hstore, zal, zam, Nat.reduceAdd, Nat.reduceLeDiff, zbb, zas, zat, one, zau, zaw, zav, splice, zaj, zak, zab, zaa, ycs, yct, ycu, ycv, ycw, ycx, ycy, ycz, zan, zai, zax, zay, and_self, true_and, and_true, lenV, yda, Nat.le_refl, if_true, ydq, ydr, yds, ne_eq, not_true_eq_false, not_false_eq_true, ← decide_not, Decidable.not_not, ydt, ydu, ydz, ydv, ydw, List.drop_zero, eq_self, Bool.false_eq_true, List.getElem?_toArray, yea, yeb, List.nil_append, List.cons_append, Bool.false_and, Int.reduceEq, Int.reduceLT, Int.reduceLE, Int.reduceNe, zbc, zbb, yec, yed, yee, yef, ydx, ydy, p2, p3, g0]
        refine k1 _ p1 ⟨c1, c2, c3, ?_⟩
        rw [Nat.sub_zero, List.take_length, ← hlen, List.take_length] at heq
        exact heq
      | succ j =>
        obtain ⟨x, hx⟩ : ∃ x, l.ch[m.ch.length - (j + 1)]? = some x := ⟨_, List.getElem?_eq_getElem (by omega)⟩
        obtain ⟨y, hy⟩ : ∃ y, m.ch[m.ch.length - (j + 1)]? = some y := ⟨_, List.getElem?_eq_getElem (by omega)⟩
        obtain ⟨b, o, w, cs, rfl, rfl, h3, h4⟩ := p4 _ x hx
        obtain ⟨b', o', w', cs', rfl, rfl, h3', h4'⟩ := p5 _ y hy
        have g0 : ((m.ch.length - (j + 1) : Nat) : Int) < (m.ch.length : Int) := by omega
        have g1 : (0 : Int) ≤ ((m.ch.length - (j + 1) : Nat) : Int) := by omega
        have g3 : IntKind.i64.wrap (((m.ch.length - (j + 1) : Nat) : Int) + 1) = ((m.ch.length - j : Nat) : Int) := by rw [wrap_i64 (by omega) (by omega)]; omega
        by_cases e : x = y
        · subst e
          simp only [↓yaa, ↓yab, ↓yac, ↓yad, ↓yae, ↓yaf, ↓yag, ↓yah, ↓yai, ↓ydb, ↓ydc, ↓ydd, ↓yde, ↓ydf, ↓ydg, ↓yao, ↓yap, ↓ydh, ↓ydi, ↓ydj, ↓ydk, ↓ydl, ↓ydm, ↓ydn, ↓ydo, ↓ydp, ↓yax, yay, yaz, yba, ybb, ybc, ybd, ybe, ybf, ybg, ybh, ybi, ybj, ybk, ybl, ybm, ybn, ybo, ybp, ybq, ybr, ybs, ybt, ybu, ybv, ares, tup, ybw, ybx, yby, argsE, dval, aop, ev, evs, evo, evp, fillL, addrOf, intOf?, ybz, yca, ycb, ycc, ycd, yce, ycf, zah, zag, reduceIte, Nat.reduceEqDiff, ycg, ych, yci, ycj, yck, ycl, ycm, ycn, yco, ycp, ycq, ycr, zap, zao, reduceCtorEq, zbb, zbc, zba, zaz, Nat.reduceAdd, Nat.reduceMul, zaq, zar, eqPtr, zae, zaf, zab, zaa, zac, zad, hload, hstore, zal, zam, Nat.reduceAdd, Nat.reduceLeDiff, zbb, zas, zat, one, zau, zaw, zav, splice, zaj, zak, zab, zaa, ycs, yct, ycu, ycv, ycw, ycx, ycy, ycz, zan, zai, zax, zay, and_self, true_and, and_true, lenV, yda, Nat.le_refl, if_true, ydq, ydr, yds, ne_eq, not_true_eq_false, not_false_eq_true, ← decide_not, Decidable.not_not, ydt, ydu, ydz, ydv, ydw, List.drop_zero, eq_self, Bool.false_eq_true, List.getElem?_toArray, yea, yeb, List.nil_append, List.cons_append, Bool.false_and, Int.reduceEq, Int.reduceLT, Int.reduceLE, Int.reduceNe, zbc, zbb, yec, yed, yee, yef, ydx, ydy, p2, p3, g0, g1, Int.toNat_natCast, Nat.mul_one, h3, h4, h3', h4', g3]
          refine ⟨j, by omega, by omega, rfl, rfl, ?_⟩
          rw [show m.ch.length - j = m.ch.length - (j + 1) + 1 by omega, List.take_add_one, List.take_add_one, hx, hy, heq]
        · simp only [↓yaa, ↓yab, ↓yac, ↓yad, ↓yae, ↓yaf, ↓yag, ↓yah, ↓yai, ↓ydb, ↓ydc, ↓ydd, ↓yde, ↓ydf, ↓ydg, ↓yao, ↓yap, ↓ydh, ↓ydi, ↓ydj, ↓ydk, ↓ydl, ↓ydm, ↓ydn, ↓ydo, ↓ydp, ↓yax, yay, yaz, yba, ybb, ybc, ybd, ybe, ybf, ybg, ybh, ybi, ybj, ybk, ybl, ybm, ybn, ybo, ybp, ybq, ybr, ybs, ybt, ybu, ybv, ares, tup, ybw, ybx, yby, argsE, dval, aop, ev, evs, evo, evp, fillL, addrOf, intOf?, ybz, yca, ycb, ycc, ycd, yce, ycf, zah, zag, reduceIte, Nat.reduceEqDiff, ycg, ych, yci, ycj, yck, ycl, ycm, ycn, yco, ycp, ycq, ycr, zap, zao, reduceCtorEq, zbb, zbc, zba, zaz, Nat.reduceAdd, Nat.reduceMul, zaq, zar, eqPtr, zae, zaf, zab, zaa, zac, zad, hload, hstore, zal, zam, Nat.reduceAdd, Nat.reduceLeDiff, zbb, zas, zat, one, zau, zaw, zav, splice, zaj, zak, zab, zaa, ycs, yct, ycu, ycv, ycw, ycx, ycy, ycz, zan, zai, zax, zay, and_self, true_and, and_true, lenV, yda, Nat.le_refl, if_true, ydq, ydr, yds, ne_eq, not_true_eq_false, not_false_eq_true, ← decide_not, Decidable.not_not, ydt, ydu, ydz, ydv, ydw, List.drop_zero, eq_self, Bool.false_eq_true, List.getElem?_toArray, yea, yeb, List.nil_append, List.cons_append, Bool.false_and, Int.reduceEq, Int.reduceLT, Int.reduceLE, Int.reduceNe, zbc, zbb, yec, yed, yee, yef, ydx, ydy, p2, p3, g0, g1, Int.toNat_natCast, Nat.mul_one, h3, h4, h3', h4', e]
          refine k0 _ p1 fun hh => e ?_
          rw [hh.2.2.2, hy] at hx
          injection hx with hx
          exact hx.symm
  · have hn : ¬ l.Eqv m := fun hh => c ⟨hh.1, hh.2.1, hh.2.2.1, by rw [hh.2.2.2]⟩
    have k0' := fun H' hf => k0 H' hf hn
    clear k0 k1 hn h h'
    unfold F148
    (repeat' (first | simp only [↓yaa, ↓yab, ↓yac, ↓yad, ↓yae, ↓yaf, ↓yag, ↓yah, ↓yai, ↓ydb, ↓ydc, ↓ydd, ↓yde, ↓ydf, ↓ydg, ↓yao, ↓yap, ↓ydh, ↓ydi, ↓ydj, ↓ydk, ↓ydl, ↓ydm, ↓ydn, ↓ydo, ↓ydp, ↓yax, yay, yaz, yba, ybb, ybc, ybd, ybe, ybf, ybg, ybh, ybi, ybj, ybk, ybl, ybm, ybn, ybo, ybp, ybq, ybr, ybs, ybt, ybu, ybv, ares, tup, ybw, ybx, yby, argsE, dval, aop, ev, evs, evo, evp, fillL, addrOf, intOf?, ybz, yca, ycb, ycc, ycd, yce, ycf, zah, zag, reduceIte, Nat.reduceEqDiff, ycg, ych, yci, ycj, yck, ycl, ycm, ycn, yco, ycp, ycq, ycr, zap, zao, reduceCtorEq, zbb, zbc, zba, zaz, Nat.reduceAdd, Nat.reduceMul, zaq, zar, eqPtr, zae, zaf, zab, zaa, zac, zad, hload, hstore, zal, zam, Nat.reduceAdd, Nat.reduceLeDiff, zbb, zas, zat, one, zau, zaw, zav, splice, zaj, zak, zab, zaa, ycs, yct, ycu, ycv, ycw, ycx, ycy, ycz, zan, zai, zax, zay, and_self, true_and, and_true, lenV, yda, Nat.le_refl, if_true, ydq, ydr, yds, ne_eq, not_true_eq_false, not_false_eq_true, ← decide_not, Decidable.not_not, ydt, ydu, ydz, ydv, ydw, List.drop_zero, eq_self, Bool.false_eq_true, List.getElem?_toArray, yea, yeb, List.nil_append, List.cons_append, Bool.false_and, Int.reduceEq, Int.reduceLT, Int.reduceLE, Int.reduceNe, zbc, zbb, yec, yed, yee, yef, ydx, ydy, *] | refine yeg (fun _ => ?_) (fun _ => ?_) | refine yeh (fun _ => ?_) (fun _ => ?_) | refine yei (fun _ => ?_) (fun _ => ?_) | refine yej (fun _ => ?_) (fun _ => ?_) | refine yek (fun _ => ?_) (fun _ => ?_) | refine yel (fun _ => ?_) (fun _ => ?_)))
    all_goals first | exact k0' _ (hf0 _ _) | (exfalso; clear k0' hf0; omega)

theorem take7 (a b c d e f g : Value) : List.take 7 [a, b, c, d, e, f, g] = [a, b, c, d, e, f, g] := rfl
theorem list7 (a b c d e f g : Value) : [a, b, c, d, e, f, g].toArray = #[a, b, c, d, e, f, g] := rfl
theorem beq_dec (a b : Bool) : (a == b) = decide (a = b) := by cases a <;> cases b <;> rfl
open Classical in
theorem f126 {H : Heap} {a a' : Option Addr} {z z' : Nat} {o p : Off} (h : SI H a z o.next.ch) (h' : SI H a' z' p.next.ch) (hl : o.next.ch.length < 1000000000) {K : Value → Heap → Prop} (hk : ∀ H', Frm [] H H' → K (.bool (decide (o.Eqv p))) H') : Op1 (AC tbl 126 [o.v a z, p.v a' z'] H) K := by
  apply AC_wp (F := F126) rfl (by simp [F126]) (.inl rfl)
  have hf0 : ∀ b c, Frm [] H (H ++ [b] ++ [c]) := fun b c => ((Frm.refl _ _).push b).push c
  have k0 : ∀ H', Frm [] H H' → ¬ o.Eqv p → K (.bool false) H' := fun H' hf hh => by have := hk H' hf; rwa [decide_eq_false hh] at this
  have hlv : o.next.v a z = .agg #[.int .i64 o.next.ver, .int .i64 o.next.first, .int .i64 o.next.til, .slice a o.next.ch.length z] := rfl
  have hlv' : p.next.v a' z' = .agg #[.int .i64 p.next.ver, .int .i64 p.next.first, .int .i64 p.next.til, .slice a' p.next.ch.length z'] := rfl
  unfold Off.v
  by_cases c1 : o.root = p.root
  · by_cases c2 : o.opn = p.opn
    · by_cases c3 : o.run = p.run
      · have he : decide (o.Eqv p) = decide (o.next.Eqv p.next) := by simp only [Off.Eqv, c1, c2, c3, true_and]
        simp only [F126, ↓yaa, ↓yab, ↓yac, ↓yad, ↓yae, ↓yaf, ↓yag, ↓yah, ↓yai, ↓ydb, ↓ydc, ↓ydd, ↓yde, ↓ydf, ↓ydg, ↓yao, ↓yap, ↓ydh, ↓ydi, ↓ydj, ↓ydk, ↓ydl, ↓ydm, ↓ydn, ↓ydo, ↓ydp, ↓yax, yay, yaz, yba, ybb, ybc, ybd, ybe, ybf, ybg, ybh, ybi, ybj, ybk, ybl, ybm, ybn, ybo, ybp, ybq, ybr, ybs, ybt, ybu, ybv, ares, tup, ybw, ybx, yby, argsE, dval, aop, ev, evs, evo, evp, fillL, addrOf, intOf?, ybz, yca, ycb, ycc, ycd, yce, ycf, zah, zag, reduceIte, Nat.reduceEqDiff, ycg, ych, yci, ycj, yck, ycl, ycm, ycn, yco, ycp, ycq, ycr, zap, zao, reduceCtorEq, zbb, zbc, zba, zaz, Nat.reduceAdd, Nat.reduceMul, zaq, zar, eqPtr, zae, zaf, zab, zaa, zac, zad, hload, hstore, zal, zam, Nat.reduceAdd, Nat.reduceLeDiff, zbb, zas, zat, one, zau, zaw, zav, splice, zaj, zak, zab, zaa, ycs, yct, ycu, ycv, ycw, ycx, ycy, ycz, zan, zai, zax, zay, and_self, true_and, and_true, lenV, yda, Nat.le_refl, if_true, ydq, ydr, yds, ne_eq, not_true_eq_false, not_false_eq_true, ← decide_not, Decidable.not_not, ydt, ydu, ydz, ydv, ydw, List.drop_zero, eq_self, Bool.false_eq_true, List.getElem?_toArray, yea, yeb, List.nil_append, List.cons_append, Bool.false_and, Int.reduceEq, Int.reduceLT, Int.reduceLE, Int.reduceNe, zbc, zbb, yec, yed, yee, yef, ydx, ydy, c1, c2, c3, beq_dec, binV_strEq, take4', list4', Nat.reduceLeDiff]
        rw [← hlv, ← hlv']
        refine f148 ((h.push _).push _) ((h'.push _).push _) hl fun H1 hf1 => ?_
        simp only [↓yaa, ↓yab, ↓yac, ↓yad, ↓yae, ↓yaf, ↓yag, ↓yah, ↓yai, ↓ydb, ↓ydc, ↓ydd, ↓yde, ↓ydf, ↓ydg, ↓yao, ↓yap, ↓ydh, ↓ydi, ↓ydj, ↓ydk, ↓ydl, ↓ydm, ↓ydn, ↓ydo, ↓ydp, ↓yax, yay, yaz, yba, ybb, ybc, ybd, ybe, ybf, ybg, ybh, ybi, ybj, ybk, ybl, ybm, ybn, ybo, ybp, ybq, ybr, ybs, ybt, ybu, ybv, ares, tup, ybw, ybx, yby, argsE, dval, aop, ev, evs, evo, evp, fillL, addrOf, intOf?, ybz, yca, ycb, ycc, ycd, yce, ycf, zah, zag, reduceIte, Nat.reduceEqDiff, ycg, ych, yci, ycj, yck, ycl, ycm, ycn, yco, ycp, ycq, ycr, zap, zao, reduceCtorEq, zbb, zbc, zba, zaz, Nat.reduceAdd, Nat.reduceMul, zaq, zar, eqPtr, zae, zaf, zab, zaa, zac, zad, hload, hstore, zal, zam, Nat.reduceAdd, Nat.reduceLeDiff, zbb, zas, zat, one, zau, zaw, zav, splice, zaj, zak, zab, zaa, ycs, yct, ycu, ycv, ycw, ycx, ycy, ycz, zan, zai, zax, zay, and_self, true_and, and_true, lenV, yda, Nat.le_refl, if_true, ydq, ydr, yds, ne_eq, not_true_eq_false, not_false_eq_true, ← decide_not, Decidable.not_not, ydt, ydu, ydz, ydv, ydw, List.drop_zero, eq_self, Bool.false_eq_true, List.getElem?_toArray, yea, yeb, List.nil_append, List.cons_append, Bool.false_and, Int.reduceEq, Int.reduceLT, Int.reduceLE, Int.reduceNe, zbc, zbb, yec, yed, yee, yef, ydx, ydy]
        rw [← he]
        exact hk _ ((hf0 _ _).then hf1)
      · simp only [F126, ↓yaa, ↓yab, ↓yac, ↓yad, ↓yae, ↓yaf, ↓yag, ↓yah, ↓yai, ↓ydb, ↓ydc, ↓ydd, ↓yde, ↓ydf, ↓ydg, ↓yao, ↓yap, ↓ydh, ↓ydi, ↓ydj, ↓ydk, ↓ydl, ↓ydm, ↓ydn, ↓ydo, ↓ydp, ↓yax, yay, yaz, yba, ybb, ybc, ybd, ybe, ybf, ybg, ybh, ybi, ybj, ybk, ybl, ybm, ybn, ybo, ybp, ybq, ybr, ybs, ybt, ybu, ybv, ares, tup, ybw, ybx, yby, argsE, dval, aop, ev, evs, evo, evp, fillL, addrOf, intOf?, ybz, yca, ycb, ycc, ycd, yce, ycf, zah, zag, reduceIte, Nat.reduceEqDiff, ycg, ych, yci, ycj, yck, ycl, ycm, ycn, yco, ycp, ycq, ycr, zap, zao, reduceCtorEq, zbb, zbc, zba, zaz, Nat.reduceAdd, Nat.reduceMul, zaq, zar, eqPtr, zae, zaf, zab, zaa, zac, zad, hload, hstore, zal, zam, Nat.reduceAdd, Nat.reduceLeDiff, zbb, zas, zat, one, zau, zaw, zav, splice, zaj, zak, zab, zaa, ycs, yct, ycu, ycv, ycw, ycx, ycy, ycz, zan, zai, zax, zay, and_self, true_and, and_true, lenV, yda, Nat.le_refl, if_true, ydq, ydr, yds, ne_eq, not_true_eq_false, not_false_eq_true, ← decide_not, Decidable.not_not, ydt, ydu, ydz, ydv, ydw, List.drop_zero, eq_self, Bool.false_eq_true, List.getElem?_toArray, yea, yeb, List.nil_append, List.cons_append, Bool.false_and, Int.reduceEq, Int.reduceLT, Int.reduceLE, Int.reduceNe, zbc, zbb, yec, yed, yee, yef, ydx, ydy, c1, c2, c3, beq_dec, binV_strEq]
        exact k0 _ (hf0 _ _) fun hh => c3 hh.2.2.1
    · simp only [F126, ↓yaa, ↓yab, ↓yac, ↓yad, ↓yae, ↓yaf, ↓yag, ↓yah, ↓yai, ↓ydb, ↓ydc, ↓ydd, ↓yde, ↓ydf, ↓ydg, ↓yao, ↓yap, ↓ydh, ↓ydi, ↓ydj, ↓ydk, ↓ydl, ↓ydm, ↓ydn, ↓ydo, ↓ydp, ↓yax, yay, yaz, yba, ybb, ybc, ybd, ybe, ybf, ybg, ybh, ybi, ybj, ybk, ybl, ybm, ybn, ybo, ybp, ybq, ybr, ybs, ybt, ybu, ybv, ares, tup, ybw, ybx, yby, argsE, dval, aop, ev, evs, evo, evp, fillL, addrOf, intOf?, ybz, yca, ycb, ycc, ycd, yce, ycf, zah, zag, reduceIte, Nat.reduceEqDiff, ycg, ych, yci, ycj, yck, ycl, ycm, ycn, yco, ycp, ycq, ycr, zap, zao, reduceCtorEq, zbb, zbc, zba, zaz, Nat.reduceAdd, Nat.reduceMul, zaq, zar, eqPtr, zae, zaf, zab, zaa, zac, zad, hload, hstore, zal, zam, Nat.reduceAdd, Nat.reduceLeDiff, zbb, zas, zat, one, zau, zaw, zav, splice, zaj, zak, zab, zaa, ycs, yct, ycu, ycv, ycw, ycx, ycy, ycz, zan, zai, zax, zay, and_self, true_and, and_true, lenV, yda, Nat.le_refl, if_true, ydq, ydr, yds, ne_eq, not_true_eq_false, not_false_eq_true, ← decide_not, Decidable.not_not, ydt, ydu, ydz, ydv, ydw, List.drop_zero, eq_self, Bool.false_eq_true, List.getElem?_toArray, yea, yeb, List.nil_append, List.cons_append, Bool.false_and, Int.reduceEq, Int.reduceLT, Int.reduceLE, Int.reduceNe, zbc, zbb, yec, yed, yee, yef, ydx, ydy, c1, c2, beq_dec]
      exact k0 _ (hf0 _ _) fun hh => c2 hh.2.1
  · simp only [F126, ↓yaa, ↓yab, ↓yac, ↓yad, ↓yae, ↓yaf, ↓yag, ↓yah, ↓yai, ↓ydb, ↓ydc, ↓ydd, ↓yde, ↓ydf, ↓ydg, ↓yao, ↓yap, ↓ydh, ↓ydi, ↓ydj, ↓ydk, ↓ydl, ↓ydm, ↓ydn, ↓ydo, ↓ydp, ↓yax, yay, yaz, yba, ybb, ybc, ybd, ybe, ybf, ybg, ybh, ybi, ybj, ybk, ybl, ybm, ybn, ybo, ybp, ybq, ybr, ybs, ybt, ybu, ybv, ares, tup, ybw, ybx, yby, argsE, dval, aop, ev, evs, evo, evp, fillL, addrOf, intOf?, ybz, yca, ycb, ycc, ycd, yce, ycf, zah, zag, reduceIte, Nat.reduceEqDiff, ycg, ych, yci, ycj, yck, ycl, ycm, ycn, yco, ycp, ycq, ycr, zap, zao, reduceCtorEq, zbb, zbc, zba, zaz, Nat.reduceAdd, Nat.reduceMul, zaq, zar, eqPtr, zae, zaf, zab, zaa, zac, zad, hload, hstore, zal, zam, Nat.reduceAdd, Nat.reduceLeDiff, zbb, zas, zat, one, zau, zaw, zav, splice, zaj, zak, zab, zaa, ycs, yct, ycu, ycv, ycw, ycx, ycy, ycz, zan, zai, zax, zay, and_self, true_and, and_true, lenV, yda, Nat.le_refl, if_true, ydq, ydr, yds, ne_eq, not_true_eq_false, not_false_eq_true, ← decide_not, Decidable.not_not, ydt, ydu, ydz, ydv, ydw, List.drop_zero, eq_self, Bool.false_eq_true, List.getElem?_toArray, yea, yeb, List.nil_append, List.cons_append, Bool.false_and, Int.reduceEq, Int.reduceLT, Int.reduceLE, Int.reduceNe, zbc, zbb, yec, yed, yee, yef, ydx, ydy, c1]
    exact k0 _ (hf0 _ _) fun hh => c1 hh.1

def Off.Few (o : Off) : Prop := (o.run.size : Int) ≤ 100 ∧ (o.next.ch.length : Int) ≤ 40
instance (o : Off) : Decidable o.Few := by unfold Off.Few; infer_instance
theorem f110 {H : Heap} {a : Option Addr} {z : Nat} {o : Off} : AC tbl 110 [o.v a z] H = some (.bool (decide o.Few), H ++ [some ⟨true, [.int .i64 o.root, .bool o.opn, .string o.run, .int .i64 o.next.ver, .int .i64 o.next.first, .int .i64 o.next.til, .slice a o.next.ch.length z]⟩]) := by
  apply AC_eq
  apply AC_wp (F := F110) rfl (by simp [F110]) (.inl rfl)
  unfold F110 Off.v
  (repeat' (first | simp only [↓yaa, ↓yab, ↓yac, ↓yad, ↓yae, ↓yaf, ↓yag, ↓yah, ↓yai, ↓ydb, ↓ydc, ↓ydd, ↓yde, ↓ydf, ↓ydg, ↓yao, ↓yap, ↓ydh, ↓ydi, ↓ydj, ↓ydk, ↓ydl, ↓ydm, ↓ydn, ↓ydo, ↓ydp, ↓yax, yay, yaz, yba, ybb, ybc, ybd, ybe, ybf, ybg, ybh, ybi, ybj, ybk, ybl, ybm, ybn, ybo, ybp, ybq, ybr, ybs, ybt, ybu, ybv, ares, tup, ybw, ybx, yby, argsE, dval, aop, ev, evs, evo, evp, fillL, addrOf, intOf?, ybz, yca, ycb, ycc, ycd, yce, ycf, zah, zag, reduceIte, Nat.reduceEqDiff, ycg, ych, yci, ycj, yck, ycl, ycm, ycn, yco, ycp, ycq, ycr, zap, zao, reduceCtorEq, zbb, zbc, zba, zaz, Nat.reduceAdd, Nat.reduceMul, zaq, zar, eqPtr, zae, zaf, zab, zaa, zac, zad, hload, hstore, zal, zam, Nat.reduceAdd, Nat.reduceLeDiff, zbb, zas, zat, one, zau, zaw, zav, splice, zaj, zak, zab, zaa, ycs, yct, ycu, ycv, ycw, ycx, ycy, ycz, zan, zai, zax, zay, and_self, true_and, and_true, lenV, yda, Nat.le_refl, if_true, ydq, ydr, yds, ne_eq, not_true_eq_false, not_false_eq_true, ← decide_not, Decidable.not_not, ydt, ydu, ydz, ydv, ydw, List.drop_zero, eq_self, Bool.false_eq_true, List.getElem?_toArray, yea, yeb, List.nil_append, List.cons_append, Bool.false_and, Int.reduceEq, Int.reduceLT, Int.reduceLE, Int.reduceNe, zbc, zbb, yec, yed, yee, yef, ydx, ydy, Nat.reduceAdd, *] | refine yeg (fun _ => ?_) (fun _ => ?_) | refine yeh (fun _ => ?_) (fun _ => ?_) | refine yei (fun _ => ?_) (fun _ => ?_) | refine yej (fun _ => ?_) (fun _ => ?_) | refine yek (fun _ => ?_) (fun _ => ?_) | refine yel (fun _ => ?_) (fun _ => ?_)))
  all_goals ((try simp only [true_and, and_true, false_and, and_false, or_true, true_or, false_or, or_false, not_true_eq_false, not_false_eq_true, and_self, or_self]) <;> first | rfl | (exact vb_t (by unfold Off.Few; omega)) | (exact vb_f (by unfold Off.Few; omega)) | (exact vb_iff (by unfold Off.Few; omega)) | (exfalso; omega))

end Go.Proofs.Ytejcabdejoameaa.AI

/- Fields, and how the law writes and reads them. -/
set_option linter.unusedSimpArgs false
namespace Go.Proofs.Ytejcabdejoameaa.AI
open Go

structure Fld where
  kind : Int
  width : Int
  n : Int
  s : ByteArray
def Fld.cells (f : Fld) : List Value := [.int .i64 f.kind, .int .i64 f.width, .int .i64 f.n, .string f.s]
def Fld.v (f : Fld) : Value := .agg #[.int .i64 f.kind, .int .i64 f.width, .int .i64 f.n, .string f.s]
structure Fld.Ok (f : Fld) : Prop where
  kind : Is64 f.kind
  width : Is64 f.width
  n : Is64 f.n
  size : f.s.size ≤ 100000

def WS.write (s : WS) (f : Fld) : WS :=
  if f.kind = 0 then s.unsigned f.width f.n else if f.kind = 1 then s.signed f.width f.n else if f.kind = 2 then s.flag (decide (f.n ≠ 0)) else if f.kind = 3 then s.text f.width f.s else s

theorem Wrote.push {H : Heap} {p : Nat} {o : Option Nat} {s : WS} {K : Value → Heap → Prop} (b : Option Blk) (h : Wrote H p o s K) : Wrote (H ++ [b]) p o s (fun _ H1 => K (.tuple #[]) H1) := by
  intro H' o' k1 k2 k3
  refine h H' o' k1 (((Frm.refl _ _).push b).trans k2 (fun i hi => .inl hi)) fun q hq => ?_
  rcases k3 q hq with k | k
  · exact .inl k
  · right; rw [zai] at k; omega
theorem WSt.push {H : Heap} {p : Nat} {o : Option Nat} {bs : List Bool} {err : Int} (h : WSt H p o bs err) (b : Option Blk) : WSt (H ++ [b]) p o bs err :=
  h.frame (O := []) ((Frm.refl _ _).push b) (by simp) (by simp)

def RS.read (r : RS) (f : Fld) : Fld × RS :=
  if f.kind = 0 then ({ f with n := (r.unsigned f.width).1, s := ⟨#[]⟩ }, (r.unsigned f.width).2)
  else if f.kind = 1 then ({ f with n := (r.signed f.width).1, s := ⟨#[]⟩ }, (r.signed f.width).2)
  else if f.kind = 2 then (⟨f.kind, 0, if r.flag.1 then 1 else 0, ⟨#[]⟩⟩, r.flag.2)
  else if f.kind = 3 then ({ f with n := 0, s := (r.text f.width).1 }, (r.text f.width).2)
  else (f, r)

end Go.Proofs.Ytejcabdejoameaa.AI

/- The reference writer's memory, and a field's bits laid into it. -/
set_option linter.unusedSimpArgs false
namespace Go.Proofs.Ytejcabdejoameaa.AI
open Go

/-- Bits, a byte each. -/
def bn (bs : List Bool) : List Nat := bs.map Bool.toNat
theorem bn_length (bs : List Bool) : (bn bs).length = bs.length := by simp [bn]
theorem bn_append (a b : List Bool) : bn a ++ bn b = bn (a ++ b) := by simp [bn]

structure VSt (H : Heap) (p : Nat) (o : Option Nat) (bs : List Bool) (err : Int) : Prop where
  blk : hget H p = some ⟨true, [sliceOf o (bn bs), .int .i64 err]⟩
  nil : o = none → bs = []
  dat : ∀ q, o = some q → q ≠ p ∧ hget H q = some ⟨true, u8s (bn bs)⟩
theorem VSt.frame {H H' : Heap} {p : Nat} {o : Option Nat} {bs : List Bool} {err : Int} (h : VSt H p o bs err) {O : List Nat} (f : Frm O H H') (hp : p ∉ O) (ho : ∀ q, o = some q → q ∉ O) : VSt H' p o bs err := by
  refine ⟨?_, h.nil, fun q hq => ⟨(h.dat q hq).1, ?_⟩⟩
  · rw [f.2 p (hget_lt h.blk) hp]; exact h.blk
  · rw [f.2 q (hget_lt (h.dat q hq).2) (ho q hq)]; exact (h.dat q hq).2
theorem VSt.push {H : Heap} {p : Nat} {o : Option Nat} {bs : List Bool} {err : Int} (h : VSt H p o bs err) (b : Option Blk) : VSt (H ++ [b]) p o bs err :=
  h.frame (O := []) ((Frm.refl _ _).push b) (by simp) (by simp)
theorem VSt.setErr {H : Heap} {p : Nat} {o : Option Nat} {bs : List Bool} {err : Int} (h : VSt H p o bs err) (err' : Int) :
    VSt (H.set p (some ⟨true, [sliceOf o (bn bs), .int .i64 err']⟩)) p o bs err' := by
  refine ⟨yen (hget_lt h.blk), h.nil, fun q hq => ⟨(h.dat q hq).1, ?_⟩⟩
  rw [yeo (Ne.symm (h.dat q hq).1)]; exact (h.dat q hq).2

/-- Behind a reference writer's method. -/
def VWrote (H : Heap) (p : Nat) (o : Option Nat) (s : WS) (K : Value → Heap → Prop) : Prop :=
  ∀ H' o', VSt H' p o' s.bs s.err → Frm (p :: o.toList) H H' → (∀ q, o' = some q → o = some q ∨ H.length ≤ q) → K (.tuple #[]) H'

theorem shrI (n : Int) (s : Nat) (hs : s ≤ 64) : binV .shr (.int .i64 n) (.int .i64 (s : Int)) = some (.int .i64 (n / 2 ^ s)) := by
  rw [binV_shr _ _ _ _ (by omega), show min ((s : Int)).toNat IntKind.i64.bits = s by simp [IntKind.bits]; omega, Int.fdiv_eq_ediv_of_nonneg _ (Int.pow_nonneg (by omega))]
theorem and1I (a : Int) : binV .and (.int .i64 a) (.int .i64 1) = some (.int .i64 (a % 2)) := by
  rw [binV_and]
  have : (BitVec.ofInt IntKind.i64.bits a &&& BitVec.ofInt IntKind.i64.bits 1).toNat = (a % 18446744073709551616).toNat % 2 := by
    rw [BitVec.toNat_and]
    simp only [BitVec.toNat_ofInt, IntKind.bits]
    rw [show ((2 ^ 64 : Nat) : Int) = 18446744073709551616 by decide, show ((1 : Int) % 18446744073709551616).toNat = 1 by decide, Nat.and_one_is_mod]
  rw [this, wrap_i64 (by omega) (by omega)]
  congr 2; omega
theorem bit_int (n : Int) (k : Nat) (hk : k < 64) : (n / 2 ^ k) % 2 = (((u64 n).testBit k).toNat : Int) := by
  rw [← testBit_mod]
  obtain ⟨m, hm⟩ : ∃ m, 64 = k + (m + 1) := ⟨63 - k, by omega⟩
  have h64 : (18446744073709551616 : Int) = 2 ^ k * (2 * 2 ^ m) := by
    rw [show (18446744073709551616 : Int) = 2 ^ 64 by decide, hm, Int.pow_add, Int.pow_succ, Int.mul_comm (2 ^ m) 2]
  have hu : ((u64 n : Nat) : Int) = n % 18446744073709551616 := by unfold u64; omega
  have hn := Int.emod_add_mul_ediv n 18446744073709551616
  have hpos : (2 : Int) ^ k ≠ 0 := by have := pow_pos' k; omega
  rw [Int.natCast_emod, Int.natCast_ediv, ← pow_cast', hu]
  generalize hr : n % 18446744073709551616 = r at *
  generalize n / 18446744073709551616 = q at *
  rw [← hn, h64, Int.mul_assoc, Int.add_mul_ediv_left _ _ hpos]
  generalize r / 2 ^ k = x
  rw [Int.mul_assoc]
  generalize 2 ^ m * q = y
  omega
where pow_cast' {k : Nat} : (2 : Int) ^ k = ((2 ^ k : Nat) : Int) := by push_cast; rfl

theorem wrap_bitI (b : Bool) : IntKind.u8.wrap ((b.toNat : Nat) : Int) = ((b.toNat : Nat) : Int) := by cases b <;> rfl
theorem u8s_one (x : Nat) : [Value.int .u8 (x : Int)] = u8s [x] := rfl

theorem vput_spec {H : Heap} {p : Nat} {o : Option Nat} {bs : List Bool} {err n : Int} {w : Nat} (hw : w ≤ 64) (hlen : bs.length + w < 600000) (h : VSt H p o bs err) (K : Value → Heap → Prop)
    (hk : ∀ H' o', VSt H' p o' (bs ++ bitsOf w (u64 n)) err → Frm (p :: o.toList) H H' → (∀ q, o' = some q → o = some q ∨ H.length ≤ q) → K (.tuple #[]) H') :
    Op1 (AC tbl 59 [.pointer (some ⟨p, 0, none⟩), .int .i64 (w : Int), .int .i64 n] H) K := by
  apply AC_wp (F := F59) rfl (by simp [F59]) (.inl rfl)
  have hw0 : IntKind.i64.wrap ((w : Int) - 1) = (w : Int) - 1 := wrap_i64 (by omega) (by omega)
  simp only [F59, ↓yaa, ↓yab, ↓yac, ↓yad, ↓yae, ↓yaf, ↓yag, ↓yah, ↓yai, ↓yaj, ↓yak, ↓yal, ↓yam, ↓yan, ↓yao, ↓yap, ↓yaq, ↓yar, ↓yas, ↓yat, ↓yau, ↓yav, ↓yaw, ↓yax, yay, yaz, yba, ybb, ybc, ybd, ybe, ybf, ybg, ybh, ybi, ybj, ybk, ybl, ybm, ybn, ybo, ybp, ybq, ybr, ybs, ybt, ybu, ybv, ares, tup, ybw, ybx, yby, argsE, dval, aop, ev, evs, evo, evp, fillL, addrOf, intOf?, ybz, yca, ycb, ycc, ycd, yce, ycf, zah, zag, reduceIte, Nat.reduceEqDiff, ycg, ych, yci, ycj, yck, ycl, ycm, ycn, yco, ycp, ycq, ycr, zap, zao, reduceCtorEq, zbb, zbc, zba, zaz, Nat.reduceAdd, Nat.reduceMul, zaq, zar, eqPtr, zae, zaf, zab, zaa, zac, zad , hw0]
  apply AW_loop_inv (fun j e H1 => e = [(0, .pointer (some ⟨p, 0, none⟩)), (2, .int .i64 n), (6, .int .i64 ((j : Int) - 1))] ∧ j ≤ w ∧ ∃ bs1 o1, VSt H1 p o1 bs1 err ∧ bs1 ++ bitsOf j (u64 n) = bs ++ bitsOf w (u64 n) ∧ Frm (p :: o.toList) H H1 ∧ (∀ q, o1 = some q → o = some q ∨ H.length ≤ q)) _ w
  · exact ⟨rfl, Nat.le_refl _, bs, o, h, rfl, Frm.refl _ _, fun q hq => .inl hq⟩
  · rintro j e H1 ⟨rfl, hjw, bs1, o1, h1, h2, h3, h4⟩
    have hl : bs1.length + j = bs.length + w := by
      have := congrArg List.length h2
      simpa [bitsOf_length] using this
    cases j with
    | zero =>
      have g0 : ¬ (0 : Int) ≤ ((0 : Nat) : Int) - 1 := by omega
      simp only [↓yaa, ↓yab, ↓yac, ↓yad, ↓yae, ↓yaf, ↓yag, ↓yah, ↓yai, ↓yaj, ↓yak, ↓yal, ↓yam, ↓yan, ↓yao, ↓yap, ↓yaq, ↓yar, ↓yas, ↓yat, ↓yau, ↓yav, ↓yaw, ↓yax, yay, yaz, yba, ybb, ybc, ybd, ybe, ybf, ybg, ybh, ybi, ybj, ybk, ybl, ybm, ybn, ybo, ybp, ybq, ybr, ybs, ybt, ybu, ybv, ares, tup, ybw, ybx, yby, argsE, dval, aop, ev, evs, evo, evp, fillL, addrOf, intOf?, ybz, yca, ycb, ycc, ycd, yce, ycf, zah, zag, reduceIte, Nat.reduceEqDiff, ycg, ych, yci, ycj, yck, ycl, ycm, ycn, yco, ycp, ycq, ycr, zap, zao, reduceCtorEq, zbb, zbc, zba, zaz, Nat.reduceAdd, Nat.reduceMul, zaq, zar, eqPtr, zae, zaf, zab, zaa, zac, zad , g0]
      refine hk _ o1 ?_ h3 h4
      rw [← h2]; simpa [bitsOf] using h1
    | succ j =>
      have g0 : (0 : Int) ≤ ((j + 1 : Nat) : Int) - 1 := by omega
      have g1 : ((j + 1 : Nat) : Int) - 1 = (j : Int) := by omega
      have g2 : IntKind.i64.wrap ((j : Int) - 1) = (j : Int) - 1 := wrap_i64 (by omega) (by omega)
      have hp := h1.blk
      have hpl := hget_lt hp
      have hpl1 : p < H1.length + 1 := by omega
      have heq : (bs1 ++ [(u64 n).testBit j]) ++ bitsOf j (u64 n) = bs ++ bitsOf w (u64 n) := by rw [← h2]; simp [bitsOf]
      rw [g1] at g0 ⊢
      cases o1 with
      | none =>
        have hnil := h1.nil rfl
        subst hnil
        simp only [↓yaa, ↓yab, ↓yac, ↓yad, ↓yae, ↓yaf, ↓yag, ↓yah, ↓yai, ↓yaj, ↓yak, ↓yal, ↓yam, ↓yan, ↓yao, ↓yap, ↓yaq, ↓yar, ↓yas, ↓yat, ↓yau, ↓yav, ↓yaw, ↓yax, yay, yaz, yba, ybb, ybc, ybd, ybe, ybf, ybg, ybh, ybi, ybj, ybk, ybl, ybm, ybn, ybo, ybp, ybq, ybr, ybs, ybt, ybu, ybv, ares, tup, ybw, ybx, yby, argsE, dval, aop, ev, evs, evo, evp, fillL, addrOf, intOf?, ybz, yca, ycb, ycc, ycd, yce, ycf, zah, zag, reduceIte, Nat.reduceEqDiff, ycg, ych, yci, ycj, yck, ycl, ycm, ycn, yco, ycp, ycq, ycr, zap, zao, reduceCtorEq, zbb, zbc, zba, zaz, Nat.reduceAdd, Nat.reduceMul, zaq, zar, eqPtr, zae, zaf, zab, zaa, zac, zad , hload, hstore, zal, zam, Nat.reduceAdd, Nat.reduceLeDiff, zbb, zas, zat, one, zau, zaw, zav, splice, zaj, zak, zab, zaa, ycs, yct, ycu, ycv, ycw, ycx, ycy, ycz, zan, zai, zax, zay, and_self, true_and, and_true, lenV, yda, Nat.le_refl, if_true , g0, g2, shrI n j (by omega), and1I, bit_int n j (by omega), wrap_bitI, hp, sliceOf, ydu, List.drop_zero, take1, yem, hpl, hpl1]
        refine ⟨j, by omega, rfl, by omega, _, some (H1.length + 1), ⟨?_, fun h => by simp at h, fun q hq => ?_⟩, heq, ?_, fun q hq => ?_⟩
        · rw [yen (by simp; omega)]; rfl
        · injection hq with hq
          subst hq
          refine ⟨by omega, ?_⟩
          rw [yeo (by omega), hget_app]
          simp; rfl
        · exact ((h3.push _).push _).set _ (.inl (by simp))
        · injection hq with hq; right; have := h3.1; omega
      | some q =>
        obtain ⟨hqp, hq2⟩ := h1.dat q rfl
        have hql := hget_lt hq2
        have hql1 : q < H1.length + 1 := by omega
        have hcap : (bn bs1).length * 1 = (u8s (bn bs1)).length ∧ ((bn bs1).length + 1) * 1 ≤ 1000000000 := by rw [u8s_length, bn_length]; omega
        simp only [↓yaa, ↓yab, ↓yac, ↓yad, ↓yae, ↓yaf, ↓yag, ↓yah, ↓yai, ↓yaj, ↓yak, ↓yal, ↓yam, ↓yan, ↓yao, ↓yap, ↓yaq, ↓yar, ↓yas, ↓yat, ↓yau, ↓yav, ↓yaw, ↓yax, yay, yaz, yba, ybb, ybc, ybd, ybe, ybf, ybg, ybh, ybi, ybj, ybk, ybl, ybm, ybn, ybo, ybp, ybq, ybr, ybs, ybt, ybu, ybv, ares, tup, ybw, ybx, yby, argsE, dval, aop, ev, evs, evo, evp, fillL, addrOf, intOf?, ybz, yca, ycb, ycc, ycd, yce, ycf, zah, zag, reduceIte, Nat.reduceEqDiff, ycg, ych, yci, ycj, yck, ycl, ycm, ycn, yco, ycp, ycq, ycr, zap, zao, reduceCtorEq, zbb, zbc, zba, zaz, Nat.reduceAdd, Nat.reduceMul, zaq, zar, eqPtr, zae, zaf, zab, zaa, zac, zad , hload, hstore, zal, zam, Nat.reduceAdd, Nat.reduceLeDiff, zbb, zas, zat, one, zau, zaw, zav, splice, zaj, zak, zab, zaa, ycs, yct, ycu, ycv, ycw, ycx, ycy, ycz, zan, zai, zax, zay, and_self, true_and, and_true, lenV, yda, Nat.le_refl, if_true , g0, g2, shrI n j (by omega), and1I, bit_int n j (by omega), wrap_bitI, hp, sliceOf, ydu, List.drop_zero, take1, yem, hpl, hpl1, hql, hq2, hcap, yeo hqp]
        refine ⟨j, by omega, rfl, by omega, _, some (H1.length + 1), ⟨?_, fun h => by simp at h, fun q' hq' => ?_⟩, heq, ?_, fun q' hq' => ?_⟩
        · rw [yen (by simp; omega)]; simp [sliceOf, bn]
        · injection hq' with hq'
          subst hq'
          refine ⟨by omega, ?_⟩
          rw [yeo (by omega), hget_app]
          simp [bn, u8s]
        · refine (((h3.push _).set _ ?_).push _).set _ (.inl (by simp))
          rcases h4 q rfl with h5 | h5
          · left; simp [h5]
          · right; exact h5
        · injection hq' with hq'; right; have := h3.1; omega

end Go.Proofs.Ytejcabdejoameaa.AI

/- The reference writer's methods. -/
set_option linter.unusedSimpArgs false
namespace Go.Proofs.Ytejcabdejoameaa.AI
open Go

theorem room_spec {H : Heap} {p : Nat} {o : Option Nat} {bs : List Bool} {err : Int} {w : Int} (h : VSt H p o bs err) (hlen : bs.length ≤ 524288) (hw : 0 ≤ w ∧ w ≤ 100000000000) {K : Value → Heap → Prop}
    (hk0 : err ≠ 0 → K (.bool false) H) (hk1 : err = 0 → 524288 < (bs.length : Int) + w → ∀ H', VSt H' p o bs 8 → Frm [p] H H' → K (.bool false) H') (hk2 : err = 0 → ¬ 524288 < (bs.length : Int) + w → K (.bool true) H) :
    Op1 (AC tbl 58 [.pointer (some ⟨p, 0, none⟩), .int .i64 w] H) K := by
  apply AC_wp (F := F58) rfl (by simp [F58]) (.inl rfl)
  have hp := h.blk
  have hpl := hget_lt hp
  by_cases h1 : err = 0
  · subst h1
    have hs : ∃ a z, sliceOf o (bn bs) = .slice a bs.length z := by
      cases o with
      | none => have := h.nil rfl; subst this; exact ⟨_, _, rfl⟩
      | some q => exact ⟨_, _, by simp only [sliceOf, bn_length]; rfl⟩
    obtain ⟨a, z, hs⟩ := hs
    have hset := h.setErr 8
    rw [hs] at hp hset
    have hwr : IntKind.i64.wrap ((bs.length : Int) + w) = (bs.length : Int) + w := wrap_i64 (by omega) (by omega)
    by_cases h2 : 524288 < (bs.length : Int) + w
    · have n8 : ¬ (8 : Int) = 0 := by omega
      simp only [F58, ↓yaa, ↓yab, ↓yac, ↓yad, ↓yae, ↓yaf, ↓yag, ↓yah, ↓yai, ↓yaj, ↓yak, ↓yal, ↓yam, ↓yan, ↓yao, ↓yap, ↓yaq, ↓yar, ↓yas, ↓yat, ↓yau, ↓yav, ↓yaw, ↓yax, yay, yaz, yba, ybb, ybc, ybd, ybe, ybf, ybg, ybh, ybi, ybj, ybk, ybl, ybm, ybn, ybo, ybp, ybq, ybr, ybs, ybt, ybu, ybv, ares, tup, ybw, ybx, yby, argsE, dval, aop, ev, evs, evo, evp, fillL, addrOf, intOf?, ybz, yca, ycb, ycc, ycd, yce, ycf, zah, zag, reduceIte, Nat.reduceEqDiff, ycg, ych, yci, ycj, yck, ycl, ycm, ycn, yco, ycp, ycq, ycr, zap, zao, reduceCtorEq, zbb, zbc, zba, zaz, Nat.reduceAdd, Nat.reduceMul, zaq, zar, eqPtr, zae, zaf, zab, zaa, zac, zad , hload, hstore, zal, zam, Nat.reduceAdd, Nat.reduceLeDiff, zbb, zas, zat, one, zau, zaw, zav, splice, zaj, zak, zab, zaa, ycs, yct, ycu, ycv, ycw, ycx, ycy, ycz, zan, zai, zax, zay, and_self, true_and, and_true, lenV, yda, Nat.le_refl, if_true , hp, hwr, h2, yen, hpl, n8]
      exact hk1 rfl h2 _ hset ((Frm.refl _ _).set _ (by simp))
    · simp only [F58, ↓yaa, ↓yab, ↓yac, ↓yad, ↓yae, ↓yaf, ↓yag, ↓yah, ↓yai, ↓yaj, ↓yak, ↓yal, ↓yam, ↓yan, ↓yao, ↓yap, ↓yaq, ↓yar, ↓yas, ↓yat, ↓yau, ↓yav, ↓yaw, ↓yax, yay, yaz, yba, ybb, ybc, ybd, ybe, ybf, ybg, ybh, ybi, ybj, ybk, ybl, ybm, ybn, ybo, ybp, ybq, ybr, ybs, ybt, ybu, ybv, ares, tup, ybw, ybx, yby, argsE, dval, aop, ev, evs, evo, evp, fillL, addrOf, intOf?, ybz, yca, ycb, ycc, ycd, yce, ycf, zah, zag, reduceIte, Nat.reduceEqDiff, ycg, ych, yci, ycj, yck, ycl, ycm, ycn, yco, ycp, ycq, ycr, zap, zao, reduceCtorEq, zbb, zbc, zba, zaz, Nat.reduceAdd, Nat.reduceMul, zaq, zar, eqPtr, zae, zaf, zab, zaa, zac, zad , hload, hstore, zal, zam, Nat.reduceAdd, Nat.reduceLeDiff, zbb, zas, zat, one, zau, zaw, zav, splice, zaj, zak, zab, zaa, ycs, yct, ycu, ycv, ycw, ycx, ycy, ycz, zan, zai, zax, zay, and_self, true_and, and_true, lenV, yda, Nat.le_refl, if_true , hp, hwr, h2]
      exact hk2 rfl h2
  · simp only [F58, ↓yaa, ↓yab, ↓yac, ↓yad, ↓yae, ↓yaf, ↓yag, ↓yah, ↓yai, ↓yaj, ↓yak, ↓yal, ↓yam, ↓yan, ↓yao, ↓yap, ↓yaq, ↓yar, ↓yas, ↓yat, ↓yau, ↓yav, ↓yaw, ↓yax, yay, yaz, yba, ybb, ybc, ybd, ybe, ybf, ybg, ybh, ybi, ybj, ybk, ybl, ybm, ybn, ybo, ybp, ybq, ybr, ybs, ybt, ybu, ybv, ares, tup, ybw, ybx, yby, argsE, dval, aop, ev, evs, evo, evp, fillL, addrOf, intOf?, ybz, yca, ycb, ycc, ycd, yce, ycf, zah, zag, reduceIte, Nat.reduceEqDiff, ycg, ych, yci, ycj, yck, ycl, ycm, ycn, yco, ycp, ycq, ycr, zap, zao, reduceCtorEq, zbb, zbc, zba, zaz, Nat.reduceAdd, Nat.reduceMul, zaq, zar, eqPtr, zae, zaf, zab, zaa, zac, zad , hload, hstore, zal, zam, Nat.reduceAdd, Nat.reduceLeDiff, zbb, zas, zat, one, zau, zaw, zav, splice, zaj, zak, zab, zaa, ycs, yct, ycu, ycv, ycw, ycx, ycy, ycz, zan, zai, zax, zay, and_self, true_and, and_true, lenV, yda, Nat.le_refl, if_true , hp, h1]
    exact hk0 h1

theorem VWrote.done {H : Heap} {p : Nat} {o : Option Nat} {s s' : WS} {K : Value → Heap → Prop} (hk : VWrote H p o s' K) {H' : Heap} (he : s' = s) (h : VSt H' p o s.bs s.err) (hf : Frm [p] H H') : K (.tuple #[]) H' := by
  subst he
  exact hk H' o h (hf.mono (by simp)) (fun q hq => .inl hq)

theorem vunsigned_spec {H : Heap} {p : Nat} {o : Option Nat} {s : WS} {w n : Int} (h : VSt H p o s.bs s.err) (hlen : s.bs.length ≤ 524288) (hn : Is64 n) {K : Value → Heap → Prop}
    (hk : VWrote H p o (s.unsigned w n) K) : Op1 (AC tbl 43 [.pointer (some ⟨p, 0, none⟩), .int .i64 w, .int .i64 n] H) K := by
  obtain ⟨hn0, hn1⟩ := hn
  apply AC_wp (F := F43) rfl (by simp [F43]) (.inl rfl)
  have hp := h.blk
  have hpl := hget_lt hp
  by_cases h1 : s.err = 0
  · have setE : ∀ err', K (.tuple #[]) (H.set p (some ⟨true, [sliceOf o (bn s.bs), .int .i64 err']⟩)) ∨ s.unsigned w n ≠ ⟨s.bs, err'⟩ := fun err' => by
      by_cases he : s.unsigned w n = ⟨s.bs, err'⟩
      · exact .inl (hk.done he (h.setErr err') ((Frm.refl _ _).set _ (by simp)))
      · exact .inr he
    rw [h1] at hp
    have rng : ¬ (1 ≤ w ∧ w ≤ 63) → s.unsigned w n = ⟨s.bs, 1⟩ := fun hh => by
      have : decide (1 ≤ w ∧ w ≤ 63) = false := by simpa using hh
      simp [WS.unsigned, WS.field, h1, this]
    have fits : (1 ≤ w ∧ w ≤ 63) → ¬ (0 ≤ n ∧ n < 2 ^ w.toNat) → s.unsigned w n = ⟨s.bs, 2⟩ := fun hh h2 => by
      have e1 : decide (1 ≤ w ∧ w ≤ 63) = true := by simpa using hh
      have e2 : decide ((1 ≤ w ∧ w ≤ 63) ∧ 0 ≤ n ∧ n < 2 ^ w.toNat) = false := by
        rw [decide_eq_false_iff_not]; exact fun x => h2 x.2
      simp only [WS.unsigned, WS.field, h1, e1, e2]; simp
    have good : (1 ≤ w ∧ w ≤ 63) → (0 ≤ n ∧ n < 2 ^ w.toNat) → s.unsigned w n = if 524288 < (s.bs.length : Int) + w then ⟨s.bs, 8⟩ else ⟨s.bs ++ bitsOf w.toNat (u64 n), 0⟩ := fun hh h2 => by
      have e1 : decide (1 ≤ w ∧ w ≤ 63) = true := by simpa using hh
      have e2 : decide ((1 ≤ w ∧ w ≤ 63) ∧ 0 ≤ n ∧ n < 2 ^ w.toNat) = true := by rw [decide_eq_true_eq]; exact ⟨hh, h2⟩
      simp only [WS.unsigned, WS.field, h1, e1, e2]; simp
    by_cases a1 : w < 1
    · simp only [F43, ↓yaa, ↓yab, ↓yac, ↓yad, ↓yae, ↓yaf, ↓yag, ↓yah, ↓yai, ↓yaj, ↓yak, ↓yal, ↓yam, ↓yan, ↓yao, ↓yap, ↓yaq, ↓yar, ↓yas, ↓yat, ↓yau, ↓yav, ↓yaw, ↓yax, yay, yaz, yba, ybb, ybc, ybd, ybe, ybf, ybg, ybh, ybi, ybj, ybk, ybl, ybm, ybn, ybo, ybp, ybq, ybr, ybs, ybt, ybu, ybv, ares, tup, ybw, ybx, yby, argsE, dval, aop, ev, evs, evo, evp, fillL, addrOf, intOf?, ybz, yca, ycb, ycc, ycd, yce, ycf, zah, zag, reduceIte, Nat.reduceEqDiff, ycg, ych, yci, ycj, yck, ycl, ycm, ycn, yco, ycp, ycq, ycr, zap, zao, reduceCtorEq, zbb, zbc, zba, zaz, Nat.reduceAdd, Nat.reduceMul, zaq, zar, eqPtr, zae, zaf, zab, zaa, zac, zad , hload, hstore, zal, zam, Nat.reduceAdd, Nat.reduceLeDiff, zbb, zas, zat, one, zau, zaw, zav, splice, zaj, zak, zab, zaa, ycs, yct, ycu, ycv, ycw, ycx, ycy, ycz, zan, zai, zax, zay, and_self, true_and, and_true, lenV, yda, Nat.le_refl, if_true , hp, h1, ne_eq, not_true_eq_false, a1]
      exact (setE 1).resolve_right (fun hh => hh (rng (by omega)))
    · by_cases a2 : 63 < w
      · simp only [F43, ↓yaa, ↓yab, ↓yac, ↓yad, ↓yae, ↓yaf, ↓yag, ↓yah, ↓yai, ↓yaj, ↓yak, ↓yal, ↓yam, ↓yan, ↓yao, ↓yap, ↓yaq, ↓yar, ↓yas, ↓yat, ↓yau, ↓yav, ↓yaw, ↓yax, yay, yaz, yba, ybb, ybc, ybd, ybe, ybf, ybg, ybh, ybi, ybj, ybk, ybl, ybm, ybn, ybo, ybp, ybq, ybr, ybs, ybt, ybu, ybv, ares, tup, ybw, ybx, yby, argsE, dval, aop, ev, evs, evo, evp, fillL, addrOf, intOf?, ybz, yca, ycb, ycc, ycd, yce, ycf, zah, zag, reduceIte, Nat.reduceEqDiff, ycg, ych, yci, ycj, yck, ycl, ycm, ycn, yco, ycp, ycq, ycr, zap, zao, reduceCtorEq, zbb, zbc, zba, zaz, Nat.reduceAdd, Nat.reduceMul, zaq, zar, eqPtr, zae, zaf, zab, zaa, zac, zad , hload, hstore, zal, zam, Nat.reduceAdd, Nat.reduceLeDiff, zbb, zas, zat, one, zau, zaw, zav, splice, zaj, zak, zab, zaa, ycs, yct, ycu, ycv, ycw, ycx, ycy, ycz, zan, zai, zax, zay, and_self, true_and, and_true, lenV, yda, Nat.le_refl, if_true , hp, h1, ne_eq, not_true_eq_false, a1, a2]
        exact (setE 1).resolve_right (fun hh => hh (rng (by omega)))
      · by_cases a3 : n < 0
        · simp only [F43, ↓yaa, ↓yab, ↓yac, ↓yad, ↓yae, ↓yaf, ↓yag, ↓yah, ↓yai, ↓yaj, ↓yak, ↓yal, ↓yam, ↓yan, ↓yao, ↓yap, ↓yaq, ↓yar, ↓yas, ↓yat, ↓yau, ↓yav, ↓yaw, ↓yax, yay, yaz, yba, ybb, ybc, ybd, ybe, ybf, ybg, ybh, ybi, ybj, ybk, ybl, ybm, ybn, ybo, ybp, ybq, ybr, ybs, ybt, ybu, ybv, ares, tup, ybw, ybx, yby, argsE, dval, aop, ev, evs, evo, evp, fillL, addrOf, intOf?, ybz, yca, ycb, ycc, ycd, yce, ycf, zah, zag, reduceIte, Nat.reduceEqDiff, ycg, ych, yci, ycj, yck, ycl, ycm, ycn, yco, ycp, ycq, ycr, zap, zao, reduceCtorEq, zbb, zbc, zba, zaz, Nat.reduceAdd, Nat.reduceMul, zaq, zar, eqPtr, zae, zaf, zab, zaa, zac, zad , hload, hstore, zal, zam, Nat.reduceAdd, Nat.reduceLeDiff, zbb, zas, zat, one, zau, zaw, zav, splice, zaj, zak, zab, zaa, ycs, yct, ycu, ycv, ycw, ycx, ycy, ycz, zan, zai, zax, zay, and_self, true_and, and_true, lenV, yda, Nat.le_refl, if_true , hp, h1, ne_eq, not_true_eq_false, a1, a2, a3]
          exact (setE 2).resolve_right (fun hh => hh (fits (by omega) (by omega)))
        · obtain ⟨m, rfl⟩ : ∃ m : Nat, w = m := ⟨w.toNat, by omega⟩
          simp only [Int.toNat_natCast] at fits good
          have last : (n < 2 ^ m) → AW tbl (.seq (.reg [⟨(some 35), none, .mov (.t 0)⟩, ⟨(some 36), none, .mov (.t 1)⟩, ⟨(some 37), none, .call 58 [(.t 35), (.t 36)]⟩] [0, 1, 2, 37])
              (.cond (.t 37) (.reg [⟨(some 38), none, .mov (.t 0)⟩, ⟨(some 39), none, .mov (.t 1)⟩, ⟨(some 40), none, .mov (.t 2)⟩, ⟨(some 41), none, .call 59 [(.t 38), (.t 39), (.t 40)]⟩] []) .skip)) [(0, .pointer (some ⟨p, 0, none⟩)), (1, .int .i64 (m : Int)), (2, .int .i64 n), (31, .bool false)] H (Ends [] false H.length K) := fun h2 => by
            have hg := good (by omega) ⟨by omega, h2⟩
            simp only [↓yaa, ↓yab, ↓yac, ↓yad, ↓yae, ↓yaf, ↓yag, ↓yah, ↓yai, ↓yaj, ↓yak, ↓yal, ↓yam, ↓yan, ↓yao, ↓yap, ↓yaq, ↓yar, ↓yas, ↓yat, ↓yau, ↓yav, ↓yaw, ↓yax, yay, yaz, yba, ybb, ybc, ybd, ybe, ybf, ybg, ybh, ybi, ybj, ybk, ybl, ybm, ybn, ybo, ybp, ybq, ybr, ybs, ybt, ybu, ybv, ares, tup, ybw, ybx, yby, argsE, dval, aop, ev, evs, evo, evp, fillL, addrOf, intOf?, ybz, yca, ycb, ycc, ycd, yce, ycf, zah, zag, reduceIte, Nat.reduceEqDiff, ycg, ych, yci, ycj, yck, ycl, ycm, ycn, yco, ycp, ycq, ycr, zap, zao, reduceCtorEq, zbb, zbc, zba, zaz, Nat.reduceAdd, Nat.reduceMul, zaq, zar, eqPtr, zae, zaf, zab, zaa, zac, zad ]
            refine room_spec h hlen (by omega) (fun hh => absurd h1 hh) (fun _ hb H' hv hf => ?_) (fun _ hb => ?_)
            · simp only [↓yaa, ↓yab, ↓yac, ↓yad, ↓yae, ↓yaf, ↓yag, ↓yah, ↓yai, ↓yaj, ↓yak, ↓yal, ↓yam, ↓yan, ↓yao, ↓yap, ↓yaq, ↓yar, ↓yas, ↓yat, ↓yau, ↓yav, ↓yaw, ↓yax, yay, yaz, yba, ybb, ybc, ybd, ybe, ybf, ybg, ybh, ybi, ybj, ybk, ybl, ybm, ybn, ybo, ybp, ybq, ybr, ybs, ybt, ybu, ybv, ares, tup, ybw, ybx, yby, argsE, dval, aop, ev, evs, evo, evp, fillL, addrOf, intOf?, ybz, yca, ycb, ycc, ycd, yce, ycf, zah, zag, reduceIte, Nat.reduceEqDiff, ycg, ych, yci, ycj, yck, ycl, ycm, ycn, yco, ycp, ycq, ycr, zap, zao, reduceCtorEq, zbb, zbc, zba, zaz, Nat.reduceAdd, Nat.reduceMul, zaq, zar, eqPtr, zae, zaf, zab, zaa, zac, zad ]
              rw [if_pos hb] at hg
              exact hk.done hg hv hf
            · rw [if_neg hb] at hg
              rw [hg] at hk
              simp only [↓yaa, ↓yab, ↓yac, ↓yad, ↓yae, ↓yaf, ↓yag, ↓yah, ↓yai, ↓yaj, ↓yak, ↓yal, ↓yam, ↓yan, ↓yao, ↓yap, ↓yaq, ↓yar, ↓yas, ↓yat, ↓yau, ↓yav, ↓yaw, ↓yax, yay, yaz, yba, ybb, ybc, ybd, ybe, ybf, ybg, ybh, ybi, ybj, ybk, ybl, ybm, ybn, ybo, ybp, ybq, ybr, ybs, ybt, ybu, ybv, ares, tup, ybw, ybx, yby, argsE, dval, aop, ev, evs, evo, evp, fillL, addrOf, intOf?, ybz, yca, ycb, ycc, ycd, yce, ycf, zah, zag, reduceIte, Nat.reduceEqDiff, ycg, ych, yci, ycj, yck, ycl, ycm, ycn, yco, ycp, ycq, ycr, zap, zao, reduceCtorEq, zbb, zbc, zba, zaz, Nat.reduceAdd, Nat.reduceMul, zaq, zar, eqPtr, zae, zaf, zab, zaa, zac, zad ]
              refine vput_spec (by omega) (by omega) h _ fun H' o' k1 k2 k3 => ?_
              simp only [↓yaa, ↓yab, ↓yac, ↓yad, ↓yae, ↓yaf, ↓yag, ↓yah, ↓yai, ↓yaj, ↓yak, ↓yal, ↓yam, ↓yan, ↓yao, ↓yap, ↓yaq, ↓yar, ↓yas, ↓yat, ↓yau, ↓yav, ↓yaw, ↓yax, yay, yaz, yba, ybb, ybc, ybd, ybe, ybf, ybg, ybh, ybi, ybj, ybk, ybl, ybm, ybn, ybo, ybp, ybq, ybr, ybs, ybt, ybu, ybv, ares, tup, ybw, ybx, yby, argsE, dval, aop, ev, evs, evo, evp, fillL, addrOf, intOf?, ybz, yca, ycb, ycc, ycd, yce, ycf, zah, zag, reduceIte, Nat.reduceEqDiff, ycg, ych, yci, ycj, yck, ycl, ycm, ycn, yco, ycp, ycq, ycr, zap, zao, reduceCtorEq, zbb, zbc, zba, zaz, Nat.reduceAdd, Nat.reduceMul, zaq, zar, eqPtr, zae, zaf, zab, zaa, zac, zad ]
              rw [h1] at k1
              exact hk H' o' k1 k2 k3
          by_cases a4 : (m : Int) < 63
          · have hsh := shl_int 1 m (.inl rfl) (by omega)
            rw [Int.one_mul] at hsh
            by_cases a5 : 2 ^ m ≤ n
            · simp only [F43, ↓yaa, ↓yab, ↓yac, ↓yad, ↓yae, ↓yaf, ↓yag, ↓yah, ↓yai, ↓yaj, ↓yak, ↓yal, ↓yam, ↓yan, ↓yao, ↓yap, ↓yaq, ↓yar, ↓yas, ↓yat, ↓yau, ↓yav, ↓yaw, ↓yax, yay, yaz, yba, ybb, ybc, ybd, ybe, ybf, ybg, ybh, ybi, ybj, ybk, ybl, ybm, ybn, ybo, ybp, ybq, ybr, ybs, ybt, ybu, ybv, ares, tup, ybw, ybx, yby, argsE, dval, aop, ev, evs, evo, evp, fillL, addrOf, intOf?, ybz, yca, ycb, ycc, ycd, yce, ycf, zah, zag, reduceIte, Nat.reduceEqDiff, ycg, ych, yci, ycj, yck, ycl, ycm, ycn, yco, ycp, ycq, ycr, zap, zao, reduceCtorEq, zbb, zbc, zba, zaz, Nat.reduceAdd, Nat.reduceMul, zaq, zar, eqPtr, zae, zaf, zab, zaa, zac, zad , hload, hstore, zal, zam, Nat.reduceAdd, Nat.reduceLeDiff, zbb, zas, zat, one, zau, zaw, zav, splice, zaj, zak, zab, zaa, ycs, yct, ycu, ycv, ycw, ycx, ycy, ycz, zan, zai, zax, zay, and_self, true_and, and_true, lenV, yda, Nat.le_refl, if_true , hp, h1, ne_eq, not_true_eq_false, a1, a2, a3, a4, hsh, a5]
              exact (setE 2).resolve_right (fun hh => hh (fits (by omega) (by omega)))
            · simp only [F43, ↓yaa, ↓yab, ↓yac, ↓yad, ↓yae, ↓yaf, ↓yag, ↓yah, ↓yai, ↓yaj, ↓yak, ↓yal, ↓yam, ↓yan, ↓yao, ↓yap, ↓yaq, ↓yar, ↓yas, ↓yat, ↓yau, ↓yav, ↓yaw, ↓yax, yay, yaz, yba, ybb, ybc, ybd, ybe, ybf, ybg, ybh, ybi, ybj, ybk, ybl, ybm, ybn, ybo, ybp, ybq, ybr, ybs, ybt, ybu, ybv, ares, tup, ybw, ybx, yby, argsE, dval, aop, ev, evs, evo, evp, fillL, addrOf, intOf?, ybz, yca, ycb, ycc, ycd, yce, ycf, zah, zag, reduceIte, Nat.reduceEqDiff, ycg, ych, yci, ycj, yck, ycl, ycm, ycn, yco, ycp, ycq, ycr, zap, zao, reduceCtorEq, zbb, zbc, zba, zaz, Nat.reduceAdd, Nat.reduceMul, zaq, zar, eqPtr, zae, zaf, zab, zaa, zac, zad , hload, hstore, zal, zam, Nat.reduceAdd, Nat.reduceLeDiff, zbb, zas, zat, one, zau, zaw, zav, splice, zaj, zak, zab, zaa, ycs, yct, ycu, ycv, ycw, ycx, ycy, ycz, zan, zai, zax, zay, and_self, true_and, and_true, lenV, yda, Nat.le_refl, if_true , hp, h1, ne_eq, not_true_eq_false, a1, a2, a3, a4, hsh, a5]
              have := last (by omega)
              simp only [↓yaa, ↓yab, ↓yac, ↓yad, ↓yae, ↓yaf, ↓yag, ↓yah, ↓yai, ↓yaj, ↓yak, ↓yal, ↓yam, ↓yan, ↓yao, ↓yap, ↓yaq, ↓yar, ↓yas, ↓yat, ↓yau, ↓yav, ↓yaw, ↓yax, yay, yaz, yba, ybb, ybc, ybd, ybe, ybf, ybg, ybh, ybi, ybj, ybk, ybl, ybm, ybn, ybo, ybp, ybq, ybr, ybs, ybt, ybu, ybv, ares, tup, ybw, ybx, yby, argsE, dval, aop, ev, evs, evo, evp, fillL, addrOf, intOf?, ybz, yca, ycb, ycc, ycd, yce, ycf, zah, zag, reduceIte, Nat.reduceEqDiff, ycg, ych, yci, ycj, yck, ycl, ycm, ycn, yco, ycp, ycq, ycr, zap, zao, reduceCtorEq, zbb, zbc, zba, zaz, Nat.reduceAdd, Nat.reduceMul, zaq, zar, eqPtr, zae, zaf, zab, zaa, zac, zad ] at this
              exact this
          · have hm : m = 63 := by omega
            subst hm
            simp only [F43, ↓yaa, ↓yab, ↓yac, ↓yad, ↓yae, ↓yaf, ↓yag, ↓yah, ↓yai, ↓yaj, ↓yak, ↓yal, ↓yam, ↓yan, ↓yao, ↓yap, ↓yaq, ↓yar, ↓yas, ↓yat, ↓yau, ↓yav, ↓yaw, ↓yax, yay, yaz, yba, ybb, ybc, ybd, ybe, ybf, ybg, ybh, ybi, ybj, ybk, ybl, ybm, ybn, ybo, ybp, ybq, ybr, ybs, ybt, ybu, ybv, ares, tup, ybw, ybx, yby, argsE, dval, aop, ev, evs, evo, evp, fillL, addrOf, intOf?, ybz, yca, ycb, ycc, ycd, yce, ycf, zah, zag, reduceIte, Nat.reduceEqDiff, ycg, ych, yci, ycj, yck, ycl, ycm, ycn, yco, ycp, ycq, ycr, zap, zao, reduceCtorEq, zbb, zbc, zba, zaz, Nat.reduceAdd, Nat.reduceMul, zaq, zar, eqPtr, zae, zaf, zab, zaa, zac, zad , hload, hstore, zal, zam, Nat.reduceAdd, Nat.reduceLeDiff, zbb, zas, zat, one, zau, zaw, zav, splice, zaj, zak, zab, zaa, ycs, yct, ycu, ycv, ycw, ycx, ycy, ycz, zan, zai, zax, zay, and_self, true_and, and_true, lenV, yda, Nat.le_refl, if_true , hp, h1, ne_eq, not_true_eq_false, a1, a2, a3, a4]
            have := last (by rw [show (2 : Int) ^ 63 = 9223372036854775808 by decide]; omega)
            simp only [↓yaa, ↓yab, ↓yac, ↓yad, ↓yae, ↓yaf, ↓yag, ↓yah, ↓yai, ↓yaj, ↓yak, ↓yal, ↓yam, ↓yan, ↓yao, ↓yap, ↓yaq, ↓yar, ↓yas, ↓yat, ↓yau, ↓yav, ↓yaw, ↓yax, yay, yaz, yba, ybb, ybc, ybd, ybe, ybf, ybg, ybh, ybi, ybj, ybk, ybl, ybm, ybn, ybo, ybp, ybq, ybr, ybs, ybt, ybu, ybv, ares, tup, ybw, ybx, yby, argsE, dval, aop, ev, evs, evo, evp, fillL, addrOf, intOf?, ybz, yca, ycb, ycc, ycd, yce, ycf, zah, zag, reduceIte, Nat.reduceEqDiff, ycg, ych, yci, ycj, yck, ycl, ycm, ycn, yco, ycp, ycq, ycr, zap, zao, reduceCtorEq, zbb, zbc, zba, zaz, Nat.reduceAdd, Nat.reduceMul, zaq, zar, eqPtr, zae, zaf, zab, zaa, zac, zad ] at this
            exact this
  · simp only [F43, ↓yaa, ↓yab, ↓yac, ↓yad, ↓yae, ↓yaf, ↓yag, ↓yah, ↓yai, ↓yaj, ↓yak, ↓yal, ↓yam, ↓yan, ↓yao, ↓yap, ↓yaq, ↓yar, ↓yas, ↓yat, ↓yau, ↓yav, ↓yaw, ↓yax, yay, yaz, yba, ybb, ybc, ybd, ybe, ybf, ybg, ybh, ybi, ybj, ybk, ybl, ybm, ybn, ybo, ybp, ybq, ybr, ybs, ybt, ybu, ybv, ares, tup, ybw, ybx, yby, argsE, dval, aop, ev, evs, evo, evp, fillL, addrOf, intOf?, ybz, yca, ycb, ycc, ycd, yce, ycf, zah, zag, reduceIte, Nat.reduceEqDiff, ycg, ych, yci, ycj, yck, ycl, ycm, ycn, yco, ycp, ycq, ycr, zap, zao, reduceCtorEq, zbb, zbc, zba, zaz, Nat.reduceAdd, Nat.reduceMul, zaq, zar, eqPtr, zae, zaf, zab, zaa, zac, zad , hload, hstore, zal, zam, Nat.reduceAdd, Nat.reduceLeDiff, zbb, zas, zat, one, zau, zaw, zav, splice, zaj, zak, zab, zaa, ycs, yct, ycu, ycv, ycw, ycx, ycy, ycz, zan, zai, zax, zay, and_self, true_and, and_true, lenV, yda, Nat.le_refl, if_true , hp, h1, ne_eq, not_false_eq_true]
    exact hk.done (s := s) (by simp [WS.unsigned, WS.field, h1]) h (Frm.refl _ _)


end Go.Proofs.Ytejcabdejoameaa.AI

/- The reference writer's flags, texts and bytes. -/
set_option linter.unusedSimpArgs false
namespace Go.Proofs.Ytejcabdejoameaa.AI
open Go

theorem vflag_spec {H : Heap} {p : Nat} {o : Option Nat} {s : WS} {b : Bool} (h : VSt H p o s.bs s.err) (hlen : s.bs.length ≤ 524288) {K : Value → Heap → Prop}
    (hk : VWrote H p o (s.flag b) K) : Op1 (AC tbl 45 [.pointer (some ⟨p, 0, none⟩), .bool b] H) K := by
  apply AC_wp (F := F45) rfl (by simp [F45]) (.inl rfl)
  simp only [F45, ↓yaa, ↓yab, ↓yac, ↓yad, ↓yae, ↓yaf, ↓yag, ↓yah, ↓yai, ↓yaj, ↓yak, ↓yal, ↓yam, ↓yan, ↓yao, ↓yap, ↓yaq, ↓yar, ↓yas, ↓yat, ↓yau, ↓yav, ↓yaw, ↓yax, yay, yaz, yba, ybb, ybc, ybd, ybe, ybf, ybg, ybh, ybi, ybj, ybk, ybl, ybm, ybn, ybo, ybp, ybq, ybr, ybs, ybt, ybu, ybv, ares, tup, ybw, ybx, yby, argsE, dval, aop, ev, evs, evo, evp, fillL, addrOf, intOf?, ybz, yca, ycb, ycc, ycd, yce, ycf, zah, zag, reduceIte, Nat.reduceEqDiff, ycg, ych, yci, ycj, yck, ycl, ycm, ycn, yco, ycp, ycq, ycr, zap, zao, reduceCtorEq, zbb, zbc, zba, zaz, Nat.reduceAdd, Nat.reduceMul, zaq, zar, eqPtr, zae, zaf, zab, zaa, zac, zad ]
  refine room_spec h hlen (by omega) (fun h1 => ?_) (fun h1 h2 H' hv hf => ?_) (fun h1 h2 => ?_)
  · simp only [↓yaa, ↓yab, ↓yac, ↓yad, ↓yae, ↓yaf, ↓yag, ↓yah, ↓yai, ↓yaj, ↓yak, ↓yal, ↓yam, ↓yan, ↓yao, ↓yap, ↓yaq, ↓yar, ↓yas, ↓yat, ↓yau, ↓yav, ↓yaw, ↓yax, yay, yaz, yba, ybb, ybc, ybd, ybe, ybf, ybg, ybh, ybi, ybj, ybk, ybl, ybm, ybn, ybo, ybp, ybq, ybr, ybs, ybt, ybu, ybv, ares, tup, ybw, ybx, yby, argsE, dval, aop, ev, evs, evo, evp, fillL, addrOf, intOf?, ybz, yca, ycb, ycc, ycd, yce, ycf, zah, zag, reduceIte, Nat.reduceEqDiff, ycg, ych, yci, ycj, yck, ycl, ycm, ycn, yco, ycp, ycq, ycr, zap, zao, reduceCtorEq, zbb, zbc, zba, zaz, Nat.reduceAdd, Nat.reduceMul, zaq, zar, eqPtr, zae, zaf, zab, zaa, zac, zad ]
    exact hk.done (s := s) (by simp [WS.flag, WS.field, h1]) h (Frm.refl _ _)
  · simp only [↓yaa, ↓yab, ↓yac, ↓yad, ↓yae, ↓yaf, ↓yag, ↓yah, ↓yai, ↓yaj, ↓yak, ↓yal, ↓yam, ↓yan, ↓yao, ↓yap, ↓yaq, ↓yar, ↓yas, ↓yat, ↓yau, ↓yav, ↓yaw, ↓yax, yay, yaz, yba, ybb, ybc, ybd, ybe, ybf, ybg, ybh, ybi, ybj, ybk, ybl, ybm, ybn, ybo, ybp, ybq, ybr, ybs, ybt, ybu, ybv, ares, tup, ybw, ybx, yby, argsE, dval, aop, ev, evs, evo, evp, fillL, addrOf, intOf?, ybz, yca, ycb, ycc, ycd, yce, ycf, zah, zag, reduceIte, Nat.reduceEqDiff, ycg, ych, yci, ycj, yck, ycl, ycm, ycn, yco, ycp, ycq, ycr, zap, zao, reduceCtorEq, zbb, zbc, zba, zaz, Nat.reduceAdd, Nat.reduceMul, zaq, zar, eqPtr, zae, zaf, zab, zaa, zac, zad ]
    exact hk.done (s := ⟨s.bs, 8⟩) (by simp [WS.flag, WS.field, h1, h2]) hv hf
  · have hfin : s.flag b = ⟨s.bs ++ [b], 0⟩ := by
      cases b <;> simp [WS.flag, WS.field, h1, h2, bitsOf, u64]
    rw [hfin] at hk
    have hp := h.blk
    have hpl := hget_lt hp
    have hpl1 : p < H.length + 1 := by omega
    have hone : ∀ c : Bool, (if c = true then [Value.int .u8 1] else [Value.int .u8 0]) = u8s [c.toNat] := fun c => by cases c <;> rfl
    rw [h1] at hp
    have finish : ∀ H', H' = (match o with
        | none => (H ++ [some (⟨true, [Value.int .u8 (b.toNat : Int)]⟩ : Blk)] ++ [some (⟨true, [Value.int .u8 (b.toNat : Int)]⟩ : Blk)]).set p (some (⟨true, [.slice (some ⟨H.length + 1, 0, none⟩) 1 1, .int .i64 0]⟩ : Blk))
        | some q => ((H ++ [some (⟨true, [Value.int .u8 (b.toNat : Int)]⟩ : Blk)]).set q none ++ [some (⟨true, u8s (bn s.bs ++ [b.toNat])⟩ : Blk)]).set p (some (⟨true, [.slice (some ⟨H.length + 1, 0, none⟩) ((bn s.bs).length + 1) 1, .int .i64 0]⟩ : Blk))) → K (.tuple #[]) H' := by
      rintro H' rfl
      cases o with
      | none =>
        have hnil := h.nil rfl
        rw [hnil] at hk
        refine hk _ (some (H.length + 1)) ⟨?_, fun h => by simp at h, fun q hq => ?_⟩ (((Frm.refl _ _).push _ |>.push _).set _ (.inl (by simp))) (fun q hq => by injection hq with hq; right; omega)
        · rw [yen (by simp; omega)]; rfl
        · injection hq with hq
          subst hq
          refine ⟨by omega, ?_⟩
          rw [yeo (by omega), hget_app]
          simp; rfl
      | some q =>
        obtain ⟨hqp, hq2⟩ := h.dat q rfl
        refine hk _ (some (H.length + 1)) ⟨?_, fun h => by simp at h, fun q' hq' => ?_⟩ (((((Frm.refl _ _).push _).set _ (.inl (by simp))).push _).set _ (.inl (by simp))) (fun q' hq' => by injection hq' with hq'; right; omega)
        · rw [yen (by simp; omega)]; simp [sliceOf, bn]
        · injection hq' with hq'
          subst hq'
          refine ⟨by omega, ?_⟩
          rw [yeo (by omega), hget_app]
          simp [bn, u8s]
    cases o with
    | none =>
      cases b <;>
      · simp only [↓yaa, ↓yab, ↓yac, ↓yad, ↓yae, ↓yaf, ↓yag, ↓yah, ↓yai, ↓yaj, ↓yak, ↓yal, ↓yam, ↓yan, ↓yao, ↓yap, ↓yaq, ↓yar, ↓yas, ↓yat, ↓yau, ↓yav, ↓yaw, ↓yax, yay, yaz, yba, ybb, ybc, ybd, ybe, ybf, ybg, ybh, ybi, ybj, ybk, ybl, ybm, ybn, ybo, ybp, ybq, ybr, ybs, ybt, ybu, ybv, ares, tup, ybw, ybx, yby, argsE, dval, aop, ev, evs, evo, evp, fillL, addrOf, intOf?, ybz, yca, ycb, ycc, ycd, yce, ycf, zah, zag, reduceIte, Nat.reduceEqDiff, ycg, ych, yci, ycj, yck, ycl, ycm, ycn, yco, ycp, ycq, ycr, zap, zao, reduceCtorEq, zbb, zbc, zba, zaz, Nat.reduceAdd, Nat.reduceMul, zaq, zar, eqPtr, zae, zaf, zab, zaa, zac, zad , hload, hstore, zal, zam, Nat.reduceAdd, Nat.reduceLeDiff, zbb, zas, zat, one, zau, zaw, zav, splice, zaj, zak, zab, zaa, ycs, yct, ycu, ycv, ycw, ycx, ycy, ycz, zan, zai, zax, zay, and_self, true_and, and_true, lenV, yda, Nat.le_refl, if_true , hp, sliceOf, ydu, List.drop_zero, take1, yem, hpl, hpl1]
        exact finish _ rfl
    | some q =>
      obtain ⟨hqp, hq2⟩ := h.dat q rfl
      have hql := hget_lt hq2
      have hql1 : q < H.length + 1 := by omega
      have hcap : (bn s.bs).length * 1 = (u8s (bn s.bs)).length ∧ ((bn s.bs).length + 1) * 1 ≤ 1000000000 := by rw [u8s_length, bn_length]; omega
      have e0 : u8s (bn s.bs) ++ [Value.int .u8 0] = u8s (bn s.bs ++ [0]) := by simp [u8s]
      have e1 : u8s (bn s.bs) ++ [Value.int .u8 1] = u8s (bn s.bs ++ [1]) := by simp [u8s]
      cases b <;>
      · simp only [↓yaa, ↓yab, ↓yac, ↓yad, ↓yae, ↓yaf, ↓yag, ↓yah, ↓yai, ↓yaj, ↓yak, ↓yal, ↓yam, ↓yan, ↓yao, ↓yap, ↓yaq, ↓yar, ↓yas, ↓yat, ↓yau, ↓yav, ↓yaw, ↓yax, yay, yaz, yba, ybb, ybc, ybd, ybe, ybf, ybg, ybh, ybi, ybj, ybk, ybl, ybm, ybn, ybo, ybp, ybq, ybr, ybs, ybt, ybu, ybv, ares, tup, ybw, ybx, yby, argsE, dval, aop, ev, evs, evo, evp, fillL, addrOf, intOf?, ybz, yca, ycb, ycc, ycd, yce, ycf, zah, zag, reduceIte, Nat.reduceEqDiff, ycg, ych, yci, ycj, yck, ycl, ycm, ycn, yco, ycp, ycq, ycr, zap, zao, reduceCtorEq, zbb, zbc, zba, zaz, Nat.reduceAdd, Nat.reduceMul, zaq, zar, eqPtr, zae, zaf, zab, zaa, zac, zad , hload, hstore, zal, zam, Nat.reduceAdd, Nat.reduceLeDiff, zbb, zas, zat, one, zau, zaw, zav, splice, zaj, zak, zab, zaa, ycs, yct, ycu, ycv, ycw, ycx, ycy, ycz, zan, zai, zax, zay, and_self, true_and, and_true, lenV, yda, Nat.le_refl, if_true , hp, sliceOf, ydu, List.drop_zero, take1, yem, hpl, hpl1, hql, hq2, hcap, yeo hqp, e0, e1]
        exact finish _ rfl

theorem newV_eq (H : Heap) : AC tbl 14 [] H = some (.pointer (some ⟨H.length, 0, none⟩), H ++ [some ⟨true, [.slice none 0 0, .int .i64 0]⟩]) := by
  apply AC_eq
  apply AC_wp (F := F14) rfl (by simp [F14]) (.inl rfl)
  simp only [F14, ↓yaa, ↓yab, ↓yac, ↓yad, ↓yae, ↓yaf, ↓yag, ↓yah, ↓yai, ↓yaj, ↓yak, ↓yal, ↓yam, ↓yan, ↓yao, ↓yap, ↓yaq, ↓yar, ↓yas, ↓yat, ↓yau, ↓yav, ↓yaw, ↓yax, yay, yaz, yba, ybb, ybc, ybd, ybe, ybf, ybg, ybh, ybi, ybj, ybk, ybl, ybm, ybn, ybo, ybp, ybq, ybr, ybs, ybt, ybu, ybv, ares, tup, ybw, ybx, yby, argsE, dval, aop, ev, evs, evo, evp, fillL, addrOf, intOf?, ybz, yca, ycb, ycc, ycd, yce, ycf, zah, zag, reduceIte, Nat.reduceEqDiff, ycg, ych, yci, ycj, yck, ycl, ycm, ycn, yco, ycp, ycq, ycr, zap, zao, reduceCtorEq, zbb, zbc, zba, zaz, Nat.reduceAdd, Nat.reduceMul, zaq, zar, eqPtr, zae, zaf, zab, zaa, zac, zad , hload, hstore, zal, zam, Nat.reduceAdd, Nat.reduceLeDiff, zbb, zas, zat, one, zau, zaw, zav, splice, zaj, zak, zab, zaa, ycs, yct, ycu, ycv, ycw, ycx, ycy, ycz, zan, zai, zax, zay, and_self, true_and, and_true, lenV, yda, Nat.le_refl, if_true ]
  rfl
theorem newV_st (H : Heap) : VSt (H ++ [some ⟨true, [.slice none 0 0, .int .i64 0]⟩]) H.length none [] 0 :=
  ⟨ydu, fun _ => rfl, fun q hq => by simp at hq⟩

theorem vslice {o : Option Nat} {bs : List Bool} (h : o = none → bs = []) : ∃ a z, sliceOf o (bn bs) = .slice a bs.length z := by
  cases o with
  | none => have := h rfl; subst this; exact ⟨_, _, rfl⟩
  | some q => exact ⟨_, _, by simp only [sliceOf, bn_length]; rfl⟩
/-- The bytes that the reference writer makes. -/
theorem vbytes_spec {H : Heap} {p : Nat} {o : Option Nat} {bs : List Bool} {err : Int} (h : VSt H p o bs err) (hlen : bs.length ≤ 524288) {K : Value → Heap → Prop}
    (hk : ∀ s H', (err = 0 → IsStr bs s) → Frm [] H H' → K (.tuple #[.string (if err = 0 then s else ⟨#[]⟩), .int .i64 err]) H') : Op1 (AC tbl 18 [.pointer (some ⟨p, 0, none⟩)] H) K := by
  apply AC_wp (F := F18) rfl (by simp [F18]) (.inl rfl)
  have hp := h.blk
  have hpl := hget_lt hp
  by_cases h1 : err = 0
  · subst h1
    obtain ⟨a, z, hs⟩ := vslice h.nil
    have hp' := hp
    rw [hs] at hp'
    have w1 : IntKind.i64.wrap ((bs.length : Int) + 7) = ((bs.length + 7 : Nat) : Int) := by rw [wrap_i64 (by omega) (by omega)]; rfl
    have hmk : (0 : Int) ≤ (((bs.length + 7) / 8 : Nat) : Int) ∧ (((bs.length + 7) / 8 : Nat) : Int) ≤ (((bs.length + 7) / 8 : Nat) : Int) ∧ (((bs.length + 7) / 8 : Nat) : Int) ≤ 1000000000 ∧ (1 : Nat) ≤ 1000 := by omega
    simp only [F18, ↓yaa, ↓yab, ↓yac, ↓yad, ↓yae, ↓yaf, ↓yag, ↓yah, ↓yai, ↓yaj, ↓yak, ↓yal, ↓yam, ↓yan, ↓yao, ↓yap, ↓yaq, ↓yar, ↓yas, ↓yat, ↓yau, ↓yav, ↓yaw, ↓yax, yay, yaz, yba, ybb, ybc, ybd, ybe, ybf, ybg, ybh, ybi, ybj, ybk, ybl, ybm, ybn, ybo, ybp, ybq, ybr, ybs, ybt, ybu, ybv, ares, tup, ybw, ybx, yby, argsE, dval, aop, ev, evs, evo, evp, fillL, addrOf, intOf?, ybz, yca, ycb, ycc, ycd, yce, ycf, zah, zag, reduceIte, Nat.reduceEqDiff, ycg, ych, yci, ycj, yck, ycl, ycm, ycn, yco, ycp, ycq, ycr, zap, zao, reduceCtorEq, zbb, zbc, zba, zaz, Nat.reduceAdd, Nat.reduceMul, zaq, zar, eqPtr, zae, zaf, zab, zaa, zac, zad , hload, hstore, zal, zam, Nat.reduceAdd, Nat.reduceLeDiff, zbb, zas, zat, one, zau, zaw, zav, splice, zaj, zak, zab, zaa, ycs, yct, ycu, ycv, ycw, ycx, ycy, ycz, zan, zai, zax, zay, and_self, true_and, and_true, lenV, yda, Nat.le_refl, if_true , hp', ne_eq, not_true_eq_false, w1, quo8 _ (by omega : bs.length + 7 < 9223372036854775808), hmk, Int.toNat_natCast, flat_zeros]
    have hg := h.push (some ⟨true, u8s (List.replicate ((bs.length + 7) / 8) 0)⟩)
    apply AW_loop_inv (fun j e H1 => j ≤ bs.length ∧ e = [(0, .pointer (some ⟨p, 0, none⟩)), (4, .slice (some ⟨H.length, 0, none⟩) ((bs.length + 7) / 8) 1), (5, .int .i64 ((bs.length - j : Nat) : Int))] ∧
      VSt H1 p o bs 0 ∧ Frm [] H H1 ∧ ∃ d, hget H1 H.length = some ⟨true, u8s d⟩ ∧ d.length = (bs.length + 7) / 8 ∧ Bits d (bs.take (bs.length - j))) _ bs.length
    · refine ⟨Nat.le_refl _, by rw [Nat.sub_self]; rfl, hg, (Frm.refl _ _).push _, List.replicate ((bs.length + 7) / 8) 0, ydu, by simp, ?_⟩
      rw [Nat.sub_self]
      refine ⟨fun x hx => by rw [(List.mem_replicate.1 hx).2]; omega, fun j x hx k hk => ?_⟩
      have := (List.mem_replicate.1 (List.mem_of_getElem? hx)).2
      subst this
      simp
    · rintro j e H1 ⟨hj, rfl, hv, hf, d, hd1, hd2, hd3⟩
      have hv' := hv.blk
      rw [hs] at hv'
      cases j with
      | zero =>
        have g0 : ¬ (bs.length : Int) < (bs.length : Int) := by omega
        rw [Nat.sub_zero, List.take_length] at hd3
        by_cases hz : (bs.length + 7) / 8 = 0
        · have hd0 : d = [] := List.eq_nil_of_length_eq_zero (by omega)
          subst hd0
          simp only [↓yaa, ↓yab, ↓yac, ↓yad, ↓yae, ↓yaf, ↓yag, ↓yah, ↓yai, ↓yaj, ↓yak, ↓yal, ↓yam, ↓yan, ↓yao, ↓yap, ↓yaq, ↓yar, ↓yas, ↓yat, ↓yau, ↓yav, ↓yaw, ↓yax, yay, yaz, yba, ybb, ybc, ybd, ybe, ybf, ybg, ybh, ybi, ybj, ybk, ybl, ybm, ybn, ybo, ybp, ybq, ybr, ybs, ybt, ybu, ybv, ares, tup, ybw, ybx, yby, argsE, dval, aop, ev, evs, evo, evp, fillL, addrOf, intOf?, ybz, yca, ycb, ycc, ycd, yce, ycf, zah, zag, reduceIte, Nat.reduceEqDiff, ycg, ych, yci, ycj, yck, ycl, ycm, ycn, yco, ycp, ycq, ycr, zap, zao, reduceCtorEq, zbb, zbc, zba, zaz, Nat.reduceAdd, Nat.reduceMul, zaq, zar, eqPtr, zae, zaf, zab, zaa, zac, zad , hload, hstore, zal, zam, Nat.reduceAdd, Nat.reduceLeDiff, zbb, zas, zat, one, zau, zaw, zav, splice, zaj, zak, zab, zaa, ycs, yct, ycu, ycv, ycw, ycx, ycy, ycz, zan, zai, zax, zay, and_self, true_and, and_true, lenV, yda, Nat.le_refl, if_true , hv', g0, Nat.sub_zero, hz, bytesOf?]
          have := hk (strOf []) H1 (fun _ => ⟨[], hd3, by rw [← hd2], rfl⟩) hf
          simpa [strOf] using this
        · have hl : (bs.length + 7) / 8 ≤ (u8s d).length := by rw [u8s_length, hd2]; exact Nat.le_refl _
          have ht : List.take ((bs.length + 7) / 8) (u8s d) = u8s d := List.take_of_length_le (by rw [u8s_length, hd2]; exact Nat.le_refl _)
          simp only [↓yaa, ↓yab, ↓yac, ↓yad, ↓yae, ↓yaf, ↓yag, ↓yah, ↓yai, ↓yaj, ↓yak, ↓yal, ↓yam, ↓yan, ↓yao, ↓yap, ↓yaq, ↓yar, ↓yas, ↓yat, ↓yau, ↓yav, ↓yaw, ↓yax, yay, yaz, yba, ybb, ybc, ybd, ybe, ybf, ybg, ybh, ybi, ybj, ybk, ybl, ybm, ybn, ybo, ybp, ybq, ybr, ybs, ybt, ybu, ybv, ares, tup, ybw, ybx, yby, argsE, dval, aop, ev, evs, evo, evp, fillL, addrOf, intOf?, ybz, yca, ycb, ycc, ycd, yce, ycf, zah, zag, reduceIte, Nat.reduceEqDiff, ycg, ych, yci, ycj, yck, ycl, ycm, ycn, yco, ycp, ycq, ycr, zap, zao, reduceCtorEq, zbb, zbc, zba, zaz, Nat.reduceAdd, Nat.reduceMul, zaq, zar, eqPtr, zae, zaf, zab, zaa, zac, zad , hload, hstore, zal, zam, Nat.reduceAdd, Nat.reduceLeDiff, zbb, zas, zat, one, zau, zaw, zav, splice, zaj, zak, zab, zaa, ycs, yct, ycu, ycv, ycw, ycx, ycy, ycz, zan, zai, zax, zay, and_self, true_and, and_true, lenV, yda, Nat.le_refl, if_true , hv', g0, Nat.sub_zero, hz, hd1, Nat.mul_one, hl, List.drop_zero, ht, bytes_u8s _ hd3.small]
          exact hk (strOf d) H1 (fun _ => ⟨d, hd3, hd2, rfl⟩) hf
      | succ j =>
        have g0 : ((bs.length - (j + 1) : Nat) : Int) < (bs.length : Int) := by omega
        have hi : bs.length - (j + 1) < bs.length := by omega
        cases o with
        | none => rw [h.nil rfl] at hi; simp at hi
        | some q =>
          obtain ⟨hqp, hq2⟩ := hv.dat q rfl
          have hqH : q ≠ H.length := by
            have := hget_lt (h.dat q rfl).2; omega
          simp only [sliceOf, bn_length] at hs
          injection hs with hs1 hs2 hs3
          subst hs1 hs3
          obtain ⟨x, hx⟩ : ∃ x, d[(bs.length - (j + 1)) / 8]? = some x := ⟨_, List.getElem?_eq_getElem (by omega)⟩
          have hxs : x < 256 := hd3.small x (List.mem_of_getElem? hx)
          have hxv : (u8s d)[(bs.length - (j + 1)) / 8]? = some (Value.int .u8 (x : Int)) := by rw [u8s_get, hx]; rfl
          have hb : bs[bs.length - (j + 1)]? = some bs[bs.length - (j + 1)] := List.getElem?_eq_getElem hi
          generalize bs[bs.length - (j + 1)] = b at hb
          have hbv : (u8s (bn bs))[bs.length - (j + 1)]? = some (Value.int .u8 (b.toNat : Int)) := by rw [u8s_get, bn, List.getElem?_map, hb]; rfl
          have g1 : (0 : Int) ≤ ((bs.length - (j + 1) : Nat) : Int) ∧ ((bs.length - (j + 1) : Nat) : Int) < (bs.length : Int) := by omega
          have g2 : (0 : Int) ≤ (((bs.length - (j + 1)) / 8 : Nat) : Int) ∧ (((bs.length - (j + 1)) / 8 : Nat) : Int) < (((bs.length + 7) / 8 : Nat) : Int) := by omega
          have g3 : IntKind.i64.wrap (((bs.length - (j + 1) : Nat) : Int) + 1) = ((bs.length - j : Nat) : Int) := by rw [wrap_i64 (by omega) (by omega)]; omega
          have hs7 : 7 - (bs.length - (j + 1)) % 8 ≤ 7 := by omega
          have hb8 : b.toNat <<< (7 - (bs.length - (j + 1)) % 8) < 256 := by
            rw [Nat.shiftLeft_eq]
            have h1 : 2 ^ (7 - (bs.length - (j + 1)) % 8) ≤ 2 ^ 7 := Nat.pow_le_pow_right (by omega) (by omega)
            have h2 : b.toNat ≤ 1 := by cases b <;> simp
            calc b.toNat * 2 ^ (7 - (bs.length - (j + 1)) % 8) ≤ 1 * 2 ^ 7 := Nat.mul_le_mul h2 h1
              _ < 256 := by decide
          have g4 : (bs.length - (j + 1)) / 8 + 1 ≤ (u8s d).length := by rw [u8s_length, hd2]; omega
          have hHl := hget_lt hd1
          simp only [↓yaa, ↓yab, ↓yac, ↓yad, ↓yae, ↓yaf, ↓yag, ↓yah, ↓yai, ↓yaj, ↓yak, ↓yal, ↓yam, ↓yan, ↓yao, ↓yap, ↓yaq, ↓yar, ↓yas, ↓yat, ↓yau, ↓yav, ↓yaw, ↓yax, yay, yaz, yba, ybb, ybc, ybd, ybe, ybf, ybg, ybh, ybi, ybj, ybk, ybl, ybm, ybn, ybo, ybp, ybq, ybr, ybs, ybt, ybu, ybv, ares, tup, ybw, ybx, yby, argsE, dval, aop, ev, evs, evo, evp, fillL, addrOf, intOf?, ybz, yca, ycb, ycc, ycd, yce, ycf, zah, zag, reduceIte, Nat.reduceEqDiff, ycg, ych, yci, ycj, yck, ycl, ycm, ycn, yco, ycp, ycq, ycr, zap, zao, reduceCtorEq, zbb, zbc, zba, zaz, Nat.reduceAdd, Nat.reduceMul, zaq, zar, eqPtr, zae, zaf, zab, zaa, zac, zad , hload, hstore, zal, zam, Nat.reduceAdd, Nat.reduceLeDiff, zbb, zas, zat, one, zau, zaw, zav, splice, zaj, zak, zab, zaa, ycs, yct, ycu, ycv, ycw, ycx, ycy, ycz, zan, zai, zax, zay, and_self, true_and, and_true, lenV, yda, Nat.le_refl, if_true , hv', g0, quo8 _ (by omega : bs.length - (j + 1) < 9223372036854775808), rem8, g1, g2, Int.toNat_natCast, Nat.mul_one, hd1, hxv, hq2, hbv, sub7 _ (by omega : (bs.length - (j + 1)) % 8 ≤ 7), shl8 _ _ hs7, or8 _ _ hxs hb8, g4, u8s_set, g3]
          refine ⟨j, by omega, by omega, rfl, hv.frame (O := [H.length]) ((Frm.refl _ _).set _ (by simp)) (by simp; omega) (fun q' hq' => by injection hq' with hq'; subst hq'; simpa using hqH), hf.set _ (.inr (Nat.le_refl _)), _, yen hHl, by simpa using hd2, ?_⟩
          have := hd3.put b (j := (bs.length - (j + 1)) / 8) (by rw [List.length_take]; congr 1; omega) hx
          rw [show bs.length - j = bs.length - (j + 1) + 1 by omega, List.take_add_one, hb]
          rw [show (List.take (bs.length - (j + 1)) bs).length = bs.length - (j + 1) by rw [List.length_take]; omega] at this
          exact this
  · simp only [F18, ↓yaa, ↓yab, ↓yac, ↓yad, ↓yae, ↓yaf, ↓yag, ↓yah, ↓yai, ↓yaj, ↓yak, ↓yal, ↓yam, ↓yan, ↓yao, ↓yap, ↓yaq, ↓yar, ↓yas, ↓yat, ↓yau, ↓yav, ↓yaw, ↓yax, yay, yaz, yba, ybb, ybc, ybd, ybe, ybf, ybg, ybh, ybi, ybj, ybk, ybl, ybm, ybn, ybo, ybp, ybq, ybr, ybs, ybt, ybu, ybv, ares, tup, ybw, ybx, yby, argsE, dval, aop, ev, evs, evo, evp, fillL, addrOf, intOf?, ybz, yca, ycb, ycc, ycd, yce, ycf, zah, zag, reduceIte, Nat.reduceEqDiff, ycg, ych, yci, ycj, yck, ycl, ycm, ycn, yco, ycp, ycq, ycr, zap, zao, reduceCtorEq, zbb, zbc, zba, zaz, Nat.reduceAdd, Nat.reduceMul, zaq, zar, eqPtr, zae, zaf, zab, zaa, zac, zad , hload, hstore, zal, zam, Nat.reduceAdd, Nat.reduceLeDiff, zbb, zas, zat, one, zau, zaw, zav, splice, zaj, zak, zab, zaa, ycs, yct, ycu, ycv, ycw, ycx, ycy, ycz, zan, zai, zax, zay, and_self, true_and, and_true, lenV, yda, Nat.le_refl, if_true , hp, h1, ne_eq, not_false_eq_true]
    have := hk ⟨#[]⟩ H (fun h => absurd h h1) (Frm.refl _ _)
    rw [if_neg h1] at this
    exact this

end Go.Proofs.Ytejcabdejoameaa.AI

