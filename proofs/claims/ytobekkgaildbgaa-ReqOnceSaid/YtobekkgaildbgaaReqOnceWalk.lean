/- ReqOnce answers true at every script, and changes nothing that was there. -/
import Derived.Test.YtobekkgaildbgaaReqOnceLaw
namespace Go.Proofs.Ytobekkgaildbgaa
open Go.RowKit Go.Lib Go.Maps

set_option maxRecDepth 100000 in
set_option maxHeartbeats 8000000 in
theorem qonce_walk (A : Option Addr) (len cap : Nat) (hn : len ≤ maxLen) (w : World) (hA : IntsAt w [.i64, .i64, .i64, .i64, .u64] A len) :
    Calls Try.prog 9 #[.slice A len cap] w fun e w' => e = .returned (.bool true) ∧ Fr [] w w' := by
  obtain ⟨b0, off, F, hb, hF⟩ := hA
  have HB := Lib.hid hb
  have HF := Lib.hid hF
  have hn' : len ≤ 9223372036854775807 := by simpa [maxLen] using hn
  have HN := Lib.hid (fun w => qnew (room := 16) (by decide) (by decide) w)
  clear hb hF hn
  go_enter Try.func9, Try.ntmps9
  go_wp2_with fail
  with_reducible refine (qawake _).mono ?_
  rintro e w1 ⟨rfl, F1⟩
  go_wp2_with fail
  with_reducible refine (HN.out _).mono ?_
  rintro e w2 ⟨⟨t, rfl, T2⟩, f2⟩
  have F2 := F1.trans f2
  have HZ : Hid (w.heap.size ≤ w1.heap.size) := F1.size
  have z2 : w1.heap.size ≤ w2.heap.size := f2.size
  have T2 := Lib.hid T2
  clear F1 f2
  generalize w1.heap.size = B at *
  go_wp2_with fail
  go_loopw [5, 6, 7, 8] (fun o u c v wr => ∃ (i : Nat) (a : Int) (S : RS), v = .int .i64 i ∧ u = .int .i64 a ∧ o = .int .i64 (a + S.E.length) ∧ c = .int .i64 0 ∧ i ≤ len ∧ i ≤ 150 ∧ 0 ≤ a ∧ a ≤ i ∧ S.K = [] ∧ S.E.length ≤ 16 ∧ ReqM wr B [] t 16 S ∧ Fr [] w wr ∧ B ≤ wr.heap.size) (fun _ _ _ v _ => 151 - (intOf v).toNat)
  case atStart => exact ⟨0, 0, _, rfl, rfl, rfl, rfl, by omega, by omega, by omega, by omega, rfl, by simp, T2.out, F2, z2⟩
  case round =>
    clear T2 F2 z2
    obtain ⟨i, a, S, rfl, rfl, rfl, rfl, i1, i2, a1, a2, hK, hE, hT, hFr, hz⟩ := hrel
    have HT := Lib.hid hT
    have HK := Lib.hid hK
    clear hT hK
    by_cases hi : i < len ∧ i < 150
    · obtain ⟨hi1, hi2⟩ := hi
      obtain ⟨rfl, hb⟩ := HB.out (by omega)
      obtain ⟨m0, m0w⟩ := HF.out i hi1 0 _ rfl
      obtain ⟨m1, m1w⟩ := HF.out i hi1 1 _ rfl
      obtain ⟨m2, m2w⟩ := HF.out i hi1 2 _ rfl
      obtain ⟨m3, m3w⟩ := HF.out i hi1 3 _ rfl
      obtain ⟨m4, m4w⟩ := HF.out i hi1 4 _ rfl
      simp only [List.length_cons, List.length_nil, Nat.reduceAdd, Nat.add_zero] at m0 m1 m2 m3 m4
      generalize F i 0 = ck at *
      generalize F i 1 = cid at *
      generalize F i 2 = cn at *
      generalize F i 3 = cp at *
      generalize F i 4 = cv at *
      have c0 := (hFr.cell (off := off + i * 5) hb).trans m0
      have c1 := (hFr.cell (off := off + i * 5 + 1) hb).trans m1
      have c2 := (hFr.cell (off := off + i * 5 + 2) hb).trans m2
      have c3 := (hFr.cell (off := off + i * 5 + 3) hb).trans m3
      have c4 := (hFr.cell (off := off + i * 5 + 4) hb).trans m4
      have WID := Lib.hid m1w
      have WP := Lib.hid m3w
      clear m0 m1 m2 m3 m4 m0w m1w m2w m3w m4w
      go_upto_block 2 with fail
      have f1 : Fr [] wr (wr.alloc (.cells #[.int .i64 ck, .int .i64 cid, .int .i64 cn, .int .i64 cp, .int .u64 cv] 54)) := (by repeat' (first | (with_reducible exact Fr.refl _ _) | (with_reducible assumption) | (with_reducible refine Fr.drew ?_) | (with_reducible refine Fr.drewN ?_ _) | (with_reducible refine Fr.alloc ?_ _) | ((with_reducible refine Fr.setNew ?_ _ ?_ _); rotate_left; (focus (first | (with_reducible assumption) | exact Nat.le_of_lt (by with_reducible assumption) | (focus (simp +arith; done)) | exact Nat.le_trans (by with_reducible assumption) (by simp +arith; done) | (simp; done)))) | ((with_reducible refine Fr.setOld ?_ _ ?_ _); rotate_left; (focus (simp; done)))))
      have Q1 : (wr.alloc (.cells #[.int .i64 ck, .int .i64 cid, .int .i64 cn, .int .i64 cp, .int .u64 cv] 54)).heap[wr.heap.size]? = some (.cells #[.int .i64 ck, .int .i64 cid, .int .i64 cn, .int .i64 cp, .int .u64 cv] 54) := by (apply heap_eq_of; (focus (repeat (first | (with_reducible assumption) | ((with_reducible refine heap_alloc_at ?_ _); first | (with_reducible rfl) | (focus (simp; done))) | (with_reducible apply heap_alloc_old) | ((with_reducible apply heap_set_other); (case hne => (first | (with_reducible assumption) | exact Nat.ne_of_lt (by with_reducible assumption) | exact Nat.ne_of_gt (by with_reducible assumption) | (focus (simp +arith; done)) | (simp; done)))) | (with_reducible apply heap_set_eq) | (with_reducible apply heap_drew_of) | (with_reducible apply heap_drewN_of)))); (focus (first | (simp; done) | rfl)))
      have z9 : (wr.alloc (.cells #[.int .i64 ck, .int .i64 cid, .int .i64 cn, .int .i64 cp, .int .u64 cv] 54)).heap.size = wr.heap.size + 1 := by simp
      have T1 := Lib.hid (HT.out.turn (M' := [wr.heap.size]) f1 (by simp) (fun x hx => by simp at hx; subst hx; exact Or.inr ⟨Nat.le_refl _, by omega⟩))
      have F1 := hFr.trans f1
      have z1 := Nat.le_trans hz f1.size
      clear f1 z9 c0 c1 c2 c3 c4 HT hFr hz
      generalize wr.alloc (.cells #[.int .i64 ck, .int .i64 cid, .int .i64 cn, .int .i64 cp, .int .u64 cv] 54) = w1 at *
      generalize wr.heap.size = q at *
      go_cut [5, 7] (fun v5 v7 wc => ∃ S' : RS, v5 = .int .i64 (a + S'.K.length + S'.E.length) ∧ v7 = .int .i64 (cnt8 S'.K) ∧ (∀ x ∈ S'.K, okA x) ∧ S'.K.length ≤ 1 ∧ S'.E.length ≤ 16 ∧ ReqM wc B [] t 16 S' ∧ Fr [] w wc ∧ B ≤ wc.heap.size)
      case first =>
        apply blk_use Q1; intro hg1 hc1 hz1 _ _ _ _ _
        have hE9 : S.E.length ≤ 1000 := by omega
        have hK9 : S.K.length ≤ 1000 := by rw [HK.out]; simp
        have HE := Lib.hid hE
        have HE9 := Lib.hid hE9
        have HK9 := Lib.hid hK9
        clear hE9 hK9
        by_cases hk0 : ck = 0
        ·
          --@open
          subst hk0
          have HC := Lib.hid (qopen cid cn cp HE9.out T1.out WID.out)
          have HP := Lib.hid (openR_stp HK.out cid cn cp)
          generalize openR 16 cid cn cp S = pr at *
          obtain ⟨cd, S'⟩ := pr
          simp only at HC HP
          by_cases hcd : cd = 0
          · subst hcd
            go_wp2_with fail
            with_reducible refine HC.out.mono ?_
            rintro e w2 ⟨rfl, T2, K2⟩
            have F2 := K2.fr F1 HZ.out
            have z2 := Nat.le_trans z1 K2.size
            clear K2
            go_wp2_with fail
            go_meet
            have hst := HP.out.1
            have h1 := hst.len
            rw [if_pos trivial] at h1
            exact ⟨S', by congr 1; omega, by rw [hst.cn], hst.ok, hst.one, HP.out.2.2 HE.out, T2.sub (by simp), F2, z2⟩
          · have hcb : (cd == 0) = false := by simpa using hcd
            obtain rfl : S' = S := (HP.out.2.1.resolve_left hcd).2
            clear hcd HP
            go_wp2_with fail
            with_reducible refine HC.out.mono ?_
            rintro e w2 ⟨rfl, T2, K2⟩
            have F2 := K2.fr F1 HZ.out
            have z2 := Nat.le_trans z1 K2.size
            clear K2
            go_wp2_with fail
            go_meet
            exact ⟨S', by rw [HK.out]; simp, by rw [HK.out]; rfl, by rw [HK.out]; simp, by rw [HK.out]; simp, HE.out, T2.sub (by simp), F2, z2⟩
        · by_cases hk1 : ck = 1
          ·
            --@give
            subst hk1
            have HC := Lib.hid (qgive cid cp cv T1.out WID.out WP.out HE9.out HK9.out z1)
            have HP := Lib.hid (putR_stp HK.out T1.out.nodup T1.out.e8 cid cp 2 cv)
            generalize putR cid cp 2 cv S = pr at *
            obtain ⟨cd, S'⟩ := pr
            simp only at HC HP
            go_wp2_with fail
            with_reducible refine HC.out.mono ?_
            rintro e w2 ⟨rfl, T2, K2⟩
            have F2 := K2.fr F1 HZ.out
            have z2 := Nat.le_trans z1 K2.size
            clear K2
            go_wp2_with fail
            go_meet
            have hst := HP.out.1
            have h1 := hst.len
            exact ⟨S', by congr 1; omega, by rw [hst.cn], hst.ok, hst.one, Nat.le_trans HP.out.2 HE.out, T2.sub (by simp), F2, z2⟩
          · by_cases hk2 : ck = 2
            ·
              --@lose
              subst hk2
              have HC := Lib.hid (qlose cid cp T1.out WID.out WP.out HE9.out HK9.out z1)
              have HP := Lib.hid (putR_stp HK.out T1.out.nodup T1.out.e8 cid cp 3 0)
              generalize putR cid cp 3 0 S = pr at *
              obtain ⟨cd, S'⟩ := pr
              simp only at HC HP
              go_wp2_with fail
              with_reducible refine HC.out.mono ?_
              rintro e w2 ⟨rfl, T2, K2⟩
              have F2 := K2.fr F1 HZ.out
              have z2 := Nat.le_trans z1 K2.size
              clear K2
              go_wp2_with fail
              go_meet
              have hst := HP.out.1
              have h1 := hst.len
              exact ⟨S', by congr 1; omega, by rw [hst.cn], hst.ok, hst.one, Nat.le_trans HP.out.2 HE.out, T2.sub (by simp), F2, z2⟩
            · by_cases hk3 : ck = 3
              ·
                --@cancel
                subst hk3
                have HC := Lib.hid (qcancel cid T1.out WID.out HK9.out)
                have HP := Lib.hid (cancelR_stp HK.out T1.out.nodup cid)
                generalize cancelR cid S = pr at *
                obtain ⟨cd, S'⟩ := pr
                simp only at HC HP
                have hcd := HP.out.2.2
                rcases hcd with rfl | rfl
                all_goals
                  go_wp2_with fail
                  with_reducible refine HC.out.mono ?_
                  rintro e w2 ⟨rfl, T2, K2⟩
                  have F2 := K2.fr F1 HZ.out
                  have z2 := Nat.le_trans z1 K2.size
                  clear K2
                  go_wp2_with fail
                  go_meet
                  have hst := HP.out.1
                  have h1 := hst.len
                  exact ⟨S', by congr 1; omega, by rw [hst.cn]; rfl, hst.ok, hst.one, Nat.le_trans HP.out.2.1 HE.out, T2.sub (by simp), F2, z2⟩
              ·
                --@none
                go_wp2_with fail
                go_meet
                exact ⟨S, by rw [HK.out]; simp, by rw [HK.out]; rfl, by rw [HK.out]; simp, by rw [HK.out]; simp, HE.out, T1.out.sub (by simp), F1, z1⟩
      case rest =>
        --@rest
        clear T1 Q1 F1 z1 HK hE
        obtain ⟨S', rfl, rfl, hok, hone, hE, T2, F2, z2⟩ := hcut
        have HOK := Lib.hid hok
        have T2 := Lib.hid T2
        clear hok
        go_wp2_with fail
        with_reducible refine (qtake T2.out).mono ?_
        rintro e w3 ⟨⟨A3, c3, ys, rfl, S3, V3, T3⟩, K3⟩
        have F3 := K3.fr F2 HZ.out
        have z3 := Nat.le_trans z2 K3.size
        have T3 := Lib.hid (T3.sub (M' := []) (by simp))
        have hyl := V3.len
        rw [hyl]
        have HYL := Lib.hid hyl
        have V3 := Lib.hid V3
        obtain ⟨_, _, he, _, hS⟩ := S3
        injection he with q1 _ q3
        subst q1 q3
        have HS := Lib.hid hS
        clear T2 F2 z2 K3 hyl hS
        go_wp2_with fail
        go_loopw [7, 11] (fun c v wr => ∃ k : Nat, v = .int .i64 k ∧ c = .int .i64 (cnt8 (S'.K.drop k)) ∧ k ≤ S'.K.length ∧ Fr [] w3 wr) (fun _ v _ => S'.K.length - (intOf v).toNat)
        case atStart => exact ⟨0, rfl, rfl, by omega, Fr.refl _ _⟩
        case round =>
          obtain ⟨k, rfl, rfl, k1, G⟩ := hrel
          have HG := Lib.hid G
          by_cases hlt : k < S'.K.length
          ·
            --@inner
            have hlx : k < ys.length := by have := HYL.out; omega
            rcases HS.out with hz | ⟨b9, o9, rfl, hb9, _, hcl⟩
            · rw [hz] at hlx; simp at hlx
            have hx : ys[k]? = some ys[k] := List.getElem?_eq_getElem hlx
            have ha : S'.K[k]? = some S'.K[k] := List.getElem?_eq_getElem hlt
            obtain ⟨x1, x2, x3⟩ := V3.out.get hx ha
            obtain ⟨c0, c1, c2⟩ := eA_at hcl hx
            have hoka := HOK.out _ (List.mem_of_getElem? ha)
            have hdr : cnt8 (S'.K.drop k) = (if (S'.K[k]).cd = 8 then 1 else 0) + cnt8 (S'.K.drop (k + 1)) := by
              rw [List.drop_eq_getElem_cons hlt]; rfl
            obtain ⟨m, hm⟩ : ∃ m, m = cnt8 (S'.K.drop (k + 1)) := ⟨_, rfl⟩
            rw [← hm] at hdr
            have hm0 : m = 0 := by rw [hm, List.drop_of_length_le (by omega)]; rfl
            rw [hdr]
            have HM := Lib.hid hm
            rw [x1] at c0
            rw [x2] at c1
            generalize ys[k] = X at *
            generalize S'.K[k] = a' at *
            obtain ⟨_, _, XA, Xn, Xc⟩ := X
            obtain ⟨aid, acd, avs⟩ := a'
            simp only [AV.v] at x3 c0 c1 c2 hoka hdr
            have hXn : Xn = avs.length := by obtain ⟨_, _, he, _⟩ := x3; injection he
            have h8x : avs.length ≤ 8 → (Xn : Int) ≤ 8 := by omega
            have HXN := Lib.hid hXn
            clear hXn
            have d0 := (G.cell (off := o9 + k * 3) hb9).trans c0
            have d1 := (G.cell (off := o9 + k * 3 + 1) hb9).trans c1
            have d2 := (G.cell (off := o9 + k * 3 + 2) hb9).trans c2
            subst hm0
            clear hcl hx ha x1 x2 x3 c0 c1 c2 hdr hm G
            unfold okA at hoka
            simp only at hoka
            rcases hoka with ⟨rfl, h8⟩ | ⟨rfl | rfl, rfl⟩
            · have h8' : (Xn : Int) ≤ 8 := h8x h8
              clear h8x
              clear h8
              go_wp2_with fail
              go_roundw
              case rel => exact ⟨k + 1, by go_num, by first | (rw [← HM.out]; done) | (rw [← HM.out]; rfl), by omega, HG.out.trans (by repeat' (first | (with_reducible exact Fr.refl _ _) | (with_reducible assumption) | (with_reducible refine Fr.drew ?_) | (with_reducible refine Fr.drewN ?_ _) | (with_reducible refine Fr.alloc ?_ _) | ((with_reducible refine Fr.setNew ?_ _ ?_ _); rotate_left; (focus (first | (with_reducible assumption) | exact Nat.le_of_lt (by with_reducible assumption) | (focus (simp +arith; done)) | exact Nat.le_trans (by with_reducible assumption) (by simp +arith; done) | (simp; done)))) | ((with_reducible refine Fr.setOld ?_ _ ?_ _); rotate_left; (focus (simp; done)))))⟩
              case measure => simp [intOf]; omega
            · clear h8x
              obtain rfl : Xn = 0 := HXN.out
              go_wp2_with fail
              go_roundw
              case rel => exact ⟨k + 1, by go_num, by first | (rw [← HM.out]; done) | (rw [← HM.out]; rfl), by omega, HG.out.trans (by repeat' (first | (with_reducible exact Fr.refl _ _) | (with_reducible assumption) | (with_reducible refine Fr.drew ?_) | (with_reducible refine Fr.drewN ?_ _) | (with_reducible refine Fr.alloc ?_ _) | ((with_reducible refine Fr.setNew ?_ _ ?_ _); rotate_left; (focus (first | (with_reducible assumption) | exact Nat.le_of_lt (by with_reducible assumption) | (focus (simp +arith; done)) | exact Nat.le_trans (by with_reducible assumption) (by simp +arith; done) | (simp; done)))) | ((with_reducible refine Fr.setOld ?_ _ ?_ _); rotate_left; (focus (simp; done)))))⟩
              case measure => simp [intOf]; omega
            · clear h8x
              obtain rfl : Xn = 0 := HXN.out
              go_wp2_with fail
              go_roundw
              case rel => exact ⟨k + 1, by go_num, by first | (rw [← HM.out]; done) | (rw [← HM.out]; rfl), by omega, HG.out.trans (by repeat' (first | (with_reducible exact Fr.refl _ _) | (with_reducible assumption) | (with_reducible refine Fr.drew ?_) | (with_reducible refine Fr.drewN ?_ _) | (with_reducible refine Fr.alloc ?_ _) | ((with_reducible refine Fr.setNew ?_ _ ?_ _); rotate_left; (focus (first | (with_reducible assumption) | exact Nat.le_of_lt (by with_reducible assumption) | (focus (simp +arith; done)) | exact Nat.le_trans (by with_reducible assumption) (by simp +arith; done) | (simp; done)))) | ((with_reducible refine Fr.setOld ?_ _ ?_ _); rotate_left; (focus (simp; done)))))⟩
              case measure => simp [intOf]; omega
          ·
            --@out
            obtain rfl : k = S'.K.length := by omega
            have hd0 : cnt8 (S'.K.drop S'.K.length) = 0 := by rw [List.drop_length]; rfl
            rw [hd0]
            have T4 := Lib.hid (T3.out.fr0 G)
            have F4 := F3.trans G
            have z4 := Nat.le_trans z3 G.size
            clear T3 F3 z3 G HG hd0
            generalize hkl : S'.K.length = kl at *
            have HKL := Lib.hid hkl
            clear hkl
            have hE9 : S'.E.length ≤ 1000 := by omega
            have HPE := Lib.hid (qpending T4.out hE9)
            clear hE9
            go_wp2_with fail
            with_reducible refine HPE.out.mono ?_
            rintro e w5 ⟨⟨v5, ks, rfl, O5, h51, _⟩, f5⟩
            obtain ⟨A5, c5, rfl⟩ := O5.shape
            have hks : ks.length = S'.E.length := by rw [h51.length_eq, List.length_map]
            rw [hks]
            have T5 := Lib.hid (T4.out.fr0 f5)
            have F5 := F4.trans f5
            have z5 := Nat.le_trans z4 f5.size
            clear T4 F4 z4 f5 O5 h51 hks HPE
            go_wp2_with fail
            go_roundw
            case rel => exact ⟨i + 1, a + kl, ⟨S'.E, []⟩, by go_num, rfl, rfl, rfl, by omega, by omega, by omega, by omega, rfl, hE, T5.out, F5, z5⟩
            case measure => simp [intOf]; omega
    · clear HT
      have hq12 : (i < len ∧ ¬ i < 150) ∨ ¬ i < len := by omega
      clear hi
      rcases hq12 with ⟨q1, q2⟩ | q1
      all_goals
        go_wp2_with fail
        go_ret
        exact ⟨rfl, hFr⟩
end Go.Proofs.Ytobekkgaildbgaa
