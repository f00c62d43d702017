/- ReqOrder answers true at every order and losses, and changes nothing that was there. -/
import Derived.Test.YtobekkgaildbgaaReqOrderLaw
namespace Go.Proofs.Ytobekkgaildbgaa
open Go.RowKit Go.Lib Go.Maps

set_option maxRecDepth 100000 in
set_option maxHeartbeats 8000000 in
theorem qorder_walk (A : Option Addr) (len cap : Nat) (A2 : Option Addr) (len2 cap2 : Nat) (hn : len ≤ maxLen) {w : World} (hA : IntsAt w [.u8] A len) (hn2 : len2 ≤ maxLen) (hA2 : BoolsAt w A2 len2) :
    Calls Try.prog 11 #[.slice A len cap, .slice A2 len2 cap2] w fun e w' => e = .returned (.bool true) ∧ Fr [] w w' := by
  obtain ⟨b0, off, F, hb, hF⟩ := hA
  obtain ⟨b2, off2, G, hb2, hG⟩ := hA2
  have HB := Lib.hid hb
  have HF := Lib.hid hF
  have HB2 := Lib.hid hb2
  have HG := Lib.hid hG
  have hn' : len ≤ 9223372036854775807 := by simpa [maxLen] using hn
  have hn2' : len2 ≤ 9223372036854775807 := by simpa [maxLen] using hn2
  have HN := Lib.hid (fun w => qnew (room := 16) (by decide) (by decide) w)
  have HO : Hid (∀ m : Nat, m < 16 → ∀ w B M t, ReqM w B M t 16 ⟨oE m, []⟩ → Calls Try.prog 44 #[.pointer (some ⟨t, 0, none⟩), .int .i64 ((m : Int) + 1), .int .i64 2, .int .i64 1] w fun e w' => e = .returned (.int .i64 0) ∧ ReqM w' B M t 16 ⟨oE (m + 1), []⟩ ∧ KeepM B M w w') := by
    intro m hm w B M t h
    have hw : ∀ k : Nat, k < 16 → (Lit.int .i64 ((k : Int) + 1)).wf = true := by decide
    have := qopen ((m : Int) + 1) 2 1 (by rw [oE_len]; omega) h (hw m hm)
    rw [oE_open hm] at this
    exact this
  clear hb hF hb2 hG hn hn2
  go_enter Try.func11, Try.ntmps11
  go_wp2_with fail
  with_reducible refine (qawake _).mono ?_
  rintro e w1 ⟨rfl, F1⟩
  go_wp2_with fail
  with_reducible refine (HN.out _).mono ?_
  rintro e w2 ⟨⟨t, rfl, T2⟩, f2⟩
  have F2 := F1.trans f2
  have HZ : Hid (w.heap.size ≤ w1.heap.size) := F1.size
  have z2 : w1.heap.size ≤ w2.heap.size := f2.size
  have T2 := Lib.hid T2
  clear F1 f2
  generalize w1.heap.size = B at *
  go_wp2_with fail
  go_loopw [7] (fun v wr => ∃ m : Nat, v = .int .i64 ((m : Int) + 1) ∧ m ≤ 16 ∧ ReqM wr B [] t 16 ⟨oE m, []⟩ ∧ Fr [] w wr ∧ B ≤ wr.heap.size) (fun v _ => 18 - (intOf v).toNat)
  case atStart => exact ⟨0, rfl, by omega, T2.out, F2, z2⟩
  case round =>
    clear T2 F2 z2
    obtain ⟨m, rfl, i1, hT, hFr, hz⟩ := hrel
    have HT := Lib.hid hT
    clear hT
    by_cases hlt : m < 16
    ·
      --@open
      have hm1 : (m : Int) + 1 ≤ 16 := by omega
      have HC := Lib.hid (HO.out m hlt _ _ _ _ HT.out)
      go_wp2_with fail
      with_reducible refine HC.out.mono ?_
      rintro e w3 ⟨rfl, T3, K3⟩
      go_wp2_with fail
      go_roundw
      case rel => exact ⟨m + 1, by go_num, by omega, T3, K3.fr hFr HZ.out, Nat.le_trans hz K3.size⟩
      case measure => simp [intOf]; omega
    · obtain rfl : m = 16 := by omega
      clear hlt i1
      obtain ⟨base, hbase⟩ : ∃ base, base = wr.heap.size := ⟨_, rfl⟩
      have hB9 : B ≤ base := by omega
      have hz9 : base ≤ wr.heap.size := by omega
      clear hbase hz
      rw [show ((16 : Nat) : Int) + 1 = 17 from rfl]
      go_wp2_with fail
      go_loopw [8, 9] (fun u v w5 => ∃ (i : Nat) (S : RS), v = .int .i64 i ∧ i ≤ len ∧ i ≤ 100 ∧ OrdOk S ∧ eA.Own w5 base u (S.K.map toAV) ∧ ReqM w5 B u.ownBlock.toList t 16 S ∧ Fr [] w w5 ∧ base ≤ w5.heap.size) (fun _ v _ => 101 - (intOf v).toNat)
      case atStart => exact ⟨0, _, rfl, by omega, by omega, OrdOk.start, El.Own.nil _ _ _, by simpa [Value.ownBlock] using HT.out, hFr, hz9⟩
      case round =>
        clear HT hFr hz9
        obtain ⟨i, S, rfl, i1, i2, hO, hOw, hT, hFr, hz⟩ := hrel
        have HT := Lib.hid hT
        have HOK := Lib.hid hO
        obtain ⟨AW, cw, hvw⟩ := hOw.shape
        subst hvw
        have HOW := Lib.hid hOw
        have hkl : S.K.length ≤ 16 := by have := hO.n; omega
        have hel : S.E.length ≤ 1000 := by have := hO.n; omega
        have hml : (S.K.map toAV).length = S.K.length := List.length_map ..
        rw [hml] at HOW HT ⊢
        clear hO hOw hT hml
        by_cases hi : i < len ∧ i < 100
        · obtain ⟨hi1, hi2⟩ := hi
          obtain ⟨rfl, hb⟩ := HB.out (by omega)
          obtain ⟨m0, m0w⟩ := HF.out i hi1 0 _ rfl
          simp only [List.length_cons, List.length_nil, Nat.reduceAdd, Nat.add_zero, Nat.mul_one] at m0
          generalize F i 0 = x at *
          obtain ⟨x1, x2⟩ := u8_bounds m0w
          have c0 := (hFr.cell (off := off + i) hb).trans m0
          obtain ⟨id, hid⟩ : ∃ id : Int, id = 1 + x % 16 := ⟨_, rfl⟩
          have id1 : 1 ≤ id := by omega
          have id2 : id ≤ 16 := by omega
          have hwid : (Lit.int .i64 id).wf = true := by
            have : ∀ k : Nat, k < 20 → (Lit.int .i64 (k : Int)).wf = true := by decide
            have h := this id.toNat (by omega)
            rwa [Int.toNat_of_nonneg (by omega)] at h
          have HWI := Lib.hid hwid
          have HID := Lib.hid hid
          have HK := Lib.hid (qkind id HT.out hwid)
          have hkd := HOK.out.kind id
          generalize kindR id S = kd at *
          clear m0 m0w hwid hid
          go_upto_region 16 with fail
          rw [← HID.out]
          clear c0 x1 x2
          rcases hkd with ⟨rfl, hg⟩ | ⟨rfl, hg⟩
          ·
            --@again
            go_wp2_with fail
            with_reducible refine HK.out.mono ?_
            rintro e w6 ⟨rfl, f6⟩
            go_wp2_with fail
            go_roundw
            case rel => exact ⟨i + 1, S, by go_num, by omega, by omega, HOK.out, HOW.out.fr f6 (by simp), HT.out.fr0 f6, hFr.trans f6, Nat.le_trans hz f6.size⟩
            case measure => simp [intOf]; omega
          · have hk9 : S.K.length ≤ 1000 := by omega
            go_wp2_with fail
            with_reducible refine HK.out.mono ?_
            rintro e w6 ⟨rfl, f6⟩
            have F6 := hFr.trans f6
            have z6 := Nat.le_trans hz f6.size
            have O6 := Lib.hid (HOW.out.fr f6 (by simp))
            have T6 := Lib.hid (HT.out.fr0 f6)
            clear HK f6 HOW HT hFr hz
            go_upto_region 18 with fail
            obtain ⟨w7, hw7⟩ : ∃ w7, w7 = w6.alloc (.cells #[.int .i64 id, .int .i64 0, .slice none 0 0] 65) := ⟨_, rfl⟩
            have f7 : Fr [] w6 w7 := by rw [hw7]; exact (by repeat' (first | (with_reducible exact Fr.refl _ _) | (with_reducible assumption) | (with_reducible refine Fr.drew ?_) | (with_reducible refine Fr.drewN ?_ _) | (with_reducible refine Fr.alloc ?_ _) | ((with_reducible refine Fr.setNew ?_ _ ?_ _); rotate_left; (focus (first | (with_reducible assumption) | exact Nat.le_of_lt (by with_reducible assumption) | (focus (simp +arith; done)) | exact Nat.le_trans (by with_reducible assumption) (by simp +arith; done) | (simp; done)))) | ((with_reducible refine Fr.setOld ?_ _ ?_ _); rotate_left; (focus (simp; done)))))
            have Q7 : w7.heap[w6.heap.size]? = some (.cells #[.int .i64 id, .int .i64 0, .slice none 0 0] 65) := by rw [hw7]; (apply heap_eq_of; (focus (repeat (first | (with_reducible assumption) | ((with_reducible refine heap_alloc_at ?_ _); first | (with_reducible rfl) | (focus (simp; done))) | (with_reducible apply heap_alloc_old) | ((with_reducible apply heap_set_other); (case hne => (first | (with_reducible assumption) | exact Nat.ne_of_lt (by with_reducible assumption) | exact Nat.ne_of_gt (by with_reducible assumption) | (focus (simp +arith; done)) | (simp; done)))) | (with_reducible apply heap_set_eq) | (with_reducible apply heap_drew_of) | (with_reducible apply heap_drewN_of)))); (focus (first | (simp; done) | rfl)))
            have hz7 : w7.heap.size = w6.heap.size + 1 := by rw [hw7]; simp
            obtain ⟨M7, hM7⟩ : ∃ M7, M7 = w6.heap.size :: (Value.slice AW S.K.length cw).ownBlock.toList := ⟨_, rfl⟩
            have T7 := Lib.hid (T6.out.turn (M' := M7) f7 (by simp) (fun y hy => by
              rw [hM7] at hy
              rcases List.mem_cons.1 hy with rfl | hy
              · exact Or.inr ⟨Nat.le_refl _, by omega⟩
              · exact Or.inl hy))
            have MQ : Hid (w6.heap.size ∈ M7) := by rw [hM7]; exact List.mem_cons_self
            have MO : Hid (∀ y ∈ (Value.slice AW S.K.length cw).ownBlock.toList, y ∈ M7) := fun y hy => by rw [hM7]; exact List.mem_cons_of_mem _ hy
            have O7 := Lib.hid (O6.out.fr f7 (by simp))
            have F7 := F6.trans f7
            have z7 := Nat.le_trans z6 f7.size
            have hqb : base ≤ w6.heap.size := z6
            have HQO : Hid (∀ y ∈ (Value.slice AW S.K.length cw).ownBlock.toList, y < w6.heap.size) := fun y hy => O6.out.lt y hy
            rw [← hw7]
            clear hw7 hz7 hM7 f7 O6 T6 F6 z6
            generalize w6.heap.size = q at *
            obtain ⟨β, hβ⟩ : ∃ β : Bool, β = if i < len2 then G i else false := ⟨_, rfl⟩
            have HBE := Lib.hid hβ
            clear hβ
            go_cut [60] (fun v60 wc => v60 = .bool β ∧ wc = w7)
            case first =>
              by_cases hl2 : i < len2
              ·
                --@in
                obtain ⟨rfl, hb2⟩ := HB2.out (by omega)
                have l0 := (F7.cell (off := off2 + i) hb2).trans (HG.out i hl2)
                have hbe : G i = β := by rw [HBE.out, if_pos hl2]
                generalize G i = b9 at *
                have HB9 := Lib.hid hbe
                clear hbe
                go_wp2
                go_meet
                exact ⟨by rw [HB9.out], rfl⟩
              ·
                --@behind
                have hbe : false = β := by rw [HBE.out, if_neg hl2]
                have HB9 := Lib.hid hbe
                clear hbe
                go_wp2
                go_meet
                exact ⟨by rw [HB9.out], rfl⟩
            case rest =>
             obtain ⟨rfl, rfl⟩ := hcut
             go_upto_if 60 with fail
             go_cut [] (fun wd => ∃ cd : Int, OrdOk ⟨cutg id S.E, S.K ++ [⟨id, cd, []⟩]⟩ ∧ ReqM wd B M7 t 16 ⟨cutg id S.E, S.K ++ [⟨id, cd, []⟩]⟩ ∧ wd.heap[q]? = some (.cells #[.int .i64 id, .int .i64 cd, .slice none 0 0] 65) ∧ eA.Own wd base (.slice AW S.K.length cw) (S.K.map toAV) ∧ Fr [] w wd ∧ base ≤ wd.heap.size)
             case first =>
              have hpt := OrdOk.put hg
              have hnx := fun cd => HOK.out.next T7.out.nodup (cd := cd) hg
              have HG5 := Lib.hid (qgive id 0 5 T7.out HWI.out (by decide) hel hk9 (by omega))
              have HLO := Lib.hid (fun w8 (h : ReqM w8 B M7 t 16 S) (hb : B ≤ w8.heap.size) => qlose id 0 h HWI.out (by decide) hel hk9 hb)
              rw [hpt.1] at HG5
              rw [hpt.2] at HLO
              simp only at HG5 HLO
              have HNX := Lib.hid hnx
              clear hpt hnx hg
              apply blk_use Q7; intro hg7 hc7 hz7 _ _ _ _ _
              cases β
              ·
                --@give
                go_wp2_with fail
                with_reducible refine HG5.out.mono ?_
                rintro e w8 ⟨rfl, T8, K8⟩
                go_wp2_with fail
                go_meet
                exact ⟨0, HNX.out 0, T8, K8.heap Q7 MQ.out, O7.out.keep K8 MO.out, K8.fr F7 HZ.out, Nat.le_trans z7 K8.size⟩
              ·
                --@lose
                go_wp2_with fail
                have f8 : Fr [q] wc (wc.setCell ⟨q, 1, none⟩ (.int .i64 7)) := (by repeat' (first | (with_reducible exact Fr.refl _ _) | (with_reducible assumption) | (with_reducible refine Fr.drew ?_) | (with_reducible refine Fr.drewN ?_ _) | (with_reducible refine Fr.alloc ?_ _) | ((with_reducible refine Fr.setNew ?_ _ ?_ _); rotate_left; (focus (first | (with_reducible assumption) | exact Nat.le_of_lt (by with_reducible assumption) | (focus (simp +arith; done)) | exact Nat.le_trans (by with_reducible assumption) (by simp +arith; done) | (simp; done)))) | ((with_reducible refine Fr.setOld ?_ _ ?_ _); rotate_left; (focus (simp; done)))))
                have Q8 : (wc.setCell ⟨q, 1, none⟩ (.int .i64 7)).heap[q]? = some (.cells #[.int .i64 id, .int .i64 7, .slice none 0 0] 65) := by (apply heap_eq_of; (focus (repeat (first | (with_reducible assumption) | ((with_reducible refine heap_alloc_at ?_ _); first | (with_reducible rfl) | (focus (simp; done))) | (with_reducible apply heap_alloc_old) | ((with_reducible apply heap_set_other); (case hne => (first | (with_reducible assumption) | exact Nat.ne_of_lt (by with_reducible assumption) | exact Nat.ne_of_gt (by with_reducible assumption) | (focus (simp +arith; done)) | (simp; done)))) | (with_reducible apply heap_set_eq) | (with_reducible apply heap_drew_of) | (with_reducible apply heap_drewN_of)))); (focus (first | (simp; done) | rfl)))
                have T8 := Lib.hid (T7.out.turn (M' := M7) f8 (by simpa using Or.inl MQ.out) (fun y hy => Or.inl hy))
                have O8 := Lib.hid (El.Own.keep (B := 0) (M := (Value.slice AW S.K.length cw).ownBlock.toList) O7.out (KeepM.of f8 (by
                  intro y hy
                  simp at hy; subst hy
                  exact ⟨Nat.zero_le _, fun h => by have := HQO.out _ h; omega⟩)) (fun y hy => hy))
                have F8 : Fr [] w (wc.setCell ⟨q, 1, none⟩ (.int .i64 7)) := F7.trans' f8 (by intro y hy; simp at hy; subst hy; right; have := HZ.out; omega)
                have z8 := Nat.le_trans z7 f8.size
                with_reducible refine (HLO.out _ T8.out (by omega)).mono ?_
                rintro e w9 ⟨rfl, T9, K9⟩
                go_wp2_with fail
                go_meet
                exact ⟨7, HNX.out 7, T9, K9.heap Q8 MQ.out, O8.out.keep K9 MO.out, K9.fr F8 HZ.out, Nat.le_trans z8 K9.size⟩
             case rest =>
              --@app
              clear T7 Q7 O7 F7 z7
              obtain ⟨cd, hO8, T8, Q8, O8, F8, z8⟩ := hcut
              have HO8 := Lib.hid hO8
              have T8 := Lib.hid (T8.sub (M' := (Value.slice AW S.K.length cw).ownBlock.toList) MO.out)
              have O8 := Lib.hid O8
              clear hO8 HOK
              apply blk_use Q8; intro hg8 hc8 hz8 _ _ _ _ _
              go_wp2_with (at_builtin; go_must (refine wpList_appG eAok _ rfl (.tmp 68) (.tmp 70) rfl rfl base (.slice AW S.K.length cw) (S.K.map toAV) rfl (O8.out.fr (S := []) (by repeat' (first | (with_reducible exact Fr.refl _ _) | (with_reducible assumption) | (with_reducible refine Fr.drew ?_) | (with_reducible refine Fr.drewN ?_ _) | (with_reducible refine Fr.alloc ?_ _) | ((with_reducible refine Fr.setNew ?_ _ ?_ _); rotate_left; (focus (first | (with_reducible assumption) | exact Nat.le_of_lt (by with_reducible assumption) | (focus (simp +arith; done)) | exact Nat.le_trans (by with_reducible assumption) (by simp +arith; done) | (simp; done)))) | ((with_reducible refine Fr.setOld ?_ _ ?_ _); rotate_left; (focus (simp; done))))) (by simp)) _ [⟨id, cd, none, 0, 0⟩] rfl (M := []) ((El.Own.lit (E := eA) (base := 0) [⟨id, cd, none, 0, 0⟩] (by (apply heap_eq_of; (focus (repeat (first | (with_reducible assumption) | ((with_reducible refine heap_alloc_at ?_ _); first | (with_reducible rfl) | (focus (simp; done))) | (with_reducible apply heap_alloc_old) | ((with_reducible apply heap_set_other); (case hne => (first | (with_reducible assumption) | exact Nat.ne_of_lt (by with_reducible assumption) | exact Nat.ne_of_gt (by with_reducible assumption) | (focus (simp +arith; done)) | (simp; done)))) | (with_reducible apply heap_set_eq) | (with_reducible apply heap_drew_of) | (with_reducible apply heap_drewN_of)))); (focus (first | (simp; done) | rfl)))) (by omega) rfl eAok (by simp [maxLen]) 1 rfl).sl (by simp)) (by simp; omega) (by simp; omega) ?_; intro v9 w9 O9 G9 U9; have F9 : Fr (Value.slice AW S.K.length cw).ownBlock.toList wc w9 := Fr.trans' (by repeat' (first | (with_reducible exact Fr.refl _ _) | (with_reducible assumption) | (with_reducible refine Fr.drew ?_) | (with_reducible refine Fr.drewN ?_ _) | (with_reducible refine Fr.alloc ?_ _) | ((with_reducible refine Fr.setNew ?_ _ ?_ _); rotate_left; (focus (first | (with_reducible assumption) | exact Nat.le_of_lt (by with_reducible assumption) | (focus (simp +arith; done)) | exact Nat.le_trans (by with_reducible assumption) (by simp +arith; done) | (simp; done)))) | ((with_reducible refine Fr.setOld ?_ _ ?_ _); rotate_left; (focus (simp; done))))) G9 (fun y hy => Or.inl hy); have HO9 := Lib.hid O9; have HU9 := Lib.hid U9; clear O9 G9 U9))
              go_roundw
              case rel =>
                have hU : ∀ y ∈ v9.ownBlock.toList, y ∈ (Value.slice AW S.K.length cw).ownBlock.toList ∨ wc.heap.size ≤ y := fun y hy => (HU9.out y hy).imp (fun z => z) (fun q => by simp at q; omega)
                exact ⟨i + 1, _, by go_num, by omega, by omega, HO8.out, by rw [List.map_append]; exact HO9.out, T8.out.turn F9 (fun y hy => Or.inl hy) (fun y hy => (hU y hy).imp (fun z => z) (fun q => ⟨q, HO9.out.lt y hy⟩)), F8.trans' F9 (fun y hy => Or.inr (by have := O8.out.ge y hy; have := HZ.out; omega)), Nat.le_trans z8 F9.size⟩
              case measure => simp [intOf]; omega
        · have hq12 : (i < len ∧ ¬ i < 100) ∨ ¬ i < len := by omega
          clear hi
          have hnn := HOK.out.n
          have hE16 : (16 : Int) - (S.K.length : Int) = (S.E.length : Int) := by omega
          have HE16 := Lib.hid hE16
          have HPE := Lib.hid (qpending HT.out hel)
          have HKV := Lib.hid HOK.out.v
          clear hnn hE16
          --@fin
          rcases hq12 with ⟨q1, q2⟩ | q1
          all_goals
            go_wp2_with fail
            with_reducible refine HPE.out.mono ?_
            rintro e w6 ⟨⟨v6, ks, rfl, O6, h61, _⟩, f6⟩
            obtain ⟨A6, c6, rfl⟩ := O6.shape
            have hks : ks.length = S.E.length := by rw [h61.length_eq, List.length_map]
            rw [hks]
            have T6 := Lib.hid (HT.out.fr0 f6)
            have W6 := Lib.hid (HOW.out.fr f6 (by simp))
            have F6 := hFr.trans f6
            clear HT HOW hFr f6 O6 h61 hks HPE
            have hE16 := HE16.out
            go_wp2_with fail
            with_reducible refine (qtake T6.out).mono ?_
            rintro e w7 ⟨⟨A7, c7, ys, rfl, S7, V7, T7⟩, K7⟩
            have W7 := Lib.hid (W6.out.keep K7 (fun y hy => hy))
            have F7 := K7.fr F6 HZ.out
            have T7 := Lib.hid (T7.sub (M' := []) (by simp))
            have HAN : Hid (Calls Try.prog 41 #[.slice A7 ys.length c7, .slice AW S.K.length cw] w7 fun e w' => e = .returned (.bool true) ∧ Fr [] w7 w') := by
              have h := ranswers ys (S.K.map toAV) S.K A7 AW c7 cw (by omega) (fun a ha => by rw [HKV.out a ha]; simp) [] [] [] [] w7 S7 V7 (by rw [List.length_map]; exact W7.out.sl (by simp)) (ansR_toAV _ _ _ HKV.out)
              rw [List.length_map] at h
              exact h
            clear T6 W6 F6 K7 S7 V7
            go_wp2_with fail
            with_reducible refine HAN.out.mono ?_
            rintro e w8 ⟨rfl, f8⟩
            have F8 := F7.trans f8
            have T8 := Lib.hid (T7.out.fr0 f8)
            clear HAN F7 T7 f8 W7
            go_wp2_with fail
            with_reducible refine (qtake T8.out).mono ?_
            rintro e w9 ⟨⟨A9, c9, zs, rfl, _, V9, _⟩, K9⟩
            have hz9 : zs.length = 0 := V9.len
            rw [hz9]
            have F9 := K9.fr F8 HZ.out
            clear K9 V9 hz9 T8 F8
            go_wp2_with fail
            go_ret
            exact ⟨rfl, F9⟩
end Go.Proofs.Ytobekkgaildbgaa
