/- forerunnerlaw17.awake. -/
import Derived.Test.YtobekkgaildbgaaReq5
import Derived.Test.YtobekkgaildbgaaReq7
import Derived.Test.YtobekkgaildbgaaReqKeys
namespace Go.Proofs.Ytobekkgaildbgaa
open Go.RowKit Go.Lib Go.Maps

theorem ReqM.nodup {w : World} {B t : Nat} {M : List Nat} {room : Int} {S : RS} (h : ReqM w B M t room S) : S.E.Pairwise (fun p q => p.1 ≠ q.1) := by
  obtain ⟨_, _, _, _, h⟩ := h; exact h.mp.nodup mRok
theorem ReqM.e8 {w : World} {B t : Nat} {M : List Nat} {room : Int} {S : RS} (h : ReqM w B M t room S) : ∀ p ∈ S.E, p.2.Eight := by
  obtain ⟨_, _, _, _, h⟩ := h; exact h.e8
theorem ReqM.sub {w : World} {B t : Nat} {M M' : List Nat} {room : Int} {S : RS} (h : ReqM w B M t room S) (hM : ∀ x ∈ M', x ∈ M) : ReqM w B M' t room S := h.turn (Fr.refl [] _) (by simp) (fun x hx => Or.inl (hM x hx))
abbrev aw0 : RS := ⟨[], []⟩
abbrev aw1 : RS := ⟨[(5, ⟨1, [1, 1, 0, 0, 0, 0, 0, 0], [0, 0, 0, 0, 0, 0, 0, 0]⟩)], []⟩
abbrev aw2 : RS := ⟨[(6, ⟨2, [1, 0, 0, 0, 0, 0, 0, 0], [0, 0, 0, 0, 0, 0, 0, 0]⟩), (5, ⟨1, [1, 1, 0, 0, 0, 0, 0, 0], [0, 0, 0, 0, 0, 0, 0, 0]⟩)], []⟩
abbrev aw3 : RS := ⟨[(5, ⟨1, [1, 2, 0, 0, 0, 0, 0, 0], [0, 9, 0, 0, 0, 0, 0, 0]⟩), (6, ⟨2, [1, 0, 0, 0, 0, 0, 0, 0], [0, 0, 0, 0, 0, 0, 0, 0]⟩)], []⟩
abbrev aw4 : RS := ⟨[(6, ⟨2, [1, 0, 0, 0, 0, 0, 0, 0], [0, 0, 0, 0, 0, 0, 0, 0]⟩)], [⟨5, 0, [7, 9]⟩]⟩
abbrev aw5 : RS := ⟨[], [⟨5, 0, [7, 9]⟩, ⟨6, 7, []⟩]⟩
set_option maxRecDepth 100000 in
set_option maxHeartbeats 8000000 in
theorem qawake (w : World) : Calls Try.prog 30 #[] w fun e w' => e = .returned (.bool true) ∧ Fr [] w w' := by
  have a1 : openR 2 5 1 2 aw0 = (0, aw1) := by kernel_rfl
  have a2 : openR 2 6 2 1 aw1 = (0, aw2) := by kernel_rfl
  have a3 : openR 2 7 1 1 aw2 = (2, aw2) := by kernel_rfl
  have a4 : putR 5 1 2 9 aw2 = (0, aw3) := by kernel_rfl
  have a5 : touchedR 5 aw3 = true := by kernel_rfl
  have a6 : touchedR 6 aw3 = false := by kernel_rfl
  have a7 : kindR 6 aw3 = 2 := by kernel_rfl
  have a8 : kindR 7 aw3 = 0 := by kernel_rfl
  have a9 : putR 5 0 2 7 aw3 = (0, aw4) := by kernel_rfl
  have b1 : putR 6 0 3 0 aw4 = (0, aw5) := by kernel_rfl
  have b2 : cancelR 5 aw0 = (3, aw0) := by kernel_rfl
  have b3 : openR 2 0 1 1 aw0 = (1, aw0) := by kernel_rfl
  have HN := Lib.hid (fun w => qnew (room := 2) (by decide) (by decide) w)
  have HN2 := Lib.hid (fun w => qnew_no (room := 17) (by decide) w)
  have C1 := Lib.hid (fun w B M t (h : ReqM w B M t 2 aw0) => qopen 5 1 2 (by simp) h (by decide))
  have C2 := Lib.hid (fun w B M t (h : ReqM w B M t 2 aw1) => qopen 6 2 1 (by simp) h (by decide))
  have C3 := Lib.hid (fun w B M t (h : ReqM w B M t 2 aw2) => qopen 7 1 1 (by simp) h (by decide))
  have C4 := Lib.hid (fun w B M t (h : ReqM w B M t 2 aw2) hB => qgive 5 1 9 h (by decide) (by decide) (by simp) (by simp) hB)
  have C5 := Lib.hid (fun w B M t (h : ReqM w B M t 2 aw3) => qtouched 5 h (by decide))
  have C6 := Lib.hid (fun w B M t (h : ReqM w B M t 2 aw3) => qtouched 6 h (by decide))
  have C7 := Lib.hid (fun w B M t (h : ReqM w B M t 2 aw3) => qkind 6 h (by decide))
  have C8 := Lib.hid (fun w B M t (h : ReqM w B M t 2 aw3) => qkind 7 h (by decide))
  have C9 := Lib.hid (fun w B M t (h : ReqM w B M t 2 aw3) hB => qgive 5 0 7 h (by decide) (by decide) (by simp) (by simp) hB)
  have D1 := Lib.hid (fun w B M t (h : ReqM w B M t 2 aw4) hB => qlose 6 0 h (by decide) (by decide) (by simp) (by simp) hB)
  have D2 := Lib.hid (fun w B M t (h : ReqM w B M t 2 aw0) => qcancel 5 h (by decide) (by simp))
  have D3 := Lib.hid (fun w B M t (h : ReqM w B M t 2 aw0) => qopen 0 1 1 (by simp) h (by decide))
  rw [a1] at C1
  rw [a2] at C2
  rw [a3] at C3
  rw [a4] at C4
  rw [a5] at C5
  rw [a6] at C6
  rw [a7] at C7
  rw [a8] at C8
  rw [a9] at C9
  rw [b1] at D1
  rw [b2] at D2
  rw [b3] at D3
  have HZ : Hid (w.heap.size ≤ w.heap.size) := Nat.le_refl _
  clear a1 a2 a3 a4 a5 a6 a7 a8 a9 b1 b2 b3
  go_enter Try.func30, Try.ntmps30
  go_wp2_with fail
  with_reducible refine (HN.out _).mono ?_
  rintro e w1 ⟨⟨t, rfl, T1⟩, F1⟩
  have T1 := Lib.hid T1
  go_wp2_with fail
  with_reducible refine (HN2.out _).mono ?_
  rintro e w2 ⟨rfl, f2⟩
  have F2 := F1.trans f2
  have T2 := Lib.hid (T1.out.fr0 f2)
  clear T1 F1 f2
  go_wp2_with fail
  with_reducible refine (C1.out _ _ _ _ T2.out).mono ?_
  rintro e w3 ⟨rfl, T3, K3⟩
  have F3 := K3.fr F2 HZ.out
  have T3 := Lib.hid T3
  clear T2 F2 K3
  go_wp2_with fail
  with_reducible refine (C2.out _ _ _ _ T3.out).mono ?_
  rintro e w4 ⟨rfl, T4, K4⟩
  have F4 := K4.fr F3 HZ.out
  have T4 := Lib.hid T4
  clear T3 F3 K4
  go_wp2_with fail
  with_reducible refine (C3.out _ _ _ _ T4.out).mono ?_
  rintro e w5 ⟨rfl, T5, K5⟩
  have F5 := K5.fr F4 HZ.out
  have T5 := Lib.hid T5
  clear T4 F4 K5
  go_wp2_with fail
  with_reducible refine (C4.out _ _ _ _ T5.out F5.size).mono ?_
  rintro e w6 ⟨rfl, T6, K6⟩
  have F6 := K6.fr F5 HZ.out
  have T6 := Lib.hid T6
  clear T5 F5 K6
  go_wp2_with fail
  with_reducible refine (C5.out _ _ _ _ T6.out).mono ?_
  rintro e w7 ⟨rfl, f7⟩
  have F7 := F6.trans f7
  have T7 := Lib.hid (T6.out.fr0 f7)
  clear T6 F6 f7
  go_wp2_with fail
  with_reducible refine (C6.out _ _ _ _ T7.out).mono ?_
  rintro e w8 ⟨rfl, f8⟩
  have F8 := F7.trans f8
  have T8 := Lib.hid (T7.out.fr0 f8)
  clear T7 F7 f8
  go_wp2_with fail
  with_reducible refine (C7.out _ _ _ _ T8.out).mono ?_
  rintro e w9 ⟨rfl, f9⟩
  have F9 := F8.trans f9
  have T9 := Lib.hid (T8.out.fr0 f9)
  clear T8 F8 f9
  go_wp2_with fail
  with_reducible refine (C8.out _ _ _ _ T9.out).mono ?_
  rintro e x1 ⟨rfl, f1⟩
  have F1 := F9.trans f1
  have T1 := Lib.hid (T9.out.fr0 f1)
  clear T9 F9 f1
  go_wp2_with fail
  with_reducible refine (C9.out _ _ _ _ T1.out F1.size).mono ?_
  rintro e x2 ⟨rfl, T2, K2⟩
  have F2 := K2.fr F1 HZ.out
  have T2 := Lib.hid T2
  clear T1 F1 K2
  go_wp2_with fail
  with_reducible refine (D1.out _ _ _ _ T2.out F2.size).mono ?_
  rintro e x3 ⟨rfl, T3, K3⟩
  have F3 := K3.fr F2 HZ.out
  have T3 := Lib.hid T3
  clear T2 F2 K3
  go_wp2_with fail
  with_reducible refine (qtake T3.out).mono ?_
  rintro e x4 ⟨⟨A4, c4, ys, rfl, S4, V4, T4⟩, K4⟩
  have F4 := K4.fr F3 HZ.out
  have T4 := Lib.hid (T4.sub (M' := []) (by simp))
  have S4 := Lib.hid S4
  have V4 := Lib.hid V4
  clear T3 F3 K4
  go_wp2_with fail
  obtain ⟨x5, hx5⟩ : ∃ x5, x5 = (x4.alloc (.cells #[.int .u64 7, .int .u64 9] 52)).alloc (.cells #[.int .i64 5, .int .i64 0, .slice (some ⟨x4.heap.size, 0, none⟩) 2 2, .int .i64 6, .int .i64 7, .slice none 0 0] 65) := ⟨_, rfl⟩
  have f5 : Fr [] x4 x5 := by rw [hx5]; exact (by repeat' (first | (with_reducible exact Fr.refl _ _) | (with_reducible assumption) | (with_reducible refine Fr.drew ?_) | (with_reducible refine Fr.drewN ?_ _) | (with_reducible refine Fr.alloc ?_ _) | ((with_reducible refine Fr.setNew ?_ _ ?_ _); rotate_left; (focus (first | (with_reducible assumption) | exact Nat.le_of_lt (by with_reducible assumption) | (focus (simp +arith; done)) | exact Nat.le_trans (by with_reducible assumption) (by simp +arith; done) | (simp; done)))) | ((with_reducible refine Fr.setOld ?_ _ ?_ _); rotate_left; (focus (simp; done)))))
  have P5 : x5.heap[x4.heap.size]? = some (.cells #[.int .u64 7, .int .u64 9] 52) := by rw [hx5]; (apply heap_eq_of; (focus (repeat (first | (with_reducible assumption) | ((with_reducible refine heap_alloc_at ?_ _); first | (with_reducible rfl) | (focus (simp; done))) | (with_reducible apply heap_alloc_old) | ((with_reducible apply heap_set_other); (case hne => (first | (with_reducible assumption) | exact Nat.ne_of_lt (by with_reducible assumption) | exact Nat.ne_of_gt (by with_reducible assumption) | (focus (simp +arith; done)) | (simp; done)))) | (with_reducible apply heap_set_eq) | (with_reducible apply heap_drew_of) | (with_reducible apply heap_drewN_of)))); (focus (first | (simp; done) | rfl)))
  have Q5 : x5.heap[x4.heap.size + 1]? = some (.cells #[.int .i64 5, .int .i64 0, .slice (some ⟨x4.heap.size, 0, none⟩) 2 2, .int .i64 6, .int .i64 7, .slice none 0 0] 65) := by rw [hx5]; (apply heap_eq_of; (focus (repeat (first | (with_reducible assumption) | ((with_reducible refine heap_alloc_at ?_ _); first | (with_reducible rfl) | (focus (simp; done))) | (with_reducible apply heap_alloc_old) | ((with_reducible apply heap_set_other); (case hne => (first | (with_reducible assumption) | exact Nat.ne_of_lt (by with_reducible assumption) | exact Nat.ne_of_gt (by with_reducible assumption) | (focus (simp +arith; done)) | (simp; done)))) | (with_reducible apply heap_set_eq) | (with_reducible apply heap_drew_of) | (with_reducible apply heap_drewN_of)))); (focus (first | (simp; done) | rfl)))
  rw [← hx5]
  have HAN : Hid (Calls Try.prog 41 #[.slice A4 ys.length c4, .slice (some ⟨x4.heap.size + 1, 0, none⟩) 2 2] x5 fun e w' => e = .returned (.bool true) ∧ Fr [] x5 w') :=
    ranswers ys [⟨5, 0, some ⟨x4.heap.size, 0, none⟩, 2, 2⟩, ⟨6, 7, none, 0, 0⟩] [⟨5, 0, [7, 9]⟩, ⟨6, 7, []⟩] A4 (some ⟨x4.heap.size + 1, 0, none⟩) c4 2 (by simp) (by simp) [] [] [] [] x5 (S4.out.fr f5 (by simp)) (V4.out.fr f5 (by simp))
      ((El.Own.lit (E := eA) (base := 0) [⟨5, 0, some ⟨x4.heap.size, 0, none⟩, 2, 2⟩, ⟨6, 7, none, 0, 0⟩] Q5 (by omega) rfl eAok (by simp [maxLen]) 2 rfl).sl (by simp))
      ⟨⟨rfl, rfl, (El.Own.lit (E := eU) (base := 0) [7, 9] P5 (by omega) rfl eUok (by simp [maxLen]) 2 rfl).sl (by simp)⟩, ⟨rfl, rfl, El.Sl.nil _ _ _⟩, trivial⟩
  have F5 := F4.trans f5
  have T5 := Lib.hid (T4.out.fr0 f5)
  clear hx5 P5 Q5 f5 F4 T4 S4 V4
  generalize x4.heap.size = q at *
  with_reducible refine HAN.out.mono ?_
  rintro e x6 ⟨rfl, f6⟩
  have F6 := F5.trans f6
  have T6 := Lib.hid (T5.out.fr0 f6)
  clear F5 T5 f6 HAN
  go_wp2_with fail
  with_reducible refine (qtake T6.out).mono ?_
  rintro e x7 ⟨⟨A7, c7, zs, rfl, S7, V7, T7⟩, K7⟩
  have hz7 : zs.length = 0 := V7.len
  rw [hz7]
  have F7 := K7.fr F6 HZ.out
  have T7 := Lib.hid (T7.sub (M' := []) (by simp))
  clear T6 F6 K7 S7 V7 hz7
  go_wp2_with fail
  with_reducible refine (qpending T7.out (by simp)).mono ?_
  rintro e x8 ⟨⟨v8, ks, rfl, O8, h81, h82⟩, f8⟩
  obtain ⟨A8, c8, rfl⟩ := O8.shape
  have hk8 : ks.length = 0 := by rw [h81.length_eq]; rfl
  rw [hk8]
  have F8 := F7.trans f8
  have T8 := Lib.hid (T7.out.fr0 f8)
  clear T7 F7 f8 O8 h81 h82 hk8
  go_wp2_with fail
  with_reducible refine (D2.out _ _ _ _ T8.out).mono ?_
  rintro e x9 ⟨rfl, T9, K9⟩
  have F9 := K9.fr F8 HZ.out
  have T9 := Lib.hid T9
  clear T8 F8 K9
  go_wp2_with fail
  with_reducible refine (D3.out _ _ _ _ T9.out).mono ?_
  rintro e y1 ⟨rfl, T1, K1⟩
  have F1 := K1.fr F9 HZ.out
  clear T9 F9 K1
  go_wp2_with fail
  go_ret
  exact ⟨rfl, F1⟩
end Go.Proofs.Ytobekkgaildbgaa
