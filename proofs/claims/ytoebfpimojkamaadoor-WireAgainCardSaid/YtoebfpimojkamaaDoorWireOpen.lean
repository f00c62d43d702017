/- The reader of package wire: open, close. -/
import Derived.Test.YtoebfpimojkamaaDoorWireVals
import Derived.Test.YtoebfpimojkamaaDoorReg5
namespace Go.Proofs.YtoebfpimojkamaaDoor
open Go.RowKit

/-- No error? -/
def okE : Value → Bool
  | .nilIface => true
  | _ => false

/-- The record that bytes begin with, and what is behind it. -/
def recOf : List Int → Option (List Int × List Int)
  | [] => none
  | h :: t => if h.toNat ≤ t.length then some (t.take h.toNat, t.drop h.toNat) else none

/-- What 'open' comes to. -/
structure OpenPost (top : Nat) (xs : List Int) (w : World) (e : Ending) (w' : World) : Prop where
  val : (recOf xs = none ∧ e = .returned (.tuple #[.pointer none, .slice none 0 0])) ∨
    ∃ r rest p A cap, recOf xs = some (r, rest) ∧ e = .returned (.tuple #[.pointer (some ⟨p, 0, none⟩), .slice (some A) rest.length cap]) ∧ RdAt w' p r .nilIface ∧ w.heap.size ≤ p ∧ NAt w .u8 255 top (some A) rest ∧ rest.length ≤ cap
  fr : Fr [] w w'

set_option maxRecDepth 100000 in
set_option maxHeartbeats 2000000 in
theorem wopen (A : Option Addr) (cap : Nat) (xs : List Int) (hc : xs.length ≤ cap) (hl : xs.length ≤ 1000) (top : Nat) (w : World) (ht : top ≤ w.heap.size) (hN : NAt w .u8 255 top A xs) :
    Calls Tryd.prog 29 #[.slice A xs.length cap] w fun e w' => OpenPost top xs w e w' := by
  have hl' : (xs.length : Int) ≤ 1000 := by omega
  rcases xs with _ | ⟨h, t⟩
  · go_enter Tryd.func29, Tryd.ntmps29
    go_wp2_with fail
    refine bodyPost_ret (v := .tuple #[.pointer none, .slice none 0 0]) (by simp [results, Tryd.results29, go_sem, *]) rfl ⟨Or.inl ⟨rfl, rfl⟩, (by repeat' (first | (with_reducible exact Fr.refl _ _) | (with_reducible assumption) | (with_reducible refine Fr.drew ?_) | (with_reducible refine Fr.drewN ?_ _) | (with_reducible refine Fr.alloc ?_ _) | ((with_reducible refine Fr.setNew ?_ _ ?_ _); rotate_left; (focus (first | (with_reducible assumption) | exact Nat.le_of_lt (by with_reducible assumption) | (focus (simp +arith; done)) | exact Nat.le_trans (by with_reducible assumption) (by simp +arith; done) | (simp; done)))) | ((with_reducible refine Fr.setOld ?_ _ ?_ _); rotate_left; (focus (simp; done)))))⟩
  · rcases hN with hz | ⟨b, off, rfl, hb, hcl⟩
    · cases hz
    obtain ⟨qc, v0, v1⟩ := hcl 0 h rfl
    simp only [Nat.add_zero] at qc
    have HN : Hid (NAt w .u8 255 top (some ⟨b, off, none⟩) (h :: t)) := Or.inr ⟨b, off, rfl, hb, hcl⟩
    obtain ⟨n, rfl⟩ : ∃ n : Nat, h = n := ⟨h.toNat, by omega⟩
    simp only [List.length_cons] at hc hl ⊢
    have tl : (t.length : Int) ≤ 999 := by omega
    have hbw : b < w.heap.size := Nat.lt_of_lt_of_le hb ht
    have tz : ((t.length : Int) + 1 == 0) = false := by rw [beq_eq_false_iff_ne]; omega
    clear hcl hl'
    by_cases hn : n ≤ t.length
    · have HR : Hid (recOf ((n : Int) :: t) = some (t.take n, t.drop n)) := by simp [Hid, recOf, hn]
      have fol : Tryd.prog.follows .mixedOrders = true := by kernel_rfl
      have HL : Hid ((t.take n).length = n ∧ (t.drop n).length = t.length - n) := ⟨by simp; omega, by simp⟩
      have H1 : Hid (NAt w .u8 255 top (some ⟨b, off + 1, none⟩) t) := by
        have := HN.out.drop 1
        simpa [Addr.add, Hid] using this
      have H2 : Hid (NAt w .u8 255 top (some ⟨b, off + (1 + n), none⟩) (t.drop n)) := by
        have := HN.out.drop (1 + n)
        rw [Nat.add_comm 1 n] at this ⊢
        simpa [Addr.add, Hid] using this
      by_cases hz : n = 0 <;> by_cases hcn : cap = 1 + n
      · subst hz
        go_enter Tryd.func29, Tryd.ntmps29
        go_wp2_with fail
        refine wp_region_seqB_lit (BoxS w w.heap.size 5 64 #[.slice (some ⟨b, off, none⟩) 0 0, .nilIface]) fol (by kernel_rfl) ⟨(Fr.refl _ _).drew, fun _ => rfl, by simp⟩ ?_
        (repeat (apply SeqB.cons; (focus (intro bv wv hbv hdv hSv; obtain ⟨s1, s2, s3⟩ := hSv; (try (have hbx : bv 5 = false := (by simpa using hbv); have s4 := s2 hbx)); go_wp2_with (fail); exact StepPost.mk rfl (by first | exact BoxS.plain ⟨s1, s2, s3⟩ (by simp; done) | exact BoxS.box ⟨s1, s2, s3⟩ (by simpa using hbv) (by simp; done)))); (try simp only [Act.put, List.setIfInBounds_toArray, List.set_cons_zero, List.set_cons_succ])))
        refine SeqB.nil ?_
        rintro b5 w5 hb5 ⟨s1, s2, s3⟩
        have s3 := s3 (hb5 5 (by decide))
        go_wp2
        refine bodyPost_ret (v := .tuple #[.pointer (some ⟨w.heap.size, 0, none⟩), .slice (some ⟨b, off, none⟩) (t.length - 0) _]) (by simp [results, Tryd.results29, go_sem, *]; first | done | rfl | exact ⟨by omega, rfl⟩) rfl ⟨Or.inr ⟨_, _, w.heap.size, _, _, HR.out, by rw [HL.out.2], ⟨⟨_, _, by rw [HL.out.1]; exact s3, by rw [List.take_zero]; exact NAt.nil _ _ _ _ _, by rw [HL.out.1]; simp⟩, by rw [HL.out.1]; omega⟩, Nat.le_refl _, by rw [List.drop_of_length_le (by omega)]; exact NAt.nil _ _ _ _ _, by rw [HL.out.2]; omega⟩, s1⟩
      · subst hz
        go_enter Tryd.func29, Tryd.ntmps29
        go_wp2_with fail
        refine wp_region_seqB_lit (BoxS w w.heap.size 5 64 #[.slice (some ⟨b, off, none⟩) 0 0, .nilIface]) fol (by kernel_rfl) ⟨(Fr.refl _ _).drew, fun _ => rfl, by simp⟩ ?_
        (repeat (apply SeqB.cons; (focus (intro bv wv hbv hdv hSv; obtain ⟨s1, s2, s3⟩ := hSv; (try (have hbx : bv 5 = false := (by simpa using hbv); have s4 := s2 hbx)); go_wp2_with (fail); exact StepPost.mk rfl (by first | exact BoxS.plain ⟨s1, s2, s3⟩ (by simp; done) | exact BoxS.box ⟨s1, s2, s3⟩ (by simpa using hbv) (by simp; done)))); (try simp only [Act.put, List.setIfInBounds_toArray, List.set_cons_zero, List.set_cons_succ])))
        refine SeqB.nil ?_
        rintro b5 w5 hb5 ⟨s1, s2, s3⟩
        have s3 := s3 (hb5 5 (by decide))
        go_wp2
        refine bodyPost_ret (v := .tuple #[.pointer (some ⟨w.heap.size, 0, none⟩), .slice (some ⟨b, off + (1 + 0), none⟩) (t.length - 0) _]) (by simp [results, Tryd.results29, go_sem, *]; first | done | rfl | exact ⟨by omega, rfl⟩) rfl ⟨Or.inr ⟨_, _, w.heap.size, _, _, HR.out, by rw [HL.out.2], ⟨⟨_, _, by rw [HL.out.1]; exact s3, by rw [List.take_zero]; exact NAt.nil _ _ _ _ _, by rw [HL.out.1]; simp⟩, by rw [HL.out.1]; omega⟩, Nat.le_refl _, H2.out, by rw [HL.out.2]; omega⟩, s1⟩
      · go_enter Tryd.func29, Tryd.ntmps29
        go_wp2_with fail
        refine wp_region_seqB_lit (BoxS w w.heap.size 5 64 #[.slice (some ⟨b, off + 1, none⟩) n n, .nilIface]) fol (by kernel_rfl) ⟨(Fr.refl _ _).drew, fun _ => rfl, by simp⟩ ?_
        (repeat (apply SeqB.cons; (focus (intro bv wv hbv hdv hSv; obtain ⟨s1, s2, s3⟩ := hSv; (try (have hbx : bv 5 = false := (by simpa using hbv); have s4 := s2 hbx)); go_wp2_with (fail); exact StepPost.mk rfl (by first | exact BoxS.plain ⟨s1, s2, s3⟩ (by simp; done) | exact BoxS.box ⟨s1, s2, s3⟩ (by simpa using hbv) (by simp; done)))); (try simp only [Act.put, List.setIfInBounds_toArray, List.set_cons_zero, List.set_cons_succ])))
        refine SeqB.nil ?_
        rintro b5 w5 hb5 ⟨s1, s2, s3⟩
        have s3 := s3 (hb5 5 (by decide))
        go_wp2
        refine bodyPost_ret (v := .tuple #[.pointer (some ⟨w.heap.size, 0, none⟩), .slice (some ⟨b, off, none⟩) (t.length - n) _]) (by simp [results, Tryd.results29, go_sem, *]; first | done | rfl | exact ⟨by omega, rfl⟩) rfl ⟨Or.inr ⟨_, _, w.heap.size, _, _, HR.out, by rw [HL.out.2], ⟨⟨_, _, by rw [HL.out.1]; exact s3, (NAt.take (NAt.fr H1.out s1 ht (by simp)) n).up ht, by rw [HL.out.1]; simp⟩, by rw [HL.out.1]; omega⟩, Nat.le_refl _, by rw [List.drop_of_length_le (by omega)]; exact NAt.nil _ _ _ _ _, by rw [HL.out.2]; omega⟩, s1⟩
      · go_enter Tryd.func29, Tryd.ntmps29
        go_wp2_with fail
        refine wp_region_seqB_lit (BoxS w w.heap.size 5 64 #[.slice (some ⟨b, off + 1, none⟩) n n, .nilIface]) fol (by kernel_rfl) ⟨(Fr.refl _ _).drew, fun _ => rfl, by simp⟩ ?_
        (repeat (apply SeqB.cons; (focus (intro bv wv hbv hdv hSv; obtain ⟨s1, s2, s3⟩ := hSv; (try (have hbx : bv 5 = false := (by simpa using hbv); have s4 := s2 hbx)); go_wp2_with (fail); exact StepPost.mk rfl (by first | exact BoxS.plain ⟨s1, s2, s3⟩ (by simp; done) | exact BoxS.box ⟨s1, s2, s3⟩ (by simpa using hbv) (by simp; done)))); (try simp only [Act.put, List.setIfInBounds_toArray, List.set_cons_zero, List.set_cons_succ])))
        refine SeqB.nil ?_
        rintro b5 w5 hb5 ⟨s1, s2, s3⟩
        have s3 := s3 (hb5 5 (by decide))
        go_wp2
        refine bodyPost_ret (v := .tuple #[.pointer (some ⟨w.heap.size, 0, none⟩), .slice (some ⟨b, off + (1 + n), none⟩) (t.length - n) _]) (by simp [results, Tryd.results29, go_sem, *]; first | done | rfl | exact ⟨by omega, rfl⟩) rfl ⟨Or.inr ⟨_, _, w.heap.size, _, _, HR.out, by rw [HL.out.2], ⟨⟨_, _, by rw [HL.out.1]; exact s3, (NAt.take (NAt.fr H1.out s1 ht (by simp)) n).up ht, by rw [HL.out.1]; simp⟩, by rw [HL.out.1]; omega⟩, Nat.le_refl _, H2.out, by rw [HL.out.2]; omega⟩, s1⟩
    · have HR : Hid (recOf ((n : Int) :: t) = none) := by simp [Hid, recOf, hn]
      go_enter Tryd.func29, Tryd.ntmps29
      go_wp2_with fail
      refine bodyPost_ret (v := .tuple #[.pointer none, .slice none 0 0]) (by simp [results, Tryd.results29, go_sem, *]) rfl ⟨Or.inl ⟨HR.out, rfl⟩, (by repeat' (first | (with_reducible exact Fr.refl _ _) | (with_reducible assumption) | (with_reducible refine Fr.drew ?_) | (with_reducible refine Fr.drewN ?_ _) | (with_reducible refine Fr.alloc ?_ _) | ((with_reducible refine Fr.setNew ?_ _ ?_ _); rotate_left; (focus (first | (with_reducible assumption) | exact Nat.le_of_lt (by with_reducible assumption) | (focus (simp +arith; done)) | exact Nat.le_trans (by with_reducible assumption) (by simp +arith; done) | (simp; done)))) | ((with_reducible refine Fr.setOld ?_ _ ?_ _); rotate_left; (focus (simp; done)))))⟩

set_option maxRecDepth 100000 in
set_option maxHeartbeats 2000000 in
theorem wclose (p : Nat) (xs : List Int) (e0 : Value) (g : Addr) (h0 : e0 = .nilIface ∨ e0 = vForm g ∨ ∃ m, e0 = vShort m) (w : World) (hr : RdAt w p xs e0) (hG : Gl w g) :
    Calls Tryd.prog 33 #[.pointer (some ⟨p, 0, none⟩)] w fun e w' => e = .returned (.bool (okE e0 && xs.isEmpty)) ∧ Fr [] w w' := by
  obtain ⟨⟨A, cap, hp, hN, hc⟩, hl⟩ := hr
  have hl' : (xs.length : Int) ≤ 1000 := by omega
  have pl := lt_of_heap hp
  have HG := Lib.hid hG
  clear hN
  apply blk_use hp; intro hg1 hc1 hz1 _ _ _ _ _
  rcases h0 with rfl | rfl | ⟨m, rfl⟩
  · go_enter Tryd.func33, Tryd.ntmps33
    go_wp2_with (go_at_call 39; (with_reducible refine (as_nil _ _).mono ?_); rintro e w1 ⟨rfl, rfl⟩)
    go_ret
    refine ⟨ret_bool ?_, (by repeat' (first | (with_reducible exact Fr.refl _ _) | (with_reducible assumption) | (with_reducible refine Fr.drew ?_) | (with_reducible refine Fr.drewN ?_ _) | (with_reducible refine Fr.alloc ?_ _) | ((with_reducible refine Fr.setNew ?_ _ ?_ _); rotate_left; (focus (first | (with_reducible assumption) | exact Nat.le_of_lt (by with_reducible assumption) | (focus (simp +arith; done)) | exact Nat.le_trans (by with_reducible assumption) (by simp +arith; done) | (simp; done)))) | ((with_reducible refine Fr.setOld ?_ _ ?_ _); rotate_left; (focus (simp; done)))))⟩
    cases xs
    · rfl
    · simp [okE]
      omega
  · go_enter Tryd.func33, Tryd.ntmps33
    go_wp2_with fail
    refine (as_form w.heap.size g 0 _ (by (repeat (first | (with_reducible assumption) | ((with_reducible refine heap_alloc_at ?_ _); first | (with_reducible rfl) | (focus (simp; done))) | (with_reducible apply heap_alloc_old) | ((with_reducible apply heap_set_other); (case hne => (first | (with_reducible assumption) | exact Nat.ne_of_lt (by with_reducible assumption) | exact Nat.ne_of_gt (by with_reducible assumption) | (focus (simp +arith; done)) | (simp; done)))) | (with_reducible apply heap_set_eq) | (with_reducible apply heap_drew_of) | (with_reducible apply heap_drewN_of)))) (Gl.fr (S := []) HG.out (by repeat' (first | (with_reducible exact Fr.refl _ _) | (with_reducible assumption) | (with_reducible refine Fr.drew ?_) | (with_reducible refine Fr.drewN ?_ _) | (with_reducible refine Fr.alloc ?_ _) | ((with_reducible refine Fr.setNew ?_ _ ?_ _); rotate_left; (focus (first | (with_reducible assumption) | exact Nat.le_of_lt (by with_reducible assumption) | (focus (simp +arith; done)) | exact Nat.le_trans (by with_reducible assumption) (by simp +arith; done) | (simp; done)))) | ((with_reducible refine Fr.setOld ?_ _ ?_ _); rotate_left; (focus (simp; done))))) (by simp)).et (Gl.fr (S := []) HG.out (by repeat' (first | (with_reducible exact Fr.refl _ _) | (with_reducible assumption) | (with_reducible refine Fr.drew ?_) | (with_reducible refine Fr.drewN ?_ _) | (with_reducible refine Fr.alloc ?_ _) | ((with_reducible refine Fr.setNew ?_ _ ?_ _); rotate_left; (focus (first | (with_reducible assumption) | exact Nat.le_of_lt (by with_reducible assumption) | (focus (simp +arith; done)) | exact Nat.le_trans (by with_reducible assumption) (by simp +arith; done) | (simp; done)))) | ((with_reducible refine Fr.setOld ?_ _ ?_ _); rotate_left; (focus (simp; done))))) (by simp)).lt).mono ?_
    rintro e w1 ⟨rfl, f1⟩
    have F1 : Fr [] w w1 := Fr.trans (S := []) (by repeat' (first | (with_reducible exact Fr.refl _ _) | (with_reducible assumption) | (with_reducible refine Fr.drew ?_) | (with_reducible refine Fr.drewN ?_ _) | (with_reducible refine Fr.alloc ?_ _) | ((with_reducible refine Fr.setNew ?_ _ ?_ _); rotate_left; (focus (first | (with_reducible assumption) | exact Nat.le_of_lt (by with_reducible assumption) | (focus (simp +arith; done)) | exact Nat.le_trans (by with_reducible assumption) (by simp +arith; done) | (simp; done)))) | ((with_reducible refine Fr.setOld ?_ _ ?_ _); rotate_left; (focus (simp; done))))) f1
    have hp := F1.heap hp (by simp)
    clear f1
    apply blk_use hp; intro hg3 hc3 hz3 _ _ _ _ _
    go_wp2_with fail
    go_ret
    exact ⟨rfl, (by repeat' (first | (with_reducible exact Fr.refl _ _) | (with_reducible assumption) | (with_reducible refine Fr.drew ?_) | (with_reducible refine Fr.drewN ?_ _) | (with_reducible refine Fr.alloc ?_ _) | ((with_reducible refine Fr.setNew ?_ _ ?_ _); rotate_left; (focus (first | (with_reducible assumption) | exact Nat.le_of_lt (by with_reducible assumption) | (focus (simp +arith; done)) | exact Nat.le_trans (by with_reducible assumption) (by simp +arith; done) | (simp; done)))) | ((with_reducible refine Fr.setOld ?_ _ ?_ _); rotate_left; (focus (simp; done)))))⟩
  · go_enter Tryd.func33, Tryd.ntmps33
    go_wp2_with fail
    refine (as_short w.heap.size m 0 _ (by (repeat (first | (with_reducible assumption) | ((with_reducible refine heap_alloc_at ?_ _); first | (with_reducible rfl) | (focus (simp; done))) | (with_reducible apply heap_alloc_old) | ((with_reducible apply heap_set_other); (case hne => (first | (with_reducible assumption) | exact Nat.ne_of_lt (by with_reducible assumption) | exact Nat.ne_of_gt (by with_reducible assumption) | (focus (simp +arith; done)) | (simp; done)))) | (with_reducible apply heap_set_eq) | (with_reducible apply heap_drew_of) | (with_reducible apply heap_drewN_of)))) (Gl.fr (S := []) HG.out (by repeat' (first | (with_reducible exact Fr.refl _ _) | (with_reducible assumption) | (with_reducible refine Fr.drew ?_) | (with_reducible refine Fr.drewN ?_ _) | (with_reducible refine Fr.alloc ?_ _) | ((with_reducible refine Fr.setNew ?_ _ ?_ _); rotate_left; (focus (first | (with_reducible assumption) | exact Nat.le_of_lt (by with_reducible assumption) | (focus (simp +arith; done)) | exact Nat.le_trans (by with_reducible assumption) (by simp +arith; done) | (simp; done)))) | ((with_reducible refine Fr.setOld ?_ _ ?_ _); rotate_left; (focus (simp; done))))) (by simp)).et (Gl.fr (S := []) HG.out (by repeat' (first | (with_reducible exact Fr.refl _ _) | (with_reducible assumption) | (with_reducible refine Fr.drew ?_) | (with_reducible refine Fr.drewN ?_ _) | (with_reducible refine Fr.alloc ?_ _) | ((with_reducible refine Fr.setNew ?_ _ ?_ _); rotate_left; (focus (first | (with_reducible assumption) | exact Nat.le_of_lt (by with_reducible assumption) | (focus (simp +arith; done)) | exact Nat.le_trans (by with_reducible assumption) (by simp +arith; done) | (simp; done)))) | ((with_reducible refine Fr.setOld ?_ _ ?_ _); rotate_left; (focus (simp; done))))) (by simp)).lt).mono ?_
    rintro e w1 ⟨rfl, f1⟩
    have F1 : Fr [] w w1 := Fr.trans' (S := []) (by repeat' (first | (with_reducible exact Fr.refl _ _) | (with_reducible assumption) | (with_reducible refine Fr.drew ?_) | (with_reducible refine Fr.drewN ?_ _) | (with_reducible refine Fr.alloc ?_ _) | ((with_reducible refine Fr.setNew ?_ _ ?_ _); rotate_left; (focus (first | (with_reducible assumption) | exact Nat.le_of_lt (by with_reducible assumption) | (focus (simp +arith; done)) | exact Nat.le_trans (by with_reducible assumption) (by simp +arith; done) | (simp; done)))) | ((with_reducible refine Fr.setOld ?_ _ ?_ _); rotate_left; (focus (simp; done))))) f1 (by simp)
    clear f1
    go_wp2_with fail
    go_ret
    exact ⟨rfl, (by repeat' (first | (with_reducible exact Fr.refl _ _) | (with_reducible assumption) | (with_reducible refine Fr.drew ?_) | (with_reducible refine Fr.drewN ?_ _) | (with_reducible refine Fr.alloc ?_ _) | ((with_reducible refine Fr.setNew ?_ _ ?_ _); rotate_left; (focus (first | (with_reducible assumption) | exact Nat.le_of_lt (by with_reducible assumption) | (focus (simp +arith; done)) | exact Nat.le_trans (by with_reducible assumption) (by simp +arith; done) | (simp; done)))) | ((with_reducible refine Fr.setOld ?_ _ ?_ _); rotate_left; (focus (simp; done)))))⟩

end Go.Proofs.YtoebfpimojkamaaDoor
