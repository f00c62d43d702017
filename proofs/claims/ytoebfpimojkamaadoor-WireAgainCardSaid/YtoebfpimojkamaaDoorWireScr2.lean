/- The reference's Script of layer 24, and package wire's Join. -/
import Derived.Test.YtoebfpimojkamaaDoorWireScr
namespace Go.Proofs.YtoebfpimojkamaaDoor
open Go.RowKit

set_option maxRecDepth 100000 in
set_option maxHeartbeats 4000000 in
theorem rscript (A : Option Addr) (cap : Nat) (xs : List Int) (hc : xs.length ≤ cap) (hl : xs.length ≤ 1000) (w : World) (hN : NAt w .u8 255 w.heap.size A xs) :
    Calls Tryd.prog 24 #[.slice A xs.length cap] w fun e w' => ScrPost xs w e w' := by
  have HN := Lib.hid hN
  clear hN
  go_enter Tryd.func24, Tryd.ntmps24
  go_wp2_with fail
  go_loopw [0, 4] (fun b u w' => ∃ (l : List OpD) (ys : List Int) (B : Option Addr) (c : Nat), b = .slice B ys.length c ∧ ys.length ≤ c ∧ NAt w' .u8 255 w.heap.size B ys ∧ Scr xs l ys ∧ OwnOps w' w.heap.size u l ∧ Fr [] w w') (fun b _ _ => lenV b)
  case atStart => exact ⟨[], xs, A, cap, rfl, hc, HN.out, .nil xs, OwnOps.nil _ _, Fr.refl _ _⟩
  case round =>
    obtain ⟨l, ys, B, c, rfl, c1, N1, hS, O1, F1⟩ := hrel
    have HN1 := Lib.hid N1
    have HS := Lib.hid hS
    have HO1 := Lib.hid O1
    have hl1 := hS.len
    clear N1 hS O1
    go_wp2_with fail
    refine (rread B c ys c1 (by omega) w.heap.size _ F1.size HN1.out).mono ?_
    rintro e w2 ⟨⟨hr, rfl⟩ | ⟨o, rest, A2, cap2, R2, hr, rfl, V2, O2, A2f⟩, f2⟩
    · have HR := Lib.hid hr
      clear hr
      have O3 := HO1.out.fr f2 (by have := F1.size; omega) (by simp)
      go_wp2_with fail
      go_ret2
      have F2 := F1.trans f2
      exact ⟨⟨u4, l, ys, rfl, HS.out, HR.out, O3.fr (S := []) (by repeat' (first | (with_reducible exact Fr.refl _ _) | (with_reducible assumption) | (with_reducible refine Fr.drew ?_) | (with_reducible refine Fr.drewN ?_ _) | (with_reducible refine Fr.alloc ?_ _) | ((with_reducible refine Fr.setNew ?_ _ ?_ _); rotate_left; (focus (first | (with_reducible assumption) | exact Nat.le_of_lt (by with_reducible assumption) | (focus (simp +arith; done)) | exact Nat.le_trans (by with_reducible assumption) (by simp +arith; done) | (simp; done)))) | ((with_reducible refine Fr.setOld ?_ _ ?_ _); rotate_left; (focus (simp; done))))) (by have := F2.size; omega) (by simp)⟩, (by repeat' (first | (with_reducible exact Fr.refl _ _) | (with_reducible assumption) | (with_reducible refine Fr.drew ?_) | (with_reducible refine Fr.drewN ?_ _) | (with_reducible refine Fr.alloc ?_ _) | ((with_reducible refine Fr.setNew ?_ _ ?_ _); rotate_left; (focus (first | (with_reducible assumption) | exact Nat.le_of_lt (by with_reducible assumption) | (focus (simp +arith; done)) | exact Nat.le_trans (by with_reducible assumption) (by simp +arith; done) | (simp; done)))) | ((with_reducible refine Fr.setOld ?_ _ ?_ _); rotate_left; (focus (simp; done)))))⟩
    · have hy := readS_len hr
      have HR := Lib.hid (HS.out.snoc hr)
      have z1 := F1.size
      have z2 := f2.size
      have HO3 := Lib.hid (HO1.out.fr f2 (by omega) (by simp))
      have hug : ∀ x ∈ u4.ownBlock.toList, x < wr.heap.size := own_lt HO1.out
      have F2 := F1.trans f2
      have HV := Lib.hid V2
      have HVA : Hid (o.vs = [] ∨ ∀ a, (A2, cap2).1 = some a → a.block ∉ u4.ownBlock.toList) := Or.inr fun a ha hm => by have := A2f a ha; have := hug _ hm; omega
      have HO2 := Lib.hid O2
      clear hr V2 O2 A2f hug f2
      go_wp2_with (at_builtin; refine wpList_appO _ rfl (.tmp 19) (.tmp 21) rfl rfl w.heap.size _ l rfl (HO3.out.fr (S := []) (by repeat' (first | (with_reducible exact Fr.refl _ _) | (with_reducible assumption) | (with_reducible refine Fr.drew ?_) | (with_reducible refine Fr.drewN ?_ _) | (with_reducible refine Fr.alloc ?_ _) | ((with_reducible refine Fr.setNew ?_ _ ?_ _); rotate_left; (focus (first | (with_reducible assumption) | exact Nat.le_of_lt (by with_reducible assumption) | (focus (simp +arith; done)) | exact Nat.le_trans (by with_reducible assumption) (by simp +arith; done) | (simp; done)))) | ((with_reducible refine Fr.setOld ?_ _ ?_ _); rotate_left; (focus (simp; done))))) (by omega) (by simp)) ⟨w2.heap.size + 1, 0, none⟩ 1 rfl o (A2, cap2) (op_new _ _ _ _ (by (apply heap_eq_of; (focus (repeat (first | (with_reducible assumption) | ((with_reducible refine heap_alloc_at ?_ _); first | (with_reducible rfl) | (focus (simp; done))) | (with_reducible apply heap_alloc_old) | ((with_reducible apply heap_set_other); (case hne => (first | (with_reducible assumption) | exact Nat.ne_of_lt (by with_reducible assumption) | exact Nat.ne_of_gt (by with_reducible assumption) | (focus (simp +arith; done)) | (simp; done)))) | (with_reducible apply heap_set_eq) | (with_reducible apply heap_drew_of) | (with_reducible apply heap_drewN_of)))); (focus (first | (simp; done) | rfl))))) ((NAt.fr (S := []) HV.out (by repeat' (first | (with_reducible exact Fr.refl _ _) | (with_reducible assumption) | (with_reducible refine Fr.drew ?_) | (with_reducible refine Fr.drewN ?_ _) | (with_reducible refine Fr.alloc ?_ _) | ((with_reducible refine Fr.setNew ?_ _ ?_ _); rotate_left; (focus (first | (with_reducible assumption) | exact Nat.le_of_lt (by with_reducible assumption) | (focus (simp +arith; done)) | exact Nat.le_trans (by with_reducible assumption) (by simp +arith; done) | (simp; done)))) | ((with_reducible refine Fr.setOld ?_ _ ?_ _); rotate_left; (focus (simp; done))))) (Nat.le_refl _) (by simp)).up (by simp; omega)) HVA.out (by omega) (by simp; omega) ?_; intro v3 w3 O3 G3 U3)
      have G3' : Fr u4.ownBlock.toList w2 w3 := Fr.trans' (S := u4.ownBlock.toList) (by repeat' (first | (with_reducible exact Fr.refl _ _) | (with_reducible assumption) | (with_reducible refine Fr.drew ?_) | (with_reducible refine Fr.drewN ?_ _) | (with_reducible refine Fr.alloc ?_ _) | ((with_reducible refine Fr.setNew ?_ _ ?_ _); rotate_left; (focus (first | (with_reducible assumption) | exact Nat.le_of_lt (by with_reducible assumption) | (focus (simp +arith; done)) | exact Nat.le_trans (by with_reducible assumption) (by simp +arith; done) | (simp; done)))) | ((with_reducible refine Fr.setOld ?_ _ ?_ _); rotate_left; (focus (simp; done))))) G3 (fun x hx => Or.inl hx)
      obtain ⟨B4, c4, rfl, N4, m4⟩ := HO2.out
      go_roundw
      case rel => exact ⟨l ++ [o], rest, B4, c4, rfl, m4, N4.fr G3' (by omega) (fun x hx => HO3.out.ge x hx), HR.out, O3, F2.trans' G3' (fun x hx => Or.inr (HO3.out.ge x hx))⟩
      case measure => simp [lenV]; omega

/-- An operation's record. -/
def putO (o : OpD) : Option (List Int) := putS o.k o.id o.f o.c o.vs o.wl
def recs : List OpD → List Int
  | [] => []
  | o :: r => (putO o).getD [] ++ recs r
theorem recs_snoc : ∀ (l : List OpD) (o : OpD), recs (l ++ [o]) = recs l ++ (putO o).getD []
  | [], o => by simp [recs]
  | x :: r, o => by simp [recs, recs_snoc r o]
theorem putO_bytes {o : OpD} {ys : List Int} (h : putO o = some ys) : byteOk ys ∧ ys.length ≤ 70 := by
  unfold putO putS at h
  split at h
  case isFalse => cases h
  case isTrue hc =>
    cases h
    obtain ⟨⟨k1, k5⟩, ⟨i0, i1⟩, ⟨f0, f1⟩, ⟨c0, c1⟩, v8, n1, n2, n3, n4, n5⟩ := hc
    have l8 := les_len o.vs
    have hlen : (putTail o.k o.id o.f o.c o.vs o.wl).length ≤ 69 := by
      unfold putTail
      split
      · simp [le_len]
      · split
        · simp [le_len]; omega
        · split
          · simp [le_len]
          · split <;> simp [le_len]
    have hok : byteOk (putTail o.k o.id o.f o.c o.vs o.wl) := by
      unfold putTail
      split
      · exact byteOk.cons (by omega) (by omega) (((le_ok 2 _).app (le_ok 2 _)).app (le_ok 1 _))
      · split
        · exact byteOk.cons (by omega) (by omega) (((le_ok 2 _).app (le_ok 2 _)).app (les_ok _)) <;> omega
        · split
          · exact byteOk.cons (by omega) (by omega) ((le_ok 2 _).app (le_ok 1 _))
          · split
            · exact byteOk.cons (by omega) (by omega) (le_ok 2 _)
            · exact byteOk.cons (by omega) (by omega) ((le_ok 2 _).app (by cases o.wl <;> decide))
    constructor
    · rw [recB_small (by omega)]
      exact byteOk.cons (by omega) (by omega) hok
    · simp [recB]; omega
theorem recs_len (l : List OpD) : (recs l).length ≤ 70 * l.length := by
  induction l with
  | nil => simp [recs]
  | cons o r ih =>
    simp only [recs, List.length_append, List.length_cons]
    cases h : putO o with
    | none => simp; omega
    | some ys => have := (putO_bytes h).2; simp; omega

set_option maxRecDepth 100000 in
set_option maxHeartbeats 4000000 in
theorem wjoin (v : Value) (l : List OpD) (hl : l.length ≤ 1000) (hc : ∀ o ∈ l, ∃ ys, putO o = some ys) (w : World) (hv : OpsR w v l) :
    Calls Tryd.prog 19 #[v] w fun e w' => (∃ u, e = .returned (.tuple #[u, .int .i64 0]) ∧ OwnB w' w.heap.size u (recs l)) ∧ Fr [] w w' := by
  have HC := Lib.hid hc
  obtain ⟨A, cap, rfl, hcap, hA⟩ := hv
  have hl' : (l.length : Int) ≤ 1000 := by omega
  have HA := Lib.hid hA
  clear hA hc
  go_enter Tryd.func19, Tryd.ntmps19
  go_wp2_with fail
  go_loopw [4, 11] (fun u i w' => ∃ k : Nat, i = .int .i64 k ∧ k ≤ l.length ∧ OwnB w' w.heap.size u (recs (l.take k)) ∧ Fr [] w w') (fun _ i _ => l.length - (intOf i).toNat)
  case atStart => exact ⟨0, rfl, by omega, OwnB.nil _ _, Fr.refl _ _⟩
  case round =>
    obtain ⟨k, rfl, k1, O1, F1⟩ := hrel
    have HO1 := Lib.hid O1
    clear O1
    by_cases hk : k < l.length
    · rcases HA.out with hz | ⟨b, off, rfl, hb, hcl⟩
      · simp [hz] at hk
      obtain ⟨x, q, hn⟩ := hcl k l[k] (by simp [hk])
      obtain ⟨ys, hys⟩ := HC.out l[k] (List.getElem_mem hk)
      have e1 : Hid (recs (l.take (k + 1)) = recs (l.take k) ++ ys) := by
        unfold Hid
        rw [List.take_succ_eq_append_getElem hk, recs_snoc, hys]; rfl
      obtain ⟨hyb, hyl⟩ := putO_bytes hys
      have HYB := Lib.hid hyb
      have hrl := recs_len (l.take k)
      have hrl2 : (recs (l.take k)).length ≤ 70000 := by rw [List.length_take] at hrl; omega
      generalize hlo : l[k] = o at *
      have c0 := (F1.cell (off := off + k * 6 + 0) hb).trans (q 0 _ rfl)
      have c1 := (F1.cell (off := off + k * 6 + 1) hb).trans (q 1 _ rfl)
      have c2 := (F1.cell (off := off + k * 6 + 2) hb).trans (q 2 _ rfl)
      have c3 := (F1.cell (off := off + k * 6 + 3) hb).trans (q 3 _ rfl)
      have c4 := (F1.cell (off := off + k * 6 + 4) hb).trans (q 4 _ rfl)
      have c5 := (F1.cell (off := off + k * 6 + 5) hb).trans (q 5 _ rfl)
      simp only [Nat.add_zero] at c0
      have HNV := Lib.hid hn
      have HYS := Lib.hid hys
      have hvl : o.vs.length ≤ 1000000 := by
        unfold putO putS at hys
        split at hys
        case isFalse => cases hys
        case isTrue hcc => have := hcc.2.2.2.2.1; omega
      clear q hcl hlo hys hn hyb hrl
      go_wp2_with fail
      refine (wputop o.k o.id o.f o.c x.1 x.2 o.vs o.wl hvl _ ((NAt.fr (S := []) ((HNV.out.fr F1 (Nat.le_refl _) (by simp)).up F1.size) (by repeat' (first | (with_reducible exact Fr.refl _ _) | (with_reducible assumption) | (with_reducible refine Fr.drew ?_) | (with_reducible refine Fr.drewN ?_ _) | (with_reducible refine Fr.alloc ?_ _) | ((with_reducible refine Fr.setNew ?_ _ ?_ _); rotate_left; (focus (first | (with_reducible assumption) | exact Nat.le_of_lt (by with_reducible assumption) | (focus (simp +arith; done)) | exact Nat.le_trans (by with_reducible assumption) (by simp +arith; done) | (simp; done)))) | ((with_reducible refine Fr.setOld ?_ _ ?_ _); rotate_left; (focus (simp; done))))) (Nat.le_refl _) (by simp)).up (by simp))).mono ?_
      rintro e w2 ⟨⟨hno, rfl⟩ | ⟨v2, ys2, hy2, rfl, O2⟩, f2⟩
      · have hq := HYS.out
        unfold putO at hq
        rw [hno] at hq; cases hq
      · obtain rfl : ys2 = ys := by have hq := HYS.out; unfold putO at hq; rw [hy2] at hq; exact Option.some.inj hq
        have z1 := F1.size
        have z2 := f2.size
        simp only [size_alloc] at z2
        have S2 := Lib.hid (O2.sl HYB.out)
        have F2 : Fr [] w w2 := Fr.trans' (S := []) (by repeat' (first | (with_reducible exact Fr.refl _ _) | (with_reducible assumption) | (with_reducible refine Fr.drew ?_) | (with_reducible refine Fr.drewN ?_ _) | (with_reducible refine Fr.alloc ?_ _) | ((with_reducible refine Fr.setNew ?_ _ ?_ _); rotate_left; (focus (first | (with_reducible assumption) | exact Nat.le_of_lt (by with_reducible assumption) | (focus (simp +arith; done)) | exact Nat.le_trans (by with_reducible assumption) (by simp +arith; done) | (simp; done)))) | ((with_reducible refine Fr.setOld ?_ _ ?_ _); rotate_left; (focus (simp; done))))) f2 (by simp)
        have HO2 : Hid (OwnB w2 w.heap.size u4 (recs (l.take k))) := OwnB.fr (S := []) (OwnB.fr (S := []) HO1.out (by repeat' (first | (with_reducible exact Fr.refl _ _) | (with_reducible assumption) | (with_reducible refine Fr.drew ?_) | (with_reducible refine Fr.drewN ?_ _) | (with_reducible refine Fr.alloc ?_ _) | ((with_reducible refine Fr.setNew ?_ _ ?_ _); rotate_left; (focus (first | (with_reducible assumption) | exact Nat.le_of_lt (by with_reducible assumption) | (focus (simp +arith; done)) | exact Nat.le_trans (by with_reducible assumption) (by simp +arith; done) | (simp; done)))) | ((with_reducible refine Fr.setOld ?_ _ ?_ _); rotate_left; (focus (simp; done))))) (by simp)) f2 (by simp)
        clear f2 hy2 O2
        go_wp2_with (at_builtin; refine wpList_appS _ rfl (.tmp 23) (.tmp 24) rfl rfl w.heap.size _ (recs (l.take k)) rfl HO2.out _ ys2 rfl S2.out (by omega) (by omega) ?_; intro v3 w3 O3 G3 U3)
        go_roundw
        case rel => exact ⟨k + 1, by go_num, by omega, by rw [e1.out]; exact O3, F2.trans' G3 (fun x hx => Or.inr (own_ge HO2.out x hx))⟩
        case measure => simp [intOf]; omega
    · have hk' : k = l.length := by omega
      subst hk'
      go_wp2
      go_ret2
      have := HO1.out
      rw [List.take_length] at this
      exact ⟨⟨u4, rfl, this⟩, F1⟩

end Go.Proofs.YtoebfpimojkamaaDoor
