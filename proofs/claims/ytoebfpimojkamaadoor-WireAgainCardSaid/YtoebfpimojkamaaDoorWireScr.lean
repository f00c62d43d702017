/- Rows of operations; package wire's Script and the reference's. -/
import Derived.Test.YtoebfpimojkamaaDoorWireAnsR
namespace Go.Proofs.YtoebfpimojkamaaDoor
open Go.RowKit

def opCells (o : OpD) (x : Option Addr × Nat) : List Value := [.int .i64 o.k, .int .i64 o.id, .int .i64 o.f, .int .i64 o.c, .slice x.1 o.vs.length x.2, .bool o.wl]
def opsCells (l : List (OpD × (Option Addr × Nat))) : List Value := l.flatMap fun p => opCells p.1 p.2
theorem opsCells_snoc (l : List (OpD × (Option Addr × Nat))) (o : OpD) (x : Option Addr × Nat) : opsCells (l ++ [(o, x)]) = opsCells l ++ opCells o x := by simp [opsCells]
theorem opsCells_len (l : List (OpD × (Option Addr × Nat))) : (opsCells l).length = l.length * 6 := by
  induction l with
  | nil => rfl
  | cons p r ih =>
    simp only [opsCells, List.flatMap_cons, List.length_append, List.length_cons] at ih ⊢
    rw [ih]
    simp [opCells]; omega
theorem opsCells_get : ∀ (l : List (OpD × (Option Addr × Nat))) (i j : Nat) (p : OpD × (Option Addr × Nat)), l[i]? = some p → j < 6 → (opsCells l)[i * 6 + j]? = (opCells p.1 p.2)[j]?
  | [], _, _, _, h, _ => by simp at h
  | q :: r, 0, j, p, h, hj => by
    simp at h; subst h
    simp only [opsCells, List.flatMap_cons]
    rw [List.getElem?_append_left (by simp [opCells]; omega)]
    simp
  | q :: r, i + 1, j, p, h, hj => by
    have := opsCells_get r i j p (by simpa using h) hj
    simp only [opsCells, List.flatMap_cons] at this ⊢
    rw [List.getElem?_append_right (by simp [opCells]; omega)]
    rw [show (i + 1) * 6 + j - (opCells q.1 q.2).length = i * 6 + j by simp [opCells]; omega]
    exact this
theorem opCells_one (o : OpD) (x : Option Addr × Nat) : ∀ u ∈ opCells o x, u.oneCell' = true := by
  intro u hu
  simp [opCells] at hu
  rcases hu with rfl | rfl | rfl | rfl | rfl | rfl <;> rfl

/-- A row of operations of the call's own; their values lie elsewhere. -/
def OwnOps (w : World) (base : Nat) (v : Value) (l : List OpD) : Prop :=
  ∃ X : List (OpD × (Option Addr × Nat)), X.map Prod.fst = l ∧ w.ownsRow base 24 6 v l.length (opsCells X) ∧ ∀ p ∈ X, NAt w .u64 18446744073709551615 w.heap.size p.2.1 p.1.vs ∧ (p.1.vs = [] ∨ ∀ a, p.2.1 = some a → a.block ∉ v.ownBlock.toList)
theorem OwnOps.nil (w : World) (base : Nat) : OwnOps w base (.slice none 0 0) [] := ⟨[], rfl, ⟨rfl, Or.inl ⟨rfl, rfl⟩⟩, by simp⟩
theorem OwnOps.fr {S : List Nat} {w w' : World} {base : Nat} {v : Value} {l : List OpD} (h : OwnOps w base v l) (f : Fr S w w') (hb : base ≤ w.heap.size) (hS : ∀ x ∈ S, w.heap.size ≤ x) : OwnOps w' base v l := by
  obtain ⟨X, h1, h2, h3⟩ := h
  have f' : Fr [] w w' := f.keep hS
  exact ⟨X, h1, ownsRow_fr h2 f' (by simp), fun p hp => ⟨((h3 p hp).1.fr f' (Nat.le_refl _) (by simp)).up f'.size, (h3 p hp).2⟩⟩
theorem OwnOps.ge {w : World} {base : Nat} {v : Value} {l : List OpD} (h : OwnOps w base v l) : ∀ x ∈ v.ownBlock.toList, base ≤ x := by
  obtain ⟨X, h1, h2, h3⟩ := h
  exact own_ge h2
/-- Operations that are read. -/
def OpsR (w : World) (v : Value) (l : List OpD) : Prop := ∃ A cap, v = .slice A l.length cap ∧ l.length ≤ cap ∧ (l = [] ∨ ∃ b off, A = some ⟨b, off, none⟩ ∧ b < w.heap.size ∧
  ∀ i o, l[i]? = some o → ∃ x : Option Addr × Nat, (∀ j u, (opCells o x)[j]? = some u → w.cell? ⟨b, off + i * 6 + j, none⟩ = some u) ∧ NAt w .u64 18446744073709551615 w.heap.size x.1 o.vs)
theorem OwnOps.reads {w : World} {base : Nat} {v : Value} {l : List OpD} (h : OwnOps w base v l) : OpsR w v l := by
  obtain ⟨X, h1, ⟨h0, ⟨rfl, h2⟩ | ⟨g, cap, cur, rfl, q1, q2, q3, q4, q5, q6⟩⟩, h3⟩ := h
  · exact ⟨none, 0, by rw [h2], by omega, Or.inl (List.length_eq_zero_iff.1 h2)⟩
  · refine ⟨_, cap, rfl, q3, Or.inr ⟨g, 0, rfl, lt_of_heap q2, fun i o hi => ?_⟩⟩
    rw [← h1, List.getElem?_map, Option.map_eq_some_iff] at hi
    obtain ⟨p, hp, rfl⟩ := hi
    refine ⟨p.2, fun j u hu => ?_, (h3 p (List.mem_of_getElem? hp)).1⟩
    have hj : j < 6 := by
      have := (List.getElem?_eq_some_iff.1 hu).1
      simpa [opCells] using this
    have hil : i < l.length := by
      have := (List.getElem?_eq_some_iff.1 hp).1
      rw [← h1]; simpa using this
    have e1 := opsCells_get X i j p hp hj
    rw [hu] at e1
    have e2 := congrArg (fun l => l[i * 6 + j]?) q6
    rw [List.getElem?_take, if_pos (by omega), e1] at e2
    rw [Nat.zero_add, blk_cell q2]
    simpa using e2
theorem OpsR.fr {S : List Nat} {w w' : World} {v : Value} {l : List OpD} (h : OpsR w v l) (f : Fr S w w') (hS : ∀ x ∈ S, w.heap.size ≤ x) : OpsR w' v l := by
  have f' : Fr [] w w' := f.keep hS
  obtain ⟨A, cap, rfl, hc, h | ⟨b, off, h1, h2, h3⟩⟩ := h
  · exact ⟨A, cap, rfl, hc, Or.inl h⟩
  · refine ⟨A, cap, rfl, hc, Or.inr ⟨b, off, h1, Nat.lt_of_lt_of_le h2 f'.size, fun i o hi => ?_⟩⟩
    obtain ⟨x, q1, q2⟩ := h3 i o hi
    exact ⟨x, fun j u hu => by rw [Fr.cell f' h2]; exact q1 j u hu, (q2.fr f' (Nat.le_refl _) (by simp)).up f'.size⟩
theorem OpsR.take {w : World} {A : Option Addr} {n cap : Nat} {l : List OpD} (h : OpsR w (.slice A n cap) l) (k c : Nat) (hk : k ≤ l.length) (hc : k ≤ c) : OpsR w (.slice A k c) (l.take k) := by
  obtain ⟨A', cap', h0, hc', h⟩ := h
  injection h0 with h0 h0' h0''
  subst h0
  refine ⟨A, c, by rw [List.length_take, Nat.min_eq_left hk], by rw [List.length_take]; omega, ?_⟩
  rcases h with h | ⟨b, off, h1, h2, h3⟩
  · left; rw [h]; simp
  · right
    refine ⟨b, off, h1, h2, fun i o hi => h3 i o ?_⟩
    rw [List.getElem?_take] at hi
    split at hi
    · exact hi
    · cases hi

/-- What an append of one operation comes to. -/
theorem appop_run (w : World) (base : Nat) (v : Value) (l : List OpD) (hown : OwnOps w base v l) (o : OpD) (x : Option Addr × Nat) (hx : NAt w .u64 18446744073709551615 w.heap.size x.1 o.vs) (hxa : o.vs = [] ∨ ∀ a, x.1 = some a → a.block ∉ v.ownBlock.toList)
    (A : Addr) (c : Nat) (hA : ∀ (j : Nat) (u : Value), (opCells o x)[j]? = some u → w.cell? (A.add j) = some u) (hsz : l.length ≤ 1000000) (hb : base ≤ w.heap.size) :
    ∃ v' w', (Builtin.append_ #[41, 41] 41 #[v, .slice (some A) 1 c]).run Tryd.prog w = .ok v' w' ∧ OwnOps w' base v' (l ++ [o]) ∧ Fr v.ownBlock.toList w w' ∧ (∀ q ∈ v'.ownBlock.toList, q ∈ v.ownBlock.toList ∨ q = w.heap.size) := by
  obtain ⟨X, h1, h2, h3⟩ := hown
  obtain ⟨ti, hti, htz, hts, htb⟩ := info_parts (P := Tryd.prog) (e := 24) (z := .agg #[.int .i64 0, .int .i64 0, .int .i64 0, .int .i64 0, .slice none 0 0, .bool false]) (size := 6) (bytes := 64) (by kernel_rfl)
  obtain ⟨v', w', q1, q2, q3, _, q5⟩ := run_append_own_at w base 41 41 24 ti (.agg #[.int .i64 0, .int .i64 0, .int .i64 0, .int .i64 0, .slice none 0 0, .bool false]) 6 64 Tryd.underlying41 hti htz hts htb rfl (by decide) v l.length (opsCells X) h2 A 1 c (opCells o x) (by simp [opCells]) hA (opCells_one o x) (by unfold maxLen; omega) (by omega) hb
  have fr := grown_fr q3
  have hq : ∀ q ∈ v'.ownBlock.toList, q ∈ v.ownBlock.toList ∨ q = w.heap.size := by
    intro q hq
    rcases q5 with h4 | h4
    · left; rw [← h4]; exact hq
    · right; rw [h4] at hq; simpa using hq
  have keep : ∀ (y : Option Addr) (vs : List Int), NAt w .u64 18446744073709551615 w.heap.size y vs → (vs = [] ∨ ∀ a, y = some a → a.block ∉ v.ownBlock.toList) → NAt w' .u64 18446744073709551615 w'.heap.size y vs ∧ (vs = [] ∨ ∀ a, y = some a → a.block ∉ v'.ownBlock.toList) := by
    intro y vs hy ha
    by_cases hz : vs = []
    · subst hz; exact ⟨NAt.nil _ _ _ _ _, Or.inl rfl⟩
    · rcases ha with ha | ha
      · exact absurd ha hz
      refine ⟨(hy.keep fr (Nat.le_refl _) ha).up fr.size, Or.inr fun a hya hmem => ?_⟩
      have hlt : a.block < w.heap.size := by
        rcases hy with h | ⟨b, off, e, hlt, _⟩
        · exact absurd h hz
        · rw [hya] at e; cases e; exact hlt
      rcases hq _ hmem with h | h
      · exact ha a hya h
      · omega
  refine ⟨v', w', q1, ⟨X ++ [(o, x)], by simp [h1], by rw [opsCells_snoc]; simpa using q2, fun p hp => ?_⟩, fr, hq⟩
  rcases List.mem_append.1 hp with hp | hp
  · exact keep _ _ (h3 p hp).1 (h3 p hp).2
  · simp at hp
    subst hp
    exact keep _ _ hx hxa
theorem wpList_appO {ops : Array Oper} {rest : List Oper} {o : Oper} {a : Act} {Q : Exit → Act → World → Prop} (w : World) (hgd : o.guard = none) (s x : Operand)
    (ho : o.op = .call { callee := .builtin .append, args := #[s, x], argTypes := #[41, 41] }) (hty : o.type = 41)
    (base : Nat) (v : Value) (l : List OpD) (hs : a.eval s = v) (hown : OwnOps w base v l) (A : Addr) (c : Nat) (hx : a.eval x = .slice (some A) 1 c) (d : OpD) (y : Option Addr × Nat) (hA : ∀ (j : Nat) (u : Value), (opCells d y)[j]? = some u → w.cell? (A.add j) = some u)
    (hv : NAt w .u64 18446744073709551615 w.heap.size y.1 d.vs) (hva : d.vs = [] ∨ ∀ a, y.1 = some a → a.block ∉ v.ownBlock.toList) (hsz : l.length ≤ 1000000) (hbase : base ≤ w.heap.size)
    (h : ∀ v' w', OwnOps w' base v' (l ++ [d]) → Fr v.ownBlock.toList w w' → (∀ q ∈ v'.ownBlock.toList, q ∈ v.ownBlock.toList ∨ q = w.heap.size) → wpList Tryd.prog ops Q rest (a.put o.dst v') w') : wpList Tryd.prog ops Q (o :: rest) a w := by
  obtain ⟨v', w', hrun, h2, h3, h4⟩ := appop_run w base v l hown d y hv hva A c hA hsz hbase
  exact Lib.wpList_append_run w hgd s x 41 41 ho v (.slice (some A) 1 c) hs hx v' w' (by rw [hty]; exact hrun) (h v' w' h2 h3 h4)
theorem op_new (w : World) (o : OpD) (x : Option Addr × Nat) (q : Nat) (hq : w.heap[q]? = some (opc o.k o.id o.f o.c x.1 o.vs.length x.2 o.wl)) : ∀ (j : Nat) (u : Value), (opCells o x)[j]? = some u → w.cell? ((⟨q, 0, none⟩ : Addr).add j) = some u := by
  intro j u hj
  rw [show (⟨q, 0, none⟩ : Addr).add j = ⟨q, j, none⟩ by unfold Addr.add; split <;> simp_all, blk_cell hq, ← hj]
  simp [opCells]

/-- Operations that bytes begin with. -/
inductive Scr : List Int → List OpD → List Int → Prop
  | nil (xs : List Int) : Scr xs [] xs
  | cons {xs ys zs : List Int} {o : OpD} {l : List OpD} : readS xs = some (o, ys) → Scr ys l zs → Scr xs (o :: l) zs
theorem Scr.snoc {xs ys zs : List Int} {o : OpD} {l : List OpD} (h : Scr xs l ys) (hr : readS ys = some (o, zs)) : Scr xs (l ++ [o]) zs := by
  induction h with
  | nil xs => exact .cons hr (.nil _)
  | cons h1 _ ih => exact .cons h1 (ih hr)
theorem Scr.same {xs ys : List Int} {l : List OpD} (h : Scr xs l ys) : readS ys = none → ∀ {l' ys'}, Scr xs l' ys' → readS ys' = none → l = l' ∧ ys = ys' := by
  induction h with
  | nil xs =>
    intro hn l' ys' h' hn'
    cases h' with
    | nil => exact ⟨rfl, rfl⟩
    | cons h1 _ => rw [hn] at h1; cases h1
  | cons h1 _ ih =>
    intro hn l' ys' h' hn'
    cases h' with
    | nil => rw [hn'] at h1; cases h1
    | cons h2 h3 =>
      rw [h1] at h2
      cases h2
      obtain ⟨rfl, rfl⟩ := ih hn h3 hn'
      exact ⟨rfl, rfl⟩
theorem readS_len {xs rest : List Int} {o : OpD} (h : readS xs = some (o, rest)) : rest.length < xs.length := by
  unfold readS at h
  cases xs with
  | nil => cases h
  | cons a t =>
    cases hr : recOf (a :: t) with
    | none => rw [hr] at h; cases h
    | some p =>
      rw [hr] at h
      simp only [Option.bind_some, Option.map_eq_some_iff] at h
      obtain ⟨q, _, h2⟩ := h
      cases h2
      simp only [recOf] at hr
      split at hr
      · cases hr; simp; omega
      · cases hr
theorem Scr.len {xs ys : List Int} {l : List OpD} (h : Scr xs l ys) : l.length + ys.length ≤ xs.length := by
  induction h with
  | nil => simp
  | cons h1 _ ih => have := readS_len h1; simp; omega

theorem own_lt {w : World} {base : Nat} {v : Value} {l : List OpD} (h : OwnOps w base v l) : ∀ x ∈ v.ownBlock.toList, x < w.heap.size := by
  obtain ⟨X, h1, ⟨h0, ⟨rfl, h2⟩ | ⟨g, cap, cur, rfl, q1, q2, q3⟩⟩, h3⟩ := h
  · simp [Value.ownBlock]
  · intro x hx
    simp [Value.ownBlock] at hx
    subst hx
    exact lt_of_heap q2
theorem readS_ok {xs rest : List Int} {o : OpD} (hb : byteOk xs) (h : readS xs = some (o, rest)) : byteOk rest := by
  unfold readS at h
  cases xs with
  | nil => cases h
  | cons a t =>
    cases hr : recOf (a :: t) with
    | none => rw [hr] at h; cases h
    | some p =>
      rw [hr] at h
      simp only [Option.bind_some, Option.map_eq_some_iff] at h
      obtain ⟨q, _, h2⟩ := h
      cases h2
      simp only [recOf] at hr
      split at hr
      · cases hr
        exact fun v hv => hb v (List.mem_cons_of_mem _ (List.mem_of_mem_drop hv))
      · cases hr
/-- What 'Script' comes to. -/
structure ScrPost (xs : List Int) (w : World) (e : Ending) (w' : World) : Prop where
  val : ∃ v l ys, e = .returned (.tuple #[v, .int .i64 ys.length]) ∧ Scr xs l ys ∧ readS ys = none ∧ OwnOps w' w.heap.size v l
  fr : Fr [] w w'

set_option maxRecDepth 100000 in
set_option maxHeartbeats 4000000 in
theorem wscript (A : Option Addr) (cap : Nat) (xs : List Int) (g : Addr) (hc : xs.length ≤ cap) (hl : xs.length ≤ 1000) (w : World) (hN : NAt w .u8 255 w.heap.size A xs) (hG : Gl w g) :
    Calls Tryd.prog 18 #[.slice A xs.length cap] w fun e w' => ScrPost xs w e w' := by
  have HN := Lib.hid hN
  have HG := Lib.hid hG
  have wz := hG.lt
  clear hN hG
  go_enter Tryd.func18, Tryd.ntmps18
  go_wp2_with fail
  go_loopw [0, 4] (fun b u w' => ∃ (l : List OpD) (ys : List Int) (B : Option Addr) (c : Nat), b = .slice B ys.length c ∧ ys.length ≤ c ∧ NAt w' .u8 255 w'.heap.size B ys ∧ (ys = [] ∨ ∀ a, B = some a → a.block ∉ u.ownBlock.toList) ∧ Scr xs l ys ∧ OwnOps w' w.heap.size u l ∧ Fr [] w w') (fun b _ _ => lenV b)
  case atStart => exact ⟨[], xs, A, cap, rfl, hc, HN.out, Or.inr (by simp [Value.ownBlock]), .nil xs, OwnOps.nil _ _, Fr.refl _ _⟩
  case round =>
    obtain ⟨l, ys, B, c, rfl, c1, N1, NA, hS, O1, F1⟩ := hrel
    have HN1 := Lib.hid N1
    have HNA := Lib.hid NA
    have HS := Lib.hid hS
    have HO1 := Lib.hid O1
    have hl1 := hS.len
    clear N1 NA hS O1
    go_wp2_with fail
    refine (wread B c ys g c1 (by omega) _ HN1.out (Gl.fr HG.out F1 (by simp))).mono ?_
    rintro e w2 ⟨⟨hr, rfl⟩ | ⟨o, rest, A2, cap2, R2, hr, rfl, V2, O2, A2f⟩, f2⟩
    · have HR := Lib.hid hr
      clear hr
      have O3 := HO1.out.fr f2 (by have := F1.size; omega) (by simp)
      go_wp2_with fail
      go_ret2
      have F2 := F1.trans f2
      exact ⟨⟨u4, l, ys, rfl, HS.out, HR.out, O3.fr (S := []) (by repeat' (first | (with_reducible exact Fr.refl _ _) | (with_reducible assumption) | (with_reducible refine Fr.drew ?_) | (with_reducible refine Fr.drewN ?_ _) | (with_reducible refine Fr.alloc ?_ _) | ((with_reducible refine Fr.setNew ?_ _ ?_ _); rotate_left; (focus (first | (with_reducible assumption) | exact Nat.le_of_lt (by with_reducible assumption) | (focus (simp +arith; done)) | exact Nat.le_trans (by with_reducible assumption) (by simp +arith; done) | (simp; done)))) | ((with_reducible refine Fr.setOld ?_ _ ?_ _); rotate_left; (focus (simp; done))))) (by have := F2.size; omega) (by simp)⟩, (by repeat' (first | (with_reducible exact Fr.refl _ _) | (with_reducible assumption) | (with_reducible refine Fr.drew ?_) | (with_reducible refine Fr.drewN ?_ _) | (with_reducible refine Fr.alloc ?_ _) | ((with_reducible refine Fr.setNew ?_ _ ?_ _); rotate_left; (focus (first | (with_reducible assumption) | exact Nat.le_of_lt (by with_reducible assumption) | (focus (simp +arith; done)) | exact Nat.le_trans (by with_reducible assumption) (by simp +arith; done) | (simp; done)))) | ((with_reducible refine Fr.setOld ?_ _ ?_ _); rotate_left; (focus (simp; done)))))⟩
    · have hy := readS_len hr
      have HR := Lib.hid (HS.out.snoc hr)
      have z1 := F1.size
      have z2 := f2.size
      have HO3 := Lib.hid (HO1.out.fr f2 (by omega) (by simp))
      have hug : ∀ x ∈ u4.ownBlock.toList, x < wr.heap.size := own_lt HO1.out
      have F2 := F1.trans f2
      have HV := Lib.hid V2
      have HVA : Hid (o.vs = [] ∨ ∀ a, (A2, cap2).1 = some a → a.block ∉ u4.ownBlock.toList) := Or.inr fun a ha hm => by have := A2f a ha; have := hug _ hm; omega
      have HB2 := Lib.hid (O2.sl (readS_ok HN1.out.mem hr))
      have HB3 := Lib.hid (own_ge O2)
      have HUG := Lib.hid hug
      clear hr V2 O2 A2f hug f2
      go_wp2_with (at_builtin; refine wpList_appO _ rfl (.tmp 19) (.tmp 21) rfl rfl w.heap.size _ l rfl (HO3.out.fr (S := []) (by repeat' (first | (with_reducible exact Fr.refl _ _) | (with_reducible assumption) | (with_reducible refine Fr.drew ?_) | (with_reducible refine Fr.drewN ?_ _) | (with_reducible refine Fr.alloc ?_ _) | ((with_reducible refine Fr.setNew ?_ _ ?_ _); rotate_left; (focus (first | (with_reducible assumption) | exact Nat.le_of_lt (by with_reducible assumption) | (focus (simp +arith; done)) | exact Nat.le_trans (by with_reducible assumption) (by simp +arith; done) | (simp; done)))) | ((with_reducible refine Fr.setOld ?_ _ ?_ _); rotate_left; (focus (simp; done))))) (by omega) (by simp)) ⟨w2.heap.size + 1, 0, none⟩ 1 rfl o (A2, cap2) (op_new _ _ _ _ (by (apply heap_eq_of; (focus (repeat (first | (with_reducible assumption) | ((with_reducible refine heap_alloc_at ?_ _); first | (with_reducible rfl) | (focus (simp; done))) | (with_reducible apply heap_alloc_old) | ((with_reducible apply heap_set_other); (case hne => (first | (with_reducible assumption) | exact Nat.ne_of_lt (by with_reducible assumption) | exact Nat.ne_of_gt (by with_reducible assumption) | (focus (simp +arith; done)) | (simp; done)))) | (with_reducible apply heap_set_eq) | (with_reducible apply heap_drew_of) | (with_reducible apply heap_drewN_of)))); (focus (first | (simp; done) | rfl))))) ((NAt.fr (S := []) HV.out (by repeat' (first | (with_reducible exact Fr.refl _ _) | (with_reducible assumption) | (with_reducible refine Fr.drew ?_) | (with_reducible refine Fr.drewN ?_ _) | (with_reducible refine Fr.alloc ?_ _) | ((with_reducible refine Fr.setNew ?_ _ ?_ _); rotate_left; (focus (first | (with_reducible assumption) | exact Nat.le_of_lt (by with_reducible assumption) | (focus (simp +arith; done)) | exact Nat.le_trans (by with_reducible assumption) (by simp +arith; done) | (simp; done)))) | ((with_reducible refine Fr.setOld ?_ _ ?_ _); rotate_left; (focus (simp; done))))) (Nat.le_refl _) (by simp)).up (by simp; omega)) HVA.out (by omega) (by simp; omega) ?_; intro v3 w3 O3 G3 U3)
      have G3' : Fr u4.ownBlock.toList w2 w3 := Fr.trans' (S := u4.ownBlock.toList) (by repeat' (first | (with_reducible exact Fr.refl _ _) | (with_reducible assumption) | (with_reducible refine Fr.drew ?_) | (with_reducible refine Fr.drewN ?_ _) | (with_reducible refine Fr.alloc ?_ _) | ((with_reducible refine Fr.setNew ?_ _ ?_ _); rotate_left; (focus (first | (with_reducible assumption) | exact Nat.le_of_lt (by with_reducible assumption) | (focus (simp +arith; done)) | exact Nat.le_trans (by with_reducible assumption) (by simp +arith; done) | (simp; done)))) | ((with_reducible refine Fr.setOld ?_ _ ?_ _); rotate_left; (focus (simp; done))))) G3 (fun x hx => Or.inl hx)
      obtain ⟨B4, c4, rfl, N4, m4⟩ := HB2.out
      have hB : ∀ a, B4 = some a → wr.heap.size ≤ a.block := fun a ha => HB3.out a.block (by simp [Value.ownBlock, ha])
      go_roundw
      case rel =>
        refine ⟨l ++ [o], rest, B4, c4, rfl, m4, ?_, ?_, HR.out, O3, F2.trans' G3' (fun x hx => Or.inr (HO3.out.ge x hx))⟩
        · exact (N4.keep G3' (Nat.le_refl _) (fun a ha hm => by have := hB a ha; have := HUG.out _ hm; omega)).up G3'.size
        · rcases N4 with hz | ⟨b, off, rfl, hlt, _⟩
          · exact Or.inl hz
          · refine Or.inr fun a ha hm => ?_
            cases ha
            rcases U3 _ hm with h | h
            · have := hB _ rfl; have := HUG.out _ h; simp only at *; omega
            · simp at h; omega
      case measure => simp [lenV]; omega


end Go.Proofs.YtoebfpimojkamaaDoor
