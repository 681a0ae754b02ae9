/-
  Part 30 for the law: lemmas.
  Conditions: none.
-/
import Derived.Test.YtlfdfgokflhdbaaGreatExecSplitsK29
set_option maxHeartbeats 4000000
set_option maxRecDepth 100000
set_option linter.unusedVariables false
set_option linter.unusedSimpArgs false
set_option linter.unusedSectionVars false
namespace Go.Proofs.YtlfdfgokflhdbaaGreat
open Fw Go Go.IntKind
section
attribute [-simp] Fw.W.bD Fw.W.bB
structure JN (a b : Kc) : Prop where
 err : a.err = b.err
 reps : a.reps = b.reps
 asks : a.asks = b.asks
 ws : a.ws = b.ws
theorem sI (S : aF) (i : Int) (D : List Ht) : bp S i [] D = ⟨0, 0, [], [], []⟩ := by rw [bp.eq_def]
theorem tU (S : aF) : ∀ (L : List cD) (i j : Int) (D : List Ht), JN (bp S i L D) (bp S j L D)
 | [], i, j, D => by rw [sI, sI]; exact ⟨rfl, rfl, rfl, rfl⟩
 | b :: L, i, j, D => by
  rw [lz, lz]
  cases hr : fy S b with
  | none => exact ⟨rfl, rfl, rfl, rfl⟩
  | some T =>
   dsimp only
   split
   ·exact ⟨rfl, rfl, rfl, rfl⟩
   ·obtain ⟨h1, h2, h3, h4⟩ := tU S L (i + 1) (j + 1) (aj 0 D (fS S T b D).ws)
    exact ⟨h1, by dsimp only; rw [h2], by dsimp only; rw [h3], by dsimp only; rw [h4]⟩
theorem tV (S : aF) : ∀ (L M : List cD) (i : Int) (D : List Ht), ((bp S i L D).err ≠ 0 → (bp S i (L ++ M) D).err = (bp S i L D).err) ∧
  ((bp S i L D).err = 0 → (bp S i (L ++ M) D).err = (bp S 0 M (aj 0 D (bp S i L D).ws)).err ∧ (bp S i (L ++ M) D).reps = (bp S i L D).reps ++ (bp S 0 M (aj 0 D (bp S i L D).ws)).reps ∧ (bp S i (L ++ M) D).ws = (bp S i L D).ws ++ (bp S 0 M (aj 0 D (bp S i L D).ws)).ws)
 | [], M, i, D => by
  rw [sI]
  refine ⟨fun h => absurd rfl h, fun _ => ?_⟩
  obtain ⟨h1, h2, h3, h4⟩ := tU S M i 0 D
  exact ⟨h1, h2, h4⟩
 | b :: L, M, i, D => by
  rw [List.cons_append, lz, lz]
  cases hr : fy S b with
  | none => exact ⟨fun _ => rfl, fun h => absurd (show (1 : Int) = 0 from h) (by decide)⟩
  | some T =>
   dsimp only
   by_cases he : (fS S T b D).err ≠ 0
   ·rw [if_pos he, if_pos he]
    exact ⟨fun _ => rfl, fun h => absurd h he⟩
   ·rw [if_neg he, if_neg he]
    obtain ⟨h1, h2⟩ := tV S L M (i + 1) (aj 0 D (fS S T b D).ws)
    refine ⟨fun h => h1 h, fun h => ?_⟩
    obtain ⟨k1, k2, k3⟩ := h2 h
    dsimp only at *
    rw [cS]
    exact ⟨k1, by rw [k2]; (first | done | rfl), by rw [k3, List.append_assoc]⟩
def fT (S : aF) (L : List cD) (B : List Ht) : Int := if gQ S ≠ 0 then 100 else (bp S 0 L B).err
theorem oN {N0 : Nat} {s s' : PH} {S : aF} {B : List Ht} {L : List cD} {y : Value} (h : BQ N0 s S B L y s') : Fw.Mod [] s s' ∧ ∃ (u v t : aG) (at_ : Int), y = .tuple #[.agg #[ko u, ko v, ko t], .int .i64 at_, .int .i64 (fT S L B)] ∧
  (fT S L B = 0 → sU s s' B (bJ [] (bp S 0 L B).asks) ((bp S 0 L B).ws.foldl cv []) (bp S 0 L B).reps u v t ∧ xZ N0 B (bp S 0 L B).ws (bp S 0 L B).reps ∧ (bp S 0 L B).err = 0) ∧
  (fT S L B ≠ 0 → u = dF ∧ v = dF ∧ t = dF) := by
 obtain ⟨m, h⟩ := h
 refine ⟨m, ?_⟩
 unfold fT
 by_cases e : gQ S ≠ 0
 ·rw [if_pos e] at h ⊢
  exact ⟨dF, dF, dF, 0, h, fun g => absurd g (by decide), fun _ => ⟨rfl, rfl, rfl⟩⟩
 ·rw [if_neg e] at h ⊢
  by_cases e2 : (bp S 0 L B).err ≠ 0
  ·rw [if_pos e2] at h
   exact ⟨dF, dF, dF, _, h, fun g => absurd g e2, fun _ => ⟨rfl, rfl, rfl⟩⟩
  ·rw [if_neg e2] at h
   obtain ⟨u, v, t, rfl, h1, h2⟩ := h
   have e3 : (bp S 0 L B).err = 0 := by omega
   exact ⟨u, v, t, 0, by rw [e3], fun _ => ⟨h1, h2, e3⟩, fun g => absurd e3 g⟩
theorem Sl.take {α : Type} {E : cG α} {s : PH} {a : Option Addr} {n c k : Nat} {l : List α} (h : Sl E s (a, n, c) l) (hk : k ≤ n) : Sl E s (a, k, c) (l.take k) := by
 have hn : n = l.length := h.len
 have hle : n ≤ c := h.le
 have hf := h.cF
 refine ⟨⟨by show k = (l.take k).length; rw [List.length_take]; omega, fun i x hx => ?_⟩, by show k ≤ c; omega, by rw [List.length_take]; omega⟩
 rw [List.getElem?_take] at hx
 split at hx
 ·obtain ⟨ad, h1, h2⟩ := h.el.aB hx
  exact ⟨ad, _, h1, rfl, h2⟩
 ·cases hx
theorem Sl.drop {α : Type} {E : cG α} {s : PH} {a : Option Addr} {n c k : Nat} {l : List α} (h : Sl E s (a, n, c) l) (hk : k ≤ n) : Sl E s (if c = k then a else a.map (·.add (k * E.sz)), n - k, c - k) (l.drop k) := by
 have hn : n = l.length := h.len
 have hle : n ≤ c := h.le
 have hf := h.cF
 refine ⟨⟨by show n - k = (l.drop k).length; rw [List.length_drop]; omega, fun i x hx => ?_⟩, by show n - k ≤ c - k; omega, by rw [List.length_drop]; omega⟩
 rw [List.getElem?_drop] at hx
 have hil := (List.getElem?_eq_some_iff.1 hx).1
 obtain ⟨ad, h1, h2⟩ := h.el.aB hx
 dsimp only at h1
 refine ⟨ad.add (k * E.sz), E.f x, ?_, rfl, ?_⟩
 ·rw [if_neg (by omega), h1]; (first | done | rfl)
 ·show s.has ((ad.add (k * E.sz)).add (i * E.sz)) (E.f x)
  rw [jP, ← Nat.add_mul]
  exact h2
theorem iV.r {s0 s : PH} {t : aG} {L : List Rp} {qs : List pK} (h : iV s0 s t.1 t.2.1 t.2.2 L qs) (h1 : L.length ≤ 12) (h2 : ∀ r ∈ L, r.rows.length ≤ 64 ∧ ∀ v ∈ r.rows, v.length ≤ 8) : Dh s t L qs := by
 have hl : qs.length = L.length := by rw [← h.eq, List.length_map]
 refine ⟨Sl.bE h.gw.row (by omega), h.eq, fun q hq => ?_⟩
 have hr := h.rs q hq
 have hqL : q.r ∈ L := by rw [← h.eq]; exact List.mem_map_of_mem hq
 obtain ⟨k1, k2⟩ := h2 q.r hqL
 have hvl : q.vs.length = q.r.rows.length := by rw [← hr.eq, List.length_map]
 refine ⟨Sl.bE hr.gw.row (by omega), hr.eq, fun v hv => Sl.bE (hr.vs v hv).1 ?_⟩
 have := k2 v.l (by rw [← hr.eq]; exact List.mem_map_of_mem hv)
 omega
theorem FM {x : ByteArray} {l : List aX} (e : gu x = some l) : l.length ≤ x.size := by
 obtain ⟨h1, _, _, _⟩ := mN e
 have h4 := vV (l := l)
 rw [h1, cz]; exact h4
structure BN (B : List Ht) : Prop where
 cV : dO B
 ks : pH B
 vs : oW B
 cn : jN 1000 B
 len : B.length ≤ 400
theorem Hy {l : List Ht} (hk : pH l) (hv : ∀ x ∈ l, x.val.size ≤ 1000) (hl : l.length ≤ 400) : BN (jS l) := by
 obtain ⟨h1, h2, h3⟩ := rR l
 refine ⟨h1, fun x hx => hk x (h2 x hx), fun x hx => ?_, fun x hx c e => ?_, by omega⟩
 ·have := hv x (h2 x hx); omega
 ·have h4 := hv x (h2 x hx); have h5 := FM e; omega
theorem BN.ok {B : List Ht} (h : BN B) {s s' : PH} {t : aG} (hr : Sl bh s t B) : iC s t B := ⟨hr, by have h1 := hr.len; have h2 := h.len; omega, h.ks, h.vs, h.cV⟩
theorem ze {N0 : Nat} {B : List Ht} {ws : List Wr} {rps : List Rp} (hs : dO B) (hk : pH B) (hv : oW B) (hl : B.length ≤ 50000) (h : xZ N0 B ws rps) : aj 0 B (ws.foldl cv []) = aj 0 B ws ∧ dO (aj 0 B ws) ∧ pH (aj 0 B ws) ∧ oW (aj 0 B ws) ∧ (aj 0 B ws).length ≤ 70000 := by
 have e : aj 0 B (ws.foldl cv []) = aj 0 B ws := (jl hs ws List.Pairwise.nil).symm
 refine ⟨e, ?_⟩
 rw [← e]
 refine ⟨fD _ hs, fun x hx => ?_, fun x hx => ?_, ?_⟩
 ·rcases kU hx with ⟨y, hy, rfl⟩ | hx
  ·have := (h.sm y hy).1; dsimp only; omega
  ·exact hk x hx
 ·rcases kU hx with ⟨y, hy, rfl⟩ | hx
  ·exact (h.sm y hy).2
  ·exact hv x hx
 ·have h1 := jQ 0 (ws.foldl cv []) B
  have h2 := h.ol
  omega
theorem Jp {S : aF} (hr : xY S) : gQ S = 0 → (∀ T ∈ S.tabs, gh S T) ∧ S.tabs.length ≤ 6 := fun e => nj (by
 unfold gQ at e
 split at e
 ·assumption
 ·cases e) hr
theorem Cb {s : PH} {t : aG} {S : aF} {ps : List ay} (h : rN s t S ps) (hr : xY S) {b : aG} {L : List cD} {bs : List gL} (hb : qB s b L bs) {u : aG} {l : List Ht} (hu : ny bh s u l) (hk : pH l) (i : Int) :
  ai 6 #[eK S t, .slice b.1 b.2.1 b.2.2, .slice u.1 u.2.1 u.2.2, .int .i64 i] s fun y s' => y = .bool true ∧ Fw.Mod [] s s' := by
 obtain ⟨ba, bn, bc⟩ := b
 refine zk S.version S.last t.1 t.2.1 t.2.2 ba bn bc u.1 u.2.1 u.2.2 i _ s ?_
 unfold qx
 simp only [cE, aU, aN, aE, aP, uQ, bU, cZ]
 refine W.bl (fun z s' => z = ((S.version, S.last, t, ()), ()) ∧ s = s' ∧ S.tabs.length + fV S.tabs + gz bs + l.length ≤ 400 ∧ bs.length ≤ 12 ∧ (∀ x ∈ l, x.val.size ≤ 1000) ∧ 0 ≤ i ∧ i ≤ bn) ?_ ?_
 rotate_left
 ·intro J hJ
  have aw : W.call Tryz.prog 16 #[] (false, [(false, [.bool])]) (fun z => W.ret (fun y s' => y = .bool true ∧ Fw.Mod [] s s') (.bool z.1.1)) s := aL ((true, ()), ()) (yq s) rfl ⟨rfl, Mod.refl _ _⟩
  refine aL ((true, ()), ()) (yq s) rfl ?_
  refine (W.aa _ _ _ _).2 ⟨fun e => (by cases e), fun _ => ?_⟩
  refine W.au (Fs h hb hu) ?_
  rintro _ _ ⟨⟨g, rfl, hg⟩, rfl⟩
  refine ⟨((g, ()), ()), rfl, ?_⟩
  refine (W.aa _ _ _ _).2 ⟨fun _ => aw, fun e => ?_⟩
  obtain ⟨g1, g2, g3⟩ := hg e
  refine (W.aa _ _ _ _).2 ⟨fun _ => aw, fun e1 => ?_⟩
  have e1 : ¬ i < 0 := of_decide_eq_false e1
  refine (W.aa _ _ _ _).2 ⟨fun _ => aw, fun e2 => ?_⟩
  have e2 : ¬ i > (bn : Int) := of_decide_eq_false e2
  exact hJ _ _ ⟨rfl, rfl, g1, g2, g3, by omega, by omega⟩
 rintro _ s ⟨rfl, rfl, hg, hb12, hv, hi0, hin⟩
 obtain ⟨k, rfl⟩ : ∃ k : Nat, i = (k : Int) := ⟨i.toNat, by omega⟩
 have hkn : k ≤ bn := by omega
 have hS := h.KH (by omega)
 obtain ⟨hbs, hbv⟩ := hb.cF (by omega) hb12
 have hbl : bn = bs.length := hbs.len
 have hble : bn ≤ bc := hbs.le
 have hul := hu.cF (by omega)
 have hB := Hy hk hv (by omega)
 refine W.au (HM (a := u.1) (n := u.2.1) (c := u.2.2) hul hk (by omega)) ?_
 rintro _ s1 ⟨a1, n1, c1, rfl, hG1⟩
 refine ⟨(((a1, n1, c1), ()), ()), rfl, ?_⟩
 obtain ⟨B, hBe⟩ : ∃ B, jS l = B := ⟨_, rfl⟩
 rw [hBe] at hB hG1
 have hBlen := hB.len
 have sl1 : Sl bh s1 (a1, n1, c1) B := Sl.bE hG1.row (by omega)
 have run : ∀ {s1 s2 : PH} {N0 : Nat} {B : List Ht} {a2 : aG} {b : aG} {bs' : List gL}, N0 ≤ 5000 → s.le s2 → iC s2 a2 B → jN N0 B → Sl mG s2 b bs' → (∀ q ∈ bs', q ∈ bs) → bs'.length ≤ 12 → ai 19 #[eK S t, .slice b.1 b.2.1 b.2.2, zN a2] s2 (BQ N0 s2 S B (bs'.map (·.b))) := fun {s1 s2 N0 B a2 b bs'} h0 hle hsh hcn hsl hsub h12 =>
  yz h0 hsh (hS.mono hle) (Jp hr) hcn hsl h12 fun q hq => by
   obtain ⟨g1, g2⟩ := hbv q (hsub q hq)
   exact ⟨g1.mono hle, g2⟩
 have hLe : bs.map (·.b) = L := hb.eq
 -- all of it
 refine W.au (run (s1 := s) (a2 := (a1, n1, c1)) (b := (ba, bn, bc)) (by omega) hG1.md.le (hB.ok (s' := s1) sl1) hB.cn (hbs.mono hG1.md.le) (fun q hq => hq) hb12) ?_
 intro y s2 hq
 obtain ⟨m2, u2, v2, t2, at2, rfl, hok2, hno2⟩ := oN hq
 rw [hLe] at hok2 hno2 ⊢
 refine ⟨((u2, v2, t2, ()), (at2, ()), (fT S L B, ()), ()), rfl, ?_⟩
 have m02 := hG1.md.trans m2
 have sl2 := sl1.mono m2.le
 -- the first part
 refine W.bl (fun z s' => ∃ (u3 v3 t3 : aG), z = ((S.version, S.last, t, ()), ((a1, n1, c1), ()), (u2, v2, t2, ()), (fT S L B, ()), (u3, v3, t3, ()), (fT S (L.take k) B, ()), ()) ∧ Fw.Mod [] s2 s' ∧ (fT S (L.take k) B = 0 → sU s2 s' B (bJ [] (bp S 0 (L.take k) B).asks) ((bp S 0 (L.take k) B).ws.foldl cv []) (bp S 0 (L.take k) B).reps u3 v3 t3 ∧ xZ 1000 B (bp S 0 (L.take k) B).ws (bp S 0 (L.take k) B).reps ∧ (bp S 0 (L.take k) B).err = 0)) ?_ ?_
 rotate_left
 ·intro J hJ
  refine (W.ah _ _ _).2 ⟨⟨Int.le_refl 0, by omega, by omega⟩, ?_⟩
  have hsl : Sl mG s2 ((if bc = 0 then ba else Option.map (fun x => x.add 0) ba), (k : Int).toNat - 0, bc - 0) (bs.take k) := by
   have e1 : (if bc = 0 then ba else Option.map (fun x => x.add 0) ba) = ba := by split <;> simp [we]
   have e2 : (k : Int).toNat - 0 = k := by simp
   have e3 : bc - 0 = bc := rfl
   rw [e1, e2, e3]
   exact (hbs.mono m02.le).take hkn
  have hrun := run (s1 := s) (a2 := (a1, n1, c1)) (b := ((if bc = 0 then ba else Option.map (fun x => x.add 0) ba), (k : Int).toNat - 0, bc - 0)) (N0 := 1000) (by omega) m02.le (hB.ok (s' := s2) sl2) hB.cn hsl (fun q hq => List.mem_of_mem_take hq) (by rw [List.length_take]; omega)
  rw [List.map_take, hLe] at hrun
  refine (W.jy _ _ _).2 ⟨?_, ?_⟩
  all_goals
   refine W.au hrun ?_
   intro y s3 hq
   obtain ⟨m3, u3, v3, t3, at3, rfl, hok3, _⟩ := oN hq
   exact ⟨((u3, v3, t3, ()), (at3, ()), (fT S (L.take k) B, ()), ()), rfl, hJ _ _ ⟨u3, v3, t3, rfl, m3, hok3⟩⟩
 rintro _ s3 ⟨u3, v3, t3, rfl, m3, hok3⟩
 dsimp only
 have m03 := m02.trans m3
 have hsplit := tV S (L.take k) (L.drop k) 0 B
 rw [List.take_append_drop] at hsplit
 refine (W.aa _ _ _ _).2 ⟨fun e => ?_, fun e => ?_⟩
 ·have e : fT S (L.take k) B ≠ 0 := by simpa using e
  refine ⟨?_, m03⟩
  have : fT S L B = fT S (L.take k) B := by
   unfold fT at e ⊢
   by_cases e1 : gQ S ≠ 0
   ·rw [if_pos e1, if_pos e1]
   ·rw [if_neg e1] at e ⊢
    rw [if_neg e1]
    exact hsplit.1 e
  rw [this]; simp
 have e : fT S (L.take k) B = 0 := by simpa using e
 obtain ⟨hE3, hF3, he3⟩ := hok3 e
 obtain ⟨x1, x2, x3⟩ := hsplit.2 he3
 have herr : ¬ gQ S ≠ 0 := fun g => by unfold fT at e; rw [if_pos g] at e; cases e
 obtain ⟨W1, hW1⟩ : ∃ W1, (bp S 0 (L.take k) B).ws = W1 := ⟨_, rfl⟩
 rw [hW1] at hE3 hF3 x1 x2 x3
 obtain ⟨q1, q2, q3, q4, q5⟩ := ze hB.cV hB.ks hB.vs (by omega) hF3
 have hr3 := hE3.writes.row
 have hw3 : Sl mZ s3 v3 (W1.foldl cv []) := Sl.bE hr3 (by have := hF3.ol; omega)
 have sl3 := sl2.mono m3.le
 refine W.au (ot (ts := 0) sl3 (b := v3.1) (m := v3.2.1) (d := v3.2.2) hw3 (fun x hx => by have := hB.ks x hx; omega) (fun x hx => by have := (hF3.sm x hx).1; omega) (by omega) (by have := hF3.ol; omega)) ?_
 rintro _ s4 ⟨a4, n4, c4, rfl, hG4⟩
 rw [q1] at hG4
 obtain ⟨M, hM⟩ : ∃ M, aj 0 B W1 = M := ⟨_, rfl⟩
 rw [hM] at hG4 q2 q3 q4 q5 x1 x2 x3
 refine ⟨(((a4, n4, c4), ()), ()), rfl, ?_⟩
 have m04 := m03.trans hG4.md
 have sl4 : Sl bh s4 (a4, n4, c4) M := Sl.bE hG4.row (by omega)
 have hn4 := hG4.row.len
 have hcnM : jN 1108 M := by rw [← hM]; exact hF3.cn
 refine W.bl (fun z s' => ∃ (u5 v5 t5 : aG), z = (((a1, n1, c1), ()), (u2, v2, t2, ()), (fT S L B, ()), (u3, v3, t3, ()), ((a4, n4, c4), ()), (u5, v5, t5, ()), (fT S (L.drop k) M, ()), ()) ∧ Fw.Mod [] s4 s' ∧ (fT S (L.drop k) M = 0 → sU s4 s' M (bJ [] (bp S 0 (L.drop k) M).asks) ((bp S 0 (L.drop k) M).ws.foldl cv []) (bp S 0 (L.drop k) M).reps u5 v5 t5 ∧ xZ 1108 M (bp S 0 (L.drop k) M).ws (bp S 0 (L.drop k) M).reps ∧ (bp S 0 (L.drop k) M).err = 0)) ?_ ?_
 rotate_left
 ·intro J hJ
  refine (W.ah _ _ _).2 ⟨⟨by omega, by omega, by omega⟩, ?_⟩
  have hsl : Sl mG s4 ((if bc = (k : Int).toNat then ba else Option.map (fun x => x.add ((k : Int).toNat * 11)) ba), (bn : Int).toNat - (k : Int).toNat, bc - (k : Int).toNat) (bs.drop k) := by
   simp only [Int.toNat_natCast]
   exact (hbs.mono m04.le).drop hkn
  have hrun := run (s1 := s) (a2 := (a4, n4, c4)) (b := ((if bc = (k : Int).toNat then ba else Option.map (fun x => x.add ((k : Int).toNat * 11)) ba), (bn : Int).toNat - (k : Int).toNat, bc - (k : Int).toNat)) (N0 := 1108) (by omega) m04.le ⟨sl4, by show n4 ≤ 100000; omega, q3, q4, q2⟩ hcnM hsl (fun q hq => List.mem_of_mem_drop hq) (by rw [List.length_drop]; omega)
  rw [List.map_drop, hLe] at hrun
  refine (W.jy _ _ _).2 ⟨?_, ?_⟩
  all_goals
   refine W.au hrun ?_
   intro y s5 hq
   obtain ⟨m5, u5, v5, t5, at5, rfl, hok5, _⟩ := oN hq
   exact ⟨((u5, v5, t5, ()), (at5, ()), (fT S (L.drop k) M, ()), ()), rfl, hJ _ _ ⟨u5, v5, t5, rfl, m5, hok5⟩⟩
 rintro _ s5 ⟨u5, v5, t5, rfl, m5, hok5⟩
 dsimp only
 have m05 := m04.trans m5
 have hres : fT S L B = fT S (L.drop k) M := by unfold fT; rw [if_neg herr, if_neg herr]; exact x1
 refine (W.aa _ _ _ _).2 ⟨fun e1 => (by rw [hres] at e1; simp at e1), fun _ => ?_⟩
 refine (W.aa _ _ _ _).2 ⟨fun _ => ⟨rfl, m05⟩, fun e1 => ?_⟩
 have e1 : fT S L B = 0 := by simpa using e1
 obtain ⟨hE2, hF2, he2⟩ := hok2 e1
 obtain ⟨hE5, hF5, he5⟩ := hok5 (by rw [← hres]; exact e1)
 obtain ⟨W2, hW2⟩ : ∃ W2, (bp S 0 (L.drop k) M).ws = W2 := ⟨_, rfl⟩
 rw [hW2] at hE5 hF5 x3
 rw [x3] at hE2 hF2
 rw [x2] at hE2 hF2
 obtain ⟨p1, p2, p3, p4, p5⟩ := ze hB.cV hB.ks hB.vs (by omega) hF2
 obtain ⟨o1, o2, o3, o4, o5⟩ := ze q2 q3 q4 (by
  have h1 := jQ 0 (W1.foldl cv []) B
  rw [q1, hM] at h1
  have h2 := hF3.ol
  omega) hF5
 have sl5 := sl3.mono (hG4.md.trans m5).le
 have hw2 : Sl mZ s5 v2 ((W1 ++ W2).foldl cv []) := (Sl.bE (t := v2) hE2.writes.row (by have := hF2.ol; omega)).mono (((m3).trans hG4.md).trans m5).le
 refine W.au (ot (ts := 0) sl5 (b := v2.1) (m := v2.2.1) (d := v2.2.2) hw2 (fun x hx => by have := hB.ks x hx; omega) (fun x hx => by have := (hF2.sm x hx).1; omega) (by omega) (by have := hF2.ol; omega)) ?_
 rintro _ s6 ⟨a6, n6, c6, rfl, hG6⟩
 rw [p1] at hG6
 refine ⟨(((a6, n6, c6), ()), ()), rfl, ?_⟩
 have sl46 := sl4.mono (m5.trans hG6.md).le
 have hw5 : Sl mZ s6 v5 (W2.foldl cv []) := (Sl.bE (t := v5) hE5.writes.row (by have := hF5.ol; omega)).mono hG6.md.le
 refine W.au (ot (ts := 0) sl46 (b := v5.1) (m := v5.2.1) (d := v5.2.2) hw5 (fun x hx => by have := q3 x hx; omega) (fun x hx => by have := (hF5.sm x hx).1; omega) (by omega) (by have := hF5.ol; omega)) ?_
 rintro _ s7 ⟨a7, n7, c7, rfl, hG7⟩
 rw [o1] at hG7
 refine ⟨(((a7, n7, c7), ()), ()), rfl, ?_⟩
 have hsame : aj 0 B (W1 ++ W2) = aj 0 M W2 := by rw [cS, hM]
 rw [hsame] at hG6
 have hn6 := hG6.row.len
 have hn7 := hG7.row.len
 -- the replies, one behind the other
 obtain ⟨R1, hR1⟩ : ∃ R1, (bp S 0 (L.take k) B).reps = R1 := ⟨_, rfl⟩
 obtain ⟨R2, hR2⟩ : ∃ R2, (bp S 0 (L.drop k) M).reps = R2 := ⟨_, rfl⟩
 rw [hR1, hR2] at hE2 hF2
 rw [hR1] at hE3 hF3
 rw [hR2] at hE5 hF5
 have m57 := hG6.md.trans hG7.md
 obtain ⟨z2, hz2⟩ := hE2.reps
 obtain ⟨z3, hz3⟩ := hE3.reps
 obtain ⟨z5, hz5⟩ := hE5.reps
 have r2 := hz2.same ((m3.trans hG4.md).trans (m5.trans m57))
 have r3 := hz3.same (hG4.md.trans (m5.trans m57))
 have r5 := hz5.same m57
 have k2 := r2.r hF2.rn hF2.rf
 have k3 := r3.r hF3.rn hF3.rf
 have k5 := r5.r hF5.rn hF5.rf
 have l3 : t3.2.1 = z3.length := k3.el.len
 have l5 : t5.2.1 = z5.length := k5.el.len
 have f3 : z3.length ≤ 12 := by have := congrArg List.length k3.eq; rw [List.length_map] at this; have := hF3.rn; omega
 have f5 : z5.length ≤ 12 := by have := congrArg List.length k5.eq; rw [List.length_map] at this; have := hF5.rn; omega
 refine W.bG fun r8 s8 hr8 m8 k8 => ?_
 have hrow0 : aW rm s8 135 (some ⟨r8, 0, none⟩) 0 0 [] := ⟨rfl, Nat.le_refl _, by show 0 ≤ 9223372036854775807; omega, .inr ⟨r8, #[], rfl, k8, by simp, rfl⟩⟩
 have hmax : maxLen = 9223372036854775807 := rfl
 refine fP (E := rm) (k := t3.2.1) (ys := z3) hrow0 rfl (k3.el.mono m8.le).el.je rfl l3.symm (by omega) (by omega) ?_
 intro a9 c9 s9 hrow9 hm9
 have hrow9' := hrow9
 rw [List.nil_append] at hrow9
 rw [List.nil_append, Nat.zero_add] at hrow9'
 have g9 : Gw rm 135 s7 s9 a9 t3.2.1 c9 z3 := by
  rcases hm9 with ⟨rfl, hmd⟩ | ⟨g, rfl, hg, hmd⟩
  ·exact ⟨hrow9', by simp [Fw.aH, hr8], m8.fresh hmd (by simp [Fw.aH, hr8])⟩
  ·exact ⟨hrow9', by simp [Fw.aH]; exact m8.none hg (by simp), m8.trans hmd⟩
 refine fP (E := rm) (k := t5.2.1) (ys := z5) hrow9 rfl (k5.el.mono g9.md.le).el.je rfl l5.symm (by omega) (by omega) ?_
 intro a10 c10 s10 hrow10 hm10
 have g10 : Fw.Mod [] s7 s10 := by
  rcases hm10 with ⟨rfl, hmd⟩ | ⟨g, rfl, hg, hmd⟩
  ·exact g9.md.fresh hmd fun g hg => .inr (g9.fr g hg)
  ·exact g9.md.trans hmd
 have kk : Dh s10 (a10, 0 + t3.2.1 + t5.2.1, c10) (R1 ++ R2) (z3 ++ z5) := by
  refine ⟨Sl.bE (t := (a10, 0 + t3.2.1 + t5.2.1, c10)) hrow10 (by rw [List.length_append]; omega), by rw [List.map_append, k3.eq, k5.eq], fun q hq => ?_⟩
  rcases List.mem_append.1 hq with hq | hq
  ·obtain ⟨w1, w2, w3⟩ := k3.rs q hq
   exact ⟨w1.mono g10.le, w2, fun v hv => (w3 v hv).mono g10.le⟩
  ·obtain ⟨w1, w2, w3⟩ := k5.rs q hq
   exact ⟨w1.mono g10.le, w2, fun v hv => (w3 v hv).mono g10.le⟩
 have k2' : Dh s10 t2 (R1 ++ R2) z2 := ⟨k2.el.mono g10.le, k2.eq, fun q hq => by
  obtain ⟨w1, w2, w3⟩ := k2.rs q hq
  exact ⟨w1.mono g10.le, w2, fun v hv => (w3 v hv).mono g10.le⟩⟩
 have hsr := uW k2' kk
 have hm : Fw.Mod [] s s10 := (m05.trans m57).trans g10
 refine aL ((true, ()), ()) hsr rfl ?_
 refine (W.aa _ _ _ _).2 ⟨fun _ => ?_, fun e => (by cases e)⟩
 dsimp only
 have e67 : ((n6 : Int) == (n7 : Int)) = true := by rw [beq_iff_eq]; omega
 refine (W.aa _ _ _ _).2 ⟨fun _ => ?_, fun e => (by rw [e67] at e; cases e)⟩
 refine aL ((true, ()), ()) (Av (l := aj 0 M W2) (Sl.bE (t := (a6, n6, c6)) (hG6.row.mod (hG7.md.trans g10) (by simp)) (by omega)) (Sl.bE (t := (a7, n7, c7)) (hG7.row.mod g10 (by simp)) (by omega))) rfl ?_
 exact ⟨rfl, hm⟩
end
section
theorem Fh {cs : Array Value} {l : List Value} (h : cs.toList = l) : Value.agg cs = .agg l.toArray := by rw [← h]
theorem HA {s : PH} {a : Option Addr} {n c : Nat} {L : List cD} (w : elems tR s a n L) (h : n ≤ c) (b : c * 120 ≤ reachBytes) : ∃ bs, qB s (a, n, c) L bs := by
 have hr : reachBytes = 140737488351232 := rfl
 obtain ⟨t, bs, e, hb⟩ := ED (s := s) (cs := [.slice a n c]) (L := L) ⟨a, n, c, rfl, h, by show c ≤ 9223372036854775807; omega, b, w⟩
 have e : (Value.slice a n c) = .slice t.1 t.2.1 t.2.2 := by simpa using e
 cases e
 exact ⟨bs, hb⟩
theorem H7 {s : PH} {a : Option Addr} {n c : Nat} {l : List Ht} (w : elems tS s a n l) (h : n ≤ c) (b : c * 40 ≤ reachBytes) : ny bh s (a, n, c) l ∧ pH l := by
 have hr : reachBytes = 140737488351232 := rfl
 obtain ⟨t, e, hb, hk⟩ := wJ (R := tS) (E := bh) (bytes := 40) (s := s) (cs := [.slice a n c]) (xs := l) (by omega) rfl (fun cs x hx => IE hx) ⟨a, n, c, rfl, h, by show c ≤ 9223372036854775807; omega, b, w⟩
 have e : (Value.slice a n c) = .slice t.1 t.2.1 t.2.2 := by simpa using e
 cases e
 exact ⟨hb, hk⟩
theorem yh {s : PH} {cs : Array Value} {S : aF} (h : xU.is s cs.toList S) {a : Option Addr} {n c : Nat} {L : List cD} (w1 : elems tR s a n L) (h1 : n ≤ c) (b1 : c * 120 ≤ reachBytes) {a2 : Option Addr} {n2 c2 : Nat} {l : List Ht} (w2 : elems tS s a2 n2 l) (h2 : n2 ≤ c2) (b2 : c2 * 40 ≤ reachBytes) (i : Int) :
  ai 6 #[.agg cs, .slice a n c, .slice a2 n2 c2, .int .i64 i] s fun y s' => y = .bool true ∧ Fw.Mod [] s s' := by
 obtain ⟨t, ps, e, hB, _⟩ := GD h
 obtain ⟨bs, hb⟩ := HA w1 h1 b1
 obtain ⟨hu, hk⟩ := H7 w2 h2 b2
 rw [Fh e]
 exact Cb hB (IF h) hb hu hk i
end
end Go.Proofs.YtlfdfgokflhdbaaGreat
