/-
  The ballot: entries came.
  Conditions: none; it proves no statement by itself.
-/
import Derived.Test.YtfpbiecmobdnnaaC7
set_option linter.unusedVariables false
set_option linter.unusedSimpArgs false
set_option maxHeartbeats 1000000
namespace Go.Proofs.Ytfpbiecmobdnnaa
open Fw Go
attribute [-simp] Fw.W.ld_iff Fw.W.st_iff

/-- entries that can be read -/
structure View (s : PH) (a : Option Addr) (n c : Nat) (xs : List Ent) : Prop where
  len : n = xs.length
  le : n ≤ c
  all : ∀ j x, xs[j]? = some x → ∃ ad, a = some ad ∧ s.has (ad.add (j * 4)) (entE.f x)
theorem View.of {s : PH} {t : Tri} {xs : List Ent} (h : rowE entE s 39 t.1 t.2.1 t.2.2 xs) : View s t.1 t.2.1 t.2.2 xs := by
  refine ⟨h.len, h.le, fun j x hx => ?_⟩
  obtain ⟨g, hg, hh⟩ := h.at hx
  exact ⟨_, hg, by rw [add_mk, Nat.zero_add]; exact hh⟩
theorem View.mono {s s' : PH} {a : Option Addr} {n c : Nat} {xs : List Ent} (h : View s a n c xs) (hm : s.le s') : View s' a n c xs :=
  ⟨h.len, h.le, fun j x hx => by obtain ⟨ad, h1, h2⟩ := h.all j x hx; exact ⟨ad, h1, h2.mono hm⟩⟩
theorem View.sub {s : PH} {a : Option Addr} {n c : Nat} {xs : List Ent} (h : View s a n c xs) {k : Nat} (hk : k ≤ n) : View s (if c = k then a else a.map (·.add (k * 4))) (n - k) (c - k) (xs.drop k) := by
  have hl := h.len
  have hc := h.le
  refine ⟨by rw [List.length_drop]; omega, by omega, fun j x hx => ?_⟩
  rw [List.getElem?_drop] at hx
  have hj := (List.getElem?_eq_some_iff.1 hx).1
  obtain ⟨ad, h1, h2⟩ := h.all _ x hx
  rw [if_neg (by omega), h1]
  refine ⟨_, rfl, ?_⟩
  have : (ad.add (k * 4)).add (j * 4) = ad.add ((k + j) * 4) := by
    rw [Nat.add_mul]
    unfold Addr.add
    by_cases e1 : k * 4 = 0 <;> by_cases e2 : j * 4 = 0 <;> simp [e1, e2, Nat.add_assoc]
  rw [this]; exact h2
theorem View.src {s : PH} {a : Option Addr} {n c : Nat} {xs : List Ent} (h : View s a n c xs) : srcIs s 4 (.sl a n) (xs.flatMap entE.f) := by
  have hl := h.len
  cases a with
  | none =>
    have : xs = [] := by
      cases xs with
      | nil => rfl
      | cons x xs => obtain ⟨ad, h1, _⟩ := h.all 0 x rfl; cases h1
    subst this
    exact ⟨rfl, by rw [hl]; rfl⟩
  | some ad =>
    refine ⟨by rw [flat_len, hl]; rfl, ?_⟩
    intro i v hv
    have hi := (List.getElem?_eq_some_iff.1 hv).1
    rw [flat_len] at hi
    have hi : i < xs.length * 4 := hi
    have hq : i / 4 < xs.length := by omega
    have hx : xs[i / 4]? = some xs[i / 4] := List.getElem?_eq_getElem hq
    obtain ⟨l, r, he, hll, _, _⟩ := flat_at (E := entE) hx
    obtain ⟨ad', h1, h2⟩ := h.all _ _ hx
    cases h1
    have hlen4 : (entE.f xs[i / 4]).length = 4 := entE.len _
    have hll : l.length = i / 4 * 4 := hll
    rw [he, List.append_assoc, List.getElem?_append_right (by omega), List.getElem?_append_left (by omega), hll] at hv
    have := h2 _ _ hv
    rwa [show (ad.add (i / 4 * 4)).add (i - i / 4 * 4) = ad.add i from ?_] at this
    unfold Addr.add
    by_cases e1 : i / 4 * 4 = 0
    · have e3 : i - i / 4 * 4 = i := by omega
      simp [e1]
    · by_cases e2 : i - i / 4 * 4 = 0
      · have e3 : i / 4 * 4 = i := by omega
        simp [e2, e3]
      · have e3 : i ≠ 0 := by omega
        have e4 : i / 4 * 4 + (i - i / 4 * 4) = i := by omega
        simp [e1, e2, e3, Nat.add_assoc, e4]

/-- entries from i + 1 on are laid, from the first one on that is not there -/
def BS.merge (B : BS) (i : Int) : List Ent → BS
  | [] => B
  | e :: r => if B.termAt (i + 1) = (e.term, true) then B.merge (i + 1) r else B.set (i + 1) (e :: r)
def BS.fed (B : BS) (M : Msg) : BS × List Msg :=
  if B.role = 2 then (B, []) else
  let B1 := { B with role := 0, lead := M.from_ }
  let e := M.index + M.list.length
  if e ≤ B.commit then (B1, [B.toldM M.from_ true e]) else
  if ¬ M.index < B.commit ∧ B.termAt M.index ≠ (M.prev, true) then (B1, [B.toldM M.from_ false (mn B.lst (M.index - 1))]) else
  let B2 := if M.index < B.commit then B1.merge B.commit (M.list.drop (B.commit - M.index).toNat) else B1.merge M.index M.list
  ({ B2 with commit := mx B2.commit (mn M.commit e) }, [B.toldM M.from_ true e])
theorem merge_same (B : BS) : ∀ (L : List Ent) (i : Int), (B.merge i L).id = B.id ∧ (B.merge i L).term = B.term ∧ (B.merge i L).commit = B.commit ∧ (B.merge i L).base = B.base
  | [], _ => ⟨rfl, rfl, rfl, rfl⟩
  | e :: r, i => by
    simp only [BS.merge]
    split
    · exact merge_same B r (i + 1)
    · exact ⟨rfl, rfl, rfl, rfl⟩

section
variable {s : PH} {b : Nat} {l v n m : Tri} {B : BS}
def fedX (B : BS) (M : Msg) : List Ent := if M.index < B.commit then M.list.drop (B.commit - M.index).toNat else M.list
def fedI (B : BS) (M : Msg) : Int := if M.index < B.commit then B.commit else M.index
def FedJ (B : BS) (b : Nat) (l v n m : Tri) (M : Msg) (t0 : Tri) (r : Nat) (L : List Nat) (s0 : PH) (z : MDen [(false, [.addr]), (false, [.int .i64]), (false, [.slice]), (false, [.int .i64])]) (s' : PH) : Prop :=
  ∃ t : Tri, z = ((Addr.mk r 0 none, ()), (M.index + M.list.length, ()), (t, ()), (fedI B M, ()), ()) ∧ View s' t.1 t.2.1 t.2.2 (fedX B M) ∧ Bal s' b l v n m { B with role := 0, lead := M.from_ } ∧ Step L (bL b l v n m) s0 s' ∧
    s' r = some (.cells (msgCells M t0).toArray 32 (0, 0)) ∧ B.base ≤ fedI B M ∧ fedI B M ≤ B.lst ∧ ¬ (¬ M.index < B.commit ∧ B.termAt M.index ≠ (M.prev, true))
def FedK (B : BS) (b : Nat) (v n m : Tri) (M : Msg) (t0 : Tri) (r : Nat) (L : List Nat) (s0 : PH) (z : MDen [(false, [.addr]), (false, [.int .i64])]) (s' : PH) : Prop :=
  ∃ l' : Tri, z = ((Addr.mk r 0 none, ()), (M.index + M.list.length, ()), ()) ∧ Bal s' b l' v n m ({ B with role := 0, lead := M.from_ }.merge (fedI B M) (fedX B M)) ∧ Step L (bL b l' v n m) s0 s' ∧
    s' r = some (.cells (msgCells M t0).toArray 32 (0, 0))
def FedZ (B : BS) (b : Nat) (l v n m : Tri) (M : Msg) (t0 t : Tri) (r : Nat) (L : List Nat) (s0 : PH) (z : MDen [(false, [.addr]), (false, [.int .i64]), (false, [.slice]), (false, [.int .i64]), (false, [.slice]), (false, [.int .i64]), (false, [.int .i64])]) (s' : PH) : Prop :=
  ∃ k : Nat, z = ((Addr.mk r 0 none, ()), (M.index + M.list.length, ()), (t, ()), (fedI B M, ()), (t, ()), ((t.2.1 : Int), ()), ((k : Int), ()), ()) ∧ k ≤ t.2.1 ∧ View s' t.1 t.2.1 t.2.2 (fedX B M) ∧ Bal s' b l v n m { B with role := 0, lead := M.from_ } ∧
    Step L (bL b l v n m) s0 s' ∧ s' r = some (.cells (msgCells M t0).toArray 32 (0, 0)) ∧ fedI B M + k ≤ B.lst ∧ { B with role := 0, lead := M.from_ }.merge (fedI B M) (fedX B M) = { B with role := 0, lead := M.from_ }.merge (fedI B M + k) ((fedX B M).drop k)
theorem c_fed (h : Bal s b l v n m B) (hok : B.Ok) (hlc : B.commit ≤ B.lst) (M : Msg) (t : Tri) (hrow : rowE entE s 39 t.1 t.2.1 t.2.2 M.list) (hll : M.list.length ≤ 1000000) (hi : 0 ≤ M.index ∧ M.index ≤ FAR) :
    DCalls Try.prog 49 #[bptr b, msgV M t] s (OpPost (B.fed M) b (bL b l v n m) s) := by
  refine ok_fed b M.kind M.from_ M.to M.term M.index M.prev M.commit M.good t.1 t.2.1 t.2.2 M.snap _ s ?_
  unfold vc_fed
  simp only [RP_nw]
  refine W.nw_of fun r s1 hr m1 k1 => ?_
  have h1 := h.new m1
  have hb1 := h1.cell
  have hbr : b ≠ r := ne_of_known h.cell hr
  have hs := hok.small
  obtain ⟨q1, q2, q3⟩ := id hs
  have hcb := hok.com
  have hbb := hok.base
  have hlst : B.lst = B.base + B.log.length := rfl
  have hnl := num_lst hs hok.base
  unfold Num at hnl
  unfold FAR at hi
  have htn : t.2.1 = M.list.length := hrow.len
  have htc := hrow.le
  have st1 : Step (bL b l v n m) (bL b l v n m) s s1 := ⟨m1.mono (by simp), fun x hx => .inl hx⟩
  have k1' : ∀ o, (s1.upd b o) r = some (.cells (msgCells M t).toArray 32 (0, 0)) := fun o => upd_at k1 hbr.symm o
  have hwe : IntKind.i64.wrap (M.index + (t.2.1 : Int)) = M.index + M.list.length := by rw [htn, wrap_in (by omega) (by omega)]
  simp [W.ld_at hb1, W.ld_at k1, W.br_iff, W.st_at hb1, fun o => W.ld_at (k1' o), fun o => W.still_at (k1' o), hwe]
  refine ⟨fun hrole => ?_, fun hrole => ?_⟩
  · have : B.fed M = (B, []) := by unfold BS.fed; rw [if_pos hrole]
    rw [this]; exact OpPost.noMsgs h1 st1
  have hB2 : Bal (s1.upd b (.cells ({ B with role := 0, lead := M.from_ }.cells l v n m) 67 (0, 0))) b l v n m { B with role := 0, lead := M.from_ } := h1.lay
  have st2 : Step (bL b l v n m) (bL b l v n m) s (s1.upd b (.cells ({ B with role := 0, lead := M.from_ }.cells l v n m) 67 (0, 0))) := st1.trans ⟨Mod.upd (by simp [bL]), fun x hx => .inl hx⟩
  have k2 := k1' (.cells ({ B with role := 0, lead := M.from_ }.cells l v n m) 67 (0, 0))
  have hrow2 : rowE entE (s1.upd b (.cells ({ B with role := 0, lead := M.from_ }.cells l v n m) 67 (0, 0))) 39 t.1 t.2.1 t.2.2 M.list := (hrow.mod m1 (by simp)).mod (L := [b]) (Mod.upd (by simp)) fun x hx => by simp; rintro rfl; exact row_ne2 (hrow.mod m1 (by simp)) hb1 (by decide) hx
  generalize hs2 : s1.upd b (.cells ({ B with role := 0, lead := M.from_ }.cells l v n m) 67 (0, 0)) = s2 at hB2 st2 k2 hrow2
  clear hs2
  have hs2' : { B with role := 0, lead := M.from_ }.Small := ⟨q1, q2, q3⟩
  have hb2 := hB2.cell
  refine ⟨fun hle => ?_, fun hgt => ?_⟩
  · have : B.fed M = ({ B with role := 0, lead := M.from_ }, [B.toldM M.from_ true (M.index + M.list.length)]) := by unfold BS.fed; rw [if_neg hrole]; simp only [hle, if_true]
    rw [this]
    refine W.call_of (c_told hB2 M.from_ true (M.index + M.list.length)) ?_
    intro x s3 hp
    obtain ⟨t3, ps, rfl, q⟩ := hp
    refine ⟨((t3, ()), ()), rfl, ?_⟩
    exact op_msgs hB2 st2 ⟨t3, ps, rfl, q⟩
  have hgt' : ¬ M.index + (M.list.length : Int) ≤ B.commit := by omega
  refine W.join_gen (FedJ B b l v n m M t r (bL b l v n m) s) ?_ ?_
  · rintro _ s3 ⟨t3, rfl, hv3, h3, st3, k3, hI0, hI1, hc⟩
    have hxl : (fedX B M).length ≤ 1000000 := by
      unfold fedX; split
      · rw [List.length_drop]; omega
      · exact hll
    have hIn : Num (fedI B M) := by unfold Num; omega
    have hg : ¬ (¬ M.index < B.commit ∧ B.termAt M.index ≠ (M.prev, true)) → B.fed M = ({ ({ B with role := 0, lead := M.from_ }.merge (fedI B M) (fedX B M)) with commit := mx B.commit (mn M.commit (M.index + M.list.length)) }, [B.toldM M.from_ true (M.index + M.list.length)]) := by
      intro hc
      have e2 : (if M.index < B.commit then { B with role := 0, lead := M.from_ }.merge B.commit (M.list.drop (B.commit - M.index).toNat) else { B with role := 0, lead := M.from_ }.merge M.index M.list) = { B with role := 0, lead := M.from_ }.merge (fedI B M) (fedX B M) := by
        unfold fedI fedX; split <;> rfl
      unfold BS.fed; rw [if_neg hrole]; simp only [hgt', if_false]
      rw [if_neg hc]
      simp only [e2, (merge_same { B with role := 0, lead := M.from_ } (fedX B M) (fedI B M)).2.2.1]
    refine W.join_gen (FedK B b v n m M t r (bL b l v n m) s) ?_ ?_
    · rintro _ s4 ⟨l', rfl, h4, st4, k4⟩
      have hb4 := h4.cell
      obtain ⟨e1, e2, e3, e4⟩ := merge_same { B with role := 0, lead := M.from_ } (fedX B M) (fedI B M)
      have k4' : ∀ o, (s4.upd b o) r = some (.cells (msgCells M t).toArray 32 (0, 0)) := fun o => upd_at k4 hbr.symm o
      rw [hg hc]
      dsimp only at e1 e2 e3 e4
      generalize hBB : BS.merge { B with role := 0, lead := M.from_ } (fedI B M) (fedX B M) = B3 at h4 hb4 e1 e2 e3 e4 ⊢
      have hmm : (if (if M.index + (M.list.length : Int) < M.commit then M.index + (M.list.length : Int) else M.commit) > B3.commit then (if M.index + (M.list.length : Int) < M.commit then M.index + (M.list.length : Int) else M.commit) else B3.commit) = mx B.commit (mn M.commit (M.index + M.list.length)) := by rw [e3]; rfl
      simp [W.ld_at hb4, W.ld_at k4, W.br_iff, W.st_at hb4, fun o => W.ld_at (k4' o)]
      simp only [gt_iff_lt] at hmm
      rw [hmm]
      have h5 : Bal (s4.upd b (.cells ({ B3 with commit := mx B.commit (mn M.commit (M.index + M.list.length)) }.cells l' v n m) 67 (0, 0))) b l' v n m { B3 with commit := mx B.commit (mn M.commit (M.index + M.list.length)) } := h4.lay
      have st5 : Step (bL b l v n m) (bL b l' v n m) s (s4.upd b (.cells ({ B3 with commit := mx B.commit (mn M.commit (M.index + M.list.length)) }.cells l' v n m) 67 (0, 0))) := st4.trans ⟨Mod.upd (by simp [bL]), fun x hx => .inl hx⟩
      refine W.call_of (c_told h5 M.from_ true (M.index + M.list.length)) ?_
      intro x s6 hp
      obtain ⟨t6, ps, rfl, q⟩ := hp
      refine ⟨((t6, ()), ()), rfl, ?_⟩
      have hmsg : ({ BS.msg { B3 with commit := mx B.commit (mn M.commit (M.index + M.list.length)) } 4 M.from_ with good := true, index := M.index + M.list.length } : Msg) = B.toldM M.from_ true (M.index + M.list.length) := by
        unfold BS.toldM BS.msg; simp only [e1, e2]
      rw [← hmsg]
      exact op_msgs h5 st5 ⟨t6, ps, rfl, q⟩
    · intro J hJ
      simp only [RP_loop]
      refine ⟨FedZ B b l v n m M t t3 r (bL b l v n m) s, fun z _ => t3.2.1 - z.2.2.2.2.2.2.1.1.toNat, ⟨0, rfl, by omega, hv3, h3, st3, k3, by simpa using hI1, by simp⟩, ?_⟩
      rintro _ s4 ⟨k, rfl, hk, hv4, h4, st4, k4, hIk, hmg⟩
      have hb4 := h4.cell
      have hvl := hv4.len
      have hvc := hv4.le
      have hw12 : IntKind.i64.wrap (IntKind.i64.wrap (fedI B M + 1) + (k : Int)) = fedI B M + k + 1 := by
        unfold Num at hIn
        rw [wrap_in (n := fedI B M + 1) (by omega) (by omega), wrap_in (by omega) (by omega)]; omega
      have hwk : IntKind.i64.wrap ((k : Int) + 1) = ((k + 1 : Nat) : Int) := by rw [wrap_in (by omega) (by omega)]; simp
      simp [W.br_iff, -W.nw_iff]
      refine ⟨fun hkn => ⟨hkn, ?_⟩, fun hkn => ?_⟩
      · obtain ⟨e, he⟩ : ∃ e, (fedX B M)[k]? = some e := ⟨_, List.getElem?_eq_getElem (by omega)⟩
        obtain ⟨ad, had, hhas⟩ := hv4.all _ _ he
        have htri : (some ad, t3.2.1, t3.2.2) = t3 := by rw [← had]
        have hdrop : (fedX B M).drop k = e :: (fedX B M).drop (k + 1) := by
          have hlt := (List.getElem?_eq_some_iff.1 he).1
          rw [List.drop_eq_getElem_cons hlt, (List.getElem?_eq_some_iff.1 he).2]
        have hsub := (hv4.sub (k := k) (by omega))
        rw [had]
        simp only [W.unSome_some]
        refine ld_has_z hhas (cs := [.int .i64, .int .i64, .int .i64, .str]) (y := (e.term, e.at_, e.born, e.text, ())) rfl ?_
        refine W.nw_of fun q s5 hq m5 k5 => ?_
        simp [W.st_at k5, hw12]
        have m6 : Fw.Mod [] s4 (s5.upd q (.cells #[.int .i64 e.term, .int .i64 e.at_, .int .i64 e.born, .string e.text] 39 (0, 0))) := m5.updLater (.inr hq)
        have k6 : (s5.upd q (.cells #[.int .i64 e.term, .int .i64 e.at_, .int .i64 e.born, .string e.text] 39 (0, 0))) q = some (.cells #[.int .i64 e.term, .int .i64 e.at_, .int .i64 e.born, .string e.text] 39 (0, 0)) := PH.upd_same _ _ _
        generalize s5.upd q (.cells #[.int .i64 e.term, .int .i64 e.at_, .int .i64 e.born, .string e.text] 39 (0, 0)) = s6 at m6 k6 ⊢
        have h6 := h4.new m6
        refine W.call_of (c_term h6 hs2' (i := fedI B M + k + 1) (by unfold Num at hIn ⊢; omega)) ?_
        rintro _ s7 ⟨rfl, m7⟩
        have hte : ({ B with role := 0, lead := M.from_ } : BS).termAt (fedI B M + k + 1) = B.termAt (fedI B M + k + 1) := rfl
        rw [hte]
        generalize hT : B.termAt (fedI B M + k + 1) = T at hte ⊢
        obtain ⟨T1, T2⟩ := T
        refine ⟨((T1, ()), (T2, ()), ()), rfl, ?_⟩
        have m67 := m6.trans m7
        have h7 := h4.new m67
        have k7 := m7.at k6 (by simp)
        have kr7 := m67.at k4 (by simp)
        have hv7 : View s7 (if t3.2.2 = k then some ad else some (ad.add (k * 4))) (t3.2.1 - k) (t3.2.2 - k) ((fedX B M).drop k) := by
          have := hsub.mono m67.le
          rw [had] at this; exact this
        have st7 : Step (bL b l v n m) (bL b l v n m) s s7 := st4.trans ⟨m67.mono (by simp), fun x hx => .inl hx⟩
        have hset : (T1, T2) ≠ (e.term, true) → ∀ (x : Value) (s8 : PH), SetPost ({ B with role := 0, lead := M.from_ }.set (fedI B M + k + 1) ((fedX B M).drop k)) b l v n m s7 x s8 → x = .tuple #[] ∧ J ((Addr.mk r 0 none, ()), (M.index + M.list.length, ()), ()) s8 := by
          rintro hne x s8 ⟨l', rfl, h8, st8⟩
          refine ⟨rfl, hJ _ _ ⟨l', rfl, ?_, st7.trans st8, ?_⟩⟩
          · rw [hmg, hdrop]
            simp only [BS.merge]
            rw [hte, if_neg hne, ← hdrop]; exact h8
          · exact st8.mod.at kr7 (fun hx => by
              have hh := h7.log
              simp only [bL, List.mem_cons, List.mem_append] at hx
              rcases hx with hx | hx | hx | hx | hx
              · exact hbr hx.symm
              · exact row_ne2 h7.log kr7 (by decide) hx
              · exact row_ne2 h7.votes kr7 (by decide) hx
              · exact row_ne2 h7.next kr7 (by decide) hx
              · exact row_ne2 h7.mat kr7 (by decide) hx)
        simp [W.br_iff, W.ld_at k7]
        have hcall : ∀ (R : Value → PH → Prop), (∀ x s8, SetPost ({ B with role := 0, lead := M.from_ }.set (fedI B M + k + 1) ((fedX B M).drop k)) b l v n m s7 x s8 → R x s8) → DCalls Try.prog 53 #[bptr b, .int .i64 (fedI B M + k + 1), .slice (if t3.2.2 = k then some ad else some (ad.add (k * 4))) (t3.2.1 - k) (t3.2.2 - k)] s7 R := by
          intro R hR
          refine (c_set h7 hs2' (i := fedI B M + k + 1) ?_ ?_ hv7.src (by rw [List.length_drop]; omega) (by omega)).mono hR
          · show B.base < _; omega
          · show _ ≤ B.lst + 1; omega
        refine ⟨fun h0 => ⟨⟨by omega, by omega⟩, ?_⟩, fun h1 => ⟨fun hne => ⟨⟨by omega, by omega⟩, ?_⟩, fun heq => ⟨⟨k + 1, ?_, by omega, hv4.mono m67.le, h7, st7, kr7, ?_, ?_⟩, by rw [hwk]; simp only [Int.toNat_natCast]; omega⟩⟩⟩
        · refine W.call_of (hcall _ (hset (by rw [h0]; intro h; cases h))) ?_
          rintro _ s8 ⟨rfl, hJ8⟩
          exact ⟨(), rfl, hJ8⟩
        · refine W.call_of (hcall _ (hset (by intro h; exact hne (congrArg Prod.fst h)))) ?_
          rintro _ s8 ⟨rfl, hJ8⟩
          exact ⟨(), rfl, hJ8⟩
        · rw [hwk, htri]
        · have : fedI B M + k + 1 ≤ B.lst := termAt_le (B := B) (by rw [hT]; exact h1) (by omega)
          push_cast; omega
        · rw [hmg, hdrop]
          simp only [BS.merge]
          rw [hte, if_pos (by rw [heq, h1])]
          rw [show ((k + 1 : Nat) : Int) = (k : Int) + 1 by push_cast; rfl, ← Int.add_assoc]
      · refine hJ _ _ ⟨l, rfl, ?_, st4, k4⟩
        have : (fedX B M).drop k = [] := List.drop_eq_nil_of_le (by omega)
        rw [hmg, this]
        exact h4
  · intro J hJ
    simp [W.ld_at hb2, W.br_iff]
    refine ⟨fun hlt => ?_, fun hge => ?_⟩
    · obtain ⟨k, hk⟩ : ∃ k : Nat, (B.commit - M.index).toNat = k := ⟨_, rfl⟩
      have hw : IntKind.i64.wrap (B.commit - M.index) = (k : Int) := by rw [wrap_in (by omega) (by omega)]; omega
      rw [hw]
      refine ⟨⟨by omega, by omega, by omega⟩, ?_⟩
      simp only [Int.toNat_natCast]
      have hX : fedX B M = M.list.drop k := by unfold fedX; rw [if_pos hlt, hk]
      have hI : fedI B M = B.commit := by unfold fedI; rw [if_pos hlt]
      refine hJ _ _ ⟨(if t.2.2 = k then t.1 else t.1.map (·.add (k * 4)), t.2.1 - k, t.2.2 - k), by rw [hI], by rw [hX]; exact (View.of hrow2).sub (by omega), hB2, st2, k2, by rw [hI]; exact hcb, by rw [hI]; exact hlc, fun q => q.1 hlt⟩
    · have hX : fedX B M = M.list := by unfold fedX; rw [if_neg (by omega)]
      have hI : fedI B M = M.index := by unfold fedI; rw [if_neg (by omega)]
      refine W.call_of (c_term hB2 hs2' (i := M.index) (by unfold Num; omega)) ?_
      rintro _ s3 ⟨rfl, m3⟩
      have hte : ({ B with role := 0, lead := M.from_ } : BS).termAt M.index = B.termAt M.index := rfl
      rw [hte]
      refine ⟨(((B.termAt M.index).1, ()), ((B.termAt M.index).2, ()), ()), rfl, ?_⟩
      have k3 := m3.at k2 (by simp)
      have h3 := hB2.new m3
      have hb3 := h3.cell
      have st3 : Step (bL b l v n m) (bL b l v n m) s s3 := st2.trans ⟨m3.mono (by simp), fun x hx => .inl hx⟩
      refine W.join_gen (fun z s' => s' = s3 ∧ z = ((Addr.mk r 0 none, ()), (M.index + M.list.length, ()), (t, ()), (M.index, ()), (!decide (B.termAt M.index = (M.prev, true)), ()), ())) ?_ ?_
      · rintro _ s3 ⟨rfl, rfl⟩
        simp [W.br_iff, W.ld_at k3]
        refine ⟨fun hno => ?_, fun hyes => ?_⟩
        · have hno : B.termAt M.index ≠ (M.prev, true) := hno
          have hg : B.fed M = ({ B with role := 0, lead := M.from_ }, [B.toldM M.from_ false (mn B.lst (M.index - 1))]) := by
            unfold BS.fed; rw [if_neg hrole]; simp only [hgt', if_false]; rw [if_pos ⟨by omega, hno⟩]
          rw [hg]
          refine W.callQ_of ((B.lst, ()), ()) (c_last h3 hs2') rfl ?_
          have hw1 : IntKind.i64.wrap (M.index - 1) = M.index - 1 := wrap_in (by omega) (by omega)
          have e4 : (if M.index - 1 < B.lst then M.index - 1 else B.lst) = mn B.lst (M.index - 1) := rfl
          simp [hw1, e4]
          refine W.call_of (c_told h3 M.from_ false (mn B.lst (M.index - 1))) ?_
          intro x s6 hp
          obtain ⟨t6, ps, rfl, q⟩ := hp
          refine ⟨((t6, ()), ()), rfl, ?_⟩
          exact op_msgs h3 st3 ⟨t6, ps, rfl, q⟩
        · have hyes : B.termAt M.index = (M.prev, true) := hyes
          refine hJ _ _ ⟨t, by rw [hI], by rw [hX]; exact View.of (hrow2.mod m3 (by simp)), h3, st3, k3, by rw [hI]; omega, by rw [hI]; exact termAt_le (by rw [hyes]) (by omega), fun q => q.2 hyes⟩
      · intro K hK
        simp [W.br_iff, W.ld_at k3]
        refine ⟨fun hf => hK _ _ ⟨rfl, ?_⟩, fun ht => hK _ _ ⟨rfl, ?_⟩⟩
        · have : B.termAt M.index ≠ (M.prev, true) := by intro e; rw [e] at hf; cases hf
          simp [this]
        · have : (decide (B.termAt M.index = (M.prev, true))) = ((B.termAt M.index).1 == M.prev) := by
            by_cases e : (B.termAt M.index).1 = M.prev
            · have : B.termAt M.index = (M.prev, true) := Prod.ext e ht
              simp [this]
            · have h' : B.termAt M.index ≠ (M.prev, true) := by intro e2; rw [e2] at e; exact e rfl
              simp [h', e]
          rw [this]; rfl
end
end Go.Proofs.Ytfpbiecmobdnnaa
