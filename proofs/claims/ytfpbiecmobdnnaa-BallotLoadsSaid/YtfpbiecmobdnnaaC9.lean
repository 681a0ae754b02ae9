/-
  The ballot: it stands for election, beats, proposes.
  Conditions: none; it proves no statement by itself.
-/
import Derived.Test.YtfpbiecmobdnnaaC8
set_option linter.unusedVariables false
set_option linter.unusedSimpArgs false
set_option maxHeartbeats 1000000
namespace Go.Proofs.Ytfpbiecmobdnnaa
open Fw Go
attribute [-simp] Fw.W.ld_iff Fw.W.st_iff

section
variable {s : PH} {b : Nat} {l v n m : Tri} {B : BS}
theorem op_app {s1 s2 s3 : PH} {B1 : BS} {R : BS × List Msg} {t1 t2 l' v' n' m' : Tri} {ps1 ps2 : List (Msg × Tri)} (h1 : Bal s1 b l v n m B1) (hms1 : Msgs s2 t1 ps1) (m2 : Fw.Mod [] s1 s2) (hf1 : ∀ y ∈ mF t1 ps1, s1 y = none)
    (h3 : Bal s3 b l' v' n' m' R.1) (st3 : Step (bL b l v n m) (bL b l' v' n' m') s2 s3) (hms2 : Msgs s3 t2 ps2) (hf2 : ∀ y ∈ mF t2 ps2, (y ∈ bL b l v n m ∨ s2 y = none) ∧ y ∉ bL b l' v' n' m') (c1 : t1.2.1 ≤ 1000) (c2 : t2.2.1 ≤ 1000)
    {K : Option Addr → Nat → Nat → W.T} (hK : ∀ a kk c s', OpPost (R.1, ps1.map (·.1) ++ ps2.map (·.1)) b (bL b l v n m) s1 (.slice a kk c) s' → K a kk c s') : W.app 32 10 104 zeroMsg t1.1 t1.2.1 t1.2.2 (.sl t2.1 t2.2.1) K s3 := by
  have hno : ∀ y ∈ mF t1 ps1, ¬ (y ∈ bL b l v n m ∨ s2 y = none) := fun y hy hx => by
    rcases hx with hx | hx
    · exact h1.known y hx (hf1 y hy)
    · exact hms1.known y hy hx
  have hno' : ∀ y ∈ mF t1 ps1, y ∉ bL b l' v' n' m' := fun y hy hx => hno y hy (st3.new y hx)
  have hb1 : ∀ y ∈ Fw.blk t1.1, y ∈ mF t1 ps1 := fun y hy => by simp [mF, hy]
  have hms1' := hms1.mod st3.mod (fun y hy hx => hno y hy (.inl hx))
  have st : Step (bL b l v n m) (bL b l' v' n' m') s1 s3 := Step.trans (L' := bL b l v n m) ⟨m2.mono (by simp), fun x hx => .inl hx⟩ st3
  refine app_msgs (fun y => (y ∈ bL b l v n m ∨ s1 y = none) ∧ y ∉ bL b l' v' n' m') ?_ hms1' hms2 ?_ ?_ ?_ hms1.apart c1 c2 ?_
  · intro g hg
    refine ⟨?_, fun hx => h3.known g hx hg⟩
    by_cases hx : g ∈ bL b l v n m
    · exact .inl hx
    · exact .inr (st.mod.none hg hx)
  · exact fun y hy => ⟨.inr (hf1 y hy), hno' y hy⟩
  · intro y hy
    refine ⟨?_, (hf2 y hy).2⟩
    rcases (hf2 y hy).1 with g | g
    · exact .inl g
    · exact .inr (m2.none g (by simp))
  · intro y hy hx
    exact hno y (hb1 y hx) (hf2 y hy).1
  · intro a k c s' g1 g2 g3
    refine hK a k c s' ⟨(a, k, c), ps1 ++ ps2, l', v', n', m', rfl, h3.mod g3 (fun x hx hx' => hno' x (hb1 x hx') hx), ⟨st.mod.fresh g3 (fun y hy => .inr (hf1 y (hb1 y hy))), st.new⟩, g1, by simp, g2⟩

def BS.turned (B : BS) (t v r : Int) : BS := { B with term := t, vote := v, role := r, lead := -1, touched := true }
def BS.stood (B : BS) : BS := { B.turned (B.term + 1) B.id 1 with votes := (List.replicate B.size.toNat false).set B.id.toNat true }
def BS.timeout (B : BS) : BS × List Msg := if B.role = 2 then (B, []) else (B.stood.counted.1, B.stood.asks ++ B.stood.counted.2)
theorem mksl_bool {k : Nat → W.T} {s : PH} {c : Nat} (hc : c ≤ 1000) (h : ∀ r s1, s r = none → Fw.Mod [] s s1 → rowE boolE s1 4 (some ⟨r, 0, none⟩) c c (List.replicate c false) → k r s1) : W.mksl 4 1 1 [.bool false] (c : Int) (c : Int) k s := by
  refine ⟨by omega, Int.le_refl _, by omega, by omega, fun r hr => ?_⟩
  have hz : Builtin.zeroCells [Value.bool false].toArray ((c : Nat) : Int).toNat = (List.replicate c (Value.bool false)).toArray := zero_one (.bool false) c
  rw [hz]
  refine h r _ hr (Mod.new hr) ⟨by rw [flat_len]; simp [boolE], Nat.le_refl _, by show c ≤ 9223372036854775807; omega, .inr ⟨r, _, rfl, PH.upd_same _ _ _, by simp [boolE], ?_⟩⟩
  have : ∀ c : Nat, (List.replicate c false).flatMap boolE.f = List.replicate c (Value.bool false) := by
    intro c
    induction c with
    | zero => rfl
    | succ c ih => rw [List.replicate_succ, List.flatMap_cons, ih, List.replicate_succ]; rfl
  rw [this]; simp [boolE]
theorem counted_len (B : BS) (h : B.size ≤ 5) : B.counted.2.length ≤ 10 := by
  unfold BS.counted
  split
  · simp
  · have h3 : (B.lead2.set (B.lst + 1) [{ noEnt with term := B.term }]).size = B.size := rfl
    generalize B.lead2.set (B.lst + 1) [{ noEnt with term := B.term }] = B3 at h3 ⊢
    have h1 := BS.others_len B3 (fun to => B3.feedM to ((B3.next[to]?).getD 0)) B3.size.toNat
    have h2 := settled_len B3
    have h4 : B3.feeds.length = (B3.others (fun to => B3.feedM to ((B3.next[to]?).getD 0)) B3.size.toNat).length := rfl
    show (B3.feeds ++ B3.settled.2).length ≤ 10
    rw [List.length_append]
    omega
theorem c_Timeout (h : Bal s b l v n m B) (hok : B.Ok) (hlc : B.commit ≤ B.lst) (hl1 : B.log.length + 1 ≤ 1073741824) (ht : Num B.term) : DCalls Try.prog 24 #[bptr b] s (OpPost B.timeout b (bL b l v n m) s) := by
  refine ok_Timeout b _ s ?_
  unfold vc_Timeout
  have hb := h.cell
  have hsz := hok.size
  have hid := hok.id
  simp only [RP_join]
  refine W.join_gen (fun z s' => s' = s ∧ z = () ∧ B.role ≠ 2) ?_ ?_
  · rintro _ s ⟨rfl, rfl, hr⟩
    have ht1 : IntKind.i64.wrap (B.term + 1) = B.term + 1 := by unfold Num at ht; exact wrap_in (by omega) (by omega)
    simp [W.ld_at hb, ht1]
    refine W.call_of (c_turn h (B.term + 1) B.id 1) ?_
    rintro _ s1 ⟨rfl, h1, m1⟩
    refine ⟨(), rfl, ?_⟩
    have hb1 := h1.cell
    obtain ⟨c, hc⟩ : ∃ c : Nat, B.size = c := ⟨B.size.toNat, by omega⟩
    have hct : B.size.toNat = c := by omega
    obtain ⟨f, hf⟩ : ∃ f : Nat, B.id = f := ⟨B.id.toNat, by omega⟩
    simp [W.ld_at hb1, hc]
    refine mksl_bool (by omega) fun r s2 hr2 m2 hrow => ?_
    have h2 := h1.new m2
    have hb2 := h2.cell
    have hidt : B.id.toNat = f := by omega
    simp [W.st_at hb2]
    have h3 : Bal (s2.upd b (.cells ({ B.turned (B.term + 1) B.id 1 with votes := List.replicate c false }.cells l (some ⟨r, 0, none⟩, c, c) n m) 67 (0, 0))) b l (some ⟨r, 0, none⟩, c, c) n m { B.turned (B.term + 1) B.id 1 with votes := List.replicate c false } :=
      balOf (B' := { B.turned (B.term + 1) B.id 1 with votes := List.replicate c false }) (v' := (some ⟨r, 0, none⟩, c, c)) hb2 h2.log hrow h2.next h2.mat h2.nm
    have hr1 : r ∉ bL b l v n m := fun hx => h1.known r hx hr2
    have st3 : Step (bL b l v n m) (bL b l (some ⟨r, 0, none⟩, c, c) n m) s (s2.upd b (.cells ({ B.turned (B.term + 1) B.id 1 with votes := List.replicate c false }.cells l (some ⟨r, 0, none⟩, c, c) n m) 67 (0, 0))) := by
      refine ⟨((m1.mono (by simp [bL])).trans (m2.mono (by simp))).updLater (.inl (by simp [bL])), ?_⟩
      intro z hz
      simp only [bL, List.mem_cons, List.mem_append] at hz ⊢
      rcases hz with hz | hz | hz | hz
      · exact .inl (.inl hz)
      · exact .inl (.inr (.inl hz))
      · simp [Fw.blk] at hz; subst hz
        exact .inr (m1.none hr2 (by simpa using (ne_of_known hb1 hr2).symm))
      · exact .inl (.inr (.inr (.inr hz)))
    have hx : ({ B.turned (B.term + 1) B.id 1 with votes := List.replicate c false } : BS).votes[f]? = some false := by
      show (List.replicate c false)[f]? = _
      rw [List.getElem?_replicate, if_pos (by omega)]
    obtain ⟨g, hgv, hgm, hst⟩ := h3.setVote hx true
    have hgr : g = r := by simp at hgv; exact hgv.symm
    subst hgr
    have hw : B.stood = { ({ B.turned (B.term + 1) B.id 1 with votes := List.replicate c false } : BS) with votes := (List.replicate c false).set f true } := by unfold BS.stood; rw [hct, hidt]
    simp only [hidt]
    refine ⟨by omega, hst _ fun s4 h4 m4 => ?_⟩
    have st4 : Step (bL b l v n m) (bL b l (some ⟨g, 0, none⟩, c, c) n m) s s4 := st3.trans ⟨m4.mono (by simpa using hgm), fun x hx => .inl hx⟩
    have hto : B.timeout = (B.stood.counted.1, B.stood.asks ++ B.stood.counted.2) := by unfold BS.timeout; rw [if_neg hr]
    have hok4 : B.stood.Ok := ⟨⟨hok.small.base0, hok.small.base1, hok.small.log1⟩, hok.base, hok.size, hok.id, hok.com⟩
    have hv4 : B.stood.votes.length = B.stood.size.toNat := by rw [hw]; show (List.set _ _ _).length = B.size.toNat; simp [hct]
    have hlc4 : B.stood.commit ≤ B.stood.lst := hlc
    have hl4 : B.stood.log.length + 1 ≤ 1073741824 := hl1
    have h4 : Bal s4 b l (some ⟨g, 0, none⟩, c, c) n m B.stood := by rw [hw]; exact h4
    have hs4 : B.stood.size = B.size := rfl
    rw [hto]
    generalize B.stood = B4 at h4 hok4 hv4 hlc4 hl4 hs4
    refine W.call_of (c_othersAsk h4 hok4.small hok4.base ⟨by omega, by omega⟩) ?_
    rintro _ s5 ⟨t1, ps1, rfl, hms1, hps1, m5, hf1⟩
    refine ⟨((t1, ()), ()), rfl, ?_⟩
    have h5 := h4.new m5
    refine W.call_of (c_counted h5 hok4 hv4 hlc4 hl4) ?_
    rintro _ s6 ⟨t2, ps2, l', v', n', m', rfl, h6, st6, hms2, hps2, hf2⟩
    refine ⟨((t2, ()), ()), rfl, ?_⟩
    have c1 : t1.2.1 ≤ 1000 := by
      have g1 := hms1.row.len
      have g2 := congrArg List.length hps1
      have g3 := B4.others_len (fun to => B4.askM to) B4.size.toNat
      simp only [List.length_map] at g2
      have g4 : B4.asks.length = (B4.others (fun to => B4.askM to) B4.size.toNat).length := rfl
      omega
    have c2 : t2.2.1 ≤ 1000 := by
      have g1 := hms2.row.len
      have g2 := congrArg List.length hps2
      have g3 := counted_len B4 (by omega)
      simp only [List.length_map] at g2
      omega
    refine op_app h4 hms1 m5 hf1 h6 st6 hms2 hf2 c1 c2 ?_
    intro a kk c' s7 hp
    rw [hps1, hps2] at hp
    exact OpPost.start hp st4
  · intro J hJ
    simp [W.ld_at hb, W.br_iff]
    refine ⟨fun h2 => ?_, fun h2 => hJ _ _ ⟨rfl, rfl, h2⟩⟩
    have : B.timeout = (B, []) := by unfold BS.timeout; rw [if_pos h2]
    rw [this]; exact OpPost.noMsgs h (Step.refl _ _)
theorem c_Beat (h : Bal s b l v n m B) (hok : B.Ok) (hF : B.role = 2 → B.Fed) : DCalls Try.prog 27 #[bptr b] s (OpPost (B, if B.role = 2 then B.feeds else []) b (bL b l v n m) s) := by
  refine ok_Beat b _ s ?_
  unfold vc_Beat
  have hb := h.cell
  have hsz := hok.size
  simp [W.ld_at hb, W.br_iff]
  refine ⟨fun hr => ?_, fun hr => ?_⟩
  · rw [if_neg hr]; exact OpPost.noMsgs h (Step.refl _ _)
  · rw [if_pos hr]
    refine W.call_of (c_othersFeed h hok.small hok.base ⟨by omega, hsz.2⟩ (hF hr)) ?_
    rintro x s5 ⟨t1, ps1, rfl, q⟩
    refine ⟨((t1, ()), ()), rfl, ?_⟩
    exact op_msgs h (Step.refl _ _) ⟨t1, ps1, rfl, q⟩
def BS.proposed (B : BS) (at_ born : Int) (text : ByteArray) : BS := B.set (B.lst + 1) [⟨B.term, at_, born, text⟩]
def BS.propose (B : BS) (at_ born : Int) (text : ByteArray) : Int × BS × List Msg :=
  if B.role = 2 then ((B.proposed at_ born text).lst, (B.proposed at_ born text).settled.1, (B.proposed at_ born text).feeds ++ (B.proposed at_ born text).settled.2) else (0, B, [])
def ProPost (R : Int × BS × List Msg) (b : Nat) (L : List Nat) (s : PH) (x : Value) (s' : PH) : Prop := ∃ y, x = .tuple #[.int .i64 R.1, y] ∧ OpPost R.2 b L s y s'
theorem c_Propose (h : Bal s b l v n m B) (hok : B.Ok) (hL : B.role = 2 → B.Ldr) (hlc : B.commit ≤ B.lst) (hl1 : B.log.length + 1 ≤ 1073741824) (at_ born : Int) (text : ByteArray) :
    DCalls Try.prog 28 #[bptr b, .int .i64 at_, .int .i64 born, .string text] s (ProPost (B.propose at_ born text) b (bL b l v n m) s) := by
  refine ok_Propose b at_ born text _ s ?_
  unfold vc_Propose
  have hb := h.cell
  have hsz := hok.size
  have hs := hok.small
  obtain ⟨q1, q2, q3⟩ := id hs
  have hlst : B.lst = B.base + B.log.length := rfl
  have hbase := hok.base
  simp only [RP_join]
  refine W.join_gen (fun z s' => s' = s ∧ z = () ∧ B.role = 2) ?_ ?_
  · rintro _ s ⟨rfl, rfl, hr⟩
    have hl := hL hr
    have hwl : IntKind.i64.wrap (B.lst + 1) = B.lst + 1 := wrap_in (by omega) (by omega)
    refine W.callQ_of ((B.lst, ()), ()) (c_last h hs) rfl ?_
    simp [W.ld_at hb, -W.nw_iff, hwl]
    refine W.nw_of fun r s1 hr1 m1 k1 => ?_
    have hpr : B.propose at_ born text = ((B.proposed at_ born text).lst, (B.proposed at_ born text).settled.1, (B.proposed at_ born text).feeds ++ (B.proposed at_ born text).settled.2) := by unfold BS.propose; rw [if_pos hr]
    rw [hpr]
    refine W.call_of (c_set (h.new m1) hs (i := B.lst + 1) (ys := [⟨B.term, at_, born, text⟩]) (by omega) (Int.le_refl _) (row_one (E := entE) (x := ⟨B.term, at_, born, text⟩) k1 rfl).src0 rfl (by omega)) ?_
    rintro _ s2 ⟨l', rfl, h2, st2⟩
    refine ⟨(), rfl, ?_⟩
    have hl3 : (B.proposed at_ born text).log.length = B.log.length + 1 := by
      unfold BS.proposed BS.set
      simp only [List.length_append, List.length_take, List.length_cons, List.length_nil]; omega
    have hlst3 : (B.proposed at_ born text).lst = B.lst + 1 := by
      have e : (B.proposed at_ born text).lst = B.base + ((B.proposed at_ born text).log.length : Int) := rfl
      rw [e, hl3, hlst]; omega
    have hok3 : (B.proposed at_ born text).Ok := ⟨⟨q1, q2, by omega⟩, hbase, hsz, hok.id, hok.com⟩
    have hF3 : (B.proposed at_ born text).Fed := by
      refine ⟨hl.nlen, fun i nx hnx => ?_⟩
      have g := (hl.nr i nx hnx).2
      rw [hlst3]
      have e : (B.proposed at_ born text).base = B.base := rfl
      rw [e]; omega
    have hm3 : (B.proposed at_ born text).mat.length = (B.proposed at_ born text).size.toNat := hl.mlen
    have hlc3 : (B.proposed at_ born text).commit ≤ (B.proposed at_ born text).lst := by rw [hlst3]; show B.commit ≤ _; omega
    have st3 : Step (bL b l v n m) (bL b l' v n m) s s2 := Step.trans (L' := bL b l v n m) ⟨m1.mono (by simp), fun x hx => .inl hx⟩ st2
    have h2 : Bal s2 b l' v n m (B.proposed at_ born text) := h2
    have hsz3 : (B.proposed at_ born text).size = B.size := rfl
    generalize B.proposed at_ born text = B3 at h2 hok3 hF3 hm3 hlc3 hsz3
    refine W.call_of (c_last h2 hok3.small) ?_
    rintro _ s2 ⟨rfl, rfl⟩
    refine ⟨((B3.lst, ()), ()), rfl, ?_⟩
    refine W.call_of (c_othersFeed h2 hok3.small hok3.base ⟨by omega, by omega⟩ hF3) ?_
    rintro _ s6 ⟨t1, ps1, rfl, hms1, hps1, m6, hf1⟩
    refine ⟨((t1, ()), ()), rfl, ?_⟩
    have h6 := h2.new m6
    refine W.call_of (c_settle h6 hok3 hF3 hm3 hlc3) ?_
    rintro _ s7 ⟨t2, ps2, rfl, hms2, hps2, h7, m7, hf2⟩
    refine ⟨((t2, ()), ()), rfl, ?_⟩
    have c1 : t1.2.1 ≤ 1000 := by
      have g1 := hms1.row.len
      have g2 := congrArg List.length hps1
      have g3 := B3.others_len (fun to => B3.feedM to ((B3.next[to]?).getD 0)) B3.size.toNat
      simp only [List.length_map] at g2
      have g4 : B3.feeds.length = (B3.others (fun to => B3.feedM to ((B3.next[to]?).getD 0)) B3.size.toNat).length := rfl
      omega
    have c2 : t2.2.1 ≤ 1000 := by
      have g1 := hms2.row.len
      have g2 := congrArg List.length hps2
      have g3 := settled_len B3
      simp only [List.length_map] at g2
      omega
    refine op_app (R := B3.settled) h2 hms1 m6 hf1 h7 ⟨m7.mono (by simp [bL]), fun x hx => .inl hx⟩ hms2 (fun y hy => ⟨.inr (hf2 y hy), fun hx => h6.known y hx (hf2 y hy)⟩) c1 c2 ?_
    intro a kk c' s8 hp
    rw [hps1, hps2] at hp
    exact ⟨_, rfl, OpPost.start hp st3⟩
  · intro J hJ
    have no : B.role ≠ 2 → ProPost (B.propose at_ born text) b (bL b l v n m) s (.tuple #[.int .i64 0, .slice none 0 0]) s := by
      intro h2
      have : B.propose at_ born text = (0, B, []) := by unfold BS.propose; rw [if_neg h2]
      rw [this]; exact ⟨_, rfl, OpPost.noMsgs h (Step.refl _ _)⟩
    simp [W.ld_at hb, W.br_iff]
    exact ⟨fun h2 => no h2, fun h2 => hJ _ _ ⟨rfl, rfl, h2⟩⟩
end
end Go.Proofs.Ytfpbiecmobdnnaa
