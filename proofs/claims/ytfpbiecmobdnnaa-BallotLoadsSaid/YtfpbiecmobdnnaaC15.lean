/-
  The law: what is committed stays.
  Conditions: none; it proves no statement by itself.
-/
import Derived.Test.YtfpbiecmobdnnaaP2
import Derived.Test.YtfpbiecmobdnnaaVc4
set_option linter.unusedVariables false
set_option linter.unusedSimpArgs false
set_option maxHeartbeats 1000000
set_option maxRecDepth 100000
namespace Go.Proofs.Ytfpbiecmobdnnaa
open Fw Go
attribute [-simp] Fw.W.ld_iff Fw.W.st_iff

/-- a new block, laid at once -/
theorem nw_full {c : Array Value} {e : TypeId} {v : Value} {vs : List Value} {K : Nat → W.T} {s : PH} (hc : c.size = (v :: vs).length) (hv : ∀ w ∈ v :: vs, w.oneCell' = true) (h : ∀ r s', s r = none → Fw.Mod [] s s' → s' r = some (.cells (v :: vs).toArray e (0, 0)) → K r s') :
    W.nw (.cells c e (0, 0)) (fun r => W.st ⟨r, 0, none⟩ (v :: vs) (K r)) s := by
  intro r hr
  have hs : (s.upd r (.cells c e (0, 0))) r = some (.cells c e (0, 0)) := PH.upd_same _ _ _
  rw [W.st_at hs]
  refine ⟨by omega, by simp, hv, h r _ hr ((Mod.new hr).updLater (.inr hr)) ?_⟩
  rw [PH.upd_same]
  congr 2
  apply Array.ext'
  rw [setL_toList _ _ _ (by omega)]
  have : c.toList.drop (0 + (v :: vs).length) = [] := List.drop_eq_nil_of_le (by simp at hc ⊢; omega)
  rw [this]; simp
/-- what was seen is still there -/
def Seen (B : BS) (f : List (Int × Ent)) : Prop := ∀ i e, f.lookup i = some e → i ≤ B.commit ∧ (B.base < i → B.entry i = some e)
theorem Seen.keeps {B B' : BS} {f : List (Int × Ent)} (h : Seen B f) (hk : Keeps B B') : Seen B' f := fun i e hi => by
  obtain ⟨h1, h2⟩ := h i e hi
  have := hk.base
  have := hk.com
  exact ⟨by omega, fun hb => (hk.ent i hb h1).trans (h2 (by omega))⟩
abbrev opsK : KeyE Int := intKey .i64
structure StI (s0 s : PH) (b w : Nat) (l v n m : Tri) (B : BS) (f : List (Int × Ent)) (z : Int) : Prop where
  bal : Bal s b l v n m B
  inv : B.Inv z
  map : isMap opsK entV s w f
  step : Step [] (w :: bL b l v n m) s0 s
  apart : w ∉ bL b l v n m
  seen : Seen B f
theorem StI.new {s0 s s' : PH} {b w : Nat} {l v n m : Tri} {B : BS} {f : List (Int × Ent)} {z : Int} (h : StI s0 s b w l v n m B f z) (hm : Fw.Mod [] s s') : StI s0 s' b w l v n m B f z :=
  ⟨h.bal.new hm, h.inv, h.map.mod hm (by simp), h.step.trans ⟨hm.mono (by simp), fun x hx => .inl hx⟩, h.apart, h.seen⟩
theorem StI.known {s0 s : PH} {b w : Nat} {l v n m : Tri} {B : BS} {f : List (Int × Ent)} {z : Int} (h : StI s0 s b w l v n m B f z) : s w ≠ none := h.map.known
theorem StI.put {s0 s : PH} {b w : Nat} {l v n m : Tri} {B : BS} {f : List (Int × Ent)} {z : Int} (h : StI s0 s b w l v n m B f z) {o : Obj} {i : Int} {e : Ent} (hm : isMap opsK entV (s.upd w o) w (aset f i e)) (h1 : i ≤ B.commit) (h2 : B.entry i = some e) :
    StI s0 (s.upd w o) b w l v n m B (aset f i e) z := by
  refine ⟨h.bal.mod (M := [w]) (Mod.upd (by simp)) fun x hx => by simp; rintro rfl; exact h.apart hx, h.inv, hm, h.step.trans ⟨Mod.upd (by simp), fun x hx => .inl hx⟩, h.apart, fun j e' hj => ?_⟩
  rw [lookup_aset] at hj
  split at hj
  · rename_i hji
    have hji : j = i := by simpa using hji
    cases hj; subst hji
    exact ⟨h1, fun _ => h2⟩
  · exact h.seen j e' hj
theorem StI.did {s0 s s' : PH} {b w : Nat} {l v n m l' v' n' m' : Tri} {B B' : BS} {f : List (Int × Ent)} {z z' : Int} (h : StI s0 s b w l v n m B f z) (hB : Bal s' b l' v' n' m' B') (st : Step (bL b l v n m) (bL b l' v' n' m') s s') (hI : B'.Inv z') (hk : Keeps B B') : StI s0 s' b w l' v' n' m' B' f z' := by
  refine ⟨hB, hI, h.map.mod st.mod h.apart, h.step.trans ⟨st.mod.mono fun x hx => by simp [hx], fun x hx => ?_⟩, fun hx => ?_, h.seen.keeps hk⟩
  · rcases List.mem_cons.1 hx with rfl | hx
    · exact .inl (by simp)
    · rcases st.new x hx with g | g
      · exact .inl (by simp [g])
      · exact .inr g
  · rcases st.new w hx with g | g
    · exact h.apart g
    · exact h.known g
abbrev zOf (ops : List OpD) (k : Nat) : Int := (k + total (ops.take k) : Nat)
def StZ (ops : List OpD) (a : Option Addr) (an ac : Nat) (b w : Nat) (s0 : PH) (z : MDen [(false, [.ptr]), (false, [.map]), (false, [.slice]), (false, [.int .i64]), (false, [.int .i64])]) (s : PH) : Prop :=
  ∃ (k : Nat) (l v n m : Tri) (B : BS) (f : List (Int × Ent)), z = ((some ⟨b, 0, none⟩, ()), (some w, ()), ((a, an, ac), ()), ((an : Int), ()), ((k : Int), ()), ()) ∧ k ≤ an ∧ StI s0 s b w l v n m B f (zOf ops k)
def StY (B : BS) (ad : Option Addr) (an ac k : Nat) (b w r4 : Nat) (l v n m : Tri) (c4 : Array Value) (zz : Int) (s0 : PH) (z : MDen [(false, [.ptr]), (false, [.map]), (false, [.addr]), (false, [.int .i64]), (false, [.slice]), (false, [.int .i64]), (false, [.int .i64])]) (s : PH) : Prop :=
  ∃ (i : Nat) (f : List (Int × Ent)), z = ((some ⟨b, 0, none⟩, ()), (some w, ()), (Addr.mk r4 0 none, ()), (B.base + 1 + (i : Int), ()), ((ad, an, ac), ()), ((an : Int), ()), ((k : Int), ()), ()) ∧ B.base + i ≤ B.commit ∧ StI s0 s b w l v n m B f zz ∧ s r4 = some (.cells c4 36 (0, 0))
theorem c_BallotStays {s : PH} (id size : Int) {a : Option Addr} {an ac : Nat} {ops : List OpD} (h : elems rdOp s a an ops) (hn : an ≤ 140737488355328) : DCalls Try.prog 3 #[.int .i64 id, .int .i64 size, .slice a an ac] s fun x s' => x = .bool true ∧ Fw.Mod [] s s' := by
  refine ok_BallotStays id size a an ac _ s ?_
  unfold vc_BallotStays
  have hlen := h.1
  simp only [RP_call]
  refine W.call_of (c_New id size s) ?_
  intro x s1 hx
  obtain ⟨p, e0, rfl, m1, hp⟩ : ∃ (p : Option Addr) (e0 : Int), x = .tuple #[.pointer p, .int .i64 e0] ∧ Fw.Mod [] s s1 ∧ (e0 = 0 → okNew id size ∧ ∃ b, p = some ⟨b, 0, none⟩ ∧ Bal s1 b noTri noTri noTri noTri (newBS id size) ∧ s b = none) := by
    rcases hx with ⟨hok, b, rfl, h1, m1, hb⟩ | ⟨hno, rfl, rfl⟩
    · exact ⟨_, _, rfl, m1, fun _ => ⟨hok, b, rfl, h1, hb⟩⟩
    · exact ⟨_, _, rfl, Mod.refl _ _, fun e => absurd e (by decide)⟩
  refine ⟨((p, ()), (e0, ()), ()), rfl, ?_⟩
  simp only [RP_join]
  refine W.join_gen (fun z s' => ∃ b, z = ((some ⟨b, 0, none⟩, ()), ()) ∧ okNew id size ∧ Bal s' b noTri noTri noTri noTri (newBS id size) ∧ s b = none ∧ Fw.Mod [] s s' ∧ greatB ops = false) ?_ ?_
  · rintro _ s2 ⟨b, rfl, hok, h2, hb, m2, hgr⟩
    unfold greatB at hgr
    simp only [Bool.or_eq_false_iff, decide_eq_false_iff_not] at hgr
    obtain ⟨hg1, hg2⟩ := hgr
    simp only [RP_nw]
    refine W.nw_of fun w s3 hw m3 k3 => ?_
    have h3 := h2.new m3
    have hwb : b ≠ w := ne_of_known h2.cell hw
    simp only [RP_loop]
    refine ⟨StZ ops a an ac b w s, fun z _ => an - z.2.2.2.2.1.1.toNat, ⟨0, noTri, noTri, noTri, noTri, newBS id size, [], rfl, Nat.zero_le _, ?_⟩, ?_⟩
    · refine ⟨h3, by simpa [zOf, total] using Inv.new hok, ⟨#[], 0, k3, rfl, Go.MapKept.stamped_empty 0⟩, ⟨m2.trans m3, ?_⟩, by simp [bL, Fw.blk]; exact hwb.symm, fun i e hi => by cases hi⟩
      intro x hx
      simp [bL, Fw.blk] at hx
      rcases hx with rfl | rfl
      · exact .inr (m2.none hw (by simp))
      · exact .inr hb
    rintro _ s4 ⟨k, l, v, n, m, B, f, rfl, hk, hI⟩
    have m4 := hI.step.mod
    simp [W.br_iff, -W.nw_iff]
    refine ⟨fun hlt => ⟨hlt, ?_⟩, fun hge => m4⟩
    obtain ⟨o, ho⟩ : ∃ o, ops[k]? = some o := ⟨_, List.getElem?_eq_getElem (by omega)⟩
    obtain ⟨ad, t, had, hhas, hM, hs1, hs2⟩ := op_at (h.mono m4.le) ho
    subst had
    simp only [W.unSome_some]
    refine ld_has_z hhas (y := (o.kind, o.a, o.b, o.text, o.M.kind, o.M.from_, o.M.to, o.M.term, o.M.index, o.M.prev, o.M.commit, o.M.good, t, o.M.snap, ())) rfl ?_
    refine nw_full rfl (by simp [Value.oneCell']) fun r1 s5 hr1 m5 k5 => ?_
    have I5 := hI.new m5
    refine W.call_of (c_Stand I5.bal I5.inv.run.ok.small) ?_
    rintro _ s6 ⟨rfl, m6⟩
    refine ⟨((B.term, B.vote, B.role, B.lead, B.base, B.lst, B.commit, ()), ()), rfl, ?_⟩
    refine nw_full rfl (by simp [Value.oneCell']) fun r2 s7 hr2 m7 k7 => ?_
    have I7 := (I5.new m6).new m7
    simp [W.ld_at k7, -W.nw_iff]
    have hs7 := I7.inv.run.ok.small
    have hnl := num_lst hs7 I7.inv.run.ok.base
    refine W.call_of (c_Entry I7.bal hs7 (i := B.lst) hnl) ?_
    rintro _ s8 ⟨rfl, m8⟩
    generalize hE : (B.entry B.lst).getD noEnt = E
    refine ⟨((E.term, E.at_, E.born, E.text, ()), ((B.entry B.lst).isSome, ()), ()), rfl, ?_⟩
    refine nw_full rfl (by simp [Value.oneCell']) fun r3 s9 hr3 m9 k9 => ?_
    have I9 := (I7.new m8).new m9
    have k5' := (((m6.trans m7).trans m8).trans m9).at k5 (by simp)
    have k7' := (m8.trans m9).at k7 (by simp)
    simp [W.ld_at k5', -W.nw_iff]
    have hkl : k < ops.length := by omega
    have htk := total_take_le ops k
    have htt := total_take ho
    have htk1 := total_take_le ops (k + 1)
    have hsz : o.size = 1 + o.text.size + o.M.list.length + o.M.snap.size := rfl
    have hzb : 0 ≤ zOf ops k ∧ zOf ops k ≤ 900000 := by unfold zOf; omega
    have hM9 := hM.mono (((((m5.trans m6).trans m7).trans m8).trans m9)).le
    refine W.call_of (c_did I9.bal I9.inv hzb o t hM9 (by omega)) ?_
    rintro _ s10 ⟨y, rfl, t', ps, l', v', n', m', rfl, h10, st10, _⟩
    refine ⟨((t', ()), ((B.did o).2.2, ()), ()), rfl, ?_⟩
    have hkeep := Keeps.did I9.inv o hzb
    have hinv := (Inv.did I9.inv o hzb (by omega)).mono (z' := zOf ops (k + 1)) (by unfold zOf; omega)
    have h10 : Bal s10 b l' v' n' m' (B.did o).1 := h10
    generalize (B.did o).1 = B' at h10 hkeep hinv
    have I10 := I9.did h10 st10 hinv hkeep
    have n2 : r2 ∉ bL b l v n m := fun hx => ((I5.new m6).bal.known r2 hx) hr2
    have n3 : r3 ∉ bL b l v n m := fun hx => ((I7.new m8).bal.known r3 hx) hr3
    have k7a := st10.mod.at k7' n2
    have k9a := st10.mod.at k9 n3
    refine W.call_of (c_Stand I10.bal I10.inv.run.ok.small) ?_
    rintro _ s11 ⟨rfl, m11⟩
    refine ⟨((B'.term, B'.vote, B'.role, B'.lead, B'.base, B'.lst, B'.commit, ()), ()), rfl, ?_⟩
    refine nw_full rfl (by simp [Value.oneCell']) fun r4 s12 hr4 m12 k12 => ?_
    have I12 := (I10.new m11).new m12
    have k7b := (m11.trans m12).at k7a (by simp)
    have k9b := (m11.trans m12).at k9a (by simp)
    have hk1 := hkeep.base
    have hk2 := hkeep.com
    have hk3 := I12.inv.run.ok.com
    have hk4 := I12.inv.run.lc
    refine W.join_gen (fun z s' => s' = s12 ∧ z = ((some ⟨b, 0, none⟩, ()), (some w, ()), (Addr.mk r2 0 none, ()), (Addr.mk r3 0 none, ()), (Addr.mk r4 0 none, ()), ((some ad, an, ac), ()), ((an : Int), ()), ((k : Int), ()), ())) ?_ ?_
    · rintro _ s12 ⟨rfl, rfl⟩
      refine W.join_gen (fun z s' => Fw.Mod [] s12 s' ∧ z = ((some ⟨b, 0, none⟩, ()), (some w, ()), (Addr.mk r4 0 none, ()), ((some ad, an, ac), ()), ((an : Int), ()), ((k : Int), ()), ())) ?_ ?_
      · rintro _ s13 ⟨m13, rfl⟩
        have I13 := I12.new m13
        have k13 := m13.at k12 (by simp)
        simp [W.ld_at k13]
        have hfar := I13.inv.far
        have hb0 := I13.inv.run.ok.small.base0
        have hFAR : FAR = 1099511627776 := rfl
        have hzb2 : zOf ops (k + 1) ≤ 900000 := by unfold zOf; omega
        have hwb1 : IntKind.i64.wrap (B'.base + 1) = B'.base + 1 := wrap_in (by omega) (by omega)
        have hwk : IntKind.i64.wrap ((k : Int) + 1) = ((k + 1 : Nat) : Int) := by rw [wrap_in (by omega) (by omega)]; simp
        rw [hwb1]
        refine ⟨StY B' (some ad) an ac k b w r4 l' v' n' m' _ (zOf ops (k + 1)) s, fun z _ => (B'.commit + 1 - z.2.2.2.1.1).toNat, ⟨0, f, by simp, by simpa using hk3, I13, k13⟩, ?_⟩
        rintro _ s14 ⟨i, g, rfl, hi, I14, k14⟩
        have hwi : IntKind.i64.wrap (B'.base + 1 + (i : Int) + 1) = B'.base + 1 + ((i + 1 : Nat) : Int) := by rw [wrap_in (by omega) (by omega)]; push_cast; omega
        simp [W.ld_at k14, W.br_iff, -W.nw_iff]
        refine ⟨fun hle => ?_, fun hgt => ?_⟩
        · obtain ⟨e, he, _⟩ := BS.entry_in (B := B') (i := B'.base + 1 + i) (by omega) (by omega)
          refine W.call_of (c_Entry I14.bal I14.inv.run.ok.small (i := B'.base + 1 + i) (by unfold Num; omega)) ?_
          rintro _ s15 ⟨rfl, m15⟩
          rw [he]
          refine ⟨((e.term, e.at_, e.born, e.text, ()), (true, ()), ()), rfl, ?_⟩
          refine nw_full rfl (by simp [Value.oneCell']) fun r5 s16 hr5 m16 k16 => ?_
          have I16 := (I14.new m15).new m16
          have k14' := (m15.trans m16).at k14 (by simp)
          simp only [Bool.not_true, W.br_false]
          have hrw : r4 ≠ w := by
            rintro rfl
            obtain ⟨es, c, hh, _⟩ := I14.map
            rw [hh] at k14; cases k14
          have key : ∀ (K : PH → Prop) s17, StI s s17 b w l' v' n' m' B' g (zOf ops (k + 1)) → (∀ o, StI s (s17.upd w o) b w l' v' n' m' B' (aset g (B'.base + 1 + i) e) (zOf ops (k + 1)) → K (s17.upd w o)) →
              W.mset (TypeDesc.int .i64) (some w) (.int .i64 (B'.base + 1 + i)) (.agg #[.int .i64 e.term, .int .i64 e.at_, .int .i64 e.born, .string e.text]) K s17 := by
            intro K s17 I17 hK
            exact mset_of (ke := opsK) I17.map (v := e) fun o ho => hK o (I17.put ho (by omega) he)
          have hmeas : max (B'.commit + 1 - IntKind.i64.wrap (B'.base + 1 + (i : Int) + 1)) 0 < B'.commit + 1 - (B'.base + 1 + i) := by rw [hwi]; push_cast; omega
          refine look_of (ke := opsK) I16.map (key := B'.base + 1 + i) ?_
          have hgo : ∀ s17, Fw.Mod [] s16 s17 → StI s s17 b w l' v' n' m' B' g (zOf ops (k + 1)) ∧ s17 r4 = some (.cells #[.int .i64 B'.term, .int .i64 B'.vote, .int .i64 B'.role, .int .i64 B'.lead, .int .i64 B'.base, .int .i64 B'.lst, .int .i64 B'.commit] 36 (0, 0)) ∧ s17 r5 = some (.cells #[.int .i64 e.term, .int .i64 e.at_, .int .i64 e.born, .string e.text] 39 (0, 0)) :=
            fun s17 m17 => ⟨I16.new m17, m17.at k14' (by simp), m17.at k16 (by simp)⟩
          cases hl : g.lookup (B'.base + 1 + (i : Int)) with
          | some e' =>
            have hee : e' = e := by
              have := (I16.seen _ _ hl).2 (by omega)
              rw [he] at this; cases this; rfl
            subst hee
            refine ⟨(e'.term, e'.at_, e'.born, e'.text, ()), rfl, ?_⟩
            refine nw_full rfl (by simp [Value.oneCell']) fun r6 s17 hr6 m17 k17 => ?_
            obtain ⟨I17, q4, q5⟩ := hgo s17 m17
            simp [W.ld_at q5, W.ld_at k17]
            exact key _ s17 I17 fun o I18 => ⟨⟨i + 1, _, by rw [hwi], by omega, I18, upd_at q4 hrw o⟩, hmeas⟩
          | none =>
            refine ⟨(0, 0, 0, ⟨#[]⟩, ()), rfl, ?_⟩
            refine nw_full rfl (by simp [Value.oneCell']) fun r6 s17 hr6 m17 k17 => ?_
            obtain ⟨I17, q4, q5⟩ := hgo s17 m17
            simp [W.ld_at q5, W.ld_at k17]
            exact key _ s17 I17 fun o I18 => ⟨⟨i + 1, _, by rw [hwi], by omega, I18, upd_at q4 hrw o⟩, hmeas⟩
        · rw [hwk]
          refine ⟨⟨k + 1, l', v', n', m', B', g, by simp, by omega, I14⟩, by omega⟩
      · intro J hJ
        refine W.join_gen (fun z s' => s' = s12 ∧ ∃ c : Bool, z = ((some ⟨b, 0, none⟩, ()), (some w, ()), (Addr.mk r2 0 none, ()), (Addr.mk r3 0 none, ()), (Addr.mk r4 0 none, ()), ((some ad, an, ac), ()), ((an : Int), ()), ((k : Int), ()), (c, ()), ()) ∧ (c = true → B.role = 2 ∧ B'.role = 2 ∧ B'.base < B.lst)) ?_ ?_
        · rintro _ s12 ⟨rfl, c, rfl, hc⟩
          simp only [W.br_iff]
          refine ⟨fun hct => ?_, fun _ => hJ _ _ ⟨Mod.refl _ _, rfl⟩⟩
          obtain ⟨g1, g2, g3⟩ := hc hct
          simp [W.ld_at k7b, -W.nw_iff]
          refine W.call_of (c_Entry I12.bal I12.inv.run.ok.small (i := B.lst) hnl) ?_
          rintro _ s13 ⟨rfl, m13⟩
          have hsame := hkeep.led g1 g2 B.lst g3 (Int.le_refl _)
          obtain ⟨e9, he9, _⟩ := BS.entry_in (B := B) (i := B.lst) (by omega) (Int.le_refl _)
          have hE9 : E = e9 := by rw [← hE, he9]; rfl
          rw [hsame, hE, he9]
          refine ⟨((E.term, E.at_, E.born, E.text, ()), (true, ()), ()), rfl, ?_⟩
          refine nw_full rfl (by simp [Value.oneCell']) fun r5 s14 hr5 m14 k14 => ?_
          have k9c := (m13.trans m14).at k9b (by simp)
          simp [W.ld_at k14, W.ld_at k9c]
          exact hJ _ _ ⟨m13.trans m14, rfl⟩
        · intro K hK
          simp [W.ld_at k7b, W.ld_at k12, W.br_iff]
          refine ⟨fun g1 => ⟨fun g2 => ⟨fun g3 => hK _ _ ⟨rfl, _, rfl, fun hc => ⟨g1, g2, by simpa using hc⟩⟩, fun _ => hK _ _ ⟨rfl, _, rfl, fun hc => by cases hc⟩⟩, fun _ => hK _ _ ⟨rfl, _, rfl, fun hc => by cases hc⟩⟩, fun _ => hK _ _ ⟨rfl, _, rfl, fun hc => by cases hc⟩⟩
    · intro J hJ
      simp [W.ld_at k7b, W.ld_at k12, W.br_iff]
      exact ⟨hk2, fun _ => ⟨hk1, fun _ => ⟨hk3, fun _ => ⟨hk4, fun _ => hJ _ _ ⟨rfl, rfl⟩⟩⟩⟩⟩
  · intro J hJ
    refine W.call_of (c_awake s1) ?_
    rintro _ s2 ⟨rfl, m2⟩
    refine ⟨((true, ()), ()), rfl, ?_⟩
    have m12 := m1.trans m2
    simp
    refine W.call_of (c_great (h.mono m12.le) hn) ?_
    rintro _ s3 ⟨rfl, m3⟩
    refine ⟨((greatB ops, ()), ()), rfl, ?_⟩
    have m123 := m12.trans m3
    have hend : W.call Try.prog 8 #[] (false, [(false, [.bool])]) (fun x => W.ret (fun x s' => x = .bool true ∧ Fw.Mod [] s s') (.bool x.1.1)) s3 := by
      refine W.call_of (c_awake s3) ?_
      rintro _ s4 ⟨rfl, m4⟩
      exact ⟨((true, ()), ()), rfl, rfl, m123.trans m4⟩
    simp only [W.br_iff]
    refine ⟨fun _ => hend, fun hg => ⟨fun _ => hend, fun he => ?_⟩⟩
    have he : e0 = 0 := by simpa using he
    obtain ⟨hok, b, rfl, h1, hb⟩ := hp he
    exact hJ _ _ ⟨b, rfl, hok, h1.new (m2.trans m3), hb, m123, hg⟩
end Go.Proofs.Ytfpbiecmobdnnaa
