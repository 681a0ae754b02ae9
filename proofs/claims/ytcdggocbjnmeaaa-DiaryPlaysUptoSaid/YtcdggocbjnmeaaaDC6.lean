/-
  The document's drive: what its calls do.
  Conditions: none; it proves no statement by itself.
-/
import Derived.Test.YtcdggocbjnmeaaaDC5
set_option linter.unusedVariables false
set_option linter.unusedSimpArgs false
set_option maxHeartbeats 1000000
attribute [-simp] Fw.W.ld_iff Fw.W.st_iff
namespace Go.Proofs.Ytcdggocbjnmeaaa
open Fw Go

def DS.rbegin (d : DS) : (Int × Bool) × DS :=
  if d.down then ((50, false), d) else if d.armed == 1 then ((50, true), { d with down := true })
  else if d.armed > 0 then ((0, false), { d with armed := IntKind.i64.wrap (d.armed - 1) }) else ((0, false), d)
theorem DS.rbegin_files (d : DS) : d.rbegin.2.files = d.files := by
  unfold DS.rbegin; repeat' split
  all_goals rfl

theorem RefIs.upd {s : PH} {r : Nat} {L : List Nat} {d : DS} (h : RefIs s r L d) (x : Bool) (n : Int) : ∃ o, s r = some o ∧ ∀ a k c, o = .cells #[.slice a k c, .bool d.down, .int .i64 d.armed] 43 (0, 0) →
    RefIs (s.upd r (.cells #[.slice a k c, .bool x, .int .i64 n] 43 (0, 0))) r L { d with down := x, armed := n } := by
  obtain ⟨a, k, c, rfl, hr, h⟩ := h.ex
  refine ⟨_, hr, ?_⟩
  intro a' k' c' e
  simp at e
  obtain ⟨rfl, rfl, rfl⟩ := e
  have hne := row_ne h hr
  exact ⟨a, k, c, rfl, PH.upd_same _ _ _, h.mod (L := [r]) (Mod.upd (by simp)) fun x hx => by simp; rintro rfl; exact hne hx⟩

theorem c_rBegin {s : PH} {r : Nat} {L : List Nat} {d : DS} (h : RefIs s r L d) : DCalls Try.prog 40 #[dptr r] s fun v s' =>
    v = .tuple #[.int .i64 d.rbegin.1.1, .bool d.rbegin.1.2] ∧ RefIs s' r L d.rbegin.2 ∧ Fw.Mod L s s' := by
  refine ok_rBegin r _ s ?_
  obtain ⟨a, n, c, rfl, hr, hrow⟩ := h.ex
  unfold vc_rBegin
  simp [W.br_iff, W.ld_at hr, W.st_at hr, DS.rbegin]
  refine ⟨fun hd => ?_, fun hd => ⟨fun ha => ?_, fun ha => ⟨fun h0 => ?_, fun h0 => ?_⟩⟩⟩
  · simp [hd, h, Mod.refl]
  · obtain ⟨o, ho, hu⟩ := h.upd true d.armed
    rw [hr] at ho; cases ho
    have := hu a n c rfl
    simp [hd, ha] at this ⊢
    exact ⟨this, Mod.upd (by simp)⟩
  · obtain ⟨o, ho, hu⟩ := h.upd d.down (IntKind.i64.wrap (d.armed - 1))
    rw [hr] at ho; cases ho
    have := hu a n c rfl
    simp [hd, ha, h0] at this ⊢
    exact ⟨this, Mod.upd (by simp)⟩
  · have h0' : ¬ 0 < d.armed := by omega
    simp [hd, ha, h0', h, Mod.refl]

/-- the place of a name in a drive that has it -/
theorem mk_at (F : List (ByteArray × (ByteArray × Int))) (nm : ByteArray) : ∃ f, (mkF F nm)[posOf F nm]? = some f ∧ (foundAt F nm = true → F[posOf F nm]? = some f ∧ stB f.1 nm = 0) ∧ (foundAt F nm = false → f = (nm, (⟨#[]⟩, 0))) := by
  have hpl := posOf_le F nm
  cases hf : foundAt F nm with
  | true =>
    unfold foundAt at hf
    split at hf
    · rename_i p hp
      refine ⟨p, ?_, fun _ => ⟨hp, by simpa using hf⟩, fun h => by cases h⟩
      have : foundAt F nm = true := by unfold foundAt; rw [hp]; exact hf
      simp [mkF, this, hp]
    · cases hf
  | false =>
    refine ⟨_, ?_, fun h => (by cases h), fun _ => rfl⟩
    simp only [mkF, hf, Bool.false_eq_true, if_false]
    rw [List.append_assoc, List.getElem?_append_right (by simp; omega), List.length_take, Nat.min_eq_left hpl]
    simp

def DS.rappend (d : DS) (nm dt : ByteArray) : Int × DS :=
  let (r, d') := d.rbegin
  if r.1 == 0 || r.2 then (r.1, { d' with files := (mkF d'.files nm).modify (posOf d'.files nm) fun f => (f.1, (f.2.1 ++ dt, f.2.2)) }) else (r.1, d')
def DS.rsync (d : DS) (nm : ByteArray) : Int × DS :=
  let (r, d') := d.rbegin
  if r.1 == 0 && foundAt d'.files nm then (r.1, { d' with files := d'.files.modify (posOf d'.files nm) fun f => (f.1, (f.2.1, (f.2.1.size : Int))) }) else (r.1, d')
def DS.rswap (d : DS) (nm dt : ByteArray) : Int × DS :=
  let (r, d') := d.rbegin
  if r.1 == 0 then (r.1, { d' with files := (mkF d'.files nm).modify (posOf d'.files nm) fun f => (f.1, (dt, (dt.size : Int))) }) else (r.1, d')
def DS.rread (d : DS) (nm : ByteArray) : ByteArray × Int :=
  if d.down then (⟨#[]⟩, 50) else match d.files[posOf d.files nm]? with
    | some f => if stB f.1 nm == 0 then (f.2.1, 0) else (⟨#[]⟩, 0)
    | none => (⟨#[]⟩, 0)

theorem modify_set {α : Type} {l : List α} {i : Nat} {x : α} (h : l[i]? = some x) (f : α → α) : l.modify i f = l.set i (f x) := by
  apply List.ext_getElem?
  intro j
  by_cases e : i = j
  · subst e
    have hi := (List.getElem?_eq_some_iff.1 h).1
    have he := (List.getElem?_eq_some_iff.1 h).2
    simp [hi, he]
  · rw [List.getElem?_modify_ne _ _ e, List.getElem?_set_ne e]
theorem posOf_lt {F : List (ByteArray × (ByteArray × Int))} {nm : ByteArray} : posOf F nm < (mkF F nm).length := by
  obtain ⟨f, hf, _⟩ := mk_at F nm
  exact (List.getElem?_eq_some_iff.1 hf).1

/-- a file's part is laid anew -/
theorem RefIs.store {s : PH} {r : Nat} {L : List Nat} {d : DS} (h : RefIs s r L d) {i : Nat} {f f' : ByteArray × (ByteArray × Int)} (hf : d.files[i]? = some f) :
    ∃ a n c g, L = r :: blk a ∧ a = some ⟨g, 0, none⟩ ∧ n = d.files.length ∧ s r = some (.cells #[.slice a n c, .bool d.down, .int .i64 d.armed] 43 (0, 0)) ∧ s.has ⟨g, i * fE.sz, none⟩ (fE.f f) ∧
      ∀ (j : Nat) (v : Value) (k : W.T), j < 3 → v.oneCell' = true → fE.f f' = (fE.f f).set j v → (∀ s', RefIs s' r L { d with files := d.files.set i f' } → Fw.Mod L s s' → k s') → W.st ⟨g, i * 3 + j, none⟩ [v] k s := by
  obtain ⟨a, n, c, rfl, hr, hrow⟩ := h.ex
  obtain ⟨g, rfl, hhas⟩ := hrow.at hf
  have hne := row_ne hrow hr
  refine ⟨_, n, c, g, rfl, rfl, hrow.len, hr, hhas, ?_⟩
  intro j v k hj hv he hk
  refine hrow.st hf (x' := f') (j := j) ?_ (by show j + 1 ≤ 3; omega) (by simp) (by simpa using hv) rfl ?_
  · rw [he, List.set_eq_take_append_cons_drop, if_pos (by rw [fE.len]; exact hj)]; simp
  · intro s' h' m'
    refine hk s' ⟨_, n, c, rfl, m'.at hr (by simpa [blk] using hne), ?_⟩ (m'.mono (by simp [blk]))
    exact h'

theorem c_rAppend {s : PH} {r : Nat} {L : List Nat} {d : DS} (h : RefIs s r L d) (hn : d.Names) (nm dt : ByteArray) (hsz : ∀ p ∈ d.files, p.2.1.size + dt.size ≤ 9223372036854775807) (hdt : dt.size ≤ 9223372036854775807) :
    DCalls Try.prog 34 #[dptr r, .string nm, .string dt] s fun v s' => v = .int .i64 (d.rappend nm dt).1 ∧ ∃ L', RefIs s' r L' (d.rappend nm dt).2 ∧ Step L L' s s' := by
  refine ok_rAppend r nm dt _ s ?_
  unfold vc_rAppend
  simp only [RP_call]
  refine W.call_of (c_rBegin h) ?_
  rintro _ s1 ⟨rfl, h1, m1⟩
  refine ⟨((d.rbegin.1.1, ()), (d.rbegin.1.2, ()), ()), rfl, ?_⟩
  have hfiles := d.rbegin_files
  have hn1 : d.rbegin.2.Names := by unfold DS.Names; rw [hfiles]; exact hn
  have st1 : Step L L s s1 := ⟨m1, fun x hx => .inl hx⟩
  have key : (d.rbegin.1.1 == 0 || d.rbegin.1.2) = true → W.call Try.prog 41 #[dptr r, .string nm] (false, [(false, [.int .i64])]) (fun ((x2, _), _) s2 => ∃ L2 f a n c g, RefIs s2 r L2 { d.rbegin.2 with files := mkF d.files nm } ∧ Step L L2 s s2 ∧ x2 = (posOf d.files nm : Int) ∧ (mkF d.files nm)[posOf d.files nm]? = some f ∧
      f.2.1.size + dt.size ≤ 9223372036854775807 ∧ n = (mkF d.files nm).length ∧ a = some ⟨g, 0, none⟩ ∧ s2 r = some (.cells #[.slice a n c, .bool d.rbegin.2.down, .int .i64 d.rbegin.2.armed] 43 (0, 0)) ∧ s2.has ⟨g, posOf d.files nm * fE.sz, none⟩ (fE.f f) ∧
      ∀ (k : W.T), (∀ s', (∃ L', RefIs s' r L' (d.rappend nm dt).2 ∧ Step L L' s s') → k s') → W.st ⟨g, posOf d.files nm * 3 + 1, none⟩ [.string (f.2.1 ++ dt)] k s2) s1 := by
    intro hc
    refine W.call_of (c_rMake h1 hn1 nm) ?_
    rintro _ s2 ⟨rfl, L2, h2, st2⟩
    refine ⟨(((posOf d.rbegin.2.files nm : Int), ()), ()), rfl, ?_⟩
    rw [hfiles] at h2 ⊢
    obtain ⟨f, hf, hf1, hf2⟩ := mk_at d.files nm
    obtain ⟨a, n, c, g, hL, ha, hnl, hr, hhas, hst⟩ := h2.store (f' := (f.1, (f.2.1 ++ dt, f.2.2))) hf
    have hsize : f.2.1.size + dt.size ≤ 9223372036854775807 := by
      cases hfo : foundAt d.files nm with
      | true => exact hsz _ (List.mem_of_getElem? (hf1 hfo).1)
      | false => rw [hf2 hfo]; show 0 + dt.size ≤ _; omega
    refine ⟨L2, f, a, n, c, g, h2, st1.trans st2, rfl, hf, hsize, hnl, ha, hr, hhas, fun k hk => hst 1 _ k (by omega) rfl rfl fun s' hs' ms' => hk s' ⟨L2, ?_, (st1.trans st2).trans ⟨ms', fun x hx => .inl hx⟩⟩⟩
    have : (d.rappend nm dt).2 = { d.rbegin.2 with files := (mkF d.files nm).set (posOf d.files nm) (f.1, (f.2.1 ++ dt, f.2.2)) } := by
      unfold DS.rappend
      simp only [hc, if_true, hfiles]
      rw [modify_set hf]
    rw [this]; exact hs'
  have hres : (d.rappend nm dt).1 = d.rbegin.1.1 := by
    unfold DS.rappend; dsimp only; split <;> rfl
  have fin : ∀ (v : Value), v = .int .i64 d.rbegin.1.1 → (d.rbegin.1.1 == 0 || d.rbegin.1.2) = true → W.call Try.prog 41 #[dptr r, .string nm] (false, [(false, [.int .i64])]) (fun ((x2, _), _) =>
      W.unSome (some (Addr.mk r 0 none)) fun p3 => W.ld [.slice] (p3.add 0) fun ((a4, n5, c6), _) => W.unSome (some (Addr.mk r 0 none)) fun p7 => W.ld [.slice] (p7.add 0) fun ((a8, n9, c10), _) =>
      W.guard ((0 : Int) ≤ x2 ∧ x2 < (↑n9 : Int)) <| W.unSome a8 fun p11 => W.ld [.str] ((p11.add (x2.toNat * 3)).add 1) fun (t12, _) => W.guard ((↑(t12.size + dt.size) : Int) ≤ 9223372036854775807) <|
      W.guard ((0 : Int) ≤ x2 ∧ x2 < (↑n5 : Int)) <| W.unSome a4 fun p13 => W.st ((p13.add (x2.toNat * 3)).add 1) [.string (t12 ++ dt)] <|
      W.ret (fun v s' => v = .int .i64 (d.rappend nm dt).1 ∧ ∃ L', RefIs s' r L' (d.rappend nm dt).2 ∧ Step L L' s s') v) s1 := by
    intro v hv hc
    refine (key hc).mono ?_
    rintro _ s2 ⟨⟨⟨x2, _⟩, _⟩, rfl, L2, f, a, n, c, g, h2, st2, rfl, hf, hsize, hnl, rfl, hr, hhas, hst⟩
    refine ⟨(((posOf d.files nm : Int), ()), ()), rfl, ?_⟩
    have hpl := posOf_lt (F := d.files) (nm := nm)
    simp [W.ld_at hr]
    refine ⟨by omega, ?_⟩
    refine ld_has (A := ⟨g, posOf d.files nm * 3, none⟩) (j := 1) (cs := [.str]) (y := (f.2.1, ())) hhas rfl ?_
    simp only [W.guard_iff, W.unSome_some, add_mk, Nat.zero_add]
    refine ⟨by omega, by omega, hst _ ?_⟩
    intro s' hs'
    exact ⟨by rw [hv, hres], hs'⟩
  simp only [RP_join]
  refine W.join_gen (fun z s' => z = ((d.rbegin.1.1, ()), ((d.rbegin.1.1 == 0 || d.rbegin.1.2), ()), ()) ∧ s' = s1) ?_ ?_
  · rintro _ _ ⟨rfl, rfl⟩
    simp only [RP_ite, W.br_iff]
    refine ⟨fun hc => fin _ rfl hc, fun hc => ?_⟩
    have : d.rappend nm dt = (d.rbegin.1.1, d.rbegin.2) := by
      unfold DS.rappend; simp only [hc, Bool.false_eq_true, if_false]
    rw [this]
    exact ⟨rfl, L, h1, st1⟩
  · intro J hJ
    simp only [RP_ite, W.br_iff]
    refine ⟨fun h0 => hJ _ _ ⟨by rw [h0]; rfl, rfl⟩, fun h0 => hJ _ _ ⟨by rw [h0]; rfl, rfl⟩⟩

theorem c_rSync {s : PH} {r : Nat} {L : List Nat} {d : DS} (h : RefIs s r L d) (hn : d.Names) (nm : ByteArray) :
    DCalls Try.prog 35 #[dptr r, .string nm] s fun v s' => v = .int .i64 (d.rsync nm).1 ∧ RefIs s' r L (d.rsync nm).2 ∧ Fw.Mod L s s' := by
  refine ok_rSync r nm _ s ?_
  unfold vc_rSync
  simp only [RP_call]
  refine W.call_of (c_rBegin h) ?_
  rintro _ s1 ⟨rfl, h1, m1⟩
  refine ⟨((d.rbegin.1.1, ()), (d.rbegin.1.2, ()), ()), rfl, ?_⟩
  have hfiles := d.rbegin_files
  have hn1 : d.rbegin.2.Names := by unfold DS.Names; rw [hfiles]; exact hn
  refine W.call_of (c_rAt h1 hn1 nm) ?_
  rintro _ s1 ⟨rfl, rfl⟩
  refine ⟨(((posOf d.rbegin.2.files nm : Int), ()), (foundAt d.rbegin.2.files nm, ()), ()), rfl, ?_⟩
  simp only [RP_join]
  refine W.join_gen (fun z s' => z = ((d.rbegin.1.1, ()), ((posOf d.rbegin.2.files nm : Int), ()), ((d.rbegin.1.1 == 0 && foundAt d.rbegin.2.files nm), ()), ()) ∧ s' = s1) ?_ ?_
  rotate_left
  · intro J hJ
    simp only [RP_ite, W.br_iff]
    refine ⟨fun h0 => hJ _ _ ⟨by rw [h0]; rfl, rfl⟩, fun h0 => hJ _ _ ⟨by rw [h0]; rfl, rfl⟩⟩
  rintro _ _ ⟨rfl, rfl⟩
  simp only [RP_ite, W.br_iff, RP_ret, W.ret_iff]
  refine ⟨fun hc => ?_, fun hc => ?_⟩
  · obtain ⟨h0, hf⟩ := (Bool.and_eq_true _ _).mp hc
    obtain ⟨f, hf0, hf1, _⟩ := mk_at d.rbegin.2.files nm
    have hfa := (hf1 hf).1
    obtain ⟨a, n, c, g, hL, rfl, hnl, hr, hhas, hst⟩ := h1.store (f' := (f.1, (f.2.1, (f.2.1.size : Int)))) hfa
    have hlt := (List.getElem?_eq_some_iff.1 hfa).1
    simp [W.ld_at hr]
    refine ⟨by omega, ?_⟩
    refine ld_has (A := ⟨g, posOf d.rbegin.2.files nm * 3, none⟩) (j := 1) (cs := [.str]) (y := (f.2.1, ())) hhas rfl ?_
    simp only [W.guard_iff, W.unSome_some, add_mk, Nat.zero_add]
    refine ⟨by omega, hst 2 _ _ (by omega) rfl rfl ?_⟩
    intro s' hs' ms'
    have : d.rsync nm = (d.rbegin.1.1, { d.rbegin.2 with files := d.rbegin.2.files.set (posOf d.rbegin.2.files nm) (f.1, (f.2.1, (f.2.1.size : Int))) }) := by
      unfold DS.rsync
      simp only [h0, hf, Bool.and_self, if_true]
      rw [modify_set hfa]
    rw [this]
    exact ⟨rfl, hs', m1.trans ms'⟩
  · have : d.rsync nm = (d.rbegin.1.1, d.rbegin.2) := by unfold DS.rsync; simp only [hc, Bool.false_eq_true, if_false]
    rw [this]; exact ⟨rfl, h1, m1⟩

theorem c_rSwap {s : PH} {r : Nat} {L : List Nat} {d : DS} (h : RefIs s r L d) (hn : d.Names) (nm dt : ByteArray) :
    DCalls Try.prog 29 #[dptr r, .string nm, .string dt] s fun v s' => v = .int .i64 (d.rswap nm dt).1 ∧ ∃ L', RefIs s' r L' (d.rswap nm dt).2 ∧ Step L L' s s' := by
  refine ok_rSwap r nm dt _ s ?_
  unfold vc_rSwap
  simp only [RP_call]
  refine W.call_of (c_rBegin h) ?_
  rintro _ s1 ⟨rfl, h1, m1⟩
  refine ⟨((d.rbegin.1.1, ()), (d.rbegin.1.2, ()), ()), rfl, ?_⟩
  have hfiles := d.rbegin_files
  have hn1 : d.rbegin.2.Names := by unfold DS.Names; rw [hfiles]; exact hn
  have st1 : Step L L s s1 := ⟨m1, fun x hx => .inl hx⟩
  simp only [RP_ite, W.br_iff, RP_ret, W.ret_iff]
  refine ⟨fun h0 => ?_, fun h0 => ?_⟩
  · refine W.call_of (c_rMake h1 hn1 nm) ?_
    rintro _ s2 ⟨rfl, L2, h2, st2⟩
    refine ⟨(((posOf d.rbegin.2.files nm : Int), ()), ()), rfl, ?_⟩
    obtain ⟨f, hf, hf1, hf2⟩ := mk_at d.rbegin.2.files nm
    obtain ⟨a, n, c, g, hL, rfl, hnl, hr, hhas, hst⟩ := h2.store (f' := (f.1, (dt, f.2.2))) hf
    have hlt := posOf_lt (F := d.rbegin.2.files) (nm := nm)
    have hnl' : n = (mkF d.rbegin.2.files nm).length := hnl
    simp [W.ld_at hr]
    refine ⟨by omega, hst 1 _ _ (by omega) rfl rfl ?_⟩
    intro s3 h3 m3
    have hf3 : ((mkF d.rbegin.2.files nm).set (posOf d.rbegin.2.files nm) (f.1, (dt, f.2.2)))[posOf d.rbegin.2.files nm]? = some (f.1, (dt, f.2.2)) := List.getElem?_set_self hlt
    obtain ⟨a3, n3, c3, g3, hL3, rfl, hnl3, hr3, hhas3, hst3⟩ := h3.store (f' := (f.1, (dt, (dt.size : Int)))) hf3
    have hnl3' : n3 = (mkF d.rbegin.2.files nm).length := by rw [hnl3]; simp
    simp [W.ld_at hr3]
    refine ⟨by omega, hst3 2 _ _ (by omega) rfl rfl ?_⟩
    intro s4 h4 m4
    have : d.rswap nm dt = (d.rbegin.1.1, { d.rbegin.2 with files := (mkF d.rbegin.2.files nm).set (posOf d.rbegin.2.files nm) (f.1, (dt, (dt.size : Int))) }) := by
      unfold DS.rswap
      simp only [h0, if_true]
      rw [modify_set hf]
    rw [this]
    refine ⟨rfl, L2, ?_, (st1.trans st2).trans ⟨m3.trans m4, fun x hx => .inl hx⟩⟩
    simpa using h4
  · have : d.rswap nm dt = (d.rbegin.1.1, d.rbegin.2) := by unfold DS.rswap; simp only [h0, Bool.false_eq_true, if_false]
    rw [this]; exact ⟨rfl, L, h1, st1⟩

theorem c_rRead {s : PH} {r : Nat} {L : List Nat} {d : DS} (h : RefIs s r L d) (hn : d.Names) (nm : ByteArray) :
    DCalls Try.prog 24 #[dptr r, .string nm] s fun v s' => v = .tuple #[.string (d.rread nm).1, .int .i64 (d.rread nm).2] ∧ s' = s := by
  refine ok_rRead r nm _ s ?_
  obtain ⟨a, n, c, hL, hr, hrow⟩ := h.ex
  unfold vc_rRead
  simp [W.ld_at hr, W.br_iff]
  refine ⟨fun h0 => by simp [DS.rread, h0], fun h0 => ?_⟩
  refine W.call_of (c_rAt h hn nm) ?_
  rintro _ s ⟨rfl, rfl⟩
  refine ⟨(((posOf d.files nm : Int), ()), (foundAt d.files nm, ()), ()), rfl, ?_⟩
  simp only [W.br_iff]
  refine ⟨fun hf => ?_, fun hf => ?_⟩
  · have hf : foundAt d.files nm = true := hf
    obtain ⟨f, hf0, hf1, _⟩ := mk_at d.files nm
    obtain ⟨hfa, hst⟩ := hf1 hf
    obtain ⟨g, rfl, hhas⟩ := hrow.at hfa
    have hlt := (List.getElem?_eq_some_iff.1 hfa).1
    have hlen := hrow.len
    simp [W.ld_at hr]
    refine ⟨by omega, ?_⟩
    refine ld_has (A := ⟨g, posOf d.files nm * 3, none⟩) (j := 1) (cs := [.str]) (y := (f.2.1, ())) hhas rfl ?_
    simp [DS.rread, h0, hfa, hst]
  · have hf : foundAt d.files nm = false := hf
    unfold foundAt at hf
    have : d.rread nm = (⟨#[]⟩, 0) := by
      unfold DS.rread
      simp only [h0, Bool.false_eq_true, if_false]
      split
      · rename_i p hp; rw [hp] at hf; simp at hf; simp [hf]
      · rfl
    rw [this]; exact ⟨rfl, rfl⟩

def DS.rarm (d : DS) (n : Int) : DS := if d.down then d else { d with armed := if n > 0 then n else 0 }
theorem c_rArm {s : PH} {r : Nat} {L : List Nat} {d : DS} (h : RefIs s r L d) (k : Int) : DCalls Try.prog 21 #[dptr r, .int .i64 k] s fun v s' =>
    v = .tuple #[] ∧ RefIs s' r L (d.rarm k) ∧ Fw.Mod L s s' := by
  refine ok_rArm r k _ s ?_
  obtain ⟨a, n, c, rfl, hr, hrow⟩ := h.ex
  unfold vc_rArm
  simp [W.br_iff, W.ld_at hr, W.st_at hr]
  refine ⟨fun h0 => ?_, fun h0 => ?_⟩
  · obtain ⟨o, ho, hu⟩ := h.upd d.down (if 0 < k then k else 0)
    rw [hr] at ho; cases ho
    have := hu a n c rfl
    simp [DS.rarm, h0] at this ⊢
    exact ⟨this, Mod.upd (by simp)⟩
  · simp [DS.rarm, h0, h, Mod.refl]

def DS.rcrash (d : DS) (keep : List Int) : DS := ⟨d.files.zipIdx.map fun p => (p.1.1, crashFile p.1.2 keep[p.2]?), false, 0⟩
end Go.Proofs.Ytcdggocbjnmeaaa
