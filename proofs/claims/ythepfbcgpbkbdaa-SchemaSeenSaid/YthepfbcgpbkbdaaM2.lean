/-
  Schemas: places by id and by the document; copies; how they are written as texts.
  Conditions: none; it proves no statement by itself.
-/
import Derived.Test.YthepfbcgpbkbdaaM1
set_option linter.unusedVariables false
set_option linter.unusedSimpArgs false
set_option maxHeartbeats 1000000
set_option maxRecDepth 100000
namespace Go.Proofs.Ythepfbcgpbkbdaa
open Fw Go
attribute [-simp] Fw.W.ld_iff Fw.W.st_iff

theorem seek_map {α β : Type} (f : α → β) (p : β → Bool) : ∀ (l : List α) (i : Nat), seek p (l.map f) i = seek (fun x => p (f x)) l i
  | [], i => rfl
  | x :: l, i => by simp only [List.map_cons, seek, seek_map f p l]
def tabAt (S : Sch) (name : ByteArray) : Int := seek (fun T : Tab => decide (T.name = name)) S.tabs 0
def tabOf (S : Sch) (id : Int) : Int := seek (fun T : Tab => decide (T.id = id)) S.tabs 0
def colAt (T : Tab) (name : ByteArray) : Int := seek (fun c : Col => decide (c.name = name)) T.cols 0
def colOf (T : Tab) (id : Int) : Int := seek (fun c : Col => decide (c.id = id)) T.cols 0
def idxAt (T : Tab) (name : ByteArray) : Int := seek (fun c : Idx => decide (c.name = name)) T.idxs 0
def keyAt (T : Tab) (name : ByteArray) : Int := seek (fun c : For => decide (c.name = name)) T.keys 0
theorem c_findT' {s : PH} {t : Tri} {S : Sch} {ps : List TabP} (h : SchIs s t S ps) (name : ByteArray) : DCalls Try.prog 45 #[.slice t.1 t.2.1 t.2.2, .string name, .func (.func 46) #[] #[]] s fun y s' => y = .int .i64 (tabAt S name) ∧ s' = s := by
  unfold tabAt; rw [h.eq, seek_map]
  exact c_findT h.el.el h.el.few name
theorem c_at1 (x : Col) {p : Nat} {s : PH} {id : Int} (hp : s p = some (.cells #[.int .i64 id] 3 (0, 0))) : DCalls Try.prog 134 #[colV x, cp p] s fun y s' => y = .bool (decide (x.id = id)) ∧ s' = s := by
  refine ok_at1 x.id x.name x.kind x.state x.dflt.kind x.dflt.n x.dflt.s p _ s ?_
  unfold vc_at1
  simp [W.ld_at hp, beq_dec]
theorem c_IndexFuncAt {a : Option Addr} {an ac p : Nat} {s : PH} {id : Int} {xs : List Col} (h : elems (Rd.enc colE) s a an xs) (hn : xs.length ≤ 4294967296) (hp : s p = some (.cells #[.int .i64 id] 3 (0, 0))) :
    DCalls Try.prog 104 #[.slice a an ac, .func (.func 134) #[] #[cp p]] s fun y s' => y = .int .i64 (seek (fun x => decide (x.id = id)) xs 0) ∧ s' = s := by
  refine ok_IndexFuncAt a an ac p _ s ?_
  unfold vc_IndexFuncAt
  have hlen := h.1
  simp only [RP_loop]
  refine ⟨fun z s' => ∃ k : Nat, z = (((an : Int), ()), ((k : Int), ()), ()) ∧ k ≤ an ∧ s' = s ∧ seek (fun x => decide (x.id = id)) (xs.drop k) k = seek (fun x => decide (x.id = id)) xs 0, fun z _ => an - z.2.1.1.toNat, ⟨0, rfl, Nat.zero_le _, rfl, rfl⟩, ?_⟩
  rintro _ s ⟨k, rfl, hk, rfl, hs⟩
  simp [W.br_iff]
  refine ⟨fun hlt => ⟨hlt, ?_⟩, fun hge => ?_⟩
  · obtain ⟨x, hx⟩ : ∃ x, xs[k]? = some x := ⟨_, List.getElem?_eq_getElem (by omega)⟩
    obtain ⟨ad, rfl, hh⟩ := h.at_enc hx
    simp only [W.unSome_some]
    refine ld_has_z hh (y := (x.id, x.name, x.kind, x.state, x.dflt.kind, x.dflt.n, x.dflt.s, ())) rfl ?_
    refine W.call_of (c_at1 x hp) ?_
    rintro _ s ⟨rfl, rfl⟩
    refine ⟨((decide (x.id = id), ()), ()), rfl, ?_⟩
    rw [seek_step hx] at hs
    simp [W.br_iff, wrap_succ (k := k) (by omega)]
    refine ⟨fun he => ?_, fun he => ⟨⟨k + 1, by simp, hlt, ?_⟩, by omega⟩⟩
    · rw [← hs, if_pos (by simpa using he)]
    · rw [← hs, if_neg (by simpa using he)]
  · rw [← hs, seek_end (by omega)]
theorem c_byId1 (x : TabP) {p : Nat} {s : PH} {id : Int} (hp : s p = some (.cells #[.int .i64 id] 3 (0, 0))) : DCalls Try.prog 135 #[tabV x.T x.c x.x x.k, cp p] s fun y s' => y = .bool (decide (x.T.id = id)) ∧ s' = s := by
  refine ok_byId1 x.T.id x.T.name x.c.1 x.c.2.1 x.c.2.2 x.x.1 x.x.2.1 x.x.2.2 x.k.1 x.k.2.1 x.k.2.2 p _ s ?_
  unfold vc_byId1
  simp [W.ld_at hp, beq_dec]
theorem c_IndexFuncById {a : Option Addr} {an ac p : Nat} {s : PH} {id : Int} {xs : List TabP} (h : elems (Rd.enc tabE) s a an xs) (hn : xs.length ≤ 4294967296) (hp : s p = some (.cells #[.int .i64 id] 3 (0, 0))) :
    DCalls Try.prog 88 #[.slice a an ac, .func (.func 135) #[] #[cp p]] s fun y s' => y = .int .i64 (seek (fun x => decide (x.T.id = id)) xs 0) ∧ s' = s := by
  refine ok_IndexFuncById a an ac p _ s ?_
  unfold vc_IndexFuncById
  have hlen := h.1
  simp only [RP_loop]
  refine ⟨fun z s' => ∃ k : Nat, z = (((an : Int), ()), ((k : Int), ()), ()) ∧ k ≤ an ∧ s' = s ∧ seek (fun x => decide (x.T.id = id)) (xs.drop k) k = seek (fun x => decide (x.T.id = id)) xs 0, fun z _ => an - z.2.1.1.toNat, ⟨0, rfl, Nat.zero_le _, rfl, rfl⟩, ?_⟩
  rintro _ s ⟨k, rfl, hk, rfl, hs⟩
  simp [W.br_iff]
  refine ⟨fun hlt => ⟨hlt, ?_⟩, fun hge => ?_⟩
  · obtain ⟨x, hx⟩ : ∃ x, xs[k]? = some x := ⟨_, List.getElem?_eq_getElem (by omega)⟩
    obtain ⟨ad, rfl, hh⟩ := h.at_enc hx
    simp only [W.unSome_some]
    refine ld_has_z hh (y := (x.T.id, x.T.name, x.c, x.x, x.k, ())) rfl ?_
    refine W.call_of (c_byId1 x hp) ?_
    rintro _ s ⟨rfl, rfl⟩
    refine ⟨((decide (x.T.id = id), ()), ()), rfl, ?_⟩
    rw [seek_step hx] at hs
    simp [W.br_iff, wrap_succ (k := k) (by omega)]
    refine ⟨fun he => ?_, fun he => ⟨⟨k + 1, by simp, hlt, ?_⟩, by omega⟩⟩
    · rw [← hs, if_pos (by simpa using he)]
    · rw [← hs, if_neg (by simpa using he)]
  · rw [← hs, seek_end (by omega)]
theorem c_at {s : PH} {p : TabP} (h : Sl colE s p.c p.T.cols) (id : Int) : DCalls Try.prog 102 #[tabV p.T p.c p.x p.k, .int .i64 id] s fun y s' => y = .int .i64 (colOf p.T id) ∧ s' = s := by
  refine DCalls.quiet (ok_at p.T.id p.T.name p.c.1 p.c.2.1 p.c.2.2 p.x.1 p.x.2.1 p.x.2.2 p.k.1 p.k.2.1 p.k.2.2 id _ s ?_)
  unfold vc_at
  simp only [RP_nw]
  refine W.nw_of fun r s1 hr m1 k1 => ?_
  refine W.call_of (c_IndexFuncAt (h.el.mono m1.le) h.few k1) ?_
  rintro _ s3 ⟨rfl, rfl⟩
  exact ⟨((colOf p.T id, ()), ()), rfl, rfl, m1⟩
theorem c_byId {s : PH} {t : Tri} {S : Sch} {ps : List TabP} (h : SchIs s t S ps) (id : Int) : DCalls Try.prog 103 #[schV S t, .int .i64 id] s fun y s' => y = .int .i64 (tabOf S id) ∧ s' = s := by
  refine DCalls.quiet (ok_byId S.version S.last t.1 t.2.1 t.2.2 id _ s ?_)
  unfold vc_byId
  simp only [RP_nw]
  refine W.nw_of fun r s1 hr m1 k1 => ?_
  refine W.call_of (c_IndexFuncById (h.el.el.mono m1.le) h.el.few k1) ?_
  rintro _ s3 ⟨rfl, rfl⟩
  refine ⟨((tabOf S id, ()), ()), ?_, rfl, m1⟩
  unfold tabOf; rw [h.eq, seek_map]; rfl
theorem c_rTableAt {s : PH} {t : Tri} {S : Sch} {ps : List TabP} (h : SchIs s t S ps) (name : ByteArray) : DCalls Try.prog 18 #[schV S t, .string name] s fun y s' => y = .int .i64 (tabAt S name) ∧ s' = s := by
  have hres : tabAt S name = seek (fun x : TabP => decide (x.T.name = name)) ps 0 := by unfold tabAt; rw [h.eq, seek_map]
  rw [hres]
  obtain ⟨ta, tn, tc⟩ := t
  refine ok_rTableAt S.version S.last ta tn tc name _ s ?_
  unfold vc_rTableAt
  have hlen : tn = _ := h.el.len
  have hfew := h.el.few
  simp only [RP_loop]
  refine ⟨fun z s' => ∃ k : Nat, z = ((S.version, S.last, (ta, tn, tc), ()), ((k : Int), ()), ()) ∧ k ≤ tn ∧ s' = s ∧ seek (fun x : TabP => decide (x.T.name = name)) (ps.drop k) k = seek (fun x : TabP => decide (x.T.name = name)) ps 0, fun z _ => tn - z.2.1.1.toNat, ⟨0, rfl, Nat.zero_le _, rfl, rfl⟩, ?_⟩
  rintro _ s ⟨k, rfl, hk, rfl, hs⟩
  simp [W.br_iff]
  refine ⟨fun hlt => ⟨hlt, ?_⟩, fun hge => ?_⟩
  · obtain ⟨x, hx⟩ : ∃ x, ps[k]? = some x := ⟨_, List.getElem?_eq_getElem (by omega)⟩
    obtain ⟨ad, had, hh⟩ := h.el.el.at_enc hx
    dsimp only at had; subst had
    simp only [W.unSome_some]
    refine ld_has (j := 1) hh (cs := [.str]) (y := (x.T.name, ())) rfl ?_
    rw [seek_step hx] at hs
    simp [W.br_iff, wrap_succ (k := k) (by omega), toList_beq, beq_dec]
    refine ⟨fun he => ?_, fun he => ⟨⟨k + 1, by simp, hlt, ?_⟩, by omega⟩⟩
    · rw [← hs, if_pos (by simpa using he)]
    · rw [← hs, if_neg (by simpa using he)]
  · rw [← hs, seek_end (by omega)]
theorem c_rTableOf {s : PH} {t : Tri} {S : Sch} {ps : List TabP} (h : SchIs s t S ps) (id : Int) : DCalls Try.prog 53 #[schV S t, .int .i64 id] s fun y s' => y = .int .i64 (tabOf S id) ∧ s' = s := by
  have hres : tabOf S id = seek (fun x : TabP => decide (x.T.id = id)) ps 0 := by unfold tabOf; rw [h.eq, seek_map]
  rw [hres]
  obtain ⟨ta, tn, tc⟩ := t
  refine ok_rTableOf S.version S.last ta tn tc id _ s ?_
  unfold vc_rTableOf
  have hlen : tn = _ := h.el.len
  have hfew := h.el.few
  simp only [RP_loop]
  refine ⟨fun z s' => ∃ k : Nat, z = ((S.version, S.last, (ta, tn, tc), ()), ((k : Int), ()), ()) ∧ k ≤ tn ∧ s' = s ∧ seek (fun x : TabP => decide (x.T.id = id)) (ps.drop k) k = seek (fun x : TabP => decide (x.T.id = id)) ps 0, fun z _ => tn - z.2.1.1.toNat, ⟨0, rfl, Nat.zero_le _, rfl, rfl⟩, ?_⟩
  rintro _ s ⟨k, rfl, hk, rfl, hs⟩
  simp [W.br_iff]
  refine ⟨fun hlt => ⟨hlt, ?_⟩, fun hge => ?_⟩
  · obtain ⟨x, hx⟩ : ∃ x, ps[k]? = some x := ⟨_, List.getElem?_eq_getElem (by omega)⟩
    obtain ⟨ad, had, hh⟩ := h.el.el.at_enc hx
    dsimp only at had; subst had
    simp only [W.unSome_some]
    refine ld_has (j := 0) hh (cs := [.int .i64]) (y := (x.T.id, ())) rfl ?_
    rw [seek_step hx] at hs
    simp [W.br_iff, wrap_succ (k := k) (by omega), toList_beq, beq_dec]
    refine ⟨fun he => ?_, fun he => ⟨⟨k + 1, by simp, hlt, ?_⟩, by omega⟩⟩
    · rw [← hs, if_pos (by simpa using he)]
    · rw [← hs, if_neg (by simpa using he)]
  · rw [← hs, seek_end (by omega)]
theorem c_rColumnAt {s : PH} {p : TabP} (h : Sl colE s p.c p.T.cols) (name : ByteArray) : DCalls Try.prog 48 #[tabV p.T p.c p.x p.k, .string name] s fun y s' => y = .int .i64 (colAt p.T name) ∧ s' = s := by
  obtain ⟨T, ⟨ca, can, cac⟩, ⟨xa, xan, xac⟩, ⟨ka, kan, kac⟩⟩ := p
  dsimp only at h ⊢
  have hres : colAt T name = seek (fun x : Col => decide (x.name = name)) T.cols 0 := rfl
  rw [hres]
  refine ok_rColumnAt T.id T.name ca can cac xa xan xac ka kan kac name _ s ?_
  unfold vc_rColumnAt
  have hlen : can = _ := h.len
  have hfew := h.few
  simp only [RP_loop]
  refine ⟨fun z s' => ∃ k : Nat, z = ((T.id, T.name, (ca, can, cac), (xa, xan, xac), (ka, kan, kac), ()), ((k : Int), ()), ()) ∧ k ≤ can ∧ s' = s ∧ seek (fun x : Col => decide (x.name = name)) (T.cols.drop k) k = seek (fun x : Col => decide (x.name = name)) T.cols 0, fun z _ => can - z.2.1.1.toNat, ⟨0, rfl, Nat.zero_le _, rfl, rfl⟩, ?_⟩
  rintro _ s ⟨k, rfl, hk, rfl, hs⟩
  simp [W.br_iff]
  refine ⟨fun hlt => ⟨hlt, ?_⟩, fun hge => ?_⟩
  · obtain ⟨x, hx⟩ : ∃ x, T.cols[k]? = some x := ⟨_, List.getElem?_eq_getElem (by omega)⟩
    obtain ⟨ad, had, hh⟩ := h.el.at_enc hx
    dsimp only at had; subst had
    simp only [W.unSome_some]
    refine ld_has (j := 1) hh (cs := [.str]) (y := (x.name, ())) rfl ?_
    rw [seek_step hx] at hs
    simp [W.br_iff, wrap_succ (k := k) (by omega), toList_beq, beq_dec]
    refine ⟨fun he => ?_, fun he => ⟨⟨k + 1, by simp, hlt, ?_⟩, by omega⟩⟩
    · rw [← hs, if_pos (by simpa using he)]
    · rw [← hs, if_neg (by simpa using he)]
  · rw [← hs, seek_end (by omega)]
theorem c_rColumnOf {s : PH} {p : TabP} (h : Sl colE s p.c p.T.cols) (id : Int) : DCalls Try.prog 52 #[tabV p.T p.c p.x p.k, .int .i64 id] s fun y s' => y = .int .i64 (colOf p.T id) ∧ s' = s := by
  obtain ⟨T, ⟨ca, can, cac⟩, ⟨xa, xan, xac⟩, ⟨ka, kan, kac⟩⟩ := p
  dsimp only at h ⊢
  have hres : colOf T id = seek (fun x : Col => decide (x.id = id)) T.cols 0 := rfl
  rw [hres]
  refine ok_rColumnOf T.id T.name ca can cac xa xan xac ka kan kac id _ s ?_
  unfold vc_rColumnOf
  have hlen : can = _ := h.len
  have hfew := h.few
  simp only [RP_loop]
  refine ⟨fun z s' => ∃ k : Nat, z = ((T.id, T.name, (ca, can, cac), (xa, xan, xac), (ka, kan, kac), ()), ((k : Int), ()), ()) ∧ k ≤ can ∧ s' = s ∧ seek (fun x : Col => decide (x.id = id)) (T.cols.drop k) k = seek (fun x : Col => decide (x.id = id)) T.cols 0, fun z _ => can - z.2.1.1.toNat, ⟨0, rfl, Nat.zero_le _, rfl, rfl⟩, ?_⟩
  rintro _ s ⟨k, rfl, hk, rfl, hs⟩
  simp [W.br_iff]
  refine ⟨fun hlt => ⟨hlt, ?_⟩, fun hge => ?_⟩
  · obtain ⟨x, hx⟩ : ∃ x, T.cols[k]? = some x := ⟨_, List.getElem?_eq_getElem (by omega)⟩
    obtain ⟨ad, had, hh⟩ := h.el.at_enc hx
    dsimp only at had; subst had
    simp only [W.unSome_some]
    refine ld_has (j := 0) hh (cs := [.int .i64]) (y := (x.id, ())) rfl ?_
    rw [seek_step hx] at hs
    simp [W.br_iff, wrap_succ (k := k) (by omega), toList_beq, beq_dec]
    refine ⟨fun he => ?_, fun he => ⟨⟨k + 1, by simp, hlt, ?_⟩, by omega⟩⟩
    · rw [← hs, if_pos (by simpa using he)]
    · rw [← hs, if_neg (by simpa using he)]
  · rw [← hs, seek_end (by omega)]
theorem c_rIndexAt {s : PH} {p : TabP} (h : Sl idxE s p.x p.T.idxs) (name : ByteArray) : DCalls Try.prog 51 #[tabV p.T p.c p.x p.k, .string name] s fun y s' => y = .int .i64 (idxAt p.T name) ∧ s' = s := by
  obtain ⟨T, ⟨ca, can, cac⟩, ⟨xa, xan, xac⟩, ⟨ka, kan, kac⟩⟩ := p
  dsimp only at h ⊢
  have hres : idxAt T name = seek (fun x : Idx => decide (x.name = name)) T.idxs 0 := rfl
  rw [hres]
  refine ok_rIndexAt T.id T.name ca can cac xa xan xac ka kan kac name _ s ?_
  unfold vc_rIndexAt
  have hlen : xan = _ := h.len
  have hfew := h.few
  simp only [RP_loop]
  refine ⟨fun z s' => ∃ k : Nat, z = ((T.id, T.name, (ca, can, cac), (xa, xan, xac), (ka, kan, kac), ()), ((k : Int), ()), ()) ∧ k ≤ xan ∧ s' = s ∧ seek (fun x : Idx => decide (x.name = name)) (T.idxs.drop k) k = seek (fun x : Idx => decide (x.name = name)) T.idxs 0, fun z _ => xan - z.2.1.1.toNat, ⟨0, rfl, Nat.zero_le _, rfl, rfl⟩, ?_⟩
  rintro _ s ⟨k, rfl, hk, rfl, hs⟩
  simp [W.br_iff]
  refine ⟨fun hlt => ⟨hlt, ?_⟩, fun hge => ?_⟩
  · obtain ⟨x, hx⟩ : ∃ x, T.idxs[k]? = some x := ⟨_, List.getElem?_eq_getElem (by omega)⟩
    obtain ⟨ad, had, hh⟩ := h.el.at_enc hx
    dsimp only at had; subst had
    simp only [W.unSome_some]
    refine ld_has (j := 1) hh (cs := [.str]) (y := (x.name, ())) rfl ?_
    rw [seek_step hx] at hs
    simp [W.br_iff, wrap_succ (k := k) (by omega), toList_beq, beq_dec]
    refine ⟨fun he => ?_, fun he => ⟨⟨k + 1, by simp, hlt, ?_⟩, by omega⟩⟩
    · rw [← hs, if_pos (by simpa using he)]
    · rw [← hs, if_neg (by simpa using he)]
  · rw [← hs, seek_end (by omega)]
theorem c_rKeyAt {s : PH} {p : TabP} (h : Sl forE s p.k p.T.keys) (name : ByteArray) : DCalls Try.prog 54 #[tabV p.T p.c p.x p.k, .string name] s fun y s' => y = .int .i64 (keyAt p.T name) ∧ s' = s := by
  obtain ⟨T, ⟨ca, can, cac⟩, ⟨xa, xan, xac⟩, ⟨ka, kan, kac⟩⟩ := p
  dsimp only at h ⊢
  have hres : keyAt T name = seek (fun x : For => decide (x.name = name)) T.keys 0 := rfl
  rw [hres]
  refine ok_rKeyAt T.id T.name ca can cac xa xan xac ka kan kac name _ s ?_
  unfold vc_rKeyAt
  have hlen : kan = _ := h.len
  have hfew := h.few
  simp only [RP_loop]
  refine ⟨fun z s' => ∃ k : Nat, z = ((T.id, T.name, (ca, can, cac), (xa, xan, xac), (ka, kan, kac), ()), ((k : Int), ()), ()) ∧ k ≤ kan ∧ s' = s ∧ seek (fun x : For => decide (x.name = name)) (T.keys.drop k) k = seek (fun x : For => decide (x.name = name)) T.keys 0, fun z _ => kan - z.2.1.1.toNat, ⟨0, rfl, Nat.zero_le _, rfl, rfl⟩, ?_⟩
  rintro _ s ⟨k, rfl, hk, rfl, hs⟩
  simp [W.br_iff]
  refine ⟨fun hlt => ⟨hlt, ?_⟩, fun hge => ?_⟩
  · obtain ⟨x, hx⟩ : ∃ x, T.keys[k]? = some x := ⟨_, List.getElem?_eq_getElem (by omega)⟩
    obtain ⟨ad, had, hh⟩ := h.el.at_enc hx
    dsimp only at had; subst had
    simp only [W.unSome_some]
    refine ld_has (j := 1) hh (cs := [.str]) (y := (x.name, ())) rfl ?_
    rw [seek_step hx] at hs
    simp [W.br_iff, wrap_succ (k := k) (by omega), toList_beq, beq_dec]
    refine ⟨fun he => ?_, fun he => ⟨⟨k + 1, by simp, hlt, ?_⟩, by omega⟩⟩
    · rw [← hs, if_pos (by simpa using he)]
    · rw [← hs, if_neg (by simpa using he)]
  · rw [← hs, seek_end (by omega)]
/-- append([]T{}, ..) of what can be read -/
theorem row_copy {α : Type} {E : Enc α} {s : PH} {e : TypeId} {bytes k : Nat} {zero : List Value} {src : Src} {xs : List α} {K : Option Addr → Nat → Nat → W.T} (hs : srcIs s E.sz src (xs.flatMap E.f)) (hk : src.len = k) (hn : xs.length = k) (hl : k ≤ 4294967296) (hb : k * bytes ≤ 140737488355328) (hz : zero.length = E.sz)
    (hK : ∀ a' c' s', rowE E s' e a' k c' xs → Fw.Mod [] s s' → (∀ g ∈ Fw.blk a', s g = none) → K a' k c' s') : W.nw (.cells #[] e (0, 0)) (fun r => W.app e E.sz bytes zero (some ⟨r, 0, none⟩) 0 0 src K) s := by
  refine W.nw_of fun r s1 hr m1 k1 => ?_
  have hmax : maxLen = 9223372036854775807 := rfl
  have hsrc : srcIs s1 E.sz src (xs.flatMap E.f) := by
    cases src with
    | sl a m => cases a with
      | none => exact hs
      | some a => exact ⟨hs.1, hs.2.mono m1.le⟩
    | str b => exact hs
  have hnil : rowE E s1 e (some ⟨r, 0, none⟩) 0 0 ([] : List α) := ⟨by simp, Nat.le_refl _, Nat.zero_le _, .inr ⟨r, _, rfl, k1, by simp, by simp⟩⟩
  refine app_rowE (E := E) (k := k) (ys := xs) hnil hz hsrc hk hn (by omega) (by simpa using hb) ?_
  intro a' c' s2 hrow hm
  simp only [List.nil_append, Nat.zero_add] at hrow ⊢
  rcases hm with ⟨rfl, hm⟩ | ⟨g, rfl, hg, hm⟩
  · exact hK _ _ _ hrow (m1.fresh hm (by simp [Fw.blk, hr])) (by simp [Fw.blk, hr])
  · exact hK _ _ _ hrow (m1.trans hm) (by simp [Fw.blk]; exact m1.none hg (by simp))
theorem c_CloneC {s : PH} {t : Tri} {xs : List Col} (h : Sl colE s t xs) : DCalls Try.prog 66 #[.slice t.1 t.2.1 t.2.2] s fun y s' => ∃ u : Tri, y = u.v ∧ rowE colE s' 44 u.1 u.2.1 u.2.2 xs ∧ Fw.Mod [] s s' ∧ ∀ g ∈ Fw.blk u.1, s g = none := by
  obtain ⟨a, an, ac⟩ := t
  refine ok_CloneC a an ac _ s ?_
  unfold vc_CloneC
  have hlen := h.len
  have hfew := h.few
  dsimp only at hlen
  simp only [RP_ite, W.br_iff]
  refine ⟨fun hnone => ?_, fun hsome => ?_⟩
  · cases a with
    | some ad => cases hnone
    | none =>
      have : xs = [] := by
        cases xs with
        | nil => rfl
        | cons x xs => obtain ⟨ad, h1, _⟩ := h.el.at_enc (i := 0) rfl; cases h1
      subst this
      exact ⟨noTri, rfl, rowE.nil, Mod.refl _ _, by simp [Fw.blk]⟩
  · simp only [RP_nw]
    refine row_copy (E := colE) (k := an) h.el.src_enc rfl hlen.symm (by omega) (by omega) rfl ?_
    intro a' c' s' hrow hm hf
    exact ⟨(a', an, c'), rfl, hrow, hm, hf⟩
theorem c_CloneX {s : PH} {t : Tri} {xs : List Idx} (h : Sl idxE s t xs) : DCalls Try.prog 75 #[.slice t.1 t.2.1 t.2.2] s fun y s' => ∃ u : Tri, y = u.v ∧ rowE idxE s' 106 u.1 u.2.1 u.2.2 xs ∧ Fw.Mod [] s s' ∧ ∀ g ∈ Fw.blk u.1, s g = none := by
  obtain ⟨a, an, ac⟩ := t
  refine ok_CloneX a an ac _ s ?_
  unfold vc_CloneX
  have hlen := h.len
  have hfew := h.few
  dsimp only at hlen
  simp only [RP_ite, W.br_iff]
  refine ⟨fun hnone => ?_, fun hsome => ?_⟩
  · cases a with
    | some ad => cases hnone
    | none =>
      have : xs = [] := by
        cases xs with
        | nil => rfl
        | cons x xs => obtain ⟨ad, h1, _⟩ := h.el.at_enc (i := 0) rfl; cases h1
      subst this
      exact ⟨noTri, rfl, rowE.nil, Mod.refl _ _, by simp [Fw.blk]⟩
  · simp only [RP_nw]
    refine row_copy (E := idxE) (k := an) h.el.src_enc rfl hlen.symm (by omega) (by omega) rfl ?_
    intro a' c' s' hrow hm hf
    exact ⟨(a', an, c'), rfl, hrow, hm, hf⟩
theorem c_CloneF {s : PH} {t : Tri} {xs : List For} (h : Sl forE s t xs) : DCalls Try.prog 76 #[.slice t.1 t.2.1 t.2.2] s fun y s' => ∃ u : Tri, y = u.v ∧ rowE forE s' 109 u.1 u.2.1 u.2.2 xs ∧ Fw.Mod [] s s' ∧ ∀ g ∈ Fw.blk u.1, s g = none := by
  obtain ⟨a, an, ac⟩ := t
  refine ok_CloneF a an ac _ s ?_
  unfold vc_CloneF
  have hlen := h.len
  have hfew := h.few
  dsimp only at hlen
  simp only [RP_ite, W.br_iff]
  refine ⟨fun hnone => ?_, fun hsome => ?_⟩
  · cases a with
    | some ad => cases hnone
    | none =>
      have : xs = [] := by
        cases xs with
        | nil => rfl
        | cons x xs => obtain ⟨ad, h1, _⟩ := h.el.at_enc (i := 0) rfl; cases h1
      subst this
      exact ⟨noTri, rfl, rowE.nil, Mod.refl _ _, by simp [Fw.blk]⟩
  · simp only [RP_nw]
    refine row_copy (E := forE) (k := an) h.el.src_enc rfl hlen.symm (by omega) (by omega) rfl ?_
    intro a' c' s' hrow hm hf
    exact ⟨(a', an, c'), rfl, hrow, hm, hf⟩
/-- lists of a table of one's own: they lie in blocks of their own -/
structure Own (s : PH) (p : TabP) : Prop where
  c : rowE colE s 44 p.c.1 p.c.2.1 p.c.2.2 p.T.cols
  x : rowE idxE s 106 p.x.1 p.x.2.1 p.x.2.2 p.T.idxs
  k : rowE forE s 109 p.k.1 p.k.2.1 p.k.2.2 p.T.keys
def TabP.L (p : TabP) : List Nat := Fw.blk p.c.1 ++ (Fw.blk p.x.1 ++ Fw.blk p.k.1)
theorem Own.known {s : PH} {p : TabP} (h : Own s p) : ∀ g ∈ p.L, s g ≠ none := by
  intro g hg
  simp only [TabP.L, List.mem_append] at hg
  rcases hg with hg | hg | hg
  · exact h.c.known g hg
  · exact h.x.known g hg
  · exact h.k.known g hg
theorem Own.mod {s s' : PH} {p : TabP} {M : List Nat} (h : Own s p) (hm : Fw.Mod M s s') (hd : ∀ g ∈ p.L, g ∉ M) : Own s' p := by
  simp only [TabP.L, List.mem_append] at hd
  exact ⟨h.c.mod hm fun g hg => hd g (.inl hg), h.x.mod hm fun g hg => hd g (.inr (.inl hg)), h.k.mod hm fun g hg => hd g (.inr (.inr hg))⟩
theorem Sl.of_row {α : Type} {E : Enc α} {s : PH} {e : TypeId} {t : Tri} {xs : List α} (h : rowE E s e t.1 t.2.1 t.2.2 xs) (hf : xs.length ≤ 4294967296) : Sl E s t xs := ⟨elems.of_row h, h.le, hf⟩
def Tab.Few (T : Tab) : Prop := T.cols.length ≤ 4294967296 ∧ T.idxs.length ≤ 4294967296 ∧ T.keys.length ≤ 4294967296
theorem Own.is {s : PH} {p : TabP} (h : Own s p) (hf : p.T.Few) : TabIs s p := ⟨.of_row h.c hf.1, .of_row h.x hf.2.1, .of_row h.k hf.2.2⟩
theorem TabIs.few {s : PH} {p : TabP} (h : TabIs s p) : p.T.Few := ⟨h.c.few, h.x.few, h.k.few⟩
theorem blk_nodup (a : Option Addr) : (Fw.blk a).Nodup := by cases a <;> simp [Fw.blk]
theorem c_copied {s : PH} {p : TabP} (h : TabIs s p) : DCalls Try.prog 38 #[tabV p.T p.c p.x p.k] s fun y s' => ∃ q : TabP, y = tabV q.T q.c q.x q.k ∧ q.T = p.T ∧ Own s' q ∧ Fw.Mod [] s s' ∧ (∀ g ∈ q.L, s g = none) ∧ q.L.Nodup := by
  refine ok_copied p.T.id p.T.name p.c.1 p.c.2.1 p.c.2.2 p.x.1 p.x.2.1 p.x.2.2 p.k.1 p.k.2.1 p.k.2.2 _ s ?_
  unfold vc_copied
  simp only [RP_call]
  refine W.call_of (c_CloneC h.c) ?_
  rintro _ s1 ⟨u1, rfl, h1, m1, f1⟩
  refine ⟨((u1, ()), ()), rfl, ?_⟩
  refine W.call_of (c_CloneX (h.x.mono m1.le)) ?_
  rintro _ s2 ⟨u2, rfl, h2, m2, f2⟩
  refine ⟨((u2, ()), ()), rfl, ?_⟩
  refine W.call_of (c_CloneF (h.k.mono (m1.trans m2).le)) ?_
  rintro _ s3 ⟨u3, rfl, h3, m3, f3⟩
  refine ⟨((u3, ()), ()), rfl, ?_⟩
  refine ⟨⟨p.T, u1, u2, u3⟩, rfl, rfl, ⟨(h1.mod m2 (by simp)).mod m3 (by simp), h2.mod m3 (by simp), h3⟩, (m1.trans m2).trans m3, ?_, ?_⟩
  · intro g hg
    simp only [TabP.L, List.mem_append] at hg
    rcases hg with hg | hg | hg
    · exact f1 g hg
    · exact m1.none (f2 g hg) (by simp)
    · exact (m1.trans m2).none (f3 g hg) (by simp)
  · simp only [TabP.L, List.nodup_append]
    refine ⟨blk_nodup _, ⟨blk_nodup _, blk_nodup _, ?_⟩, ?_⟩
    · rintro g hg _ hg2 rfl
      exact h2.known g hg (f3 g hg2)
    · rintro g hg _ hg2 rfl
      rcases List.mem_append.1 hg2 with hg2 | hg2
      · exact h1.known g hg (f2 g hg2)
      · exact (h1.mod m2 (by simp)).known g hg (f3 g hg2)
end Go.Proofs.Ythepfbcgpbkbdaa
