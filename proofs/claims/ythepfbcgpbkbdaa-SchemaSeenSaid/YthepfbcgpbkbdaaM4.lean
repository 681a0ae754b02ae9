/-
  Schemas, written as texts by the document, to the end; two schemas compared; copies by the document.
  Conditions: none; it proves no statement by itself.
-/
import Derived.Test.YthepfbcgpbkbdaaM3
set_option linter.unusedVariables false
set_option linter.unusedSimpArgs false
set_option maxHeartbeats 1000000
set_option maxRecDepth 100000
namespace Go.Proofs.Ythepfbcgpbkbdaa
open Fw Go
attribute [-simp] Fw.W.ld_iff Fw.W.st_iff

def Sm (t : ByteArray) : Prop := t.size ≤ 281474976710656
def Col.Sm (c : Col) : Prop := c.name.size ≤ 281474976710656 ∧ c.dflt.s.size ≤ 281474976710656
def encCol (t : ByteArray) (c : Col) : ByteArray := t ++ num c.id ++ txt c.name ++ numsB [c.kind, c.state] ++ encV c.dflt
def encIdx (t : ByteArray) (x : Idx) : ByteArray := t ++ num x.id ++ txt x.name ++ num x.column ++ flagB x.unique ++ num x.state
def encKey (t : ByteArray) (x : For) : ByteArray := t ++ num x.id ++ txt x.name ++ numsB [x.column, x.parent, x.state]
def encCols (l : List Col) : ByteArray := l.foldl encCol (num l.length)
def encTab (t : ByteArray) (T : Tab) : ByteArray := T.keys.foldl encKey (T.idxs.foldl encIdx (t ++ num T.id ++ txt T.name ++ encCols T.cols ++ num T.idxs.length) ++ num T.keys.length)
def encS (S : Sch) : ByteArray := S.tabs.foldl encTab (numsB [S.version, S.last] ++ num S.tabs.length)
theorem encCol_size {c : Col} (h : c.Sm) (t : ByteArray) : (encCol t c).size ≤ t.size + 1125899906842624 := by
  have h1 := num_size c.id
  have h2 := txt_size c.name
  have h3 := numsB_size [c.kind, c.state]
  have h4 := encV_size c.dflt
  obtain ⟨h5, h6⟩ := h
  simp only [List.length_cons, List.length_nil] at h3
  unfold encCol; simp only [size_app]; omega
theorem encIdx_size {x : Idx} (h : x.name.size ≤ 281474976710656) (t : ByteArray) : (encIdx t x).size ≤ t.size + 1125899906842624 := by
  have h1 := num_size x.id
  have h2 := txt_size x.name
  have h3 := num_size x.column
  have h4 := num_size x.state
  have h5 := flag_size x.unique
  unfold encIdx; simp only [size_app]; omega
theorem encKey_size {x : For} (h : x.name.size ≤ 281474976710656) (t : ByteArray) : (encKey t x).size ≤ t.size + 1125899906842624 := by
  have h1 := num_size x.id
  have h2 := txt_size x.name
  have h3 := numsB_size [x.column, x.parent, x.state]
  simp only [List.length_cons, List.length_nil] at h3
  unfold encKey; simp only [size_app]; omega
theorem fold_size {α : Type} {f : ByteArray → α → ByteArray} {b : Nat} : ∀ (l : List α) (t : ByteArray), (∀ x ∈ l, ∀ t, (f t x).size ≤ t.size + b) → (l.foldl f t).size ≤ t.size + l.length * b
  | [], t, _ => by simp
  | x :: l, t, h => by
    have h1 := h x (by simp) t
    have h2 := fold_size l (f t x) fun y hy => h y (List.mem_cons_of_mem _ hy)
    simp only [List.foldl_cons, List.length_cons]
    rw [Nat.succ_mul]; omega
theorem take_mem {α : Type} {l : List α} {k : Nat} {x : α} (h : x ∈ l.take k) : x ∈ l := List.mem_of_mem_take h
theorem get_mem {α : Type} {l : List α} {k : Nat} {x : α} (h : l[k]? = some x) : x ∈ l := List.mem_of_getElem? h
theorem encCols_size {l : List Col} (h : ∀ c ∈ l, c.Sm) : (encCols l).size ≤ 10 + l.length * 1125899906842624 := by
  have h1 := num_size (l.length : Nat)
  have h2 := fold_size (f := encCol) (b := 1125899906842624) l (num l.length) fun c hc t => encCol_size (h c hc) t
  unfold encCols; omega
theorem c_encC {s : PH} {t : Tri} {l : List Col} (h : Sl colE s t l) (hl : l.length ≤ 1000) (hsm : ∀ c ∈ l, c.Sm) : DCalls Try.prog 86 #[.slice t.1 t.2.1 t.2.2] s fun y s' => y = .string (encCols l) ∧ s' = s := by
  obtain ⟨a, an, ac⟩ := t
  refine DCalls.quiet (ok_encC a an ac _ s ?_)
  unfold vc_encC
  have hlen : an = l.length := h.len
  simp only [RP_call]
  refine W.call_of (c_Num _ s) ?_
  rintro _ s ⟨rfl, rfl⟩
  refine ⟨((num an, ()), ()), rfl, ?_⟩
  simp only [RP_loop]
  refine ⟨fun z s' => ∃ k : Nat, z = (((l.take k).foldl encCol (num l.length), ()), ((k : Int), ()), ()) ∧ k ≤ an ∧ Fw.Mod [] s s', fun z _ => an - z.2.1.1.toNat, ⟨0, by rw [hlen]; rfl, Nat.zero_le _, Mod.refl _ _⟩, ?_⟩
  rintro _ s1 ⟨k, rfl, hk, m1⟩
  have h1 := h.mono m1.le
  simp [W.br_iff, -W.nw_iff]
  refine ⟨fun hlt => ⟨hlt, ?_⟩, fun hge => ?_⟩
  · obtain ⟨x, hx⟩ : ∃ x, l[k]? = some x := ⟨_, List.getElem?_eq_getElem (by omega)⟩
    obtain ⟨ad, had, hh⟩ := h1.el.at_enc hx
    dsimp only at had; subst had
    have hxs := hsm x (get_mem hx)
    have hsz := fold_size (f := encCol) (b := 1125899906842624) (l.take k) (num l.length) fun c hc t => encCol_size (hsm c (take_mem hc)) t
    rw [List.length_take] at hsz
    have hmin : min k l.length = k := by omega
    rw [hmin] at hsz
    have hn := num_size (l.length : Nat)
    have hfin := foldl_take encCol (num l.length) hx
    generalize (l.take k).foldl encCol (num l.length) = out at hsz hfin ⊢
    have b1 := num_size x.id
    have b2 := txt_size x.name
    have b3 := numsB_size [x.kind, x.state]
    have b4 := encV_size x.dflt
    obtain ⟨b5, b6⟩ := hxs
    simp only [List.length_cons, List.length_nil] at b3
    simp only [W.unSome_some]
    refine ld_has_z hh (cs := [.int .i64]) (y := (x.id, ())) rfl ?_
    refine W.callQ_of ((num x.id, ()), ()) (c_Num _ s1) rfl ?_
    simp [-W.nw_iff]
    refine ⟨by omega, hlt, ?_⟩
    refine ld_has (j := 1) hh (cs := [.str]) (y := (x.name, ())) rfl ?_
    refine W.callQ_of ((txt x.name, ()), ()) (c_text b5 s1) rfl ?_
    simp [-W.nw_iff]
    refine ⟨by omega, hlt, ?_⟩
    refine ld_has (j := 2) hh (cs := [.int .i64]) (y := (x.kind, ())) rfl ?_
    simp [-W.nw_iff]
    refine ⟨hlt, ?_⟩
    refine ld_has (j := 3) hh (cs := [.int .i64]) (y := (x.state, ())) rfl ?_
    simp [-W.nw_iff]
    refine ⟨hlt, ?_⟩
    refine ld_has (j := 4) hh (cs := [.int .i64, .int .i64, .str]) (y := (x.dflt.kind, x.dflt.n, x.dflt.s, ())) rfl ?_
    refine W.nw_of fun r s2 hr m2 k2 => ?_
    refine W.call_of (c_nums (l := [x.kind, x.state]) (nums_lit (l := [x.kind, x.state]) k2) (by simp)) ?_
    rintro _ s2 ⟨rfl, rfl⟩
    refine ⟨((numsB [x.kind, x.state], ()), ()), rfl, ?_⟩
    refine ⟨?_, ?_⟩
    · intro i v hv
      have := (hh.mono m2.le) (4 + i) v
      rw [addr_add_add]
      refine this ?_
      revert hv
      match i with
      | 0 => exact id
      | 1 => exact id
      | 2 => exact id
      | i + 3 => intro hv; simp [vals] at hv
    simp [-W.nw_iff]
    refine ⟨by omega, ?_⟩
    refine W.call_of (c_encV (v := x.dflt) b6 s2) ?_
    rintro _ s2 ⟨rfl, rfl⟩
    refine ⟨((encV x.dflt, ()), ()), rfl, ?_⟩
    simp [wrap_succ (k := k) (by omega)]
    refine ⟨by omega, ⟨k + 1, ⟨?_, by simp⟩, hlt, m1.trans m2⟩, by omega⟩
    rw [hfin]; rfl
  · have : l.take k = l := List.take_of_length_le (by omega)
    rw [this]
    exact ⟨rfl, m1⟩

/-- names are no longer than a machine's, and there are not too many of all -/
structure Tab.Sm (T : Tab) : Prop where
  name : T.name.size ≤ 281474976710656
  cols : ∀ c ∈ T.cols, c.Sm
  idxs : ∀ x ∈ T.idxs, x.name.size ≤ 281474976710656
  keys : ∀ x ∈ T.keys, x.name.size ≤ 281474976710656
def Tab.cost (T : Tab) : Nat := 1 + T.cols.length + T.idxs.length + T.keys.length
def Sch.cost (S : Sch) : Nat := (S.tabs.map Tab.cost).sum
structure Sch.Sm (S : Sch) : Prop where
  tabs : ∀ T ∈ S.tabs, T.Sm
  cost : S.cost ≤ 1000
theorem encTab_size {T : Tab} (h : T.Sm) (t : ByteArray) : (encTab t T).size ≤ t.size + T.cost * 1125899906842624 := by
  have h1 := num_size T.id
  have h2 := txt_size T.name
  have h3 := encCols_size h.cols
  have h4 := num_size (T.idxs.length : Nat)
  have h5 := num_size (T.keys.length : Nat)
  have h6 := fold_size (f := encIdx) (b := 1125899906842624) T.idxs (t ++ num T.id ++ txt T.name ++ encCols T.cols ++ num T.idxs.length) fun x hx t => encIdx_size (h.idxs x hx) t
  have h7 := fold_size (f := encKey) (b := 1125899906842624) T.keys (T.idxs.foldl encIdx (t ++ num T.id ++ txt T.name ++ encCols T.cols ++ num T.idxs.length) ++ num T.keys.length) fun x hx t => encKey_size (h.keys x hx) t
  have h8 := h.name
  unfold encTab Tab.cost
  simp only [size_app] at h6 h7 ⊢
  omega
theorem cost_take {l : List Tab} {k : Nat} {T : Tab} (h : l[k]? = some T) : ((l.take (k + 1)).map Tab.cost).sum = ((l.take k).map Tab.cost).sum + T.cost := by
  rw [List.take_add_one, h]; simp
theorem cost_take_le (l : List Tab) (k : Nat) : ((l.take k).map Tab.cost).sum ≤ (l.map Tab.cost).sum := by
  have := congrArg (fun l => (l.map Tab.cost).sum) (List.take_append_drop k l)
  simp only [List.map_append, List.sum_append] at this
  omega
theorem encTabs_size : ∀ (l : List Tab) (t : ByteArray), (∀ T ∈ l, T.Sm) → (l.foldl encTab t).size ≤ t.size + (l.map Tab.cost).sum * 1125899906842624
  | [], t, _ => by simp
  | T :: l, t, h => by
    have h1 := encTab_size (h T (by simp)) t
    have h2 := encTabs_size l (encTab t T) fun y hy => h y (List.mem_cons_of_mem _ hy)
    simp only [List.foldl_cons, List.map_cons, List.sum_cons]
    rw [Nat.add_mul]; omega
theorem cost_len (l : List Tab) : l.length ≤ (l.map Tab.cost).sum := by
  induction l with
  | nil => simp
  | cons T l ih => simp only [List.length_cons, List.map_cons, List.sum_cons, Tab.cost]; omega
theorem c_encS {s : PH} {t : Tri} {S : Sch} {ps : List TabP} (h : SchIs s t S ps) (hsm : S.Sm) : DCalls Try.prog 44 #[schV S t] s fun y s' => y = .string (encS S) ∧ s' = s := by
  obtain ⟨a, an, ac⟩ := t
  refine DCalls.quiet (ok_encS S.version S.last a an ac _ s ?_)
  unfold vc_encS
  have hlen : an = ps.length := h.el.len
  have hlen2 : ps.length = S.tabs.length := by rw [h.eq, List.length_map]
  have hcl := cost_len S.tabs
  have hcs := hsm.cost
  have hcs' : (S.tabs.map Tab.cost).sum ≤ 1000 := hcs
  simp only [RP_nw]
  refine W.nw_of fun r s1 hr m1 k1 => ?_
  refine W.call_of (c_nums (l := [S.version, S.last]) (nums_lit (l := [S.version, S.last]) k1) (by simp)) ?_
  rintro _ s1 ⟨rfl, rfl⟩
  refine ⟨((numsB [S.version, S.last], ()), ()), rfl, ?_⟩
  refine W.call_of (c_Num _ s1) ?_
  rintro _ s1 ⟨rfl, rfl⟩
  refine ⟨((num an, ()), ()), rfl, ?_⟩
  have b0 := numsB_size [S.version, S.last]
  simp only [List.length_cons, List.length_nil] at b0
  have b1 := num_size (an : Nat)
  simp only [RP_guard, W.guard_iff, RP_loop]
  refine ⟨by omega, ?_⟩
  have hstart : encS S = S.tabs.foldl encTab (numsB [S.version, S.last] ++ num an) := by unfold encS; rw [hlen, hlen2]
  obtain ⟨st, hst, hst2⟩ : ∃ st, st = numsB [S.version, S.last] ++ num an ∧ st.size ≤ 100 := ⟨_, rfl, by rw [size_app]; omega⟩
  rw [hstart, ← hst]
  refine ⟨fun z s' => ∃ k : Nat, z = ((S.version, S.last, (a, an, ac), ()), ((S.tabs.take k).foldl encTab st, ()), ((k : Int), ()), ()) ∧ k ≤ an ∧ Fw.Mod [] s s', fun z _ => an - z.2.2.1.1.toNat, ⟨0, by rw [hst]; rfl, Nat.zero_le _, m1⟩, ?_⟩
  rintro _ s2 ⟨k, rfl, hk, m2⟩
  have h2 := h.mono m2.le
  simp only [RP_ite, W.br_iff, decide_eq_true_eq, decide_eq_false_iff_not]
  refine ⟨fun hlt => ?_, fun hge => ?_⟩
  · have hlt : k < an := by omega
    obtain ⟨p, hp⟩ : ∃ p, ps[k]? = some p := ⟨_, List.getElem?_eq_getElem (by omega)⟩
    have hT : S.tabs[k]? = some p.T := by rw [h.eq, List.getElem?_map, hp]; rfl
    have hTs := hsm.tabs p.T (get_mem hT)
    have hP := h2.all p (get_mem hp)
    obtain ⟨ad, had, hh⟩ := h2.el.el.at_enc hp
    dsimp only at had; subst had
    have hsz := encTabs_size (S.tabs.take k) st fun T hT => hsm.tabs T (take_mem hT)
    have hct := cost_take hT
    have hcl2 := cost_take_le S.tabs (k + 1)
    have hfin := foldl_take encTab st hT
    generalize (S.tabs.take k).foldl encTab st = out at hsz hfin ⊢
    obtain ⟨T, ⟨ca, can, cac⟩, ⟨xa, xan, xac⟩, ⟨ka, kan, kac⟩⟩ := p
    dsimp only at hT hTs hP hct hfin
    have hcan : can = T.cols.length := hP.c.len
    have hxan : xan = T.idxs.length := hP.x.len
    have hkan : kan = T.keys.length := hP.k.len
    have b2 := num_size T.id
    have b3 := txt_size T.name
    have b4 := encCols_size hTs.cols
    have b5 := num_size (T.idxs.length : Nat)
    have b6 := num_size (T.keys.length : Nat)
    have b7 := hTs.name
    have hTc : T.cost = 1 + T.cols.length + T.idxs.length + T.keys.length := rfl
    obtain ⟨C, hC⟩ : ∃ C, C = ((S.tabs.take k).map Tab.cost).sum := ⟨_, rfl⟩
    rw [← hC] at hsz hct
    simp only [RP_guard, W.guard_iff, RP_unSome, W.unSome_some]
    refine ⟨by omega, ?_⟩
    refine ld_has_z hh (y := (T.id, T.name, (ca, can, cac), (xa, xan, xac), (ka, kan, kac), ())) rfl ?_
    refine W.callQ_of ((num T.id, ()), ()) (c_Num _ s2) rfl ?_
    refine ⟨by dsimp only; omega, ?_⟩
    refine W.callQ_of ((txt T.name, ()), ()) (c_text b7 s2) rfl ?_
    refine ⟨by dsimp only; (try simp only [size_app]); omega, ?_⟩
    refine W.callQ_of ((encCols T.cols, ()), ()) (c_encC (t := (ca, can, cac)) hP.c (show T.cols.length ≤ 1000 by omega) hTs.cols) rfl ?_
    refine ⟨by dsimp only; (try simp only [size_app]); omega, ?_⟩
    refine W.callQ_of ((num xan, ()), ()) (c_Num _ s2) rfl ?_
    rw [hxan]
    refine ⟨by dsimp only; (try simp only [size_app]); omega, ?_⟩
    obtain ⟨o1, ho1⟩ : ∃ o1, o1 = out ++ num T.id ++ txt T.name ++ encCols T.cols ++ num T.idxs.length := ⟨_, rfl⟩
    have so1 : o1.size ≤ out.size + 300000000000000 + T.cols.length * 1125899906842624 := by rw [ho1]; simp only [size_app]; omega
    dsimp only
    rw [← ho1, ← hxan]
    refine ⟨fun z s' => ∃ j : Nat, z = ((S.version, S.last, (some ad, an, ac), ()), ((T.idxs.take j).foldl encIdx o1, ()), ((k : Int), ()), (T.id, T.name, (ca, can, cac), (xa, xan, xac), (ka, kan, kac), ()), ((j : Int), ()), ()) ∧ j ≤ xan ∧ s' = s2, fun z _ => xan - z.2.2.2.2.1.1.toNat, ⟨0, rfl, Nat.zero_le _, rfl⟩, ?_⟩
    rintro _ s2 ⟨j, rfl, hj, rfl⟩
    simp only [W.br_iff, decide_eq_true_eq, decide_eq_false_iff_not]
    refine ⟨fun hlt2 => ?_, fun hge2 => ?_⟩
    · have hlt2 : j < xan := by omega
      obtain ⟨x, hx⟩ : ∃ x, T.idxs[j]? = some x := ⟨_, List.getElem?_eq_getElem (by omega)⟩
      obtain ⟨ad2, had2, hh2⟩ := hP.x.el.at_enc hx
      dsimp only at had2; subst had2
      have hxs := hTs.idxs x (get_mem hx)
      have hsz2 := fold_size (f := encIdx) (b := 1125899906842624) (T.idxs.take j) o1 fun x hx t => encIdx_size (hTs.idxs x (take_mem hx)) t
      rw [List.length_take, show min j T.idxs.length = j by omega] at hsz2
      have hfin2 := foldl_take encIdx o1 hx
      generalize (T.idxs.take j).foldl encIdx o1 = out2 at hsz2 hfin2 ⊢
      have c1 := num_size x.id
      have c2 := txt_size x.name
      have c3 := num_size x.column
      have c4 := num_size x.state
      have c5 := flag_size x.unique
      refine ⟨by omega, ?_⟩
      simp only [W.unSome_some]
      refine ld_has_z hh2 (y := (x.id, x.name, x.column, x.unique, x.state, ())) rfl ?_
      refine W.callQ_of ((num x.id, ()), ()) (c_Num _ s2) rfl ?_
      refine ⟨by dsimp only; (try simp only [size_app]); omega, ?_⟩
      refine W.callQ_of ((txt x.name, ()), ()) (c_text hxs s2) rfl ?_
      refine ⟨by dsimp only; (try simp only [size_app]); omega, ?_⟩
      refine W.callQ_of ((num x.column, ()), ()) (c_Num _ s2) rfl ?_
      refine ⟨by dsimp only; (try simp only [size_app]); omega, ?_⟩
      refine W.callQ_of ((flagB x.unique, ()), ()) (c_flag _ s2) rfl ?_
      refine ⟨by dsimp only; (try simp only [size_app]); omega, ?_⟩
      refine W.callQ_of ((num x.state, ()), ()) (c_Num _ s2) rfl ?_
      refine ⟨by dsimp only; (try simp only [size_app]); omega, ?_⟩
      rw [wrap_succ (k := j) (by omega)]
      refine ⟨⟨j + 1, ?_, by omega, rfl⟩, ?_⟩
      · rw [hfin2]; rfl
      · simp only [Int.toNat_natCast]; omega
    · have hall : T.idxs.take j = T.idxs := List.take_of_length_le (by omega)
      rw [hall]
      have hsz2 := fold_size (f := encIdx) (b := 1125899906842624) T.idxs o1 fun x hx t => encIdx_size (hTs.idxs x hx) t
      obtain ⟨o2, ho2⟩ : ∃ o2, o2 = T.idxs.foldl encIdx o1 := ⟨_, rfl⟩
      rw [← ho2] at hsz2 ⊢
      refine W.call_of (c_Num _ s2) ?_
      rintro _ s2 ⟨rfl, rfl⟩
      refine ⟨((num kan, ()), ()), rfl, ?_⟩
      rw [hkan]
      refine ⟨by dsimp only; omega, ?_⟩
      dsimp only
      rw [← hkan]
      refine ⟨fun z s' => ∃ j : Nat, z = ((S.version, S.last, (some ad, an, ac), ()), ((T.keys.take j).foldl encKey (o2 ++ num T.keys.length), ()), ((k : Int), ()), (T.id, T.name, (ca, can, cac), (xa, xan, xac), (ka, kan, kac), ()), ((j : Int), ()), ()) ∧ j ≤ kan ∧ Fw.Mod [] s2 s', fun z _ => kan - z.2.2.2.2.1.1.toNat, ⟨0, by rw [hkan]; rfl, Nat.zero_le _, Mod.refl _ _⟩, ?_⟩
      rintro _ s3 ⟨j, rfl, hj, m3⟩
      simp only [W.br_iff, decide_eq_true_eq, decide_eq_false_iff_not]
      refine ⟨fun hlt2 => ?_, fun hge2 => ?_⟩
      · have hlt2 : j < kan := by omega
        obtain ⟨x, hx⟩ : ∃ x, T.keys[j]? = some x := ⟨_, List.getElem?_eq_getElem (by omega)⟩
        obtain ⟨ad2, had2, hh2⟩ := (hP.k.mono m3.le).el.at_enc hx
        dsimp only at had2; subst had2
        have hxs := hTs.keys x (get_mem hx)
        have hsz3 := fold_size (f := encKey) (b := 1125899906842624) (T.keys.take j) (o2 ++ num T.keys.length) fun x hx t => encKey_size (hTs.keys x (take_mem hx)) t
        rw [List.length_take, show min j T.keys.length = j by omega, size_app] at hsz3
        have hfin2 := foldl_take encKey (o2 ++ num T.keys.length) hx
        generalize (T.keys.take j).foldl encKey (o2 ++ num T.keys.length) = out2 at hsz3 hfin2 ⊢
        have c1 := num_size x.id
        have c2 := txt_size x.name
        have c3 := numsB_size [x.column, x.parent, x.state]
        simp only [List.length_cons, List.length_nil] at c3
        refine ⟨by omega, ?_⟩
        simp only [W.unSome_some]
        refine ld_has_z hh2 (y := (x.id, x.name, x.column, x.parent, x.state, ())) rfl ?_
        refine W.callQ_of ((num x.id, ()), ()) (c_Num _ s3) rfl ?_
        refine ⟨by dsimp only; (try simp only [size_app]); omega, ?_⟩
        refine W.callQ_of ((txt x.name, ()), ()) (c_text hxs s3) rfl ?_
        refine ⟨by dsimp only; (try simp only [size_app]); omega, ?_⟩
        refine W.nw_of fun r3 s4 hr3 m4 k4 => ?_
        refine W.call_of (c_nums (l := [x.column, x.parent, x.state]) (nums_lit (l := [x.column, x.parent, x.state]) k4) (by simp)) ?_
        rintro _ s4 ⟨rfl, rfl⟩
        refine ⟨((numsB [x.column, x.parent, x.state], ()), ()), rfl, ?_⟩
        refine ⟨by dsimp only; (try simp only [size_app]); omega, ?_⟩
        rw [wrap_succ (k := j) (by omega)]
        refine ⟨⟨j + 1, ?_, by omega, m3.trans m4⟩, ?_⟩
        · rw [hfin2]; rfl
        · simp only [Int.toNat_natCast]; omega
      · have hall : T.keys.take j = T.keys := List.take_of_length_le (by omega)
        rw [hall, wrap_succ (k := k) (by omega)]
        refine ⟨⟨k + 1, ?_, by omega, m2.trans m3⟩, ?_⟩
        · rw [hfin, ho2, ho1]; rfl
        · simp only [Int.toNat_natCast]; omega
  · have hall : S.tabs.take k = S.tabs := List.take_of_length_le (by omega)
    rw [hall]
    exact ⟨rfl, m2⟩
theorem c_same {s : PH} {t t' : Tri} {S S' : Sch} {ps ps' : List TabP} (h : SchIs s t S ps) (h' : SchIs s t' S' ps') (hsm : S.Sm) (hsm' : S'.Sm) : DCalls Try.prog 16 #[schV S t, schV S' t'] s fun y s' => y = .bool (decide (encS S = encS S')) ∧ s' = s := by
  refine ok_same S.version S.last t.1 t.2.1 t.2.2 S'.version S'.last t'.1 t'.2.1 t'.2.2 _ s ?_
  unfold vc_same
  simp only [RP_callQ]
  refine W.callQ_of ((encS S, ()), ()) (c_encS h hsm) rfl ?_
  refine W.callQ_of ((encS S', ()), ()) (c_encS h' hsm') rfl ?_
  simp [toList_beq]
end Go.Proofs.Ythepfbcgpbkbdaa
