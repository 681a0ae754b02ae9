/-
  Part 3 for the law: texts of this session's own, those parts that the claim needs, one behind the other.
  Conditions: none; it proves no statement by itself.
-/
import Derived.Test.YthepfbcgpbkbdaaSchemaStepsK2
set_option linter.unusedVariables false
set_option linter.unusedSectionVars false
set_option linter.unusedSimpArgs false
section
set_option linter.unusedVariables false
set_option linter.unusedSimpArgs false
set_option maxHeartbeats 1000000
set_option maxRecDepth 100000
namespace Go.Proofs.Ythepfbcgpbkbdaa
open Fw Go
attribute [-simp] Fw.W.ld_iff Fw.W.st_iff
def Sm (t : ByteArray) : Prop := t.size ≤ 281474976710656
def Col.Sm (c : Col) : Prop := c.name.size ≤ 281474976710656 ∧ c.dflt.s.size ≤ 281474976710656
def encCol (t : ByteArray) (c : Col) : ByteArray := t ++ num c.id ++ txt c.name ++ numsB [c.kind, c.state] ++ encV c.dflt
def encIdx (t : ByteArray) (x : Idx) : ByteArray := t ++ num x.id ++ txt x.name ++ num x.column ++ flagB x.unique ++ num x.state
def encKey (t : ByteArray) (x : For) : ByteArray := t ++ num x.id ++ txt x.name ++ numsB [x.column, x.parent, x.state]
def encCols (l : List Col) : ByteArray := l.foldl encCol (num l.length)
def encTab (t : ByteArray) (T : Tab) : ByteArray := T.keys.foldl encKey (T.idxs.foldl encIdx (t ++ num T.id ++ txt T.name ++ encCols T.cols ++ num T.idxs.length) ++ num T.keys.length)
def encS (S : Sch) : ByteArray := S.tabs.foldl encTab (numsB [S.version, S.last] ++ num S.tabs.length)
theorem encCol_size {c : Col} (h : c.Sm) (t : ByteArray) : (encCol t c).size ≤ t.size + 1125899906842624 := by
  have h1 := num_size c.id
  have h2 := txt_size c.name
  have h3 := numsB_size [c.kind, c.state]
  have h4 := encV_size c.dflt
  obtain ⟨h5, h6⟩ := h
  simp only [List.length_cons, List.length_nil] at h3
  unfold encCol; simp only [size_app]; omega
theorem encIdx_size {x : Idx} (h : x.name.size ≤ 281474976710656) (t : ByteArray) : (encIdx t x).size ≤ t.size + 1125899906842624 := by
  have h1 := num_size x.id
  have h2 := txt_size x.name
  have h3 := num_size x.column
  have h4 := num_size x.state
  have h5 := flag_size x.unique
  unfold encIdx; simp only [size_app]; omega
theorem encKey_size {x : For} (h : x.name.size ≤ 281474976710656) (t : ByteArray) : (encKey t x).size ≤ t.size + 1125899906842624 := by
  have h1 := num_size x.id
  have h2 := txt_size x.name
  have h3 := numsB_size [x.column, x.parent, x.state]
  simp only [List.length_cons, List.length_nil] at h3
  unfold encKey; simp only [size_app]; omega
theorem fold_size {α : Type} {f : ByteArray → α → ByteArray} {b : Nat} : ∀ (l : List α) (t : ByteArray), (∀ x ∈ l, ∀ t, (f t x).size ≤ t.size + b) → (l.foldl f t).size ≤ t.size + l.length * b
  | [], t, _ => by simp
  | x :: l, t, h => by
    have h1 := h x (by simp) t
    have h2 := fold_size l (f t x) fun y hy => h y (List.mem_cons_of_mem _ hy)
    simp only [List.foldl_cons, List.length_cons]
    rw [Nat.succ_mul]; omega
theorem take_mem {α : Type} {l : List α} {k : Nat} {x : α} (h : x ∈ l.take k) : x ∈ l := List.mem_of_mem_take h
theorem get_mem {α : Type} {l : List α} {k : Nat} {x : α} (h : l[k]? = some x) : x ∈ l := List.mem_of_getElem? h
theorem encCols_size {l : List Col} (h : ∀ c ∈ l, c.Sm) : (encCols l).size ≤ 10 + l.length * 1125899906842624 := by
  have h1 := num_size (l.length : Nat)
  have h2 := fold_size (f := encCol) (b := 1125899906842624) l (num l.length) fun c hc t => encCol_size (h c hc) t
  unfold encCols; omega
theorem c_encC {s : PH} {t : Tri} {l : List Col} (h : Sl colE s t l) (hl : l.length ≤ 1000) (hsm : ∀ c ∈ l, c.Sm) : DCalls Try.prog 86 #[.slice t.1 t.2.1 t.2.2] s fun y s' => y = .string (encCols l) ∧ s' = s := by
  obtain ⟨a, an, ac⟩ := t
  refine DCalls.quiet (ok_encC a an ac _ s ?_)
  unfold vc_encC
  have hlen : an = l.length := h.len
  simp only [RP_call]
  refine W.call_of (c_Num _ s) ?_
  rintro _ s ⟨rfl, rfl⟩
  refine ⟨((num an, ()), ()), rfl, ?_⟩
  simp only [RP_loop]
  refine ⟨fun z s' => ∃ k : Nat, z = (((l.take k).foldl encCol (num l.length), ()), ((k : Int), ()), ()) ∧ k ≤ an ∧ Fw.Mod [] s s', fun z _ => an - z.2.1.1.toNat, ⟨0, by rw [hlen]; (first | done | rfl), Nat.zero_le _, Mod.refl _ _⟩, ?_⟩
  rintro _ s1 ⟨k, rfl, hk, m1⟩
  have h1 := h.mono m1.le
  simp [W.br_iff, -W.nw_iff]
  refine ⟨fun hlt => ⟨hlt, ?_⟩, fun hge => ?_⟩
  · obtain ⟨x, hx⟩ : ∃ x, l[k]? = some x := ⟨_, List.getElem?_eq_getElem (by omega)⟩
    obtain ⟨ad, had, hh⟩ := h1.el.at_enc hx
    dsimp only at had; subst had
    have hxs := hsm x (get_mem hx)
    have hsz := fold_size (f := encCol) (b := 1125899906842624) (l.take k) (num l.length) fun c hc t => encCol_size (hsm c (take_mem hc)) t
    rw [List.length_take] at hsz
    have hmin : min k l.length = k := by omega
    rw [hmin] at hsz
    have hn := num_size (l.length : Nat)
    have hfin := foldl_take encCol (num l.length) hx
    generalize (l.take k).foldl encCol (num l.length) = out at hsz hfin ⊢
    have b1 := num_size x.id
    have b2 := txt_size x.name
    have b3 := numsB_size [x.kind, x.state]
    have b4 := encV_size x.dflt
    obtain ⟨b5, b6⟩ := hxs
    simp only [List.length_cons, List.length_nil] at b3
    simp only [W.unSome_some]
    refine ld_has_z hh (cs := [.int .i64]) (y := (x.id, ())) rfl ?_
    refine W.callQ_of ((num x.id, ()), ()) (c_Num _ s1) rfl ?_
    simp [-W.nw_iff]
    refine ⟨by omega, hlt, ?_⟩
    refine ld_has (j := 1) hh (cs := [.str]) (y := (x.name, ())) rfl ?_
    refine W.callQ_of ((txt x.name, ()), ()) (c_text b5 s1) rfl ?_
    simp [-W.nw_iff]
    refine ⟨by omega, hlt, ?_⟩
    refine ld_has (j := 2) hh (cs := [.int .i64]) (y := (x.kind, ())) rfl ?_
    simp [-W.nw_iff]
    refine ⟨hlt, ?_⟩
    refine ld_has (j := 3) hh (cs := [.int .i64]) (y := (x.state, ())) rfl ?_
    simp [-W.nw_iff]
    refine ⟨hlt, ?_⟩
    refine ld_has (j := 4) hh (cs := [.int .i64, .int .i64, .str]) (y := (x.dflt.kind, x.dflt.n, x.dflt.s, ())) rfl ?_
    refine W.nw_of fun r s2 hr m2 k2 => ?_
    refine W.call_of (c_nums (l := [x.kind, x.state]) (nums_lit (l := [x.kind, x.state]) k2) (by simp)) ?_
    rintro _ s2 ⟨rfl, rfl⟩
    refine ⟨((numsB [x.kind, x.state], ()), ()), rfl, ?_⟩
    refine ⟨?_, ?_⟩
    · intro i v hv
      have := (hh.mono m2.le) (4 + i) v
      rw [addr_add_add]
      refine this ?_
      revert hv
      match i with
      | 0 => exact id
      | 1 => exact id
      | 2 => exact id
      | i + 3 => intro hv; simp [vals] at hv
    simp [-W.nw_iff]
    refine ⟨by omega, ?_⟩
    refine W.call_of (c_encV (v := x.dflt) b6 s2) ?_
    rintro _ s2 ⟨rfl, rfl⟩
    refine ⟨((encV x.dflt, ()), ()), rfl, ?_⟩
    simp [wrap_succ (k := k) (by omega)]
    refine ⟨by omega, ⟨k + 1, ⟨?_, by simp⟩, hlt, m1.trans m2⟩, by omega⟩
    rw [hfin]; (first | done | rfl)
  · have : l.take k = l := List.take_of_length_le (by omega)
    rw [this]
    exact ⟨rfl, m1⟩
/-- names are no longer than a machine's, and there are not too many of all -/
structure Tab.Sm (T : Tab) : Prop where
  name : T.name.size ≤ 281474976710656
  cols : ∀ c ∈ T.cols, c.Sm
  idxs : ∀ x ∈ T.idxs, x.name.size ≤ 281474976710656
  keys : ∀ x ∈ T.keys, x.name.size ≤ 281474976710656
def Tab.cost (T : Tab) : Nat := 1 + T.cols.length + T.idxs.length + T.keys.length
def Sch.cost (S : Sch) : Nat := (S.tabs.map Tab.cost).sum
structure Sch.Sm (S : Sch) : Prop where
  tabs : ∀ T ∈ S.tabs, T.Sm
  cost : S.cost ≤ 1000
theorem encTab_size {T : Tab} (h : T.Sm) (t : ByteArray) : (encTab t T).size ≤ t.size + T.cost * 1125899906842624 := by
  have h1 := num_size T.id
  have h2 := txt_size T.name
  have h3 := encCols_size h.cols
  have h4 := num_size (T.idxs.length : Nat)
  have h5 := num_size (T.keys.length : Nat)
  have h6 := fold_size (f := encIdx) (b := 1125899906842624) T.idxs (t ++ num T.id ++ txt T.name ++ encCols T.cols ++ num T.idxs.length) fun x hx t => encIdx_size (h.idxs x hx) t
  have h7 := fold_size (f := encKey) (b := 1125899906842624) T.keys (T.idxs.foldl encIdx (t ++ num T.id ++ txt T.name ++ encCols T.cols ++ num T.idxs.length) ++ num T.keys.length) fun x hx t => encKey_size (h.keys x hx) t
  have h8 := h.name
  unfold encTab Tab.cost
  simp only [size_app] at h6 h7 ⊢
  omega
theorem cost_take {l : List Tab} {k : Nat} {T : Tab} (h : l[k]? = some T) : ((l.take (k + 1)).map Tab.cost).sum = ((l.take k).map Tab.cost).sum + T.cost := by
  rw [List.take_add_one, h]; simp
theorem cost_take_le (l : List Tab) (k : Nat) : ((l.take k).map Tab.cost).sum ≤ (l.map Tab.cost).sum := by
  have := congrArg (fun l => (l.map Tab.cost).sum) (List.take_append_drop k l)
  simp only [List.map_append, List.sum_append] at this
  omega
theorem encTabs_size : ∀ (l : List Tab) (t : ByteArray), (∀ T ∈ l, T.Sm) → (l.foldl encTab t).size ≤ t.size + (l.map Tab.cost).sum * 1125899906842624
  | [], t, _ => by simp
  | T :: l, t, h => by
    have h1 := encTab_size (h T (by simp)) t
    have h2 := encTabs_size l (encTab t T) fun y hy => h y (List.mem_cons_of_mem _ hy)
    simp only [List.foldl_cons, List.map_cons, List.sum_cons]
    rw [Nat.add_mul]; omega
theorem cost_len (l : List Tab) : l.length ≤ (l.map Tab.cost).sum := by
  induction l with
  | nil => simp
  | cons T l ih => simp only [List.length_cons, List.map_cons, List.sum_cons, Tab.cost]; omega
theorem c_encS {s : PH} {t : Tri} {S : Sch} {ps : List TabP} (h : SchIs s t S ps) (hsm : S.Sm) : DCalls Try.prog 44 #[schV S t] s fun y s' => y = .string (encS S) ∧ s' = s := by
  obtain ⟨a, an, ac⟩ := t
  refine DCalls.quiet (ok_encS S.version S.last a an ac _ s ?_)
  unfold vc_encS
  have hlen : an = ps.length := h.el.len
  have hlen2 : ps.length = S.tabs.length := by rw [h.eq, List.length_map]
  have hcl := cost_len S.tabs
  have hcs := hsm.cost
  have hcs' : (S.tabs.map Tab.cost).sum ≤ 1000 := hcs
  simp only [RP_nw]
  refine W.nw_of fun r s1 hr m1 k1 => ?_
  refine W.call_of (c_nums (l := [S.version, S.last]) (nums_lit (l := [S.version, S.last]) k1) (by simp)) ?_
  rintro _ s1 ⟨rfl, rfl⟩
  refine ⟨((numsB [S.version, S.last], ()), ()), rfl, ?_⟩
  refine W.call_of (c_Num _ s1) ?_
  rintro _ s1 ⟨rfl, rfl⟩
  refine ⟨((num an, ()), ()), rfl, ?_⟩
  have b0 := numsB_size [S.version, S.last]
  simp only [List.length_cons, List.length_nil] at b0
  have b1 := num_size (an : Nat)
  simp only [RP_guard, W.guard_iff, RP_loop]
  refine ⟨by omega, ?_⟩
  have hstart : encS S = S.tabs.foldl encTab (numsB [S.version, S.last] ++ num an) := by unfold encS; rw [hlen, hlen2]
  obtain ⟨st, hst, hst2⟩ : ∃ st, st = numsB [S.version, S.last] ++ num an ∧ st.size ≤ 100 := ⟨_, rfl, by rw [size_app]; omega⟩
  rw [hstart, ← hst]
  refine ⟨fun z s' => ∃ k : Nat, z = ((S.version, S.last, (a, an, ac), ()), ((S.tabs.take k).foldl encTab st, ()), ((k : Int), ()), ()) ∧ k ≤ an ∧ Fw.Mod [] s s', fun z _ => an - z.2.2.1.1.toNat, ⟨0, by rw [hst]; (first | done | rfl), Nat.zero_le _, m1⟩, ?_⟩
  rintro _ s2 ⟨k, rfl, hk, m2⟩
  have h2 := h.mono m2.le
  simp only [RP_ite, W.br_iff, decide_eq_true_eq, decide_eq_false_iff_not]
  refine ⟨fun hlt => ?_, fun hge => ?_⟩
  · have hlt : k < an := by omega
    obtain ⟨p, hp⟩ : ∃ p, ps[k]? = some p := ⟨_, List.getElem?_eq_getElem (by omega)⟩
    have hT : S.tabs[k]? = some p.T := by rw [h.eq, List.getElem?_map, hp]; (first | done | rfl)
    have hTs := hsm.tabs p.T (get_mem hT)
    have hP := h2.all p (get_mem hp)
    obtain ⟨ad, had, hh⟩ := h2.el.el.at_enc hp
    dsimp only at had; subst had
    have hsz := encTabs_size (S.tabs.take k) st fun T hT => hsm.tabs T (take_mem hT)
    have hct := cost_take hT
    have hcl2 := cost_take_le S.tabs (k + 1)
    have hfin := foldl_take encTab st hT
    generalize (S.tabs.take k).foldl encTab st = out at hsz hfin ⊢
    obtain ⟨T, ⟨ca, can, cac⟩, ⟨xa, xan, xac⟩, ⟨ka, kan, kac⟩⟩ := p
    dsimp only at hT hTs hP hct hfin
    have hcan : can = T.cols.length := hP.c.len
    have hxan : xan = T.idxs.length := hP.x.len
    have hkan : kan = T.keys.length := hP.k.len
    have b2 := num_size T.id
    have b3 := txt_size T.name
    have b4 := encCols_size hTs.cols
    have b5 := num_size (T.idxs.length : Nat)
    have b6 := num_size (T.keys.length : Nat)
    have b7 := hTs.name
    have hTc : T.cost = 1 + T.cols.length + T.idxs.length + T.keys.length := rfl
    obtain ⟨C, hC⟩ : ∃ C, C = ((S.tabs.take k).map Tab.cost).sum := ⟨_, rfl⟩
    rw [← hC] at hsz hct
    simp only [RP_guard, W.guard_iff, RP_unSome, W.unSome_some]
    refine ⟨by omega, ?_⟩
    refine ld_has_z hh (y := (T.id, T.name, (ca, can, cac), (xa, xan, xac), (ka, kan, kac), ())) rfl ?_
    refine W.callQ_of ((num T.id, ()), ()) (c_Num _ s2) rfl ?_
    refine ⟨by dsimp only; omega, ?_⟩
    refine W.callQ_of ((txt T.name, ()), ()) (c_text b7 s2) rfl ?_
    refine ⟨by dsimp only; (try simp only [size_app]); omega, ?_⟩
    refine W.callQ_of ((encCols T.cols, ()), ()) (c_encC (t := (ca, can, cac)) hP.c (show T.cols.length ≤ 1000 by omega) hTs.cols) rfl ?_
    refine ⟨by dsimp only; (try simp only [size_app]); omega, ?_⟩
    refine W.callQ_of ((num xan, ()), ()) (c_Num _ s2) rfl ?_
    rw [hxan]
    refine ⟨by dsimp only; (try simp only [size_app]); omega, ?_⟩
    obtain ⟨o1, ho1⟩ : ∃ o1, o1 = out ++ num T.id ++ txt T.name ++ encCols T.cols ++ num T.idxs.length := ⟨_, rfl⟩
    have so1 : o1.size ≤ out.size + 300000000000000 + T.cols.length * 1125899906842624 := by rw [ho1]; simp only [size_app]; omega
    dsimp only
    rw [← ho1, ← hxan]
    refine ⟨fun z s' => ∃ j : Nat, z = ((S.version, S.last, (some ad, an, ac), ()), ((T.idxs.take j).foldl encIdx o1, ()), ((k : Int), ()), (T.id, T.name, (ca, can, cac), (xa, xan, xac), (ka, kan, kac), ()), ((j : Int), ()), ()) ∧ j ≤ xan ∧ s' = s2, fun z _ => xan - z.2.2.2.2.1.1.toNat, ⟨0, rfl, Nat.zero_le _, rfl⟩, ?_⟩
    rintro _ s2 ⟨j, rfl, hj, rfl⟩
    simp only [W.br_iff, decide_eq_true_eq, decide_eq_false_iff_not]
    refine ⟨fun hlt2 => ?_, fun hge2 => ?_⟩
    · have hlt2 : j < xan := by omega
      obtain ⟨x, hx⟩ : ∃ x, T.idxs[j]? = some x := ⟨_, List.getElem?_eq_getElem (by omega)⟩
      obtain ⟨ad2, had2, hh2⟩ := hP.x.el.at_enc hx
      dsimp only at had2; subst had2
      have hxs := hTs.idxs x (get_mem hx)
      have hsz2 := fold_size (f := encIdx) (b := 1125899906842624) (T.idxs.take j) o1 fun x hx t => encIdx_size (hTs.idxs x (take_mem hx)) t
      rw [List.length_take, show min j T.idxs.length = j by omega] at hsz2
      have hfin2 := foldl_take encIdx o1 hx
      generalize (T.idxs.take j).foldl encIdx o1 = out2 at hsz2 hfin2 ⊢
      have c1 := num_size x.id
      have c2 := txt_size x.name
      have c3 := num_size x.column
      have c4 := num_size x.state
      have c5 := flag_size x.unique
      refine ⟨by omega, ?_⟩
      simp only [W.unSome_some]
      refine ld_has_z hh2 (y := (x.id, x.name, x.column, x.unique, x.state, ())) rfl ?_
      refine W.callQ_of ((num x.id, ()), ()) (c_Num _ s2) rfl ?_
      refine ⟨by dsimp only; (try simp only [size_app]); omega, ?_⟩
      refine W.callQ_of ((txt x.name, ()), ()) (c_text hxs s2) rfl ?_
      refine ⟨by dsimp only; (try simp only [size_app]); omega, ?_⟩
      refine W.callQ_of ((num x.column, ()), ()) (c_Num _ s2) rfl ?_
      refine ⟨by dsimp only; (try simp only [size_app]); omega, ?_⟩
      refine W.callQ_of ((flagB x.unique, ()), ()) (c_flag _ s2) rfl ?_
      refine ⟨by dsimp only; (try simp only [size_app]); omega, ?_⟩
      refine W.callQ_of ((num x.state, ()), ()) (c_Num _ s2) rfl ?_
      refine ⟨by dsimp only; (try simp only [size_app]); omega, ?_⟩
      rw [wrap_succ (k := j) (by omega)]
      refine ⟨⟨j + 1, ?_, by omega, rfl⟩, ?_⟩
      · rw [hfin2]; (first | done | rfl)
      · simp only [Int.toNat_natCast]; omega
    · have hall : T.idxs.take j = T.idxs := List.take_of_length_le (by omega)
      rw [hall]
      have hsz2 := fold_size (f := encIdx) (b := 1125899906842624) T.idxs o1 fun x hx t => encIdx_size (hTs.idxs x hx) t
      obtain ⟨o2, ho2⟩ : ∃ o2, o2 = T.idxs.foldl encIdx o1 := ⟨_, rfl⟩
      rw [← ho2] at hsz2 ⊢
      refine W.call_of (c_Num _ s2) ?_
      rintro _ s2 ⟨rfl, rfl⟩
      refine ⟨((num kan, ()), ()), rfl, ?_⟩
      rw [hkan]
      refine ⟨by dsimp only; omega, ?_⟩
      dsimp only
      rw [← hkan]
      refine ⟨fun z s' => ∃ j : Nat, z = ((S.version, S.last, (some ad, an, ac), ()), ((T.keys.take j).foldl encKey (o2 ++ num T.keys.length), ()), ((k : Int), ()), (T.id, T.name, (ca, can, cac), (xa, xan, xac), (ka, kan, kac), ()), ((j : Int), ()), ()) ∧ j ≤ kan ∧ Fw.Mod [] s2 s', fun z _ => kan - z.2.2.2.2.1.1.toNat, ⟨0, by rw [hkan]; (first | done | rfl), Nat.zero_le _, Mod.refl _ _⟩, ?_⟩
      rintro _ s3 ⟨j, rfl, hj, m3⟩
      simp only [W.br_iff, decide_eq_true_eq, decide_eq_false_iff_not]
      refine ⟨fun hlt2 => ?_, fun hge2 => ?_⟩
      · have hlt2 : j < kan := by omega
        obtain ⟨x, hx⟩ : ∃ x, T.keys[j]? = some x := ⟨_, List.getElem?_eq_getElem (by omega)⟩
        obtain ⟨ad2, had2, hh2⟩ := (hP.k.mono m3.le).el.at_enc hx
        dsimp only at had2; subst had2
        have hxs := hTs.keys x (get_mem hx)
        have hsz3 := fold_size (f := encKey) (b := 1125899906842624) (T.keys.take j) (o2 ++ num T.keys.length) fun x hx t => encKey_size (hTs.keys x (take_mem hx)) t
        rw [List.length_take, show min j T.keys.length = j by omega, size_app] at hsz3
        have hfin2 := foldl_take encKey (o2 ++ num T.keys.length) hx
        generalize (T.keys.take j).foldl encKey (o2 ++ num T.keys.length) = out2 at hsz3 hfin2 ⊢
        have c1 := num_size x.id
        have c2 := txt_size x.name
        have c3 := numsB_size [x.column, x.parent, x.state]
        simp only [List.length_cons, List.length_nil] at c3
        refine ⟨by omega, ?_⟩
        simp only [W.unSome_some]
        refine ld_has_z hh2 (y := (x.id, x.name, x.column, x.parent, x.state, ())) rfl ?_
        refine W.callQ_of ((num x.id, ()), ()) (c_Num _ s3) rfl ?_
        refine ⟨by dsimp only; (try simp only [size_app]); omega, ?_⟩
        refine W.callQ_of ((txt x.name, ()), ()) (c_text hxs s3) rfl ?_
        refine ⟨by dsimp only; (try simp only [size_app]); omega, ?_⟩
        refine W.nw_of fun r3 s4 hr3 m4 k4 => ?_
        refine W.call_of (c_nums (l := [x.column, x.parent, x.state]) (nums_lit (l := [x.column, x.parent, x.state]) k4) (by simp)) ?_
        rintro _ s4 ⟨rfl, rfl⟩
        refine ⟨((numsB [x.column, x.parent, x.state], ()), ()), rfl, ?_⟩
        refine ⟨by dsimp only; (try simp only [size_app]); omega, ?_⟩
        rw [wrap_succ (k := j) (by omega)]
        refine ⟨⟨j + 1, ?_, by omega, m3.trans m4⟩, ?_⟩
        · rw [hfin2]; (first | done | rfl)
        · simp only [Int.toNat_natCast]; omega
      · have hall : T.keys.take j = T.keys := List.take_of_length_le (by omega)
        rw [hall, wrap_succ (k := k) (by omega)]
        refine ⟨⟨k + 1, ?_, by omega, m2.trans m3⟩, ?_⟩
        · rw [hfin, ho2, ho1]; (first | done | rfl)
        · simp only [Int.toNat_natCast]; omega
  · have hall : S.tabs.take k = S.tabs := List.take_of_length_le (by omega)
    rw [hall]
    exact ⟨rfl, m2⟩
theorem c_same {s : PH} {t t' : Tri} {S S' : Sch} {ps ps' : List TabP} (h : SchIs s t S ps) (h' : SchIs s t' S' ps') (hsm : S.Sm) (hsm' : S'.Sm) : DCalls Try.prog 16 #[schV S t, schV S' t'] s fun y s' => y = .bool (decide (encS S = encS S')) ∧ s' = s := by
  refine ok_same S.version S.last t.1 t.2.1 t.2.2 S'.version S'.last t'.1 t'.2.1 t'.2.2 _ s ?_
  unfold vc_same
  simp only [RP_callQ]
  refine W.callQ_of ((encS S, ()), ()) (c_encS h hsm) rfl ?_
  refine W.callQ_of ((encS S', ()), ()) (c_encS h' hsm') rfl ?_
  simp [toList_beq]
end Go.Proofs.Ythepfbcgpbkbdaa
end
section
set_option linter.unusedVariables false
set_option linter.unusedSimpArgs false
set_option maxHeartbeats 1000000
set_option maxRecDepth 100000
namespace Go.Proofs.Ythepfbcgpbkbdaa
open Fw Go
attribute [-simp] Fw.W.ld_iff Fw.W.st_iff
def upTo (c : Nat → Bool) (k : Nat) : Bool := (List.range k).all c
theorem upTo_zero (c : Nat → Bool) : upTo c 0 = true := rfl
theorem upTo_succ (c : Nat → Bool) (k : Nat) : upTo c (k + 1) = (upTo c k && c k) := by
  unfold upTo; rw [List.range_succ, List.all_append]; simp
theorem upTo_no {c : Nat → Bool} {k n : Nat} (h : c k = false) (hk : k < n) : upTo c n = false := by
  have key : ∀ d, upTo c (k + 1 + d) = false := by
    intro d
    induction d with
    | zero => rw [Nat.add_zero, upTo_succ, h, Bool.and_false]
    | succ d ih => rw [← Nat.add_assoc, upTo_succ, ih, Bool.false_and]
  have := key (n - (k + 1))
  rwa [show k + 1 + (n - (k + 1)) = n by omega] at this
theorem upTo_iff {c : Nat → Bool} {n : Nat} : upTo c n = true ↔ ∀ i, i < n → c i = true := by
  unfold upTo; simp [List.all_eq_true]
def condI {α : Type} (p : Nat → α → Bool) (xs : List α) (i : Nat) : Bool := match xs[i]? with | some x => p i x | none => true
theorem condI_at {α : Type} {p : Nat → α → Bool} {xs : List α} {i : Nat} {x : α} (h : xs[i]? = some x) : condI p xs i = p i x := by unfold condI; rw [h]
def allI {α : Type} (p : Nat → α → Bool) (xs : List α) : Bool := upTo (condI p xs) xs.length
def stateB (n : Int) : Bool := decide (1 ≤ n) && decide (n ≤ 3)
def nameC (xs : List Col) (i : Nat) (x : Col) : Bool := named x.name && decide (seek (fun y : Col => decide (y.name = x.name)) xs 0 = i)
def nameX (xs : List Idx) (i : Nat) (x : Idx) : Bool := named x.name && decide (seek (fun y : Idx => decide (y.name = x.name)) xs 0 = i)
def nameF (xs : List For) (i : Nat) (x : For) : Bool := named x.name && decide (seek (fun y : For => decide (y.name = x.name)) xs 0 = i)
def nameT (xs : List Tab) (i : Nat) (x : Tab) : Bool := named x.name && decide (seek (fun y : Tab => decide (y.name = x.name)) xs 0 = i)
def namesB {α : Type} (p : List α → Nat → α → Bool) (least most : Int) (xs : List α) : Bool := decide (least ≤ xs.length) && (decide ((xs.length : Int) ≤ most) && allI (p xs) xs)
def runIds (last : Int) : List Int → List Int → Bool
  | [], _ => true
  | n :: l, seen => (decide (1 ≤ n) && decide (n ≤ last)) && (!decide (n ∈ seen) && runIds last l (n :: seen))
def idsOf (T : Tab) : List Int := T.id :: (T.cols.map (·.id) ++ (T.idxs.map (·.id) ++ T.keys.map (·.id)))
def colB (_ : Nat) (c : Col) : Bool := stateB c.state && (typed c.kind && fits c.dflt c.kind)
def idxB (T : Tab) (_ : Nat) (x : Idx) : Bool := stateB x.state && decide (0 ≤ colOf T x.column)
def parB (S : Sch) (T : Tab) (x : For) : Bool :=
  match S.tabs[(tabOf S x.parent).toNat]?, T.cols[(colOf T x.column).toNat]? with
  | some P, some c => (match P.cols with | c0 :: _ => decide (c.kind = c0.kind) | [] => false)
  | _, _ => false
def keyB (S : Sch) (T : Tab) (_ : Nat) (x : For) : Bool := stateB x.state && (decide (0 ≤ colOf T x.column) && (decide (0 ≤ tabOf S x.parent) && parB S T x))
def first3 (T : Tab) : Bool := match T.cols with | c :: _ => decide (c.state = 3) | [] => false
def tabB (S : Sch) (T : Tab) : Bool := namesB nameC 1 8 T.cols && (namesB nameX 0 8 T.idxs && (namesB nameF 0 8 T.keys && (first3 T && (allI colB T.cols && (allI (idxB T) T.idxs && allI (keyB S T) T.keys)))))
def headB (S : Sch) : Bool := decide (0 ≤ S.version) && (decide (S.version ≤ 1125899906842624) && (decide (0 ≤ S.last) && decide (S.last ≤ 1125899906842624)))
def right (S : Sch) : Bool := headB S && (namesB nameT 0 6 S.tabs && (allI (fun _ T => tabB S T) S.tabs && runIds S.last (S.tabs.flatMap idsOf) []))
theorem runIds_app (last : Int) : ∀ (a b seen : List Int), runIds last (a ++ b) seen = (runIds last a seen && runIds last b (a.reverse ++ seen))
  | [], b, seen => by simp [runIds]
  | n :: a, b, seen => by
    simp only [List.cons_append, runIds, runIds_app last a b, List.reverse_cons, List.append_assoc, List.nil_append, List.cons_append]
    cases decide (1 ≤ n) && decide (n ≤ last) <;> cases !decide (n ∈ seen) <;> simp
def boolV (b : Bool) : Value := .bool b
/-- the checker's own, at c; its map at m; what it has seen, if all is well -/
structure Ck (s : PH) (c m : Nat) (last : Int) (bad : Bool) (seen : List Int) : Prop where
  cell : s c = some (.cells #[.int .i64 last, .map (some m), .bool bad] 114 (0, 0))
  map : ∃ f, isMap (intKey .i64) boolV s m f ∧ (bad = false → ∀ n, f.lookup n = if n ∈ seen then some true else none)
theorem Ck.ne {s : PH} {c m : Nat} {last : Int} {bad : Bool} {seen : List Int} (h : Ck s c m last bad seen) : c ≠ m := by
  rintro rfl
  obtain ⟨f, ⟨es, k, h1, _⟩, _⟩ := h.map
  rw [h.cell] at h1; cases h1
theorem Ck.mod {s s' : PH} {c m : Nat} {last : Int} {bad : Bool} {seen : List Int} {M : List Nat} (h : Ck s c m last bad seen) (hm : Fw.Mod M s s') (hc : c ∉ M) (hmm : m ∉ M) : Ck s' c m last bad seen := by
  obtain ⟨f, hf, hs⟩ := h.map
  exact ⟨hm.at h.cell hc, f, hf.mod hm hmm, hs⟩
/-- its verdict is laid anew -/
theorem Ck.lay {s : PH} {c m : Nat} {last : Int} {bad bad' : Bool} {seen : List Int} (h : Ck s c m last bad seen) (hb : bad' = false → bad = false) {o : Obj} (ho : o = .cells #[.int .i64 last, .map (some m), .bool bad'] 114 (0, 0) := by rfl) : Ck (s.upd c o) c m last bad' seen := by
  subst ho
  obtain ⟨f, hf, hs⟩ := h.map
  exact ⟨PH.upd_same _ _ _, f, hf.other h.ne.symm, fun e => hs (hb e)⟩
def CkPost (c m : Nat) (last : Int) (bad : Bool) (seen : List Int) (s : PH) (x : Value) (s' : PH) : Prop := x = .tuple #[] ∧ Ck s' c m last bad seen ∧ Fw.Mod [c, m] s s'
section
variable {s : PH} {c m : Nat} {last : Int} {bad : Bool} {seen : List Int}
theorem ck_put {n : Int} {bad' : Bool} {K : W.T} (h : Ck s c m last bad seen) (hb : bad' = false → bad = false) (hK : ∀ s', Ck s' c m last bad' (n :: seen) → Fw.Mod [c, m] s s' → K s') :
    W.unSome (some (Addr.mk c 0 none)) (fun p => W.st (p.add 2) [.bool bad'] (W.unSome (some (Addr.mk c 0 none)) fun p => W.ld [.map] (p.add 1) fun x => W.mset (TypeDesc.int .i64) x.1 (.int .i64 n) (.bool true) K)) s := by
  have hc := h.cell
  simp only [W.unSome_some, add_mk, Nat.zero_add]
  rw [W.st_at hc]
  refine ⟨by simp, by simp, by simp [Value.oneCell'], ?_⟩
  show W.unSome _ _ (s.upd c (.cells #[.int .i64 last, .map (some m), .bool bad'] 114 (0, 0)))
  have h1 : Ck (s.upd c (.cells #[.int .i64 last, .map (some m), .bool bad'] 114 (0, 0))) c m last bad' seen := h.lay hb
  have hc1 := h1.cell
  simp [W.ld_at hc1]
  obtain ⟨f, hf, hs⟩ := h1.map
  refine mset_of (ke := intKey .i64) hf (v := true) fun o ho => ?_
  refine hK _ ⟨upd_at hc1 h1.ne o, _, ho, fun e k => ?_⟩ ((Mod.upd (L := [c, m]) (by simp)).updLater (.inl (by simp)))
  rw [lookup_aset, hs e]
  by_cases hk : k = n
  · subst hk; simp
  · have : (k == n) = false := by simpa using hk
    simp [this, hk]
theorem c_ckId (h : Ck s c m last bad seen) (n : Int) : DCalls Try.prog 92 #[cp c, .int .i64 n] s (CkPost c m last (bad || !((decide (1 ≤ n) && decide (n ≤ last)) && !decide (n ∈ seen))) (n :: seen) s) := by
  refine ok_ckId c n _ s ?_
  unfold vc_ckId
  have hc := h.cell
  simp [W.br_iff, W.ld_at hc]
  have fin : ∀ b', (b' = false → bad = false) → b' = (bad || !((decide (1 ≤ n) && decide (n ≤ last)) && !decide (n ∈ seen))) → W.unSome (some (Addr.mk c 0 none)) (fun p => W.st (p.add 2) [.bool b'] (W.unSome (some (Addr.mk c 0 none)) fun p => W.ld [.map] (p.add 1) fun x => W.mset (TypeDesc.int .i64) x.1 (.int .i64 n) (.bool true)
      (W.ret (CkPost c m last (bad || !((decide (1 ≤ n) && decide (n ≤ last)) && !decide (n ∈ seen))) (n :: seen) s) (.tuple #[])))) s := by
    intro b' hb he
    refine ck_put h hb fun s' h' m' => ?_
    rw [he] at h'
    exact ⟨rfl, h', m'⟩
  have fin' := fun b' h1 h2 => by have := fin b' h1 h2; simp at this; exact this
  refine ⟨fun hb => fin' true (fun e => by cases e) (by rw [hb]; (first | done | rfl)), fun hb => ⟨fun h1 => fin' true (fun e => by cases e) (by rw [decide_eq_false (p := 1 ≤ n) (by omega)]; simp), fun h1 => ⟨fun h2 => fin' true (fun e => by cases e) (by rw [decide_eq_false (p := n ≤ last) (by omega)]; simp), fun h2 => ?_⟩⟩⟩
  obtain ⟨f, hf, hs⟩ := h.map
  refine look_of (ke := intKey .i64) hf (key := n) ?_
  rw [hs hb n]
  by_cases hn : n ∈ seen
  · rw [if_pos hn]
    refine ⟨(true, ()), rfl, ?_⟩
    simp only [W.unSome_some, add_mk, Nat.zero_add]
    exact fin' true (fun e => by cases e) (by simp [hn])
  · rw [if_neg hn]
    refine ⟨(false, ()), rfl, ?_⟩
    simp only [W.unSome_some, add_mk, Nat.zero_add]
    exact fin' false (fun _ => hb) (by simp [hn, hb]; omega)
theorem c_ckState (h : Ck s c m last bad seen) (n : Int) : DCalls Try.prog 99 #[cp c, .int .i64 n] s (CkPost c m last (bad || !stateB n) seen s) := by
  refine ok_ckState c n _ s ?_
  unfold vc_ckState
  have hc := h.cell
  simp [W.ld_at hc, W.br_iff, W.st_at hc]
  have fin : ∀ b', (b' = false → bad = false) → b' = (bad || !stateB n) → CkPost c m last (bad || !stateB n) seen s (.tuple #[]) (s.upd c (.cells #[.int .i64 last, .map (some m), .bool b'] 114 (0, 0))) := by
    intro b' hb he
    rw [← he]
    exact ⟨rfl, h.lay hb, Mod.upd (by simp)⟩
  unfold stateB at fin ⊢
  refine ⟨fun hb => fin true (fun e => by cases e) (by rw [hb]; (first | done | rfl)), fun hb => ⟨fun h1 => fin true (fun e => by cases e) (by rw [decide_eq_false (p := 1 ≤ n) (by omega)]; simp), fun h1 => fin _ (fun _ => hb) ?_⟩⟩
  rw [hb, decide_eq_true (p := 1 ≤ n) (by omega)]
  by_cases h3 : n ≤ 3
  · rw [decide_eq_true h3, decide_eq_false (by omega)]; (first | done | rfl)
  · rw [decide_eq_false h3, decide_eq_true (by omega)]; (first | done | rfl)
end
theorem c_namesC {s : PH} {c m : Nat} {last : Int} {bad : Bool} {seen : List Int} (h : Ck s c m last bad seen) {a : Option Addr} {an ac : Nat} {xs : List Col} (hx : elems (Rd.enc colE) s a an xs) (hn : xs.length ≤ 4294967296)
    (hd : ∀ s', Fw.Mod [c, m] s s' → elems (Rd.enc colE) s' a an xs) (least most : Int) : DCalls Try.prog 93 #[cp c, .slice a an ac, .int .i64 least, .int .i64 most, .func (.func 94) #[] #[]] s (CkPost c m last (bad || !namesB nameC least most xs) seen s) := by
  refine ok_namesC c a an ac least most _ s ?_
  unfold vc_namesC
  have hc := h.cell
  have hlen := hx.1
  have hll : xs.length = xs.length := by simp
  simp only [RP_join]
  refine W.join_gen (fun _ s' => Ck s' c m last (bad || !(decide (least ≤ xs.length) && decide ((xs.length : Int) ≤ most))) seen ∧ Fw.Mod [c, m] s s') ?_ ?_
  · rintro _ s1 ⟨h1, m1⟩
    obtain ⟨bad1, hb1⟩ : ∃ b, b = (bad || !(decide (least ≤ xs.length) && decide ((xs.length : Int) ≤ most))) := ⟨_, rfl⟩
    rw [← hb1] at h1
    have hgoal : (bad || !namesB nameC least most xs) = (bad1 || !allI (nameC xs) xs) := by
      rw [hb1]; unfold namesB
      cases bad <;> cases decide (least ≤ xs.length) <;> cases decide ((xs.length : Int) ≤ most) <;> simp
    rw [hgoal]
    simp only [RP_loop]
    refine ⟨fun z s' => ∃ k : Nat, z = (((a, an, ac), ()), ((an : Int), ()), ((k : Int), ()), ()) ∧ k ≤ an ∧ Ck s' c m last bad1 seen ∧ Fw.Mod [c, m] s s' ∧ (0 < k → bad1 = false) ∧ upTo (condI (nameC xs) xs) k = true, fun z _ => an - z.2.2.1.1.toNat, ⟨0, rfl, Nat.zero_le _, h1, m1, by omega, rfl⟩, ?_⟩
    rintro _ s2 ⟨k, rfl, hk, h2, m2, hkb, hup⟩
    have hc2 := h2.cell
    have hfin : ∀ b', b' = (bad1 || !allI (nameC xs) xs) → (b' = false → bad1 = false) → CkPost c m last (bad1 || !allI (nameC xs) xs) seen s (.tuple #[]) (s2.upd c (.cells #[.int .i64 last, .map (some m), .bool b'] 114 (0, 0))) := by
      intro b' he hb; rw [← he]; exact ⟨rfl, h2.lay hb, m2.updLater (.inl (by simp))⟩
    simp [W.br_iff, W.ld_at hc2, W.st_at hc2]
    refine ⟨fun hlt => ⟨hlt, ?_⟩, fun hge => ?_⟩
    · obtain ⟨x, hxk⟩ : ∃ x, xs[k]? = some x := ⟨_, List.getElem?_eq_getElem (by omega)⟩
      have hx2 := hd s2 m2
      obtain ⟨ad, rfl, hh⟩ := hx2.at_enc hxk
      have hpk : xs[k]? = some x := by simp [hxk]
      simp only [W.unSome_some]
      refine ld_has_z hh (y := (x.id, x.name, x.kind, x.state, x.dflt.kind, x.dflt.n, x.dflt.s, ())) rfl ?_
      simp [W.br_iff, W.ld_at hc2, W.st_at hc2]
      have hno : nameC xs k x = false → allI (nameC xs) xs = false := fun e => upTo_no (k := k) (by rw [condI_at hpk]; exact e) (by omega)
      refine ⟨fun hb => ?_, fun hb => ?_⟩
      · exact hfin true (by rw [hb]; (first | done | rfl)) (fun e => by cases e)
      · refine W.call_of (c_fColumn x s2) ?_
        rintro _ s2' ⟨rfl, rfl⟩
        refine ⟨((x.name, ()), ()), rfl, ?_⟩
        refine W.call_of (c_named x.name _) ?_
        rintro _ s2' ⟨rfl, rfl⟩
        refine ⟨((named x.name, ()), ()), rfl, ?_⟩
        simp [W.br_iff, W.ld_at hc2, W.st_at hc2]
        refine ⟨fun h3 => hfin true (by rw [hno (by unfold nameC; rw [h3]; (first | done | rfl))]; simp) (fun e => by cases e), fun h3 => ?_⟩
        refine W.call_of (c_fColumn x _) ?_
        rintro _ s2' ⟨rfl, rfl⟩
        refine ⟨((x.name, ()), ()), rfl, ?_⟩
        refine W.call_of (c_findC hx2 hn x.name) ?_
        rintro _ s2' ⟨rfl, rfl⟩
        refine ⟨((seek (fun y : Col => decide (y.name = x.name)) xs 0, ()), ()), rfl, ?_⟩
        have hseek : seek (fun y : Col => decide (y.name = x.name)) xs 0 = seek (fun y : Col => decide (y.name = x.name)) xs 0 := by rfl
        simp [W.br_iff, W.ld_at hc2, W.st_at hc2, wrap_succ (k := k) (by omega)]
        refine ⟨fun h4 => ?_, fun h4 => ?_⟩
        · have e4 : (seek (fun y : Col => decide (y.name = x.name)) xs 0 != (k : Int)) = true := by simpa using h4
          rw [e4]
          exact hfin true (by rw [hno (by unfold nameC; rw [h3, hseek]; simpa using h4)]; simp) (fun e => by cases e)
        · have e4 : (seek (fun y : Col => decide (y.name = x.name)) xs 0 != (k : Int)) = false := by simpa using h4
          rw [e4]
          have hyes : nameC xs k x = true := by unfold nameC; rw [h3, hseek]; simpa using h4
          refine ⟨⟨k + 1, by simp, hlt, ?_, m2.updLater (.inl (by simp)), fun _ => hb, by rw [upTo_succ, hup, condI_at hpk, hyes]; (first | done | rfl)⟩, by omega⟩
          rw [hb]; exact h2.lay (fun _ => hb)
    · have hke : k = xs.length := by omega
      have hall : allI (nameC xs) xs = true := by unfold allI; rw [← hke]; exact hup
      rw [hall]
      refine ⟨rfl, ?_, m2⟩
      simpa using h2
  · intro J hJ
    simp [W.ld_at hc, W.br_iff, W.st_at hc]
    have fin : ∀ b', (b' = false → bad = false) → b' = (bad || !(decide (least ≤ xs.length) && decide ((xs.length : Int) ≤ most))) → J () (s.upd c (.cells #[.int .i64 last, .map (some m), .bool b'] 114 (0, 0))) := by
      intro b' hb he
      refine hJ _ _ ⟨?_, Mod.upd (by simp)⟩
      rw [← he]; exact h.lay hb
    refine ⟨fun hb => fin true (fun e => by cases e) (by rw [hb]; (first | done | rfl)), fun hb => ⟨fun h1 => fin true (fun e => by cases e) (by rw [decide_eq_false (p := least ≤ xs.length) (by omega)]; simp), fun h1 => fin _ (fun _ => hb) ?_⟩⟩
    rw [hb, decide_eq_true (p := least ≤ xs.length) (by omega)]
    by_cases h3 : (xs.length : Int) ≤ most
    · rw [decide_eq_true h3, decide_eq_false (by omega)]; (first | done | rfl)
    · rw [decide_eq_false h3, decide_eq_true (by omega)]; (first | done | rfl)
theorem c_namesX {s : PH} {c m : Nat} {last : Int} {bad : Bool} {seen : List Int} (h : Ck s c m last bad seen) {a : Option Addr} {an ac : Nat} {xs : List Idx} (hx : elems (Rd.enc idxE) s a an xs) (hn : xs.length ≤ 4294967296)
    (hd : ∀ s', Fw.Mod [c, m] s s' → elems (Rd.enc idxE) s' a an xs) (least most : Int) : DCalls Try.prog 95 #[cp c, .slice a an ac, .int .i64 least, .int .i64 most, .func (.func 96) #[] #[]] s (CkPost c m last (bad || !namesB nameX least most xs) seen s) := by
  refine ok_namesX c a an ac least most _ s ?_
  unfold vc_namesX
  have hc := h.cell
  have hlen := hx.1
  have hll : xs.length = xs.length := by simp
  simp only [RP_join]
  refine W.join_gen (fun _ s' => Ck s' c m last (bad || !(decide (least ≤ xs.length) && decide ((xs.length : Int) ≤ most))) seen ∧ Fw.Mod [c, m] s s') ?_ ?_
  · rintro _ s1 ⟨h1, m1⟩
    obtain ⟨bad1, hb1⟩ : ∃ b, b = (bad || !(decide (least ≤ xs.length) && decide ((xs.length : Int) ≤ most))) := ⟨_, rfl⟩
    rw [← hb1] at h1
    have hgoal : (bad || !namesB nameX least most xs) = (bad1 || !allI (nameX xs) xs) := by
      rw [hb1]; unfold namesB
      cases bad <;> cases decide (least ≤ xs.length) <;> cases decide ((xs.length : Int) ≤ most) <;> simp
    rw [hgoal]
    simp only [RP_loop]
    refine ⟨fun z s' => ∃ k : Nat, z = (((a, an, ac), ()), ((an : Int), ()), ((k : Int), ()), ()) ∧ k ≤ an ∧ Ck s' c m last bad1 seen ∧ Fw.Mod [c, m] s s' ∧ (0 < k → bad1 = false) ∧ upTo (condI (nameX xs) xs) k = true, fun z _ => an - z.2.2.1.1.toNat, ⟨0, rfl, Nat.zero_le _, h1, m1, by omega, rfl⟩, ?_⟩
    rintro _ s2 ⟨k, rfl, hk, h2, m2, hkb, hup⟩
    have hc2 := h2.cell
    have hfin : ∀ b', b' = (bad1 || !allI (nameX xs) xs) → (b' = false → bad1 = false) → CkPost c m last (bad1 || !allI (nameX xs) xs) seen s (.tuple #[]) (s2.upd c (.cells #[.int .i64 last, .map (some m), .bool b'] 114 (0, 0))) := by
      intro b' he hb; rw [← he]; exact ⟨rfl, h2.lay hb, m2.updLater (.inl (by simp))⟩
    simp [W.br_iff, W.ld_at hc2, W.st_at hc2]
    refine ⟨fun hlt => ⟨hlt, ?_⟩, fun hge => ?_⟩
    · obtain ⟨x, hxk⟩ : ∃ x, xs[k]? = some x := ⟨_, List.getElem?_eq_getElem (by omega)⟩
      have hx2 := hd s2 m2
      obtain ⟨ad, rfl, hh⟩ := hx2.at_enc hxk
      have hpk : xs[k]? = some x := by simp [hxk]
      simp only [W.unSome_some]
      refine ld_has_z hh (y := (x.id, x.name, x.column, x.unique, x.state, ())) rfl ?_
      simp [W.br_iff, W.ld_at hc2, W.st_at hc2]
      have hno : nameX xs k x = false → allI (nameX xs) xs = false := fun e => upTo_no (k := k) (by rw [condI_at hpk]; exact e) (by omega)
      refine ⟨fun hb => ?_, fun hb => ?_⟩
      · exact hfin true (by rw [hb]; (first | done | rfl)) (fun e => by cases e)
      · refine W.call_of (c_fIndex x s2) ?_
        rintro _ s2' ⟨rfl, rfl⟩
        refine ⟨((x.name, ()), ()), rfl, ?_⟩
        refine W.call_of (c_named x.name _) ?_
        rintro _ s2' ⟨rfl, rfl⟩
        refine ⟨((named x.name, ()), ()), rfl, ?_⟩
        simp [W.br_iff, W.ld_at hc2, W.st_at hc2]
        refine ⟨fun h3 => hfin true (by rw [hno (by unfold nameX; rw [h3]; (first | done | rfl))]; simp) (fun e => by cases e), fun h3 => ?_⟩
        refine W.call_of (c_fIndex x _) ?_
        rintro _ s2' ⟨rfl, rfl⟩
        refine ⟨((x.name, ()), ()), rfl, ?_⟩
        refine W.call_of (c_findX hx2 hn x.name) ?_
        rintro _ s2' ⟨rfl, rfl⟩
        refine ⟨((seek (fun y : Idx => decide (y.name = x.name)) xs 0, ()), ()), rfl, ?_⟩
        have hseek : seek (fun y : Idx => decide (y.name = x.name)) xs 0 = seek (fun y : Idx => decide (y.name = x.name)) xs 0 := by rfl
        simp [W.br_iff, W.ld_at hc2, W.st_at hc2, wrap_succ (k := k) (by omega)]
        refine ⟨fun h4 => ?_, fun h4 => ?_⟩
        · have e4 : (seek (fun y : Idx => decide (y.name = x.name)) xs 0 != (k : Int)) = true := by simpa using h4
          rw [e4]
          exact hfin true (by rw [hno (by unfold nameX; rw [h3, hseek]; simpa using h4)]; simp) (fun e => by cases e)
        · have e4 : (seek (fun y : Idx => decide (y.name = x.name)) xs 0 != (k : Int)) = false := by simpa using h4
          rw [e4]
          have hyes : nameX xs k x = true := by unfold nameX; rw [h3, hseek]; simpa using h4
          refine ⟨⟨k + 1, by simp, hlt, ?_, m2.updLater (.inl (by simp)), fun _ => hb, by rw [upTo_succ, hup, condI_at hpk, hyes]; (first | done | rfl)⟩, by omega⟩
          rw [hb]; exact h2.lay (fun _ => hb)
    · have hke : k = xs.length := by omega
      have hall : allI (nameX xs) xs = true := by unfold allI; rw [← hke]; exact hup
      rw [hall]
      refine ⟨rfl, ?_, m2⟩
      simpa using h2
  · intro J hJ
    simp [W.ld_at hc, W.br_iff, W.st_at hc]
    have fin : ∀ b', (b' = false → bad = false) → b' = (bad || !(decide (least ≤ xs.length) && decide ((xs.length : Int) ≤ most))) → J () (s.upd c (.cells #[.int .i64 last, .map (some m), .bool b'] 114 (0, 0))) := by
      intro b' hb he
      refine hJ _ _ ⟨?_, Mod.upd (by simp)⟩
      rw [← he]; exact h.lay hb
    refine ⟨fun hb => fin true (fun e => by cases e) (by rw [hb]; (first | done | rfl)), fun hb => ⟨fun h1 => fin true (fun e => by cases e) (by rw [decide_eq_false (p := least ≤ xs.length) (by omega)]; simp), fun h1 => fin _ (fun _ => hb) ?_⟩⟩
    rw [hb, decide_eq_true (p := least ≤ xs.length) (by omega)]
    by_cases h3 : (xs.length : Int) ≤ most
    · rw [decide_eq_true h3, decide_eq_false (by omega)]; (first | done | rfl)
    · rw [decide_eq_false h3, decide_eq_true (by omega)]; (first | done | rfl)
theorem c_namesF {s : PH} {c m : Nat} {last : Int} {bad : Bool} {seen : List Int} (h : Ck s c m last bad seen) {a : Option Addr} {an ac : Nat} {xs : List For} (hx : elems (Rd.enc forE) s a an xs) (hn : xs.length ≤ 4294967296)
    (hd : ∀ s', Fw.Mod [c, m] s s' → elems (Rd.enc forE) s' a an xs) (least most : Int) : DCalls Try.prog 97 #[cp c, .slice a an ac, .int .i64 least, .int .i64 most, .func (.func 98) #[] #[]] s (CkPost c m last (bad || !namesB nameF least most xs) seen s) := by
  refine ok_namesF c a an ac least most _ s ?_
  unfold vc_namesF
  have hc := h.cell
  have hlen := hx.1
  have hll : xs.length = xs.length := by simp
  simp only [RP_join]
  refine W.join_gen (fun _ s' => Ck s' c m last (bad || !(decide (least ≤ xs.length) && decide ((xs.length : Int) ≤ most))) seen ∧ Fw.Mod [c, m] s s') ?_ ?_
  · rintro _ s1 ⟨h1, m1⟩
    obtain ⟨bad1, hb1⟩ : ∃ b, b = (bad || !(decide (least ≤ xs.length) && decide ((xs.length : Int) ≤ most))) := ⟨_, rfl⟩
    rw [← hb1] at h1
    have hgoal : (bad || !namesB nameF least most xs) = (bad1 || !allI (nameF xs) xs) := by
      rw [hb1]; unfold namesB
      cases bad <;> cases decide (least ≤ xs.length) <;> cases decide ((xs.length : Int) ≤ most) <;> simp
    rw [hgoal]
    simp only [RP_loop]
    refine ⟨fun z s' => ∃ k : Nat, z = (((a, an, ac), ()), ((an : Int), ()), ((k : Int), ()), ()) ∧ k ≤ an ∧ Ck s' c m last bad1 seen ∧ Fw.Mod [c, m] s s' ∧ (0 < k → bad1 = false) ∧ upTo (condI (nameF xs) xs) k = true, fun z _ => an - z.2.2.1.1.toNat, ⟨0, rfl, Nat.zero_le _, h1, m1, by omega, rfl⟩, ?_⟩
    rintro _ s2 ⟨k, rfl, hk, h2, m2, hkb, hup⟩
    have hc2 := h2.cell
    have hfin : ∀ b', b' = (bad1 || !allI (nameF xs) xs) → (b' = false → bad1 = false) → CkPost c m last (bad1 || !allI (nameF xs) xs) seen s (.tuple #[]) (s2.upd c (.cells #[.int .i64 last, .map (some m), .bool b'] 114 (0, 0))) := by
      intro b' he hb; rw [← he]; exact ⟨rfl, h2.lay hb, m2.updLater (.inl (by simp))⟩
    simp [W.br_iff, W.ld_at hc2, W.st_at hc2]
    refine ⟨fun hlt => ⟨hlt, ?_⟩, fun hge => ?_⟩
    · obtain ⟨x, hxk⟩ : ∃ x, xs[k]? = some x := ⟨_, List.getElem?_eq_getElem (by omega)⟩
      have hx2 := hd s2 m2
      obtain ⟨ad, rfl, hh⟩ := hx2.at_enc hxk
      have hpk : xs[k]? = some x := by simp [hxk]
      simp only [W.unSome_some]
      refine ld_has_z hh (y := (x.id, x.name, x.column, x.parent, x.state, ())) rfl ?_
      simp [W.br_iff, W.ld_at hc2, W.st_at hc2]
      have hno : nameF xs k x = false → allI (nameF xs) xs = false := fun e => upTo_no (k := k) (by rw [condI_at hpk]; exact e) (by omega)
      refine ⟨fun hb => ?_, fun hb => ?_⟩
      · exact hfin true (by rw [hb]; (first | done | rfl)) (fun e => by cases e)
      · refine W.call_of (c_fForeign x s2) ?_
        rintro _ s2' ⟨rfl, rfl⟩
        refine ⟨((x.name, ()), ()), rfl, ?_⟩
        refine W.call_of (c_named x.name _) ?_
        rintro _ s2' ⟨rfl, rfl⟩
        refine ⟨((named x.name, ()), ()), rfl, ?_⟩
        simp [W.br_iff, W.ld_at hc2, W.st_at hc2]
        refine ⟨fun h3 => hfin true (by rw [hno (by unfold nameF; rw [h3]; (first | done | rfl))]; simp) (fun e => by cases e), fun h3 => ?_⟩
        refine W.call_of (c_fForeign x _) ?_
        rintro _ s2' ⟨rfl, rfl⟩
        refine ⟨((x.name, ()), ()), rfl, ?_⟩
        refine W.call_of (c_findF hx2 hn x.name) ?_
        rintro _ s2' ⟨rfl, rfl⟩
        refine ⟨((seek (fun y : For => decide (y.name = x.name)) xs 0, ()), ()), rfl, ?_⟩
        have hseek : seek (fun y : For => decide (y.name = x.name)) xs 0 = seek (fun y : For => decide (y.name = x.name)) xs 0 := by rfl
        simp [W.br_iff, W.ld_at hc2, W.st_at hc2, wrap_succ (k := k) (by omega)]
        refine ⟨fun h4 => ?_, fun h4 => ?_⟩
        · have e4 : (seek (fun y : For => decide (y.name = x.name)) xs 0 != (k : Int)) = true := by simpa using h4
          rw [e4]
          exact hfin true (by rw [hno (by unfold nameF; rw [h3, hseek]; simpa using h4)]; simp) (fun e => by cases e)
        · have e4 : (seek (fun y : For => decide (y.name = x.name)) xs 0 != (k : Int)) = false := by simpa using h4
          rw [e4]
          have hyes : nameF xs k x = true := by unfold nameF; rw [h3, hseek]; simpa using h4
          refine ⟨⟨k + 1, by simp, hlt, ?_, m2.updLater (.inl (by simp)), fun _ => hb, by rw [upTo_succ, hup, condI_at hpk, hyes]; (first | done | rfl)⟩, by omega⟩
          rw [hb]; exact h2.lay (fun _ => hb)
    · have hke : k = xs.length := by omega
      have hall : allI (nameF xs) xs = true := by unfold allI; rw [← hke]; exact hup
      rw [hall]
      refine ⟨rfl, ?_, m2⟩
      simpa using h2
  · intro J hJ
    simp [W.ld_at hc, W.br_iff, W.st_at hc]
    have fin : ∀ b', (b' = false → bad = false) → b' = (bad || !(decide (least ≤ xs.length) && decide ((xs.length : Int) ≤ most))) → J () (s.upd c (.cells #[.int .i64 last, .map (some m), .bool b'] 114 (0, 0))) := by
      intro b' hb he
      refine hJ _ _ ⟨?_, Mod.upd (by simp)⟩
      rw [← he]; exact h.lay hb
    refine ⟨fun hb => fin true (fun e => by cases e) (by rw [hb]; (first | done | rfl)), fun hb => ⟨fun h1 => fin true (fun e => by cases e) (by rw [decide_eq_false (p := least ≤ xs.length) (by omega)]; simp), fun h1 => fin _ (fun _ => hb) ?_⟩⟩
    rw [hb, decide_eq_true (p := least ≤ xs.length) (by omega)]
    by_cases h3 : (xs.length : Int) ≤ most
    · rw [decide_eq_true h3, decide_eq_false (by omega)]; (first | done | rfl)
    · rw [decide_eq_false h3, decide_eq_true (by omega)]; (first | done | rfl)
theorem c_namesT {s : PH} {c m : Nat} {last : Int} {bad : Bool} {seen : List Int} (h : Ck s c m last bad seen) {a : Option Addr} {an ac : Nat} {xs : List TabP} (hx : elems (Rd.enc tabE) s a an xs) (hn : xs.length ≤ 4294967296)
    (hd : ∀ s', Fw.Mod [c, m] s s' → elems (Rd.enc tabE) s' a an xs) (least most : Int) : DCalls Try.prog 55 #[cp c, .slice a an ac, .int .i64 least, .int .i64 most, .func (.func 46) #[] #[]] s (CkPost c m last (bad || !namesB nameT least most (xs.map (·.T))) seen s) := by
  refine ok_namesT c a an ac least most _ s ?_
  unfold vc_namesT
  have hc := h.cell
  have hlen := hx.1
  have hll : (xs.map (·.T)).length = xs.length := by simp
  simp only [RP_join]
  refine W.join_gen (fun _ s' => Ck s' c m last (bad || !(decide (least ≤ (xs.map (·.T)).length) && decide (((xs.map (·.T)).length : Int) ≤ most))) seen ∧ Fw.Mod [c, m] s s') ?_ ?_
  · rintro _ s1 ⟨h1, m1⟩
    obtain ⟨bad1, hb1⟩ : ∃ b, b = (bad || !(decide (least ≤ (xs.map (·.T)).length) && decide (((xs.map (·.T)).length : Int) ≤ most))) := ⟨_, rfl⟩
    rw [← hb1] at h1
    have hgoal : (bad || !namesB nameT least most (xs.map (·.T))) = (bad1 || !allI (nameT (xs.map (·.T))) (xs.map (·.T))) := by
      rw [hb1]; unfold namesB
      cases bad <;> cases decide (least ≤ (xs.map (·.T)).length) <;> cases decide (((xs.map (·.T)).length : Int) ≤ most) <;> simp
    rw [hgoal]
    simp only [RP_loop]
    refine ⟨fun z s' => ∃ k : Nat, z = (((a, an, ac), ()), ((an : Int), ()), ((k : Int), ()), ()) ∧ k ≤ an ∧ Ck s' c m last bad1 seen ∧ Fw.Mod [c, m] s s' ∧ (0 < k → bad1 = false) ∧ upTo (condI (nameT (xs.map (·.T))) (xs.map (·.T))) k = true, fun z _ => an - z.2.2.1.1.toNat, ⟨0, rfl, Nat.zero_le _, h1, m1, by omega, rfl⟩, ?_⟩
    rintro _ s2 ⟨k, rfl, hk, h2, m2, hkb, hup⟩
    have hc2 := h2.cell
    have hfin : ∀ b', b' = (bad1 || !allI (nameT (xs.map (·.T))) (xs.map (·.T))) → (b' = false → bad1 = false) → CkPost c m last (bad1 || !allI (nameT (xs.map (·.T))) (xs.map (·.T))) seen s (.tuple #[]) (s2.upd c (.cells #[.int .i64 last, .map (some m), .bool b'] 114 (0, 0))) := by
      intro b' he hb; rw [← he]; exact ⟨rfl, h2.lay hb, m2.updLater (.inl (by simp))⟩
    simp [W.br_iff, W.ld_at hc2, W.st_at hc2]
    refine ⟨fun hlt => ⟨hlt, ?_⟩, fun hge => ?_⟩
    · obtain ⟨x, hxk⟩ : ∃ x, xs[k]? = some x := ⟨_, List.getElem?_eq_getElem (by omega)⟩
      have hx2 := hd s2 m2
      obtain ⟨ad, rfl, hh⟩ := hx2.at_enc hxk
      have hpk : (xs.map (·.T))[k]? = some x.T := by simp [hxk]
      simp only [W.unSome_some]
      refine ld_has_z hh (y := (x.T.id, x.T.name, x.c, x.x, x.k, ())) rfl ?_
      simp [W.br_iff, W.ld_at hc2, W.st_at hc2]
      have hno : nameT (xs.map (·.T)) k x.T = false → allI (nameT (xs.map (·.T))) (xs.map (·.T)) = false := fun e => upTo_no (k := k) (by rw [condI_at hpk]; exact e) (by omega)
      refine ⟨fun hb => ?_, fun hb => ?_⟩
      · exact hfin true (by rw [hb]; (first | done | rfl)) (fun e => by cases e)
      · refine W.call_of (c_fTable x s2) ?_
        rintro _ s2' ⟨rfl, rfl⟩
        refine ⟨((x.T.name, ()), ()), rfl, ?_⟩
        refine W.call_of (c_named x.T.name _) ?_
        rintro _ s2' ⟨rfl, rfl⟩
        refine ⟨((named x.T.name, ()), ()), rfl, ?_⟩
        simp [W.br_iff, W.ld_at hc2, W.st_at hc2]
        refine ⟨fun h3 => hfin true (by rw [hno (by unfold nameT; rw [h3]; (first | done | rfl))]; simp) (fun e => by cases e), fun h3 => ?_⟩
        refine W.call_of (c_fTable x _) ?_
        rintro _ s2' ⟨rfl, rfl⟩
        refine ⟨((x.T.name, ()), ()), rfl, ?_⟩
        refine W.call_of (c_findT hx2 hn x.T.name) ?_
        rintro _ s2' ⟨rfl, rfl⟩
        refine ⟨((seek (fun y : TabP => decide (y.T.name = x.T.name)) xs 0, ()), ()), rfl, ?_⟩
        have hseek : seek (fun y : Tab => decide (y.name = x.T.name)) (xs.map (·.T)) 0 = seek (fun y : TabP => decide (y.T.name = x.T.name)) xs 0 := by rw [seek_map]
        simp [W.br_iff, W.ld_at hc2, W.st_at hc2, wrap_succ (k := k) (by omega)]
        refine ⟨fun h4 => ?_, fun h4 => ?_⟩
        · have e4 : (seek (fun y : TabP => decide (y.T.name = x.T.name)) xs 0 != (k : Int)) = true := by simpa using h4
          rw [e4]
          exact hfin true (by rw [hno (by unfold nameT; rw [h3, hseek]; simpa using h4)]; simp) (fun e => by cases e)
        · have e4 : (seek (fun y : TabP => decide (y.T.name = x.T.name)) xs 0 != (k : Int)) = false := by simpa using h4
          rw [e4]
          have hyes : nameT (xs.map (·.T)) k x.T = true := by unfold nameT; rw [h3, hseek]; simpa using h4
          refine ⟨⟨k + 1, by simp, hlt, ?_, m2.updLater (.inl (by simp)), fun _ => hb, by rw [upTo_succ, hup, condI_at hpk, hyes]; (first | done | rfl)⟩, by omega⟩
          rw [hb]; exact h2.lay (fun _ => hb)
    · have hke : k = (xs.map (·.T)).length := by omega
      have hall : allI (nameT (xs.map (·.T))) (xs.map (·.T)) = true := by unfold allI; rw [← hke]; exact hup
      rw [hall]
      refine ⟨rfl, ?_, m2⟩
      simpa using h2
  · intro J hJ
    simp [W.ld_at hc, W.br_iff, W.st_at hc]
    have fin : ∀ b', (b' = false → bad = false) → b' = (bad || !(decide (least ≤ (xs.map (·.T)).length) && decide (((xs.map (·.T)).length : Int) ≤ most))) → J () (s.upd c (.cells #[.int .i64 last, .map (some m), .bool b'] 114 (0, 0))) := by
      intro b' hb he
      refine hJ _ _ ⟨?_, Mod.upd (by simp)⟩
      rw [← he]; exact h.lay hb
    refine ⟨fun hb => fin true (fun e => by cases e) (by rw [hb]; (first | done | rfl)), fun hb => ⟨fun h1 => fin true (fun e => by cases e) (by rw [decide_eq_false (p := least ≤ (xs.map (·.T)).length) (by omega)]; simp), fun h1 => fin _ (fun _ => hb) ?_⟩⟩
    rw [hb, decide_eq_true (p := least ≤ (xs.map (·.T)).length) (by omega)]
    by_cases h3 : ((xs.map (·.T)).length : Int) ≤ most
    · rw [decide_eq_true h3, decide_eq_false (by omega)]; (first | done | rfl)
    · rw [decide_eq_false h3, decide_eq_true (by omega)]; (first | done | rfl)
end Go.Proofs.Ythepfbcgpbkbdaa
end
section
set_option linter.unusedVariables false
set_option linter.unusedSimpArgs false
set_option maxHeartbeats 2000000
set_option maxRecDepth 100000
namespace Go.Proofs.Ythepfbcgpbkbdaa
open Fw Go
attribute [-simp] Fw.W.ld_iff Fw.W.st_iff
theorem runIds_snoc (last : Int) (l : List Int) (n : Int) (seen : List Int) : runIds last (l ++ [n]) seen = (runIds last l seen && ((decide (1 ≤ n) && decide (n ≤ last)) && !decide (n ∈ l.reverse ++ seen))) := by
  rw [runIds_app]; simp [runIds]
theorem Ck.any {s : PH} {c m : Nat} {last : Int} {seen seen' : List Int} (h : Ck s c m last true seen) : Ck s c m last true seen' := by
  obtain ⟨f, hf, _⟩ := h.map
  exact ⟨h.cell, f, hf, fun e => by cases e⟩
theorem ids_take {α : Type} (f : α → Int) {l : List α} {k : Nat} {x : α} (h : l[k]? = some x) : (l.take (k + 1)).map f = (l.take k).map f ++ [f x] := by
  rw [List.take_add_one, h]; simp
/-- one element of a list is looked at: its id, its state, and the rest -/
theorem loop_bool {P1 U R A St Rest : Bool} : ((!(P1 && (U && R)) || !A) || !St || !Rest) = !(P1 && ((U && (St && Rest)) && (R && A))) := by
  cases P1 <;> cases U <;> cases R <;> cases A <;> cases St <;> cases Rest <;> rfl
theorem ck_ld {s : PH} {c m : Nat} {last : Int} {bad : Bool} {seen : List Int} (h : Ck s c m last bad seen) {K : Den [.bool] → W.T} (hK : K (bad, ()) s) : W.unSome (some (Addr.mk c 0 none)) (fun p => W.ld [.bool] (p.add 2) K) s := by
  simp only [W.unSome_some, add_mk, Nat.zero_add]
  rw [W.ld_at h.cell]
  exact ⟨(bad, ()), by simp, hK⟩
theorem ck_st {s : PH} {c m : Nat} {last : Int} {bad b' : Bool} {seen : List Int} (h : Ck s c m last bad seen) {K : W.T} (hK : K (s.upd c (.cells #[.int .i64 last, .map (some m), .bool b'] 114 (0, 0)))) : W.unSome (some (Addr.mk c 0 none)) (fun p => W.st (p.add 2) [.bool b'] K) s := by
  simp only [W.unSome_some, add_mk, Nat.zero_add]
  rw [W.st_at h.cell]
  exact ⟨by simp, by simp, by simp [Value.oneCell'], hK⟩
section
variable {s0 s : PH} {c m : Nat} {last : Int} {bad : Bool} {seen : List Int} {t : Tri} {S : Sch} {ps : List TabP} {p : TabP}
theorem c_ckTable (h : Ck s c m last bad seen) (hS : SchIs s0 t S ps) (hp : p ∈ ps) (m0 : Fw.Mod [] s0 s) (hc0 : s0 c = none) (hm0 : s0 m = none) :
    DCalls Try.prog 56 #[cp c, schV S t, tabV p.T p.c p.x p.k] s (CkPost c m last (bad || !(tabB S p.T && runIds last (idsOf p.T) seen)) ((idsOf p.T).reverse ++ seen) s) := by
  have hP0 := hS.all p hp
  have keep : ∀ {s'}, Fw.Mod [c, m] s s' → Fw.Mod [] s0 s' := fun mm => m0.fresh mm (by simp [hc0, hm0])
  obtain ⟨T, ⟨ca, can, cac⟩, ⟨xa, xan, xac⟩, ⟨ka, kan, kac⟩⟩ := p
  obtain ⟨ta, tn, tc⟩ := t
  dsimp only at hP0 ⊢
  have hcan : can = T.cols.length := hP0.c.len
  have hxan : xan = T.idxs.length := hP0.x.len
  have hkan : kan = T.keys.length := hP0.k.len
  have hcf := hP0.c.few
  have hxf := hP0.x.few
  have hkf := hP0.k.few
  dsimp only at hcf hxf hkf
  obtain ⟨res, hres⟩ : ∃ b, (bad || !(tabB S T && runIds last (idsOf T) seen)) = b := ⟨_, rfl⟩
  obtain ⟨sn, hsn⟩ : ∃ l, (idsOf T).reverse ++ seen = l := ⟨_, rfl⟩
  rw [hres, hsn]
  refine ok_ckTable c S.version S.last ta tn tc T.id T.name ca can cac xa xan xac ka kan kac _ s ?_
  unfold vc_ckTable
  simp only [RP_call]
  refine W.call_of (c_ckId h T.id) ?_
  rintro _ s1 ⟨rfl, h1, m1⟩
  refine ⟨(), rfl, ?_⟩
  refine W.call_of (c_namesC h1 (hP0.c.el.mono (keep m1).le) hcf (fun s' hm => hP0.c.el.mono (keep (m1.trans hm)).le) 1 8) ?_
  rintro _ s2 ⟨rfl, h2, m2'⟩
  have m2 := m1.trans m2'
  refine ⟨(), rfl, ?_⟩
  refine W.call_of (c_namesX h2 (hP0.x.el.mono (keep m2).le) hxf (fun s' hm => hP0.x.el.mono (keep (m2.trans hm)).le) 0 8) ?_
  rintro _ s3 ⟨rfl, h3, m3'⟩
  have m3 := m2.trans m3'
  refine ⟨(), rfl, ?_⟩
  refine W.call_of (c_namesF h3 (hP0.k.el.mono (keep m3).le) hkf (fun s' hm => hP0.k.el.mono (keep (m3.trans hm)).le) 0 8) ?_
  rintro _ s4 ⟨rfl, h4, m4'⟩
  have m4 := m3.trans m4'
  refine ⟨(), rfl, ?_⟩
  have hids : idsOf T = T.id :: (T.cols.map (·.id) ++ (T.idxs.map (·.id) ++ T.keys.map (·.id))) := rfl
  have hrun : runIds last (idsOf T) seen = ((decide (1 ≤ T.id) && decide (T.id ≤ last)) && (!decide (T.id ∈ seen) && (runIds last (T.cols.map (·.id)) (T.id :: seen) &&
      (runIds last (T.idxs.map (·.id)) ((T.cols.map (·.id)).reverse ++ (T.id :: seen)) && runIds last (T.keys.map (·.id)) ((T.idxs.map (·.id)).reverse ++ ((T.cols.map (·.id)).reverse ++ (T.id :: seen))))))) := by
    rw [hids]; simp only [runIds, runIds_app]
  have hseen : (T.keys.map (·.id)).reverse ++ ((T.idxs.map (·.id)).reverse ++ ((T.cols.map (·.id)).reverse ++ (T.id :: seen))) = sn := by
    rw [← hsn, hids]; simp
  obtain ⟨A, hA⟩ : ∃ A, ((decide (1 ≤ T.id) && decide (T.id ≤ last)) && !decide (T.id ∈ seen)) = A := ⟨_, rfl⟩
  rw [← Bool.and_assoc, hA] at hrun
  rw [hA] at h4
  obtain ⟨N1, hN1⟩ : ∃ N, namesB nameC 1 8 T.cols = N := ⟨_, rfl⟩
  obtain ⟨N2, hN2⟩ : ∃ N, namesB nameX 0 8 T.idxs = N := ⟨_, rfl⟩
  obtain ⟨N3, hN3⟩ : ∃ N, namesB nameF 0 8 T.keys = N := ⟨_, rfl⟩
  rw [hN1, hN2, hN3] at h4
  obtain ⟨b4, hb4⟩ : ∃ b, ((((bad || !A) || !N1) || !N2) || !N3) = b := ⟨_, rfl⟩
  rw [hb4] at h4
  have hc4 := h4.cell
  have hres2 : res = (bad || !((N1 && (N2 && (N3 && (first3 T && (allI colB T.cols && (allI (idxB T) T.idxs && allI (keyB S T) T.keys)))))) && runIds last (idsOf T) seen)) := by rw [← hres]; unfold tabB; rw [hN1, hN2, hN3]
  simp [W.ld_at hc4, W.br_iff]
  refine ⟨fun hbad => ?_, fun hbad => ?_⟩
  · subst hbad
    have e1 : res = true := by
      rw [hres2, hrun]
      revert hb4
      cases bad <;> cases A <;> cases N1 <;> cases N2 <;> cases N3 <;> simp
    rw [e1]
    exact ⟨rfl, h4.any, m4⟩
  · subst hbad
    have hall : bad = false ∧ A = true ∧ N1 = true ∧ N2 = true ∧ N3 = true := by
      revert hb4
      cases bad <;> cases A <;> cases N1 <;> cases N2 <;> cases N3 <;> simp
    obtain ⟨rfl, rfl, rfl, rfl, rfl⟩ := hall
    have hcl : 1 ≤ T.cols.length := by
      unfold namesB at hN1
      simp only [Bool.and_eq_true, decide_eq_true_eq] at hN1
      omega
    obtain ⟨c0, cs, hcs⟩ : ∃ c0 cs, T.cols = c0 :: cs := by
      cases hc : T.cols with
      | nil => rw [hc] at hcl; simp at hcl
      | cons a b => exact ⟨a, b, rfl⟩
    have hf3 : first3 T = decide (c0.state = 3) := by unfold first3; rw [hcs]
    obtain ⟨ad, had, hh⟩ := (hP0.c.mono (keep m4).le).el.at_enc (i := 0) (x := c0) (by rw [hcs]; (first | done | rfl))
    dsimp only at had; subst had
    rw [Nat.zero_mul, add_zero] at hh
    refine ⟨by omega, ?_⟩
    simp only [W.unSome_some]
    refine ld_has (j := 3) hh (cs := [.int .i64]) (y := (c0.state, ())) rfl ?_
    refine ck_st h4 ?_
    have h5 : Ck (s4.upd c (.cells #[.int .i64 last, .map (some m), .bool (c0.state != 3)] 114 (0, 0))) c m last (c0.state != 3) (T.id :: seen) := h4.lay (fun _ => rfl)
    have m5 : Fw.Mod [c, m] s (s4.upd c (.cells #[.int .i64 last, .map (some m), .bool (c0.state != 3)] 114 (0, 0))) := m4.updLater (.inl (by simp))
    generalize s4.upd c (.cells #[.int .i64 last, .map (some m), .bool (c0.state != 3)] 114 (0, 0)) = s5 at h5 m5 ⊢
    have hb5 : (c0.state != 3) = !(first3 T && (upTo (condI colB T.cols) 0 && runIds last ((T.cols.take 0).map (·.id)) (T.id :: seen))) := by
      rw [hf3]
      by_cases h : c0.state = 3 <;> simp [h, upTo_zero, runIds]
    rw [hb5] at h5
    have hgoal : res = !(((first3 T && (allI colB T.cols && runIds last (T.cols.map (·.id)) (T.id :: seen))) && (allI (idxB T) T.idxs && runIds last (T.idxs.map (·.id)) ((T.cols.map (·.id)).reverse ++ (T.id :: seen)))) &&
        (allI (keyB S T) T.keys && runIds last (T.keys.map (·.id)) ((T.idxs.map (·.id)).reverse ++ ((T.cols.map (·.id)).reverse ++ (T.id :: seen))))) := by
      rw [hres2, hrun]
      generalize first3 T = F
      generalize allI colB T.cols = C1
      generalize allI (idxB T) T.idxs = C2
      generalize allI (keyB S T) T.keys = C3
      generalize runIds last (T.cols.map (·.id)) (T.id :: seen) = R1
      generalize runIds last (T.idxs.map (·.id)) _ = R2
      generalize runIds last (T.keys.map (·.id)) _ = R3
      cases F <;> cases C1 <;> cases C2 <;> cases C3 <;> cases R1 <;> cases R2 <;> cases R3 <;> rfl
    clear hres2 hrun hres hb5 hf3 hh hc4 h4
    obtain ⟨sd1, hsd1⟩ : ∃ l, T.id :: seen = l := ⟨_, rfl⟩
    rw [hsd1] at h5 hgoal hseen
    obtain ⟨F, hF⟩ : ∃ F, first3 T = F := ⟨_, rfl⟩
    rw [hF] at h5 hgoal
    refine ⟨fun z s' => ∃ k : Nat, z = ((S.version, S.last, (ta, tn, tc), ()), (T.id, T.name, (some ad, can, cac), (xa, xan, xac), (ka, kan, kac), ()), ((some ad, can, cac), ()), ((can : Int), ()), ((k : Int), ()), ()) ∧ k ≤ can ∧
      Ck s' c m last (!(F && (upTo (condI colB T.cols) k && runIds last ((T.cols.take k).map (·.id)) sd1))) (((T.cols.take k).map (·.id)).reverse ++ sd1) ∧ Fw.Mod [c, m] s s', fun z _ => can - z.2.2.2.2.1.1.toNat, ⟨0, rfl, Nat.zero_le _, by simpa using h5, m5⟩, ?_⟩
    rintro _ s6 ⟨k, rfl, hk, h6, m6⟩
    simp only [W.br_iff, decide_eq_true_eq, decide_eq_false_iff_not]
    refine ⟨fun hlt => ?_, fun hge => ?_⟩
    · have hlt : k < can := by omega
      obtain ⟨x, hx⟩ : ∃ x, T.cols[k]? = some x := ⟨_, List.getElem?_eq_getElem (by omega)⟩
      obtain ⟨ad2, had2, hh⟩ := (hP0.c.mono (keep m6).le).el.at_enc hx
      dsimp only at had2
      cases had2
      have hstep := ids_take (·.id) hx
      have hnext : (!(F && (upTo (condI colB T.cols) (k + 1) && runIds last ((T.cols.take (k + 1)).map (·.id)) sd1))) = (((!(F && (upTo (condI colB T.cols) k && runIds last ((T.cols.take k).map (·.id)) sd1))) || !((decide (1 ≤ x.id) && decide (x.id ≤ last)) && !decide (x.id ∈ ((T.cols.take k).map (·.id)).reverse ++ sd1))) || !stateB x.state || !(typed x.kind && fits x.dflt x.kind)) := by
        rw [upTo_succ, condI_at hx, hstep, runIds_snoc, loop_bool]; (first | done | rfl)
      have hsn2 : (((T.cols.take (k + 1)).map (·.id)).reverse ++ sd1) = x.id :: (((T.cols.take k).map (·.id)).reverse ++ sd1) := by rw [hstep]; simp
      refine ⟨by omega, ?_⟩
      simp only [W.unSome_some]
      refine ld_has_z hh (y := (x.id, x.name, x.kind, x.state, x.dflt.kind, x.dflt.n, x.dflt.s, ())) rfl ?_
      refine W.call_of (c_ckId h6 x.id) ?_
      rintro _ s7 ⟨rfl, h7, m7⟩
      refine ⟨(), rfl, ?_⟩
      refine W.call_of (c_ckState h7 x.state) ?_
      rintro _ s8 ⟨rfl, h8, m8⟩
      refine ⟨(), rfl, ?_⟩
      rw [← hsn2] at h8
      generalize hb8 : ((!(F && (upTo (condI colB T.cols) k && runIds last ((T.cols.take k).map (·.id)) sd1))) || !((decide (1 ≤ x.id) && decide (x.id ≤ last)) && !decide (x.id ∈ ((T.cols.take k).map (·.id)).reverse ++ sd1)) || !stateB x.state) = b8 at h8 hnext
      have m678 := (m6.trans m7).trans m8
      have hc8 := h8.cell
      have hw := wrap_succ (k := k) (by omega)
      have fin : ∀ b', (b' = false → b8 = false) → b' = (b8 || !(typed x.kind && fits x.dflt x.kind)) → ∃ k' : Nat, ((S.version, S.last, (ta, tn, tc), ()), (T.id, T.name, (some ad, can, cac), (xa, xan, xac), (ka, kan, kac), ()), ((some ad, can, cac), ()), ((can : Int), ()), (IntKind.i64.wrap ((k : Int) + 1), ()), ()) =
          (((S.version, S.last, (ta, tn, tc), ()), (T.id, T.name, (some ad, can, cac), (xa, xan, xac), (ka, kan, kac), ()), ((some ad, can, cac), ()), ((can : Int), ()), ((k' : Int), ()), ()) : MDen [(true, [.int .i64, .int .i64, .slice]), (true, [.int .i64, .str, .slice, .slice, .slice]), (false, [.slice]), (false, [.int .i64]), (false, [.int .i64])]) ∧ k' ≤ can ∧
          Ck (s8.upd c (.cells #[.int .i64 last, .map (some m), .bool b'] 114 (0, 0))) c m last (!(F && (upTo (condI colB T.cols) k' && runIds last ((T.cols.take k').map (·.id)) sd1))) (((T.cols.take k').map (·.id)).reverse ++ sd1) ∧ Fw.Mod [c, m] s (s8.upd c (.cells #[.int .i64 last, .map (some m), .bool b'] 114 (0, 0))) := by
        intro b' hb he
        refine ⟨k + 1, by rw [hw], hlt, ?_, m678.updLater (.inl (by simp))⟩
        rw [hnext, ← he]
        exact h8.lay hb
      have hmeas : can - (IntKind.i64.wrap ((k : Int) + 1)).toNat < can - ((k : Int)).toNat := by rw [hw]; simp only [Int.toNat_natCast]; omega
      refine ck_ld h8 ?_
      simp only [W.br_iff]
      refine ⟨fun hb => ck_st h8 ⟨fin true (fun e => by cases e) (by have hb : b8 = true := hb
                                                                     rw [hb]; (first | done | rfl)), hmeas⟩, fun hb => ?_⟩
      have hb : b8 = false := hb
      refine W.call_of (c_kind x.kind s8) ?_
      rintro _ _ ⟨rfl, rfl⟩
      refine ⟨((typed x.kind, ()), ()), rfl, ?_⟩
      simp only [W.br_iff]
      refine ⟨fun ht => ck_st h8 ⟨fin true (fun e => by cases e) (by have ht : typed x.kind = false := by simpa using ht
                                                                     rw [ht]; simp), hmeas⟩, fun ht => ?_⟩
      have ht : typed x.kind = true := by simpa using ht
      refine W.call_of (c_fits x.dflt x.kind _) ?_
      rintro _ _ ⟨rfl, rfl⟩
      refine ⟨((fits x.dflt x.kind, ()), ()), rfl, ?_⟩
      exact ck_st h8 ⟨fin _ (fun _ => hb) (by rw [hb, ht]; simp), hmeas⟩
    · have hall : T.cols.take k = T.cols := List.take_of_length_le (by omega)
      have hku : upTo (condI colB T.cols) k = allI colB T.cols := by unfold allI; rw [show k = T.cols.length by omega]
      rw [hall, hku] at h6
      obtain ⟨P1, hP1⟩ : ∃ P, (F && (allI colB T.cols && runIds last (T.cols.map (·.id)) sd1)) = P := ⟨_, rfl⟩
      obtain ⟨sd2, hsd2⟩ : ∃ l, (T.cols.map (·.id)).reverse ++ sd1 = l := ⟨_, rfl⟩
      rw [hP1, hsd2] at h6 hgoal
      rw [hsd2] at hseen
      refine ⟨fun z s' => ∃ k : Nat, z = ((S.version, S.last, (ta, tn, tc), ()), (T.id, T.name, (some ad, can, cac), (xa, xan, xac), (ka, kan, kac), ()), ((xa, xan, xac), ()), ((xan : Int), ()), ((k : Int), ()), ()) ∧ k ≤ xan ∧
        Ck s' c m last (!(P1 && (upTo (condI (idxB T) T.idxs) k && runIds last ((T.idxs.take k).map (·.id)) sd2))) (((T.idxs.take k).map (·.id)).reverse ++ sd2) ∧ Fw.Mod [c, m] s s', fun z _ => xan - z.2.2.2.2.1.1.toNat, ⟨0, rfl, Nat.zero_le _, by simpa [upTo_zero, runIds] using h6, m6⟩, ?_⟩
      rintro _ s7 ⟨k, rfl, hk, h7, m7⟩
      simp only [W.br_iff, decide_eq_true_eq, decide_eq_false_iff_not]
      refine ⟨fun hlt => ?_, fun hge => ?_⟩
      · have hlt : k < xan := by omega
        obtain ⟨x, hx⟩ : ∃ x, T.idxs[k]? = some x := ⟨_, List.getElem?_eq_getElem (by omega)⟩
        obtain ⟨ad2, had2, hh⟩ := (hP0.x.mono (keep m7).le).el.at_enc hx
        dsimp only at had2
        subst had2
        have hstep := ids_take (·.id) hx
        have hnext : (!(P1 && (upTo (condI (idxB T) T.idxs) (k + 1) && runIds last ((T.idxs.take (k + 1)).map (·.id)) sd2))) = (((!(P1 && (upTo (condI (idxB T) T.idxs) k && runIds last ((T.idxs.take k).map (·.id)) sd2))) || !((decide (1 ≤ x.id) && decide (x.id ≤ last)) && !decide (x.id ∈ ((T.idxs.take k).map (·.id)).reverse ++ sd2))) || !stateB x.state || !(decide (0 ≤ colOf T x.column))) := by
          rw [upTo_succ, condI_at hx, hstep, runIds_snoc, loop_bool]; (first | done | rfl)
        have hsn2 : (((T.idxs.take (k + 1)).map (·.id)).reverse ++ sd2) = x.id :: (((T.idxs.take k).map (·.id)).reverse ++ sd2) := by rw [hstep]; simp
        refine ⟨by omega, ?_⟩
        simp only [W.unSome_some]
        refine ld_has_z hh (y := (x.id, x.name, x.column, x.unique, x.state, ())) rfl ?_
        refine W.call_of (c_ckId h7 x.id) ?_
        rintro _ s8 ⟨rfl, h8, m8⟩
        refine ⟨(), rfl, ?_⟩
        refine W.call_of (c_ckState h8 x.state) ?_
        rintro _ s9 ⟨rfl, h9, m9⟩
        refine ⟨(), rfl, ?_⟩
        rw [← hsn2] at h9
        generalize hb8 : ((!(P1 && (upTo (condI (idxB T) T.idxs) k && runIds last ((T.idxs.take k).map (·.id)) sd2))) || !((decide (1 ≤ x.id) && decide (x.id ≤ last)) && !decide (x.id ∈ ((T.idxs.take k).map (·.id)).reverse ++ sd2)) || !stateB x.state) = b8 at h9 hnext
        have m789 := (m7.trans m8).trans m9
        have hw := wrap_succ (k := k) (by omega)
        have hmeas : xan - (IntKind.i64.wrap ((k : Int) + 1)).toNat < xan - ((k : Int)).toNat := by rw [hw]; simp only [Int.toNat_natCast]; omega
        refine ck_ld h9 ?_
        simp only [W.br_iff]
        refine ⟨fun hb => ck_st h9 ⟨⟨k + 1, by rw [hw], hlt, ?_, m789.updLater (.inl (by simp))⟩, hmeas⟩, fun hb => ?_⟩
        · have hb : b8 = true := hb
          rw [hnext, hb]; exact h9.lay (fun e => by cases e)
        · have hb : b8 = false := hb
          refine W.call_of (c_at (p := ⟨T, (some ad, can, cac), (some ad2, xan, xac), (ka, kan, kac)⟩) (hP0.c.mono (keep m789).le) x.column) ?_
          rintro _ _ ⟨rfl, rfl⟩
          refine ⟨((colOf T x.column, ()), ()), rfl, ?_⟩
          refine ck_st h9 ⟨⟨k + 1, by rw [hw], hlt, ?_, m789.updLater (.inl (by simp))⟩, hmeas⟩
          rw [hnext, hb]
          have e1 : (decide (colOf T x.column < 0)) = (false || !decide (0 ≤ colOf T x.column)) := by
            by_cases hh : colOf T x.column < 0
            · rw [decide_eq_true hh, decide_eq_false (by omega)]; (first | done | rfl)
            · rw [decide_eq_false hh, decide_eq_true (by omega)]; (first | done | rfl)
          rw [← e1]
          exact h9.lay (fun _ => hb)
      · have hall : T.idxs.take k = T.idxs := List.take_of_length_le (by omega)
        have hku : upTo (condI (idxB T) T.idxs) k = allI (idxB T) T.idxs := by unfold allI; rw [show k = T.idxs.length by omega]
        rw [hall, hku] at h7
        obtain ⟨P2, hP2⟩ : ∃ P, (P1 && (allI (idxB T) T.idxs && runIds last (T.idxs.map (·.id)) sd2)) = P := ⟨_, rfl⟩
        obtain ⟨sd3, hsd3⟩ : ∃ l, (T.idxs.map (·.id)).reverse ++ sd2 = l := ⟨_, rfl⟩
        rw [hP2, hsd3] at h7 hgoal
        rw [hsd3] at hseen
        refine ⟨fun z s' => ∃ k : Nat, z = ((S.version, S.last, (ta, tn, tc), ()), (T.id, T.name, (some ad, can, cac), (xa, xan, xac), (ka, kan, kac), ()), ((ka, kan, kac), ()), ((kan : Int), ()), ((k : Int), ()), ()) ∧ k ≤ kan ∧
          Ck s' c m last (!(P2 && (upTo (condI (keyB S T) T.keys) k && runIds last ((T.keys.take k).map (·.id)) sd3))) (((T.keys.take k).map (·.id)).reverse ++ sd3) ∧ Fw.Mod [c, m] s s', fun z _ => kan - z.2.2.2.2.1.1.toNat, ⟨0, rfl, Nat.zero_le _, by simpa [upTo_zero, runIds] using h7, m7⟩, ?_⟩
        rintro _ s8 ⟨k, rfl, hk, h8, m8⟩
        simp only [W.br_iff, decide_eq_true_eq, decide_eq_false_iff_not]
        refine ⟨fun hlt => ?_, fun hge => ?_⟩
        · have hlt : k < kan := by omega
          obtain ⟨x, hx⟩ : ∃ x, T.keys[k]? = some x := ⟨_, List.getElem?_eq_getElem (by omega)⟩
          obtain ⟨ad2, had2, hh⟩ := (hP0.k.mono (keep m8).le).el.at_enc hx
          dsimp only at had2
          subst had2
          have hstep := ids_take (·.id) hx
          have hnext : (!(P2 && (upTo (condI (keyB S T) T.keys) (k + 1) && runIds last ((T.keys.take (k + 1)).map (·.id)) sd3))) = (((!(P2 && (upTo (condI (keyB S T) T.keys) k && runIds last ((T.keys.take k).map (·.id)) sd3))) || !((decide (1 ≤ x.id) && decide (x.id ≤ last)) && !decide (x.id ∈ ((T.keys.take k).map (·.id)).reverse ++ sd3))) || !stateB x.state || !(decide (0 ≤ colOf T x.column) && (decide (0 ≤ tabOf S x.parent) && parB S T x))) := by
            rw [upTo_succ, condI_at hx, hstep, runIds_snoc, loop_bool]; (first | done | rfl)
          have hsn2 : (((T.keys.take (k + 1)).map (·.id)).reverse ++ sd3) = x.id :: (((T.keys.take k).map (·.id)).reverse ++ sd3) := by rw [hstep]; simp
          refine ⟨by omega, ?_⟩
          simp only [W.unSome_some]
          refine ld_has_z hh (y := (x.id, x.name, x.column, x.parent, x.state, ())) rfl ?_
          refine W.call_of (c_ckId h8 x.id) ?_
          rintro _ s9 ⟨rfl, h9, m9⟩
          refine ⟨(), rfl, ?_⟩
          refine W.call_of (c_ckState h9 x.state) ?_
          rintro _ s10 ⟨rfl, h10, m10⟩
          refine ⟨(), rfl, ?_⟩
          rw [← hsn2] at h10
          generalize hb8 : ((!(P2 && (upTo (condI (keyB S T) T.keys) k && runIds last ((T.keys.take k).map (·.id)) sd3))) || !((decide (1 ≤ x.id) && decide (x.id ≤ last)) && !decide (x.id ∈ ((T.keys.take k).map (·.id)).reverse ++ sd3)) || !stateB x.state) = b8 at h10 hnext
          have mall := (m8.trans m9).trans m10
          have hw := wrap_succ (k := k) (by omega)
          have hmeas : kan - (IntKind.i64.wrap ((k : Int) + 1)).toNat < kan - ((k : Int)).toNat := by rw [hw]; simp only [Int.toNat_natCast]; omega
          have fin : ∀ b', (b' = false → b8 = false) → b' = (b8 || !(decide (0 ≤ colOf T x.column) && (decide (0 ≤ tabOf S x.parent) && parB S T x))) →
              Ck (s10.upd c (.cells #[.int .i64 last, .map (some m), .bool b'] 114 (0, 0))) c m last (!(P2 && (upTo (condI (keyB S T) T.keys) (k + 1) && runIds last ((T.keys.take (k + 1)).map (·.id)) sd3))) (((T.keys.take (k + 1)).map (·.id)).reverse ++ sd3) ∧ Fw.Mod [c, m] s (s10.upd c (.cells #[.int .i64 last, .map (some m), .bool b'] 114 (0, 0))) := by
            intro b' hb he
            rw [hnext, ← he]
            exact ⟨h10.lay hb, mall.updLater (.inl (by simp))⟩
          refine W.callQ_of ((colOf T x.column, ()), ()) (c_at (p := ⟨T, (some ad, can, cac), (xa, xan, xac), (some ad2, kan, kac)⟩) (hP0.c.mono (keep mall).le) x.column) rfl ?_
          refine W.callQ_of ((tabOf S x.parent, ()), ()) (c_byId (t := (ta, tn, tc)) (hS.mono (keep mall).le) x.parent) rfl ?_
          refine ck_ld h10 ?_
          simp only [W.br_iff, decide_eq_true_eq, decide_eq_false_iff_not]
          refine ⟨fun hb => ck_st h10 ⟨⟨k + 1, by rw [hw], hlt, fin true (fun e => by cases e) (by have hb : b8 = true := hb
                                                                                                   rw [hb]; (first | done | rfl))⟩, hmeas⟩, fun hb => ?_⟩
          have hb : b8 = false := hb
          refine ⟨fun h1 => ck_st h10 ⟨⟨k + 1, by rw [hw], hlt, fin true (fun e => by cases e) (by rw [decide_eq_false (p := 0 ≤ colOf T x.column) (by omega)]; simp)⟩, hmeas⟩, fun h1 => ?_⟩
          refine ⟨fun h2 => ck_st h10 ⟨⟨k + 1, by rw [hw], hlt, fin true (fun e => by cases e) (by rw [decide_eq_false (p := 0 ≤ tabOf S x.parent) (by omega)]; simp)⟩, hmeas⟩, fun h2 => ?_⟩
          have hSn := hS.mono (keep mall).le
          obtain ⟨j, P, hj, hPj, _, _⟩ : ∃ (j : Nat) (P : Tab), tabOf S x.parent = (j : Int) ∧ S.tabs[j]? = some P ∧ True ∧ True := by
            rcases seek_spec (p := fun T : Tab => decide (T.id = x.parent)) S.tabs 0 with ⟨e, _⟩ | ⟨j, P, e, e2, _⟩
            · exact absurd e (by unfold tabOf at h2; omega)
            · exact ⟨j, P, by unfold tabOf; rw [e]; simp, e2, trivial, trivial⟩
          obtain ⟨j2, C, hj2, hCj, _, _⟩ : ∃ (j : Nat) (C : Col), colOf T x.column = (j : Int) ∧ T.cols[j]? = some C ∧ True ∧ True := by
            rcases seek_spec (p := fun c : Col => decide (c.id = x.column)) T.cols 0 with ⟨e, _⟩ | ⟨j, P, e, e2, _⟩
            · exact absurd e (by unfold colOf at h1; omega)
            · exact ⟨j, P, by unfold colOf; rw [e]; simp, e2, trivial, trivial⟩
          have hpar : parB S T x = (match P.cols with | c0 :: _ => decide (C.kind = c0.kind) | [] => false) := by unfold parB; rw [hj, hj2]; simp only [Int.toNat_natCast, hPj, hCj] <;> rfl
          obtain ⟨pp, hpp, hppT⟩ : ∃ pp, ps[j]? = some pp ∧ pp.T = P := by
            rw [hS.eq, List.getElem?_map] at hPj
            cases hq : ps[j]? with
            | none => rw [hq] at hPj; cases hPj
            | some pp => rw [hq] at hPj; exact ⟨pp, rfl, Option.some.inj hPj⟩
          have hjl := (List.getElem?_eq_some_iff.1 hpp).1
          have hj2l := (List.getElem?_eq_some_iff.1 hCj).1
          have htn : tn = ps.length := hSn.el.len
          obtain ⟨ad3, had3, hh3⟩ := hSn.el.el.at_enc hpp
          dsimp only at had3
          subst had3
          have hPP := hSn.all pp (get_mem hpp)
          obtain ⟨PT, ⟨pca, pcn, pcc⟩, ⟨pxa, pxn, pxc⟩, ⟨pka, pkn, pkc⟩⟩ := pp
          dsimp only at hppT
          subst hppT
          have hpcn : pcn = PT.cols.length := hPP.c.len
          simp only [hj, hj2, Int.toNat_natCast]
          refine ⟨by omega, ?_⟩
          simp only [W.unSome_some]
          refine ld_has (j := 2) hh3 (cs := [.slice]) (y := ((pca, pcn, pcc), ())) rfl ?_
          simp only [W.br_iff]
          refine ⟨fun h3 => ck_st h10 ⟨⟨k + 1, by rw [hw], hlt, fin true (fun e => by cases e) ?_⟩, hmeas⟩, fun h3 => ?_⟩
          · have h3 : pcn = 0 := by simpa using h3
            have : PT.cols = [] := List.length_eq_zero_iff.1 (by omega)
            rw [hpar, this]; simp
          · have h3 : pcn ≠ 0 := by simpa using h3
            obtain ⟨c1, cs1, hcs1⟩ : ∃ c0 cs, PT.cols = c0 :: cs := by
              cases hc : PT.cols with
              | nil => rw [hc] at hpcn; simp at hpcn; omega
              | cons a b => exact ⟨a, b, rfl⟩
            obtain ⟨ad4, had4, hh4⟩ := (hP0.c.mono (keep mall).le).el.at_enc hCj
            dsimp only at had4
            cases had4
            obtain ⟨ad5, had5, hh5⟩ := hPP.c.el.at_enc (i := 0) (x := c1) (by rw [hcs1]; (first | done | rfl))
            dsimp only at had5
            subst had5
            rw [Nat.zero_mul, add_zero] at hh5
            refine ⟨by omega, ?_⟩
            simp only [W.unSome_some]
            refine ld_has (j := 2) hh4 (cs := [.int .i64]) (y := (C.kind, ())) rfl ?_
            refine ⟨by omega, ?_⟩
            simp only [W.unSome_some]
            refine ld_has (j := 2) hh3 (cs := [.slice]) (y := ((some ad5, pcn, pcc), ())) rfl ?_
            refine ⟨by dsimp only; omega, ?_⟩
            simp only [W.unSome_some]
            refine ld_has (j := 2) hh5 (cs := [.int .i64]) (y := (c1.kind, ())) rfl ?_
            refine ck_st h10 ⟨⟨k + 1, by rw [hw], hlt, fin _ (fun _ => hb) ?_⟩, hmeas⟩
            rw [hb, hpar, hcs1, decide_eq_true (p := 0 ≤ colOf T x.column) (by omega), decide_eq_true (p := 0 ≤ tabOf S x.parent) (by omega)]
            by_cases hq : C.kind = c1.kind <;> simp [hq]
        · have hall : T.keys.take k = T.keys := List.take_of_length_le (by omega)
          have hku : upTo (condI (keyB S T) T.keys) k = allI (keyB S T) T.keys := by unfold allI; rw [show k = T.keys.length by omega]
          rw [hall, hku, hseen, ← hgoal] at h8
          exact ⟨rfl, h8, m8⟩
end
def errS (S : Sch) : Int := if right S = true then 0 else 100
theorem ck_start {s : PH} {last : Int} {bad : Bool} {K : Nat → W.T} {m : Nat} (hm : s m = some (.map #[] 0)) (hK : ∀ c s', Ck s' c m last bad [] → Fw.Mod [] s s' → s c = none → K c s') :
    W.nw (.cells #[.int .i64 last, .map (some m), .bool bad] 114 (0, 0)) K s := by
  refine W.nw_of fun c s1 hc m1 k1 => ?_
  refine hK c s1 ⟨k1, [], ⟨#[], 0, m1.at hm (by simp), rfl, Go.MapKept.stamped_empty 0⟩, fun _ n => by simp⟩ m1 hc
theorem c_Check {s : PH} {t : Tri} {S : Sch} {ps : List TabP} (h : SchIs s t S ps) : DCalls Try.prog 20 #[schV S t] s fun y s' => y = .int .i64 (errS S) ∧ s' = s := by
  refine DCalls.quiet ?_
  obtain ⟨ta, tn, tc⟩ := t
  refine ok_Check S.version S.last ta tn tc _ s ?_
  unfold vc_Check
  have htn : tn = ps.length := h.el.len
  have hpl : S.tabs.length = ps.length := by rw [h.eq]; simp
  have hfew := h.el.few
  have hmapeq : ps.map (·.T) = S.tabs := h.eq.symm
  simp only [RP_join]
  refine W.join_gen (fun z s' => ∃ c m, z = ((S.version, S.last, (ta, tn, tc), ()), (some ⟨c, 0, none⟩, ()), ()) ∧ Ck s' c m S.last (!headB S) [] ∧ Fw.Mod [] s s' ∧ s c = none ∧ s m = none) ?_ ?_
  · rintro _ s1 ⟨c, m, rfl, h1, m1, hc, hm⟩
    have keep : ∀ {s'}, Fw.Mod [c, m] s1 s' → Fw.Mod [] s s' := fun mm => m1.fresh mm (by simp [hc, hm])
    simp only [RP_call]
    refine W.call_of (c_namesT h1 (h.el.el.mono m1.le) hfew (fun s' hm => h.el.el.mono (keep hm).le) 0 6) ?_
    rintro _ s2 ⟨rfl, h2, m2⟩
    refine ⟨(), rfl, ?_⟩
    rw [hmapeq] at h2
    obtain ⟨P0, hP0⟩ : ∃ P, (headB S && namesB nameT 0 6 S.tabs) = P := ⟨_, rfl⟩
    have hb2 : (!headB S || !namesB nameT 0 6 S.tabs) = !P0 := by rw [← hP0]; cases headB S <;> cases namesB nameT 0 6 S.tabs <;> rfl
    rw [hb2] at h2
    have hright : right S = (P0 && (allI (fun _ T => tabB S T) S.tabs && runIds S.last (S.tabs.flatMap idsOf) [])) := by
      rw [← hP0]; unfold right; simp only [Bool.and_assoc]
    have hbad : ∀ {b : Bool}, right S = false → errS S = 100 := fun e => by unfold errS; rw [e]; (first | done | rfl)
    simp only [RP_loop]
    refine ⟨fun z s' => ∃ k : Nat, z = ((S.version, S.last, (ta, tn, tc), ()), (some ⟨c, 0, none⟩, ()), ((ta, tn, tc), ()), ((tn : Int), ()), ((k : Int), ()), ()) ∧ k ≤ tn ∧
      Ck s' c m S.last (!(P0 && (upTo (condI (fun _ T => tabB S T) S.tabs) k && runIds S.last ((S.tabs.take k).flatMap idsOf) []))) (((S.tabs.take k).flatMap idsOf).reverse ++ []) ∧ Fw.Mod [c, m] s1 s', fun z _ => tn - z.2.2.2.2.1.1.toNat, ⟨0, rfl, Nat.zero_le _, by simpa [upTo_zero, runIds] using h2, m2⟩, ?_⟩
    rintro _ s3 ⟨k, rfl, hk, h3, m3⟩
    generalize hb3 : (!(P0 && (upTo (condI (fun _ T => tabB S T) S.tabs) k && runIds S.last ((S.tabs.take k).flatMap idsOf) []))) = b3 at h3
    simp only [RP_ite, W.br_iff, decide_eq_true_eq, decide_eq_false_iff_not]
    refine ⟨fun hlt => ?_, fun hge => ?_⟩
    · have hlt : k < tn := by omega
      obtain ⟨p, hp⟩ : ∃ p, ps[k]? = some p := ⟨_, List.getElem?_eq_getElem (by omega)⟩
      have hT : S.tabs[k]? = some p.T := by rw [h.eq, List.getElem?_map, hp]; (first | done | rfl)
      obtain ⟨ad, had, hh⟩ := (h.mono (keep m3).le).el.el.at_enc hp
      dsimp only at had
      subst had
      simp only [RP_guard, W.guard_iff, RP_unSome, W.unSome_some]
      refine ⟨by omega, ?_⟩
      refine ld_has_z hh (y := (p.T.id, p.T.name, p.c, p.x, p.k, ())) rfl ?_
      have := ck_ld h3 (K := fun x => W.br x.1 (W.ret (fun y s' => y = .int .i64 (errS S) ∧ Fw.Mod [] s s') (.int .i64 100)) (W.call Try.prog 56 #[cp c, schV S (some ad, tn, tc), tabV p.T p.c p.x p.k] (true, []) fun _ => fun s' =>
          (∃ k_1 : Nat, ((S.version, S.last, (some ad, tn, tc), ()), (some (Addr.mk c 0 none), ()), ((some ad, tn, tc), ()), ((tn : Int), ()), (IntKind.i64.wrap ((k : Int) + 1), ()), ()) = (((S.version, S.last, (some ad, tn, tc), ()), (some (Addr.mk c 0 none), ()), ((some ad, tn, tc), ()), ((tn : Int), ()), ((k_1 : Int), ()), ()) : MDen [(true, [.int .i64, .int .i64, .slice]), (false, [.ptr]), (false, [.slice]), (false, [.int .i64]), (false, [.int .i64])]) ∧ k_1 ≤ tn ∧
            Ck s' c m S.last (!(P0 && (upTo (condI (fun _ T => tabB S T) S.tabs) k_1 && runIds S.last ((S.tabs.take k_1).flatMap idsOf) []))) (((S.tabs.take k_1).flatMap idsOf).reverse ++ []) ∧ Fw.Mod [c, m] s1 s') ∧ tn - (IntKind.i64.wrap ((k : Int) + 1)).toNat < tn - ((k : Int)).toNat)) (by
        simp only [W.br_iff]
        refine ⟨fun hb => ?_, fun hb => ?_⟩
        · have hb : b3 = true := hb
          refine ⟨?_, keep m3⟩
          have e : right S = false := by
            rw [hright]
            rw [hb] at hb3
            have hu : upTo (condI (fun _ T => tabB S T) S.tabs) k = false → allI (fun _ T => tabB S T) S.tabs = false := by
              intro e
              cases ha : allI (fun _ T => tabB S T) S.tabs with
              | false => rfl
              | true =>
                have hall := upTo_iff.1 ha
                have : upTo (condI (fun _ T => tabB S T) S.tabs) k = true := upTo_iff.2 fun i hi => hall i (by omega)
                rw [e] at this; cases this
            have hr : runIds S.last ((S.tabs.take k).flatMap idsOf) [] = false → runIds S.last (S.tabs.flatMap idsOf) [] = false := by
              intro e
              rw [← List.take_append_drop k S.tabs, List.flatMap_append, runIds_app, List.take_append_drop] at *
              rw [e]; (first | done | rfl)
            revert hb3
            cases P0 <;> cases h1 : upTo (condI (fun _ T => tabB S T) S.tabs) k <;> cases h2 : runIds S.last ((S.tabs.take k).flatMap idsOf) [] <;> simp
            all_goals first | (intro _; exact hr h2) | (intro h; rw [hu h1] at h; cases h)
          rw [hbad (b := true) e]
        · have hb : b3 = false := hb
          refine W.call_of (c_ckTable (p := p) h3 h (get_mem hp) (keep m3) hc hm) ?_
          rintro _ s4 ⟨rfl, h4, m4⟩
          refine ⟨(), rfl, ?_⟩
          have hw := wrap_succ (k := k) (by omega)
          have htk : (S.tabs.take (k + 1)).flatMap idsOf = (S.tabs.take k).flatMap idsOf ++ idsOf p.T := by rw [List.take_add_one, hT]; simp
          refine ⟨⟨k + 1, by rw [hw], hlt, ?_, m3.trans m4⟩, by rw [hw]; simp only [Int.toNat_natCast]; omega⟩
          rw [htk, upTo_succ, condI_at hT, runIds_app, List.reverse_append, List.append_assoc]
          have : (!(P0 && ((upTo (condI (fun _ T => tabB S T) S.tabs) k && tabB S p.T) && (runIds S.last ((S.tabs.take k).flatMap idsOf) [] && runIds S.last (idsOf p.T) (((S.tabs.take k).flatMap idsOf).reverse ++ []))))) = (b3 || !(tabB S p.T && runIds S.last (idsOf p.T) (((S.tabs.take k).flatMap idsOf).reverse ++ []))) := by
            rw [← hb3]
            generalize upTo (condI (fun _ T => tabB S T) S.tabs) k = U
            generalize runIds S.last ((S.tabs.take k).flatMap idsOf) [] = R
            generalize runIds S.last (idsOf p.T) _ = R2
            cases P0 <;> cases U <;> cases R <;> cases R2 <;> cases tabB S p.T <;> rfl
          rw [this]; exact h4)
      exact this
    · have hall : S.tabs.take k = S.tabs := List.take_of_length_le (by omega)
      have hku : upTo (condI (fun _ T => tabB S T) S.tabs) k = allI (fun _ T => tabB S T) S.tabs := by unfold allI; rw [show k = S.tabs.length by omega]
      rw [hall, hku, ← hright] at hb3
      simp only [RP_unSome, RP_ld]
      have := ck_ld h3 (K := fun x => W.br x.1 (W.ret (fun y s' => y = .int .i64 (errS S) ∧ Fw.Mod [] s s') (.int .i64 100)) (W.ret (fun y s' => y = .int .i64 (errS S) ∧ Fw.Mod [] s s') (.int .i64 0))) (by
        simp only [W.br_iff]
        refine ⟨fun hb => ⟨?_, keep m3⟩, fun hb => ⟨?_, keep m3⟩⟩
        · have hb : b3 = true := hb
          rw [hb] at hb3
          rw [hbad (b := true) (by simpa using hb3)]
        · have hb : b3 = false := hb
          rw [hb] at hb3
          have : right S = true := by simpa using hb3
          unfold errS; rw [this]; (first | done | rfl))
      exact this
  · intro J hJ
    simp only [RP_nw, RP_ite]
    refine W.nw_of fun m s1 hm m1 k1 => ?_
    have fin : ∀ b, b = !headB S → W.nw (.cells #[.int .i64 S.last, .map (some m), .bool b] 114 (0, 0)) (fun r => J ((S.version, S.last, (ta, tn, tc), ()), (some ⟨r, 0, none⟩, ()), ())) s1 := by
      intro b hb
      refine ck_start k1 fun c s2 h2 m2 hc => ?_
      rw [hb] at h2
      exact hJ _ _ ⟨c, m, rfl, h2, m1.trans m2, m1.none hc (by simp), hm⟩
    simp only [W.br_iff, decide_eq_true_eq, decide_eq_false_iff_not]
    unfold headB at fin
    refine ⟨fun h1 => fin true (by rw [decide_eq_false (p := 0 ≤ S.version) (by omega)]; (first | done | rfl)), fun h1 => ⟨fun h2 => fin true (by rw [decide_eq_false (p := S.version ≤ 1125899906842624) (by omega)]; simp), fun h2 => ⟨fun h3 => fin true (by rw [decide_eq_false (p := 0 ≤ S.last) (by omega)]; simp), fun h3 => fin _ ?_⟩⟩⟩
    rw [decide_eq_true (p := 0 ≤ S.version) (by omega), decide_eq_true (p := S.version ≤ 1125899906842624) (by omega), decide_eq_true (p := 0 ≤ S.last) (by omega)]
    by_cases h4 : S.last ≤ 1125899906842624
    · rw [decide_eq_true h4, decide_eq_false (by omega)]; (first | done | rfl)
    · rw [decide_eq_false h4, decide_eq_true (by omega)]; (first | done | rfl)
end Go.Proofs.Ythepfbcgpbkbdaa
end
section
set_option linter.unusedVariables false
set_option maxHeartbeats 1000000
namespace Go.Proofs.Ythepfbcgpbkbdaa
open Fw Fw.W Go
/-- lintel/lintelref15.Right -/
def vc_rRight {W : Type} (π : Prims W) (sv sl : Int) (sa : Option Addr) (san sac : Nat) : W :=
  π.join [(true, [.int .i64, .int .i64, .slice])] (fun J0 =>
    π.ite (decide (sv < (0 : Int))) (
      π.ret (Go.Value.bool (false))
    ) (
      π.ite (decide (sv > (1125899906842624 : Int))) (
        π.ret (Go.Value.bool (false))
      ) (
        π.ite (decide (sl < (0 : Int))) (
          π.ret (Go.Value.bool (false))
        ) (
          π.ite (decide (sl > (1125899906842624 : Int))) (
            π.ret (Go.Value.bool (false))
          ) (
            π.ite (decide ((↑san : Int) > (6 : Int))) (
              π.ret (Go.Value.bool (false))
            ) (
              J0 ((sv, sl, (sa, san, sac), ()), ())
            )
          )
        )
      )
    )
  ) (fun (((x1 : Int), (x2 : Int), ((a3 : Option Addr), (n4 : Nat), (c5 : Nat)), _), _) =>
    π.loop [(true, [.int .i64, .int .i64, .slice]), (false, [.slice]), (false, [.int .i64])] ((x1, x2, (a3, n4, c5), ()), ((none, (0 : Nat), (0 : Nat)), ()), ((0 : Int), ()), ()) fun (((x7 : Int), (x8 : Int), ((a9 : Option Addr), (n10 : Nat), (c11 : Nat)), _), (((a12 : Option Addr), (n13 : Nat), (c14 : Nat)), _), ((x15 : Int), _), _) again6 =>
      π.ite (decide (x15 < (↑n10 : Int))) (
        π.guard ((0 : Int) ≤ x15 ∧ x15 < (↑n10 : Int)) <|
        π.unSome (a9) fun p16 =>
        π.ld [.int .i64, .str, .slice, .slice, .slice] (p16.add (x15.toNat * (5 : Nat))) fun ((x17 : Int), (t18 : ByteArray), ((a19 : Option Addr), (n20 : Nat), (c21 : Nat)), ((a22 : Option Addr), (n23 : Nat), (c24 : Nat)), ((a25 : Option Addr), (n26 : Nat), (c27 : Nat)), _) =>
        π.join [(true, [.int .i64, .int .i64, .slice]), (false, [.slice]), (false, [.int .i64]), (true, [.int .i64, .str, .slice, .slice, .slice])] (fun J28 =>
          π.call (47 : Nat) #[(Go.Value.string (t18))] (false, [(false, [.bool])]) fun (((b29 : Bool), _), _) =>
          π.ite (!b29) (
            π.ret (Go.Value.bool (false))
          ) (
            π.call (18 : Nat) #[(Go.Value.agg #[(Go.Value.int (IntKind.i64) (x7)), (Go.Value.int (IntKind.i64) (x8)), (Go.Value.slice (a9) (n10) (c11))]), (Go.Value.string (t18))] (false, [(false, [.int .i64])]) fun (((x30 : Int), _), _) =>
            π.ite (x30 != x15) (
              π.ret (Go.Value.bool (false))
            ) (
              π.ite (decide ((↑n20 : Int) < (1 : Int))) (
                π.ret (Go.Value.bool (false))
              ) (
                π.ite (decide ((↑n20 : Int) > (8 : Int))) (
                  π.ret (Go.Value.bool (false))
                ) (
                  π.ite (decide ((↑n23 : Int) > (8 : Int))) (
                    π.ret (Go.Value.bool (false))
                  ) (
                    π.ite (decide ((↑n26 : Int) > (8 : Int))) (
                      π.ret (Go.Value.bool (false))
                    ) (
                      J28 ((x7, x8, (a9, n10, c11), ()), ((a12, n13, c14), ()), (x15, ()), (x17, t18, (a19, n20, c21), (a22, n23, c24), (a25, n26, c27), ()), ())
                    )
                  )
                )
              )
            )
          )
        ) (fun (((x31 : Int), (x32 : Int), ((a33 : Option Addr), (n34 : Nat), (c35 : Nat)), _), (((a36 : Option Addr), (n37 : Nat), (c38 : Nat)), _), ((x39 : Int), _), ((x40 : Int), (t41 : ByteArray), ((a42 : Option Addr), (n43 : Nat), (c44 : Nat)), ((a45 : Option Addr), (n46 : Nat), (c47 : Nat)), ((a48 : Option Addr), (n49 : Nat), (c50 : Nat)), _), _) =>
          π.nw (Go.Obj.cells #[(Go.Value.int (IntKind.i64) (x40))] (3 : Nat) ((0 : Nat), (0 : Nat))) fun r51 =>
          π.app (3 : Nat) (1 : Nat) (8 : Nat) [(Go.Value.int (IntKind.i64) ((0 : Int)))] (a36) (n37) (c38) (Src.sl (some (Addr.mk r51 (0 : Nat) none)) (1 : Nat)) fun a52 n53 c54 =>
          π.loop [(true, [.int .i64, .int .i64, .slice]), (false, [.slice]), (false, [.int .i64]), (true, [.int .i64, .str, .slice, .slice, .slice]), (false, [.int .i64])] ((x31, x32, (a33, n34, c35), ()), ((a52, n53, c54), ()), (x39, ()), (x40, t41, (a42, n43, c44), (a45, n46, c47), (a48, n49, c50), ()), ((0 : Int), ()), ()) fun (((x56 : Int), (x57 : Int), ((a58 : Option Addr), (n59 : Nat), (c60 : Nat)), _), (((a61 : Option Addr), (n62 : Nat), (c63 : Nat)), _), ((x64 : Int), _), ((x65 : Int), (t66 : ByteArray), ((a67 : Option Addr), (n68 : Nat), (c69 : Nat)), ((a70 : Option Addr), (n71 : Nat), (c72 : Nat)), ((a73 : Option Addr), (n74 : Nat), (c75 : Nat)), _), ((x76 : Int), _), _) again55 =>
            π.ite (decide (x76 < (↑n68 : Int))) (
              π.guard ((0 : Int) ≤ x76 ∧ x76 < (↑n68 : Int)) <|
              π.unSome (a67) fun p77 =>
              π.ld [.int .i64, .str, .int .i64, .int .i64, .int .i64, .int .i64, .str] (p77.add (x76.toNat * (7 : Nat))) fun ((x78 : Int), (t79 : ByteArray), (x80 : Int), (x81 : Int), (x82 : Int), (x83 : Int), (t84 : ByteArray), _) =>
              π.call (47 : Nat) #[(Go.Value.string (t79))] (false, [(false, [.bool])]) fun (((b85 : Bool), _), _) =>
              π.ite (!b85) (
                π.ret (Go.Value.bool (false))
              ) (
                π.call (48 : Nat) #[(Go.Value.agg #[(Go.Value.int (IntKind.i64) (x65)), (Go.Value.string (t66)), (Go.Value.slice (a67) (n68) (c69)), (Go.Value.slice (a70) (n71) (c72)), (Go.Value.slice (a73) (n74) (c75))]), (Go.Value.string (t79))] (false, [(false, [.int .i64])]) fun (((x86 : Int), _), _) =>
                π.ite (x86 != x76) (
                  π.ret (Go.Value.bool (false))
                ) (
                  π.ite (decide (x81 < (1 : Int))) (
                    π.ret (Go.Value.bool (false))
                  ) (
                    π.ite (decide (x81 > (3 : Int))) (
                      π.ret (Go.Value.bool (false))
                    ) (
                      π.ite (x76 == (0 : Int)) (
                        π.ite (x81 != (3 : Int)) (
                          π.ret (Go.Value.bool (false))
                        ) (
                          π.call (49 : Nat) #[(Go.Value.int (IntKind.i64) (x80))] (false, [(false, [.bool])]) fun (((b87 : Bool), _), _) =>
                          π.ite (!b87) (
                            π.ret (Go.Value.bool (false))
                          ) (
                            π.call (50 : Nat) #[(Go.Value.agg #[(Go.Value.int (IntKind.i64) (x82)), (Go.Value.int (IntKind.i64) (x83)), (Go.Value.string (t84))]), (Go.Value.int (IntKind.i64) (x80))] (false, [(false, [.bool])]) fun (((b88 : Bool), _), _) =>
                            π.ite (!b88) (
                              π.ret (Go.Value.bool (false))
                            ) (
                              π.nw (Go.Obj.cells #[(Go.Value.int (IntKind.i64) (x78))] (3 : Nat) ((0 : Nat), (0 : Nat))) fun r89 =>
                              π.app (3 : Nat) (1 : Nat) (8 : Nat) [(Go.Value.int (IntKind.i64) ((0 : Int)))] (a61) (n62) (c63) (Src.sl (some (Addr.mk r89 (0 : Nat) none)) (1 : Nat)) fun a90 n91 c92 =>
                              again55 ((x56, x57, (a58, n59, c60), ()), ((a90, n91, c92), ()), (x64, ()), (x65, t66, (a67, n68, c69), (a70, n71, c72), (a73, n74, c75), ()), (IntKind.i64.wrap (x76 + (1 : Int)), ()), ())
                            )
                          )
                        )
                      ) (
                        π.call (49 : Nat) #[(Go.Value.int (IntKind.i64) (x80))] (false, [(false, [.bool])]) fun (((b93 : Bool), _), _) =>
                        π.ite (!b93) (
                          π.ret (Go.Value.bool (false))
                        ) (
                          π.call (50 : Nat) #[(Go.Value.agg #[(Go.Value.int (IntKind.i64) (x82)), (Go.Value.int (IntKind.i64) (x83)), (Go.Value.string (t84))]), (Go.Value.int (IntKind.i64) (x80))] (false, [(false, [.bool])]) fun (((b94 : Bool), _), _) =>
                          π.ite (!b94) (
                            π.ret (Go.Value.bool (false))
                          ) (
                            π.nw (Go.Obj.cells #[(Go.Value.int (IntKind.i64) (x78))] (3 : Nat) ((0 : Nat), (0 : Nat))) fun r95 =>
                            π.app (3 : Nat) (1 : Nat) (8 : Nat) [(Go.Value.int (IntKind.i64) ((0 : Int)))] (a61) (n62) (c63) (Src.sl (some (Addr.mk r95 (0 : Nat) none)) (1 : Nat)) fun a96 n97 c98 =>
                            again55 ((x56, x57, (a58, n59, c60), ()), ((a96, n97, c98), ()), (x64, ()), (x65, t66, (a67, n68, c69), (a70, n71, c72), (a73, n74, c75), ()), (IntKind.i64.wrap (x76 + (1 : Int)), ()), ())
                          )
                        )
                      )
                    )
                  )
                )
              )
            ) (
              π.loop [(true, [.int .i64, .int .i64, .slice]), (false, [.slice]), (false, [.int .i64]), (true, [.int .i64, .str, .slice, .slice, .slice]), (false, [.int .i64])] ((x56, x57, (a58, n59, c60), ()), ((a61, n62, c63), ()), (x64, ()), (x65, t66, (a67, n68, c69), (a70, n71, c72), (a73, n74, c75), ()), ((0 : Int), ()), ()) fun (((x100 : Int), (x101 : Int), ((a102 : Option Addr), (n103 : Nat), (c104 : Nat)), _), (((a105 : Option Addr), (n106 : Nat), (c107 : Nat)), _), ((x108 : Int), _), ((x109 : Int), (t110 : ByteArray), ((a111 : Option Addr), (n112 : Nat), (c113 : Nat)), ((a114 : Option Addr), (n115 : Nat), (c116 : Nat)), ((a117 : Option Addr), (n118 : Nat), (c119 : Nat)), _), ((x120 : Int), _), _) again99 =>
                π.ite (decide (x120 < (↑n115 : Int))) (
                  π.guard ((0 : Int) ≤ x120 ∧ x120 < (↑n115 : Int)) <|
                  π.unSome (a114) fun p121 =>
                  π.ld [.int .i64, .str, .int .i64, .bool, .int .i64] (p121.add (x120.toNat * (5 : Nat))) fun ((x122 : Int), (t123 : ByteArray), (x124 : Int), (b125 : Bool), (x126 : Int), _) =>
                  π.call (47 : Nat) #[(Go.Value.string (t123))] (false, [(false, [.bool])]) fun (((b127 : Bool), _), _) =>
                  π.ite (!b127) (
                    π.ret (Go.Value.bool (false))
                  ) (
                    π.call (51 : Nat) #[(Go.Value.agg #[(Go.Value.int (IntKind.i64) (x109)), (Go.Value.string (t110)), (Go.Value.slice (a111) (n112) (c113)), (Go.Value.slice (a114) (n115) (c116)), (Go.Value.slice (a117) (n118) (c119))]), (Go.Value.string (t123))] (false, [(false, [.int .i64])]) fun (((x128 : Int), _), _) =>
                    π.ite (x128 != x120) (
                      π.ret (Go.Value.bool (false))
                    ) (
                      π.ite (decide (x126 < (1 : Int))) (
                        π.ret (Go.Value.bool (false))
                      ) (
                        π.ite (decide (x126 > (3 : Int))) (
                          π.ret (Go.Value.bool (false))
                        ) (
                          π.call (52 : Nat) #[(Go.Value.agg #[(Go.Value.int (IntKind.i64) (x109)), (Go.Value.string (t110)), (Go.Value.slice (a111) (n112) (c113)), (Go.Value.slice (a114) (n115) (c116)), (Go.Value.slice (a117) (n118) (c119))]), (Go.Value.int (IntKind.i64) (x124))] (false, [(false, [.int .i64])]) fun (((x129 : Int), _), _) =>
                          π.ite (decide (x129 < (0 : Int))) (
                            π.ret (Go.Value.bool (false))
                          ) (
                            π.nw (Go.Obj.cells #[(Go.Value.int (IntKind.i64) (x122))] (3 : Nat) ((0 : Nat), (0 : Nat))) fun r130 =>
                            π.app (3 : Nat) (1 : Nat) (8 : Nat) [(Go.Value.int (IntKind.i64) ((0 : Int)))] (a105) (n106) (c107) (Src.sl (some (Addr.mk r130 (0 : Nat) none)) (1 : Nat)) fun a131 n132 c133 =>
                            again99 ((x100, x101, (a102, n103, c104), ()), ((a131, n132, c133), ()), (x108, ()), (x109, t110, (a111, n112, c113), (a114, n115, c116), (a117, n118, c119), ()), (IntKind.i64.wrap (x120 + (1 : Int)), ()), ())
                          )
                        )
                      )
                    )
                  )
                ) (
                  π.loop [(true, [.int .i64, .int .i64, .slice]), (false, [.slice]), (false, [.int .i64]), (true, [.int .i64, .str, .slice, .slice, .slice]), (false, [.int .i64])] ((x100, x101, (a102, n103, c104), ()), ((a105, n106, c107), ()), (x108, ()), (x109, t110, (a111, n112, c113), (a114, n115, c116), (a117, n118, c119), ()), ((0 : Int), ()), ()) fun (((x135 : Int), (x136 : Int), ((a137 : Option Addr), (n138 : Nat), (c139 : Nat)), _), (((a140 : Option Addr), (n141 : Nat), (c142 : Nat)), _), ((x143 : Int), _), ((x144 : Int), (t145 : ByteArray), ((a146 : Option Addr), (n147 : Nat), (c148 : Nat)), ((a149 : Option Addr), (n150 : Nat), (c151 : Nat)), ((a152 : Option Addr), (n153 : Nat), (c154 : Nat)), _), ((x155 : Int), _), _) again134 =>
                    π.ite (decide (x155 < (↑n153 : Int))) (
                      π.guard ((0 : Int) ≤ x155 ∧ x155 < (↑n153 : Int)) <|
                      π.unSome (a152) fun p156 =>
                      π.ld [.int .i64, .str, .int .i64, .int .i64, .int .i64] (p156.add (x155.toNat * (5 : Nat))) fun ((x157 : Int), (t158 : ByteArray), (x159 : Int), (x160 : Int), (x161 : Int), _) =>
                      π.call (53 : Nat) #[(Go.Value.agg #[(Go.Value.int (IntKind.i64) (x135)), (Go.Value.int (IntKind.i64) (x136)), (Go.Value.slice (a137) (n138) (c139))]), (Go.Value.int (IntKind.i64) (x160))] (false, [(false, [.int .i64])]) fun (((x162 : Int), _), _) =>
                      π.call (52 : Nat) #[(Go.Value.agg #[(Go.Value.int (IntKind.i64) (x144)), (Go.Value.string (t145)), (Go.Value.slice (a146) (n147) (c148)), (Go.Value.slice (a149) (n150) (c151)), (Go.Value.slice (a152) (n153) (c154))]), (Go.Value.int (IntKind.i64) (x159))] (false, [(false, [.int .i64])]) fun (((x163 : Int), _), _) =>
                      π.join [(true, [.int .i64, .int .i64, .slice]), (false, [.slice]), (false, [.int .i64]), (true, [.int .i64, .str, .slice, .slice, .slice]), (false, [.int .i64]), (true, [.int .i64, .str, .int .i64, .int .i64, .int .i64]), (false, [.int .i64]), (false, [.int .i64])] (fun J164 =>
                        π.call (47 : Nat) #[(Go.Value.string (t158))] (false, [(false, [.bool])]) fun (((b165 : Bool), _), _) =>
                        π.ite (!b165) (
                          π.ret (Go.Value.bool (false))
                        ) (
                          π.call (54 : Nat) #[(Go.Value.agg #[(Go.Value.int (IntKind.i64) (x144)), (Go.Value.string (t145)), (Go.Value.slice (a146) (n147) (c148)), (Go.Value.slice (a149) (n150) (c151)), (Go.Value.slice (a152) (n153) (c154))]), (Go.Value.string (t158))] (false, [(false, [.int .i64])]) fun (((x166 : Int), _), _) =>
                          π.ite (x166 != x155) (
                            π.ret (Go.Value.bool (false))
                          ) (
                            π.ite (decide (x161 < (1 : Int))) (
                              π.ret (Go.Value.bool (false))
                            ) (
                              π.ite (decide (x161 > (3 : Int))) (
                                π.ret (Go.Value.bool (false))
                              ) (
                                π.ite (decide (x163 < (0 : Int))) (
                                  π.ret (Go.Value.bool (false))
                                ) (
                                  π.ite (decide (x162 < (0 : Int))) (
                                    π.ret (Go.Value.bool (false))
                                  ) (
                                    J164 ((x135, x136, (a137, n138, c139), ()), ((a140, n141, c142), ()), (x143, ()), (x144, t145, (a146, n147, c148), (a149, n150, c151), (a152, n153, c154), ()), (x155, ()), (x157, t158, x159, x160, x161, ()), (x162, ()), (x163, ()), ())
                                  )
                                )
                              )
                            )
                          )
                        )
                      ) (fun (((x167 : Int), (x168 : Int), ((a169 : Option Addr), (n170 : Nat), (c171 : Nat)), _), (((a172 : Option Addr), (n173 : Nat), (c174 : Nat)), _), ((x175 : Int), _), ((x176 : Int), (t177 : ByteArray), ((a178 : Option Addr), (n179 : Nat), (c180 : Nat)), ((a181 : Option Addr), (n182 : Nat), (c183 : Nat)), ((a184 : Option Addr), (n185 : Nat), (c186 : Nat)), _), ((x187 : Int), _), ((x188 : Int), (t189 : ByteArray), (x190 : Int), (x191 : Int), (x192 : Int), _), ((x193 : Int), _), ((x194 : Int), _), _) =>
                        π.guard ((0 : Int) ≤ x193 ∧ x193 < (↑n170 : Int)) <|
                        π.unSome (a169) fun p195 =>
                        π.ld [.slice] ((p195.add (x193.toNat * (5 : Nat))).add (2 : Nat)) fun (((a196 : Option Addr), (n197 : Nat), (c198 : Nat)), _) =>
                        π.ite ((↑n197 : Int) == (0 : Int)) (
                          π.ret (Go.Value.bool (false))
                        ) (
                          π.guard ((0 : Int) ≤ x193 ∧ x193 < (↑n170 : Int)) <|
                          π.unSome (a169) fun p199 =>
                          π.ld [.slice] ((p199.add (x193.toNat * (5 : Nat))).add (2 : Nat)) fun (((a200 : Option Addr), (n201 : Nat), (c202 : Nat)), _) =>
                          π.guard ((0 : Int) ≤ (0 : Int) ∧ (0 : Int) < (↑n201 : Int)) <|
                          π.unSome (a200) fun p203 =>
                          π.ld [.int .i64] ((p203.add (0 : Nat)).add (2 : Nat)) fun ((x204 : Int), _) =>
                          π.guard ((0 : Int) ≤ x194 ∧ x194 < (↑n179 : Int)) <|
                          π.unSome (a178) fun p205 =>
                          π.ld [.int .i64] ((p205.add (x194.toNat * (7 : Nat))).add (2 : Nat)) fun ((x206 : Int), _) =>
                          π.ite (x204 != x206) (
                            π.ret (Go.Value.bool (false))
                          ) (
                            π.nw (Go.Obj.cells #[(Go.Value.int (IntKind.i64) (x188))] (3 : Nat) ((0 : Nat), (0 : Nat))) fun r207 =>
                            π.app (3 : Nat) (1 : Nat) (8 : Nat) [(Go.Value.int (IntKind.i64) ((0 : Int)))] (a172) (n173) (c174) (Src.sl (some (Addr.mk r207 (0 : Nat) none)) (1 : Nat)) fun a208 n209 c210 =>
                            again134 ((x167, x168, (a169, n170, c171), ()), ((a208, n209, c210), ()), (x175, ()), (x176, t177, (a178, n179, c180), (a181, n182, c183), (a184, n185, c186), ()), (IntKind.i64.wrap (x187 + (1 : Int)), ()), ())
                          )
                        )
                      )
                    ) (
                      again6 ((x135, x136, (a137, n138, c139), ()), ((a140, n141, c142), ()), (IntKind.i64.wrap (x143 + (1 : Int)), ()), ())
                    )
                )
            )
        )
      ) (
        π.loop [(true, [.int .i64, .int .i64, .slice]), (false, [.slice]), (false, [.int .i64])] ((x7, x8, (a9, n10, c11), ()), ((a12, n13, c14), ()), ((0 : Int), ()), ()) fun (((x212 : Int), (x213 : Int), ((a214 : Option Addr), (n215 : Nat), (c216 : Nat)), _), (((a217 : Option Addr), (n218 : Nat), (c219 : Nat)), _), ((x220 : Int), _), _) again211 =>
          π.ite (decide (x220 < (↑n218 : Int))) (
            π.join [(true, [.int .i64, .int .i64, .slice]), (false, [.slice]), (false, [.int .i64])] (fun J221 =>
              π.guard ((0 : Int) ≤ x220 ∧ x220 < (↑n218 : Int)) <|
              π.unSome (a217) fun p222 =>
              π.ld [.int .i64] (p222.add (x220.toNat * (1 : Nat))) fun ((x223 : Int), _) =>
              π.ite (decide (x223 < (1 : Int))) (
                π.ret (Go.Value.bool (false))
              ) (
                π.guard ((0 : Int) ≤ x220 ∧ x220 < (↑n218 : Int)) <|
                π.unSome (a217) fun p224 =>
                π.ld [.int .i64] (p224.add (x220.toNat * (1 : Nat))) fun ((x225 : Int), _) =>
                π.ite (decide (x225 > x213)) (
                  π.ret (Go.Value.bool (false))
                ) (
                  J221 ((x212, x213, (a214, n215, c216), ()), ((a217, n218, c219), ()), (x220, ()), ())
                )
              )
            ) (fun (((x226 : Int), (x227 : Int), ((a228 : Option Addr), (n229 : Nat), (c230 : Nat)), _), (((a231 : Option Addr), (n232 : Nat), (c233 : Nat)), _), ((x234 : Int), _), _) =>
              π.loop [(true, [.int .i64, .int .i64, .slice]), (false, [.slice]), (false, [.int .i64]), (false, [.int .i64])] ((x226, x227, (a228, n229, c230), ()), ((a231, n232, c233), ()), (x234, ()), ((0 : Int), ()), ()) fun (((x236 : Int), (x237 : Int), ((a238 : Option Addr), (n239 : Nat), (c240 : Nat)), _), (((a241 : Option Addr), (n242 : Nat), (c243 : Nat)), _), ((x244 : Int), _), ((x245 : Int), _), _) again235 =>
                π.ite (decide (x245 < x244)) (
                  π.guard ((0 : Int) ≤ x245 ∧ x245 < (↑n242 : Int)) <|
                  π.unSome (a241) fun p246 =>
                  π.ld [.int .i64] (p246.add (x245.toNat * (1 : Nat))) fun ((x247 : Int), _) =>
                  π.guard ((0 : Int) ≤ x244 ∧ x244 < (↑n242 : Int)) <|
                  π.unSome (a241) fun p248 =>
                  π.ld [.int .i64] (p248.add (x244.toNat * (1 : Nat))) fun ((x249 : Int), _) =>
                  π.ite (x247 == x249) (
                    π.ret (Go.Value.bool (false))
                  ) (
                    again235 ((x236, x237, (a238, n239, c240), ()), ((a241, n242, c243), ()), (x244, ()), (IntKind.i64.wrap (x245 + (1 : Int)), ()), ())
                  )
                ) (
                  again211 ((x236, x237, (a238, n239, c240), ()), ((a241, n242, c243), ()), (IntKind.i64.wrap (x244 + (1 : Int)), ()), ())
                )
            )
          ) (
            π.ret (Go.Value.bool (true))
          )
      )
  )
def ann_rRight : Ann := { draws := [(33, { A := [0, 1, 2, 3, 4, 5, 6, 7, 8, 9, 10, 11, 12, 13, 14, 15, 16, 17, 18, 19, 20, 21, 22, 23, 24, 25] }), (39, { A := [0, 1, 2, 3, 4, 5, 6, 7, 8, 9, 10, 11, 12, 13] }), (44, { A := [0, 1, 2, 3, 4, 5, 6, 7, 8] })], join := [(3, [(1, 24)]), (10, [(1, 24), (3, 100), (4, 3), (5, 42)]), (33, [(1, 24), (3, 100), (4, 3), (5, 42), (10, 3), (11, 109), (12, 3), (13, 3)]), (41, [(1, 24), (3, 100), (14, 3)])], loop := [(5, [(1, 24), (3, 100), (4, 3)]), (12, [(1, 24), (3, 100), (4, 3), (5, 42), (6, 3)]), (19, [(1, 24), (3, 100), (4, 3), (5, 42), (8, 3)]), (26, [(1, 24), (3, 100), (4, 3), (5, 42), (10, 3)]), (37, [(1, 24), (3, 100), (14, 3)]), (42, [(1, 24), (3, 100), (14, 3), (15, 3)])] }
def la_rRight : LA := { ptr := [(1, 1, 0), (5, 5, 0), (7, 7, 0), (9, 9, 0), (11, 11, 0), (16, 1, 0), (20, 1, 0), (25, 1, 1), (30, 1, 1), (35, 1, 2), (41, 1, 2), (47, 1, 2), (52, 5, 1), (58, 5, 1), (65, 5, 2), (71, 5, 2), (77, 5, 3), (83, 5, 4), (89, 5, 0), (94, 5, 2), (100, 5, 2), (105, 7, 1), (111, 7, 1), (118, 7, 3), (123, 7, 3), (131, 7, 3), (137, 7, 2), (143, 7, 4), (145, 7, 2), (151, 7, 0), (156, 5, 3), (162, 5, 3), (167, 9, 1), (173, 9, 1), (180, 9, 4), (185, 9, 4), (191, 9, 2), (197, 9, 0), (202, 5, 4), (208, 5, 4), (214, 11, 3), (218, 11, 2), (221, 11, 1), (227, 11, 1), (234, 11, 4), (239, 11, 4), (251, 1, 2), (260, 1, 2), (269, 5, 2), (278, 11, 0), (298, 1, 1)], ty := [(1, 24), (5, 42), (7, 44), (9, 106), (11, 109)] }
set_option maxRecDepth 100000 in
theorem eq_rRight {W : Type} (π : Prims W) (sv sl : Int) (sa : Option Addr) (san sac : Nat) : bodyL π Try.prog la_rRight ann_rRight (mkFr (maskA [] [.v (.agg #[.int .i64 sv, .int .i64 sl, .slice sa san sac])] 0) 316) Try.f19 (bodyOf Try.f19) (mkFr (List.map some [.v (.agg #[.int .i64 sv, .int .i64 sl, .slice sa san sac])]) 316) = vc_rRight π sv sl sa san sac := by kernel_rfl
theorem ok_rRight (sv sl : Int) (sa : Option Addr) (san sac : Nat) (R : Value → PH → Prop) (s : PH) (h : vc_rRight (RP Try.prog R) sv sl sa san sac s) : DCalls Try.prog 19 (List.map AV.val [.v (.agg #[.int .i64 sv, .int .i64 sl, .slice sa san sac])]).toArray s R :=
  calls_vcL (c := bodyOf Try.f19) (ann := ann_rRight) la_rRight (by kernel_rfl) Try.func19 rfl (by kernel_rfl) [.v (.agg #[.int .i64 sv, .int .i64 sl, .slice sa san sac])] [] (by rw [Try.ntmps19]; exact Nat.le_of_ble_eq_true rfl) (by kernel_rfl) (by rw [show Try.f19.ntmps = 316 from Try.ntmps19, eq_rRight]; exact h)
/-- lintel/lintelref15.State -/
def vc_rState {W : Type} (π : Prims W) (sv sl : Int) (sa : Option Addr) (san sac : Nat) (dk : Int) (dt dn dc dp : ByteArray) (du : Bool) (dy vk vn : Int) (vs : ByteArray) (da : Option Addr) (dan dac : Nat) : W :=
  π.call (18 : Nat) #[(Go.Value.agg #[(Go.Value.int (IntKind.i64) (sv)), (Go.Value.int (IntKind.i64) (sl)), (Go.Value.slice (sa) (san) (sac))]), (Go.Value.string (dt))] (false, [(false, [.int .i64])]) fun (((x0 : Int), _), _) =>
  π.ite (dk == (1 : Int)) (
    π.ite (decide (x0 < (0 : Int))) (
      π.ret (Go.Value.int (IntKind.i64) ((0 : Int)))
    ) (
      π.ret (Go.Value.int (IntKind.i64) ((3 : Int)))
    )
  ) (
    π.ite (decide (x0 < (0 : Int))) (
      π.ret (Go.Value.int (IntKind.i64) ((0 : Int)))
    ) (
      π.guard ((0 : Int) ≤ x0 ∧ x0 < (↑san : Int)) <|
      π.unSome (sa) fun p1 =>
      π.ld [.int .i64, .str, .slice, .slice, .slice] (p1.add (x0.toNat * (5 : Nat))) fun ((x2 : Int), (t3 : ByteArray), ((a4 : Option Addr), (n5 : Nat), (c6 : Nat)), ((a7 : Option Addr), (n8 : Nat), (c9 : Nat)), ((a10 : Option Addr), (n11 : Nat), (c12 : Nat)), _) =>
      π.join [(true, [.int .i64, .str, .str, .str, .str, .bool, .int .i64, .int .i64, .int .i64, .str, .slice]), (true, [.int .i64, .str, .slice, .slice, .slice]), (false, [.bool])] (fun J13 =>
        π.ite (dk == (4 : Int)) (
          J13 ((dk, dt, dn, dc, dp, du, dy, vk, vn, vs, (da, dan, dac), ()), (x2, t3, (a4, n5, c6), (a7, n8, c9), (a10, n11, c12), ()), (true, ()), ())
        ) (
          J13 ((dk, dt, dn, dc, dp, du, dy, vk, vn, vs, (da, dan, dac), ()), (x2, t3, (a4, n5, c6), (a7, n8, c9), (a10, n11, c12), ()), (dk == (5 : Int), ()), ())
        )
      ) (fun (((x14 : Int), (t15 : ByteArray), (t16 : ByteArray), (t17 : ByteArray), (t18 : ByteArray), (b19 : Bool), (x20 : Int), (x21 : Int), (x22 : Int), (t23 : ByteArray), ((a24 : Option Addr), (n25 : Nat), (c26 : Nat)), _), ((x27 : Int), (t28 : ByteArray), ((a29 : Option Addr), (n30 : Nat), (c31 : Nat)), ((a32 : Option Addr), (n33 : Nat), (c34 : Nat)), ((a35 : Option Addr), (n36 : Nat), (c37 : Nat)), _), ((b38 : Bool), _), _) =>
        π.ite (b38) (
          π.call (48 : Nat) #[(Go.Value.agg #[(Go.Value.int (IntKind.i64) (x27)), (Go.Value.string (t28)), (Go.Value.slice (a29) (n30) (c31)), (Go.Value.slice (a32) (n33) (c34)), (Go.Value.slice (a35) (n36) (c37))]), (Go.Value.string (t17))] (false, [(false, [.int .i64])]) fun (((x39 : Int), _), _) =>
          π.ite (decide (x39 ≥ (0 : Int))) (
            π.guard ((0 : Int) ≤ x39 ∧ x39 < (↑n30 : Int)) <|
            π.unSome (a29) fun p40 =>
            π.ld [.int .i64] ((p40.add (x39.toNat * (7 : Nat))).add (3 : Nat)) fun ((x41 : Int), _) =>
            π.ret (Go.Value.int (IntKind.i64) (x41))
          ) (
            π.ret (Go.Value.int (IntKind.i64) ((0 : Int)))
          )
        ) (
          π.join [(true, [.int .i64, .str, .str, .str, .str, .bool, .int .i64, .int .i64, .int .i64, .str, .slice]), (true, [.int .i64, .str, .slice, .slice, .slice]), (false, [.bool])] (fun J42 =>
            π.ite (x14 == (2 : Int)) (
              J42 ((x14, t15, t16, t17, t18, b19, x20, x21, x22, t23, (a24, n25, c26), ()), (x27, t28, (a29, n30, c31), (a32, n33, c34), (a35, n36, c37), ()), (true, ()), ())
            ) (
              J42 ((x14, t15, t16, t17, t18, b19, x20, x21, x22, t23, (a24, n25, c26), ()), (x27, t28, (a29, n30, c31), (a32, n33, c34), (a35, n36, c37), ()), (x14 == (3 : Int), ()), ())
            )
          ) (fun (((x43 : Int), (t44 : ByteArray), (t45 : ByteArray), (t46 : ByteArray), (t47 : ByteArray), (b48 : Bool), (x49 : Int), (x50 : Int), (x51 : Int), (t52 : ByteArray), ((a53 : Option Addr), (n54 : Nat), (c55 : Nat)), _), ((x56 : Int), (t57 : ByteArray), ((a58 : Option Addr), (n59 : Nat), (c60 : Nat)), ((a61 : Option Addr), (n62 : Nat), (c63 : Nat)), ((a64 : Option Addr), (n65 : Nat), (c66 : Nat)), _), ((b67 : Bool), _), _) =>
            π.ite (b67) (
              π.call (51 : Nat) #[(Go.Value.agg #[(Go.Value.int (IntKind.i64) (x56)), (Go.Value.string (t57)), (Go.Value.slice (a58) (n59) (c60)), (Go.Value.slice (a61) (n62) (c63)), (Go.Value.slice (a64) (n65) (c66))]), (Go.Value.string (t45))] (false, [(false, [.int .i64])]) fun (((x68 : Int), _), _) =>
              π.ite (decide (x68 ≥ (0 : Int))) (
                π.guard ((0 : Int) ≤ x68 ∧ x68 < (↑n62 : Int)) <|
                π.unSome (a61) fun p69 =>
                π.ld [.int .i64] ((p69.add (x68.toNat * (5 : Nat))).add (4 : Nat)) fun ((x70 : Int), _) =>
                π.ret (Go.Value.int (IntKind.i64) (x70))
              ) (
                π.ret (Go.Value.int (IntKind.i64) ((0 : Int)))
              )
            ) (
              π.call (54 : Nat) #[(Go.Value.agg #[(Go.Value.int (IntKind.i64) (x56)), (Go.Value.string (t57)), (Go.Value.slice (a58) (n59) (c60)), (Go.Value.slice (a61) (n62) (c63)), (Go.Value.slice (a64) (n65) (c66))]), (Go.Value.string (t45))] (false, [(false, [.int .i64])]) fun (((x71 : Int), _), _) =>
              π.ite (decide (x71 ≥ (0 : Int))) (
                π.guard ((0 : Int) ≤ x71 ∧ x71 < (↑n65 : Int)) <|
                π.unSome (a64) fun p72 =>
                π.ld [.int .i64] ((p72.add (x71.toNat * (5 : Nat))).add (4 : Nat)) fun ((x73 : Int), _) =>
                π.ret (Go.Value.int (IntKind.i64) (x73))
              ) (
                π.ret (Go.Value.int (IntKind.i64) ((0 : Int)))
              )
            )
          )
        )
      )
    )
  )
def ann_rState : Ann := { draws := [], join := [(10, [(3, 29), (6, 42), (33, 4)]), (15, [(3, 29), (6, 42), (53, 4)])], loop := [] }
def la_rState : LA := { ptr := [(2, 2, 0), (3, 3, 0), (6, 6, 0), (11, 3, 1), (14, 3, 0), (21, 2, 2), (26, 3, 0), (30, 3, 0), (35, 3, 3), (40, 6, 2), (46, 3, 0), (50, 3, 0), (55, 3, 2), (60, 6, 3), (67, 3, 2), (72, 6, 4)], ty := [(2, 24), (3, 29), (6, 42)] }
set_option maxRecDepth 100000 in
theorem eq_rState {W : Type} (π : Prims W) (sv sl : Int) (sa : Option Addr) (san sac : Nat) (dk : Int) (dt dn dc dp : ByteArray) (du : Bool) (dy vk vn : Int) (vs : ByteArray) (da : Option Addr) (dan dac : Nat) : bodyL π Try.prog la_rState ann_rState (mkFr (maskA [] [.v (.agg #[.int .i64 sv, .int .i64 sl, .slice sa san sac]), .v (.agg #[.int .i64 dk, .string dt, .string dn, .string dc, .string dp, .bool du, .int .i64 dy, .int .i64 vk, .int .i64 vn, .string vs, .slice da dan dac])] 0) 78) Try.f25 (bodyOf Try.f25) (mkFr (List.map some [.v (.agg #[.int .i64 sv, .int .i64 sl, .slice sa san sac]), .v (.agg #[.int .i64 dk, .string dt, .string dn, .string dc, .string dp, .bool du, .int .i64 dy, .int .i64 vk, .int .i64 vn, .string vs, .slice da dan dac])]) 78) = vc_rState π sv sl sa san sac dk dt dn dc dp du dy vk vn vs da dan dac := by kernel_rfl
theorem ok_rState (sv sl : Int) (sa : Option Addr) (san sac : Nat) (dk : Int) (dt dn dc dp : ByteArray) (du : Bool) (dy vk vn : Int) (vs : ByteArray) (da : Option Addr) (dan dac : Nat) (R : Value → PH → Prop) (s : PH) (h : vc_rState (RP Try.prog R) sv sl sa san sac dk dt dn dc dp du dy vk vn vs da dan dac s) : DCalls Try.prog 25 (List.map AV.val [.v (.agg #[.int .i64 sv, .int .i64 sl, .slice sa san sac]), .v (.agg #[.int .i64 dk, .string dt, .string dn, .string dc, .string dp, .bool du, .int .i64 dy, .int .i64 vk, .int .i64 vn, .string vs, .slice da dan dac])]).toArray s R :=
  calls_vcL (c := bodyOf Try.f25) (ann := ann_rState) la_rState (by kernel_rfl) Try.func25 rfl (by kernel_rfl) [.v (.agg #[.int .i64 sv, .int .i64 sl, .slice sa san sac]), .v (.agg #[.int .i64 dk, .string dt, .string dn, .string dc, .string dp, .bool du, .int .i64 dy, .int .i64 vk, .int .i64 vn, .string vs, .slice da dan dac])] [] (by rw [Try.ntmps25]; exact Nat.le_of_ble_eq_true rfl) (by kernel_rfl) (by rw [show Try.f25.ntmps = 78 from Try.ntmps25, eq_rState]; exact h)
/-- lintel/lintelref15.Without -/
def vc_rWithout {W : Type} (π : Prims W) (sv sl : Int) (sa : Option Addr) (san sac : Nat) (dk : Int) (dt dn dc dp : ByteArray) (du : Bool) (dy vk vn : Int) (vs : ByteArray) (da : Option Addr) (dan dac : Nat) : W :=
  π.call (13 : Nat) #[(Go.Value.agg #[(Go.Value.int (IntKind.i64) (sv)), (Go.Value.int (IntKind.i64) (sl)), (Go.Value.slice (sa) (san) (sac))])] (false, [(true, [.int .i64, .int .i64, .slice])]) fun (((x0 : Int), (x1 : Int), ((a2 : Option Addr), (n3 : Nat), (c4 : Nat)), _), _) =>
  π.loop [(true, [.int .i64, .int .i64, .slice]), (true, [.int .i64, .str, .str, .str, .str, .bool, .int .i64, .int .i64, .int .i64, .str, .slice]), (true, [.int .i64, .int .i64, .slice]), (false, [.slice]), (false, [.int .i64])] ((x0, x1, (a2, n3, c4), ()), (dk, dt, dn, dc, dp, du, dy, vk, vn, vs, (da, dan, dac), ()), ((0 : Int), (0 : Int), (none, (0 : Nat), (0 : Nat)), ()), ((none, (0 : Nat), (0 : Nat)), ()), ((0 : Int), ()), ()) fun (((x6 : Int), (x7 : Int), ((a8 : Option Addr), (n9 : Nat), (c10 : Nat)), _), ((x11 : Int), (t12 : ByteArray), (t13 : ByteArray), (t14 : ByteArray), (t15 : ByteArray), (b16 : Bool), (x17 : Int), (x18 : Int), (x19 : Int), (t20 : ByteArray), ((a21 : Option Addr), (n22 : Nat), (c23 : Nat)), _), ((x24 : Int), (x25 : Int), ((a26 : Option Addr), (n27 : Nat), (c28 : Nat)), _), (((a29 : Option Addr), (n30 : Nat), (c31 : Nat)), _), ((x32 : Int), _), _) again5 =>
    π.ite (decide (x32 < (↑n9 : Int))) (
      π.guard ((0 : Int) ≤ x32 ∧ x32 < (↑n9 : Int)) <|
      π.unSome (a8) fun p33 =>
      π.ld [.int .i64, .str, .slice, .slice, .slice] (p33.add (x32.toNat * (5 : Nat))) fun ((x34 : Int), (t35 : ByteArray), ((a36 : Option Addr), (n37 : Nat), (c38 : Nat)), ((a39 : Option Addr), (n40 : Nat), (c41 : Nat)), ((a42 : Option Addr), (n43 : Nat), (c44 : Nat)), _) =>
      π.ite (!t35.toList == t12.toList) (
        π.nw (Go.Obj.cells #[(Go.Value.int (IntKind.i64) (x34)), (Go.Value.string (t35)), (Go.Value.slice (a36) (n37) (c38)), (Go.Value.slice (a39) (n40) (c41)), (Go.Value.slice (a42) (n43) (c44))] (42 : Nat) ((0 : Nat), (0 : Nat))) fun r45 =>
        π.app (42 : Nat) (5 : Nat) (96 : Nat) [(Go.Value.int (IntKind.i64) ((0 : Int))), (Go.Value.string (ByteArray.mk #[])), (Go.Value.slice (none) ((0 : Nat)) ((0 : Nat))), (Go.Value.slice (none) ((0 : Nat)) ((0 : Nat))), (Go.Value.slice (none) ((0 : Nat)) ((0 : Nat)))] (a29) (n30) (c31) (Src.sl (some (Addr.mk r45 (0 : Nat) none)) (1 : Nat)) fun a46 n47 c48 =>
        again5 ((x6, x7, (a8, n9, c10), ()), (x11, t12, t13, t14, t15, b16, x17, x18, x19, t20, (a21, n22, c23), ()), (x24, x25, (a26, n27, c28), ()), ((a46, n47, c48), ()), (IntKind.i64.wrap (x32 + (1 : Int)), ()), ())
      ) (
        π.ite (x11 == (1 : Int)) (
          again5 ((x6, x7, (a8, n9, c10), ()), (x11, t12, t13, t14, t15, b16, x17, x18, x19, t20, (a21, n22, c23), ()), (x24, x25, (a26, n27, c28), ()), ((a29, n30, c31), ()), (IntKind.i64.wrap (x32 + (1 : Int)), ()), ())
        ) (
          π.join [(true, [.int .i64, .int .i64, .slice]), (true, [.int .i64, .str, .str, .str, .str, .bool, .int .i64, .int .i64, .int .i64, .str, .slice]), (true, [.int .i64, .int .i64, .slice]), (false, [.slice]), (false, [.int .i64]), (true, [.int .i64, .str, .slice, .slice, .slice])] (fun J49 =>
            π.call (48 : Nat) #[(Go.Value.agg #[(Go.Value.int (IntKind.i64) (x34)), (Go.Value.string (t35)), (Go.Value.slice (a36) (n37) (c38)), (Go.Value.slice (a39) (n40) (c41)), (Go.Value.slice (a42) (n43) (c44))]), (Go.Value.string (t14))] (false, [(false, [.int .i64])]) fun (((x50 : Int), _), _) =>
            π.join [(true, [.int .i64, .int .i64, .slice]), (true, [.int .i64, .str, .str, .str, .str, .bool, .int .i64, .int .i64, .int .i64, .str, .slice]), (true, [.int .i64, .int .i64, .slice]), (false, [.slice]), (false, [.int .i64]), (true, [.int .i64, .str, .slice, .slice, .slice]), (false, [.int .i64]), (false, [.bool])] (fun J51 =>
              π.ite (x11 == (4 : Int)) (
                J51 ((x6, x7, (a8, n9, c10), ()), (x11, t12, t13, t14, t15, b16, x17, x18, x19, t20, (a21, n22, c23), ()), (x24, x25, (a26, n27, c28), ()), ((a29, n30, c31), ()), (x32, ()), (x34, t35, (a36, n37, c38), (a39, n40, c41), (a42, n43, c44), ()), (x50, ()), (decide (x50 ≥ (0 : Int)), ()), ())
              ) (
                π.ite (x11 == (5 : Int)) (
                  J51 ((x6, x7, (a8, n9, c10), ()), (x11, t12, t13, t14, t15, b16, x17, x18, x19, t20, (a21, n22, c23), ()), (x24, x25, (a26, n27, c28), ()), ((a29, n30, c31), ()), (x32, ()), (x34, t35, (a36, n37, c38), (a39, n40, c41), (a42, n43, c44), ()), (x50, ()), (decide (x50 ≥ (0 : Int)), ()), ())
                ) (
                  J51 ((x6, x7, (a8, n9, c10), ()), (x11, t12, t13, t14, t15, b16, x17, x18, x19, t20, (a21, n22, c23), ()), (x24, x25, (a26, n27, c28), ()), ((a29, n30, c31), ()), (x32, ()), (x34, t35, (a36, n37, c38), (a39, n40, c41), (a42, n43, c44), ()), (x50, ()), (false, ()), ())
                )
              )
            ) (fun (((x52 : Int), (x53 : Int), ((a54 : Option Addr), (n55 : Nat), (c56 : Nat)), _), ((x57 : Int), (t58 : ByteArray), (t59 : ByteArray), (t60 : ByteArray), (t61 : ByteArray), (b62 : Bool), (x63 : Int), (x64 : Int), (x65 : Int), (t66 : ByteArray), ((a67 : Option Addr), (n68 : Nat), (c69 : Nat)), _), ((x70 : Int), (x71 : Int), ((a72 : Option Addr), (n73 : Nat), (c74 : Nat)), _), (((a75 : Option Addr), (n76 : Nat), (c77 : Nat)), _), ((x78 : Int), _), ((x79 : Int), (t80 : ByteArray), ((a81 : Option Addr), (n82 : Nat), (c83 : Nat)), ((a84 : Option Addr), (n85 : Nat), (c86 : Nat)), ((a87 : Option Addr), (n88 : Nat), (c89 : Nat)), _), ((x90 : Int), _), ((b91 : Bool), _), _) =>
              π.ite (b91) (
                π.guard ((0 : Int) ≤ (0 : Int) ∧ (0 : Int) ≤ x90 ∧ x90 ≤ (↑c83 : Int)) <|
                π.guard ((0 : Int) ≤ IntKind.i64.wrap (x90 + (1 : Int)) ∧ IntKind.i64.wrap (x90 + (1 : Int)) ≤ (↑n82 : Int) ∧ (↑n82 : Int) ≤ (↑c83 : Int)) <|
                π.nw (Go.Obj.cells #[] (44 : Nat) ((0 : Nat), (0 : Nat))) fun r92 =>
                π.app (44 : Nat) (7 : Nat) (72 : Nat) [(Go.Value.int (IntKind.i64) ((0 : Int))), (Go.Value.string (ByteArray.mk #[])), (Go.Value.int (IntKind.i64) ((0 : Int))), (Go.Value.int (IntKind.i64) ((0 : Int))), (Go.Value.int (IntKind.i64) ((0 : Int))), (Go.Value.int (IntKind.i64) ((0 : Int))), (Go.Value.string (ByteArray.mk #[]))] (some (Addr.mk r92 (0 : Nat) none)) ((0 : Nat)) ((0 : Nat)) (Src.sl (if c83 = (0 : Nat) then a81 else Option.map (fun x => x.add (0 : Nat)) a81) (x90.toNat - (0 : Nat))) fun a93 n94 c95 =>
                π.app (44 : Nat) (7 : Nat) (72 : Nat) [(Go.Value.int (IntKind.i64) ((0 : Int))), (Go.Value.string (ByteArray.mk #[])), (Go.Value.int (IntKind.i64) ((0 : Int))), (Go.Value.int (IntKind.i64) ((0 : Int))), (Go.Value.int (IntKind.i64) ((0 : Int))), (Go.Value.int (IntKind.i64) ((0 : Int))), (Go.Value.string (ByteArray.mk #[]))] (a93) (n94) (c95) (Src.sl (if c83 = (IntKind.i64.wrap (x90 + (1 : Int))).toNat then a81 else Option.map (fun x => x.add ((IntKind.i64.wrap (x90 + (1 : Int))).toNat * (7 : Nat))) a81) ((↑n82 : Int).toNat - (IntKind.i64.wrap (x90 + (1 : Int))).toNat)) fun a96 n97 c98 =>
                J49 ((x52, x53, (a54, n55, c56), ()), (x57, t58, t59, t60, t61, b62, x63, x64, x65, t66, (a67, n68, c69), ()), (x70, x71, (a72, n73, c74), ()), ((a75, n76, c77), ()), (x78, ()), (x79, t80, (a96, n97, c98), (a84, n85, c86), (a87, n88, c89), ()), ())
              ) (
                J49 ((x52, x53, (a54, n55, c56), ()), (x57, t58, t59, t60, t61, b62, x63, x64, x65, t66, (a67, n68, c69), ()), (x70, x71, (a72, n73, c74), ()), ((a75, n76, c77), ()), (x78, ()), (x79, t80, (a81, n82, c83), (a84, n85, c86), (a87, n88, c89), ()), ())
              )
            )
          ) (fun (((x99 : Int), (x100 : Int), ((a101 : Option Addr), (n102 : Nat), (c103 : Nat)), _), ((x104 : Int), (t105 : ByteArray), (t106 : ByteArray), (t107 : ByteArray), (t108 : ByteArray), (b109 : Bool), (x110 : Int), (x111 : Int), (x112 : Int), (t113 : ByteArray), ((a114 : Option Addr), (n115 : Nat), (c116 : Nat)), _), ((x117 : Int), (x118 : Int), ((a119 : Option Addr), (n120 : Nat), (c121 : Nat)), _), (((a122 : Option Addr), (n123 : Nat), (c124 : Nat)), _), ((x125 : Int), _), ((x126 : Int), (t127 : ByteArray), ((a128 : Option Addr), (n129 : Nat), (c130 : Nat)), ((a131 : Option Addr), (n132 : Nat), (c133 : Nat)), ((a134 : Option Addr), (n135 : Nat), (c136 : Nat)), _), _) =>
            π.join [(true, [.int .i64, .int .i64, .slice]), (true, [.int .i64, .str, .str, .str, .str, .bool, .int .i64, .int .i64, .int .i64, .str, .slice]), (true, [.int .i64, .int .i64, .slice]), (false, [.slice]), (false, [.int .i64]), (true, [.int .i64, .str, .slice, .slice, .slice])] (fun J137 =>
              π.call (51 : Nat) #[(Go.Value.agg #[(Go.Value.int (IntKind.i64) (x126)), (Go.Value.string (t127)), (Go.Value.slice (a128) (n129) (c130)), (Go.Value.slice (a131) (n132) (c133)), (Go.Value.slice (a134) (n135) (c136))]), (Go.Value.string (t106))] (false, [(false, [.int .i64])]) fun (((x138 : Int), _), _) =>
              π.join [(true, [.int .i64, .int .i64, .slice]), (true, [.int .i64, .str, .str, .str, .str, .bool, .int .i64, .int .i64, .int .i64, .str, .slice]), (true, [.int .i64, .int .i64, .slice]), (false, [.slice]), (false, [.int .i64]), (true, [.int .i64, .str, .slice, .slice, .slice]), (false, [.int .i64]), (false, [.bool])] (fun J139 =>
                π.ite (x104 == (2 : Int)) (
                  J139 ((x99, x100, (a101, n102, c103), ()), (x104, t105, t106, t107, t108, b109, x110, x111, x112, t113, (a114, n115, c116), ()), (x117, x118, (a119, n120, c121), ()), ((a122, n123, c124), ()), (x125, ()), (x126, t127, (a128, n129, c130), (a131, n132, c133), (a134, n135, c136), ()), (x138, ()), (decide (x138 ≥ (0 : Int)), ()), ())
                ) (
                  π.ite (x104 == (3 : Int)) (
                    J139 ((x99, x100, (a101, n102, c103), ()), (x104, t105, t106, t107, t108, b109, x110, x111, x112, t113, (a114, n115, c116), ()), (x117, x118, (a119, n120, c121), ()), ((a122, n123, c124), ()), (x125, ()), (x126, t127, (a128, n129, c130), (a131, n132, c133), (a134, n135, c136), ()), (x138, ()), (decide (x138 ≥ (0 : Int)), ()), ())
                  ) (
                    J139 ((x99, x100, (a101, n102, c103), ()), (x104, t105, t106, t107, t108, b109, x110, x111, x112, t113, (a114, n115, c116), ()), (x117, x118, (a119, n120, c121), ()), ((a122, n123, c124), ()), (x125, ()), (x126, t127, (a128, n129, c130), (a131, n132, c133), (a134, n135, c136), ()), (x138, ()), (false, ()), ())
                  )
                )
              ) (fun (((x140 : Int), (x141 : Int), ((a142 : Option Addr), (n143 : Nat), (c144 : Nat)), _), ((x145 : Int), (t146 : ByteArray), (t147 : ByteArray), (t148 : ByteArray), (t149 : ByteArray), (b150 : Bool), (x151 : Int), (x152 : Int), (x153 : Int), (t154 : ByteArray), ((a155 : Option Addr), (n156 : Nat), (c157 : Nat)), _), ((x158 : Int), (x159 : Int), ((a160 : Option Addr), (n161 : Nat), (c162 : Nat)), _), (((a163 : Option Addr), (n164 : Nat), (c165 : Nat)), _), ((x166 : Int), _), ((x167 : Int), (t168 : ByteArray), ((a169 : Option Addr), (n170 : Nat), (c171 : Nat)), ((a172 : Option Addr), (n173 : Nat), (c174 : Nat)), ((a175 : Option Addr), (n176 : Nat), (c177 : Nat)), _), ((x178 : Int), _), ((b179 : Bool), _), _) =>
                π.ite (b179) (
                  π.guard ((0 : Int) ≤ (0 : Int) ∧ (0 : Int) ≤ x178 ∧ x178 ≤ (↑c174 : Int)) <|
                  π.guard ((0 : Int) ≤ IntKind.i64.wrap (x178 + (1 : Int)) ∧ IntKind.i64.wrap (x178 + (1 : Int)) ≤ (↑n173 : Int) ∧ (↑n173 : Int) ≤ (↑c174 : Int)) <|
                  π.nw (Go.Obj.cells #[] (106 : Nat) ((0 : Nat), (0 : Nat))) fun r180 =>
                  π.app (106 : Nat) (5 : Nat) (48 : Nat) [(Go.Value.int (IntKind.i64) ((0 : Int))), (Go.Value.string (ByteArray.mk #[])), (Go.Value.int (IntKind.i64) ((0 : Int))), (Go.Value.bool (false)), (Go.Value.int (IntKind.i64) ((0 : Int)))] (some (Addr.mk r180 (0 : Nat) none)) ((0 : Nat)) ((0 : Nat)) (Src.sl (if c174 = (0 : Nat) then a172 else Option.map (fun x => x.add (0 : Nat)) a172) (x178.toNat - (0 : Nat))) fun a181 n182 c183 =>
                  π.app (106 : Nat) (5 : Nat) (48 : Nat) [(Go.Value.int (IntKind.i64) ((0 : Int))), (Go.Value.string (ByteArray.mk #[])), (Go.Value.int (IntKind.i64) ((0 : Int))), (Go.Value.bool (false)), (Go.Value.int (IntKind.i64) ((0 : Int)))] (a181) (n182) (c183) (Src.sl (if c174 = (IntKind.i64.wrap (x178 + (1 : Int))).toNat then a172 else Option.map (fun x => x.add ((IntKind.i64.wrap (x178 + (1 : Int))).toNat * (5 : Nat))) a172) ((↑n173 : Int).toNat - (IntKind.i64.wrap (x178 + (1 : Int))).toNat)) fun a184 n185 c186 =>
                  J137 ((x140, x141, (a142, n143, c144), ()), (x145, t146, t147, t148, t149, b150, x151, x152, x153, t154, (a155, n156, c157), ()), (x158, x159, (a160, n161, c162), ()), ((a163, n164, c165), ()), (x166, ()), (x167, t168, (a169, n170, c171), (a184, n185, c186), (a175, n176, c177), ()), ())
                ) (
                  J137 ((x140, x141, (a142, n143, c144), ()), (x145, t146, t147, t148, t149, b150, x151, x152, x153, t154, (a155, n156, c157), ()), (x158, x159, (a160, n161, c162), ()), ((a163, n164, c165), ()), (x166, ()), (x167, t168, (a169, n170, c171), (a172, n173, c174), (a175, n176, c177), ()), ())
                )
              )
            ) (fun (((x187 : Int), (x188 : Int), ((a189 : Option Addr), (n190 : Nat), (c191 : Nat)), _), ((x192 : Int), (t193 : ByteArray), (t194 : ByteArray), (t195 : ByteArray), (t196 : ByteArray), (b197 : Bool), (x198 : Int), (x199 : Int), (x200 : Int), (t201 : ByteArray), ((a202 : Option Addr), (n203 : Nat), (c204 : Nat)), _), ((x205 : Int), (x206 : Int), ((a207 : Option Addr), (n208 : Nat), (c209 : Nat)), _), (((a210 : Option Addr), (n211 : Nat), (c212 : Nat)), _), ((x213 : Int), _), ((x214 : Int), (t215 : ByteArray), ((a216 : Option Addr), (n217 : Nat), (c218 : Nat)), ((a219 : Option Addr), (n220 : Nat), (c221 : Nat)), ((a222 : Option Addr), (n223 : Nat), (c224 : Nat)), _), _) =>
              π.call (54 : Nat) #[(Go.Value.agg #[(Go.Value.int (IntKind.i64) (x214)), (Go.Value.string (t215)), (Go.Value.slice (a216) (n217) (c218)), (Go.Value.slice (a219) (n220) (c221)), (Go.Value.slice (a222) (n223) (c224))]), (Go.Value.string (t194))] (false, [(false, [.int .i64])]) fun (((x225 : Int), _), _) =>
              π.join [(true, [.int .i64, .int .i64, .slice]), (true, [.int .i64, .str, .str, .str, .str, .bool, .int .i64, .int .i64, .int .i64, .str, .slice]), (true, [.int .i64, .int .i64, .slice]), (false, [.slice]), (false, [.int .i64]), (true, [.int .i64, .str, .slice, .slice, .slice]), (false, [.int .i64]), (false, [.bool])] (fun J226 =>
                π.ite (decide (x192 ≥ (6 : Int))) (
                  J226 ((x187, x188, (a189, n190, c191), ()), (x192, t193, t194, t195, t196, b197, x198, x199, x200, t201, (a202, n203, c204), ()), (x205, x206, (a207, n208, c209), ()), ((a210, n211, c212), ()), (x213, ()), (x214, t215, (a216, n217, c218), (a219, n220, c221), (a222, n223, c224), ()), (x225, ()), (decide (x225 ≥ (0 : Int)), ()), ())
                ) (
                  J226 ((x187, x188, (a189, n190, c191), ()), (x192, t193, t194, t195, t196, b197, x198, x199, x200, t201, (a202, n203, c204), ()), (x205, x206, (a207, n208, c209), ()), ((a210, n211, c212), ()), (x213, ()), (x214, t215, (a216, n217, c218), (a219, n220, c221), (a222, n223, c224), ()), (x225, ()), (false, ()), ())
                )
              ) (fun (((x227 : Int), (x228 : Int), ((a229 : Option Addr), (n230 : Nat), (c231 : Nat)), _), ((x232 : Int), (t233 : ByteArray), (t234 : ByteArray), (t235 : ByteArray), (t236 : ByteArray), (b237 : Bool), (x238 : Int), (x239 : Int), (x240 : Int), (t241 : ByteArray), ((a242 : Option Addr), (n243 : Nat), (c244 : Nat)), _), ((x245 : Int), (x246 : Int), ((a247 : Option Addr), (n248 : Nat), (c249 : Nat)), _), (((a250 : Option Addr), (n251 : Nat), (c252 : Nat)), _), ((x253 : Int), _), ((x254 : Int), (t255 : ByteArray), ((a256 : Option Addr), (n257 : Nat), (c258 : Nat)), ((a259 : Option Addr), (n260 : Nat), (c261 : Nat)), ((a262 : Option Addr), (n263 : Nat), (c264 : Nat)), _), ((x265 : Int), _), ((b266 : Bool), _), _) =>
                π.ite (b266) (
                  π.guard ((0 : Int) ≤ (0 : Int) ∧ (0 : Int) ≤ x265 ∧ x265 ≤ (↑c264 : Int)) <|
                  π.guard ((0 : Int) ≤ IntKind.i64.wrap (x265 + (1 : Int)) ∧ IntKind.i64.wrap (x265 + (1 : Int)) ≤ (↑n263 : Int) ∧ (↑n263 : Int) ≤ (↑c264 : Int)) <|
                  π.nw (Go.Obj.cells #[] (109 : Nat) ((0 : Nat), (0 : Nat))) fun r267 =>
                  π.app (109 : Nat) (5 : Nat) (48 : Nat) [(Go.Value.int (IntKind.i64) ((0 : Int))), (Go.Value.string (ByteArray.mk #[])), (Go.Value.int (IntKind.i64) ((0 : Int))), (Go.Value.int (IntKind.i64) ((0 : Int))), (Go.Value.int (IntKind.i64) ((0 : Int)))] (some (Addr.mk r267 (0 : Nat) none)) ((0 : Nat)) ((0 : Nat)) (Src.sl (if c264 = (0 : Nat) then a262 else Option.map (fun x => x.add (0 : Nat)) a262) (x265.toNat - (0 : Nat))) fun a268 n269 c270 =>
                  π.app (109 : Nat) (5 : Nat) (48 : Nat) [(Go.Value.int (IntKind.i64) ((0 : Int))), (Go.Value.string (ByteArray.mk #[])), (Go.Value.int (IntKind.i64) ((0 : Int))), (Go.Value.int (IntKind.i64) ((0 : Int))), (Go.Value.int (IntKind.i64) ((0 : Int)))] (a268) (n269) (c270) (Src.sl (if c264 = (IntKind.i64.wrap (x265 + (1 : Int))).toNat then a262 else Option.map (fun x => x.add ((IntKind.i64.wrap (x265 + (1 : Int))).toNat * (5 : Nat))) a262) ((↑n263 : Int).toNat - (IntKind.i64.wrap (x265 + (1 : Int))).toNat)) fun a271 n272 c273 =>
                  π.nw (Go.Obj.cells #[(Go.Value.int (IntKind.i64) (x254)), (Go.Value.string (t255)), (Go.Value.slice (a256) (n257) (c258)), (Go.Value.slice (a259) (n260) (c261)), (Go.Value.slice (a271) (n272) (c273))] (42 : Nat) ((0 : Nat), (0 : Nat))) fun r274 =>
                  π.app (42 : Nat) (5 : Nat) (96 : Nat) [(Go.Value.int (IntKind.i64) ((0 : Int))), (Go.Value.string (ByteArray.mk #[])), (Go.Value.slice (none) ((0 : Nat)) ((0 : Nat))), (Go.Value.slice (none) ((0 : Nat)) ((0 : Nat))), (Go.Value.slice (none) ((0 : Nat)) ((0 : Nat)))] (a250) (n251) (c252) (Src.sl (some (Addr.mk r274 (0 : Nat) none)) (1 : Nat)) fun a275 n276 c277 =>
                  again5 ((x227, x228, (a229, n230, c231), ()), (x232, t233, t234, t235, t236, b237, x238, x239, x240, t241, (a242, n243, c244), ()), (x245, x246, (a247, n248, c249), ()), ((a275, n276, c277), ()), (IntKind.i64.wrap (x253 + (1 : Int)), ()), ())
                ) (
                  π.nw (Go.Obj.cells #[(Go.Value.int (IntKind.i64) (x254)), (Go.Value.string (t255)), (Go.Value.slice (a256) (n257) (c258)), (Go.Value.slice (a259) (n260) (c261)), (Go.Value.slice (a262) (n263) (c264))] (42 : Nat) ((0 : Nat), (0 : Nat))) fun r278 =>
                  π.app (42 : Nat) (5 : Nat) (96 : Nat) [(Go.Value.int (IntKind.i64) ((0 : Int))), (Go.Value.string (ByteArray.mk #[])), (Go.Value.slice (none) ((0 : Nat)) ((0 : Nat))), (Go.Value.slice (none) ((0 : Nat)) ((0 : Nat))), (Go.Value.slice (none) ((0 : Nat)) ((0 : Nat)))] (a250) (n251) (c252) (Src.sl (some (Addr.mk r278 (0 : Nat) none)) (1 : Nat)) fun a279 n280 c281 =>
                  again5 ((x227, x228, (a229, n230, c231), ()), (x232, t233, t234, t235, t236, b237, x238, x239, x240, t241, (a242, n243, c244), ()), (x245, x246, (a247, n248, c249), ()), ((a279, n280, c281), ()), (IntKind.i64.wrap (x253 + (1 : Int)), ()), ())
                )
              )
            )
          )
        )
      )
    ) (
      π.ret (Go.Value.agg #[(Go.Value.int (IntKind.i64) ((0 : Int))), (Go.Value.int (IntKind.i64) ((0 : Int))), (Go.Value.slice (a29) (n30) (c31))])
    )
def ann_rWithout : Ann := { draws := [(12, { A := [1, 2, 3, 4, 6, 7, 8, 9, 10], chkL := [(5, [7])], eag := [12] }), (15, { A := [1, 2, 3, 4, 6, 7, 8, 9, 10], chkL := [(5, [7])], eag := [12] }), (18, { A := [1, 2, 3, 4, 6, 7, 8, 9, 10], chkL := [(5, [7])], eag := [12] })], join := [(12, [(2, 24), (3, 29), (4, 24), (5, 22), (6, 3), (7, 42), (8, 3), (52, 4)]), (13, [(2, 24), (3, 29), (4, 24), (5, 22), (6, 3), (7, 42)]), (15, [(2, 24), (3, 29), (4, 24), (5, 22), (6, 3), (7, 42), (9, 3), (81, 4)]), (16, [(2, 24), (3, 29), (4, 24), (5, 22), (6, 3), (7, 42)]), (18, [(2, 24), (3, 29), (4, 24), (5, 22), (6, 3), (7, 42), (10, 3), (105, 4)])], loop := [(4, [(2, 24), (3, 29), (4, 24), (5, 22), (6, 3)])] }
def la_rWithout : LA := { ptr := [(2, 2, 0), (3, 3, 0), (4, 4, 0), (7, 7, 0), (14, 2, 2), (20, 2, 2), (25, 7, 1), (27, 3, 1), (34, 3, 0), (38, 3, 3), (41, 3, 0), (45, 3, 0), (54, 7, 2), (59, 7, 2), (65, 7, 2), (67, 3, 2), (70, 3, 0), (74, 3, 0), (83, 7, 3), (88, 7, 3), (94, 7, 3), (96, 3, 2), (99, 3, 0), (107, 7, 4), (112, 7, 4), (118, 7, 4), (124, 2, 2), (125, 2, 0), (126, 2, 1)], ty := [(2, 24), (3, 29), (4, 24), (7, 42)] }
set_option maxRecDepth 100000 in
theorem eq_rWithout {W : Type} (π : Prims W) (sv sl : Int) (sa : Option Addr) (san sac : Nat) (dk : Int) (dt dn dc dp : ByteArray) (du : Bool) (dy vk vn : Int) (vs : ByteArray) (da : Option Addr) (dan dac : Nat) : bodyL π Try.prog la_rWithout ann_rWithout (mkFr (maskA [] [.v (.agg #[.int .i64 sv, .int .i64 sl, .slice sa san sac]), .v (.agg #[.int .i64 dk, .string dt, .string dn, .string dc, .string dp, .bool du, .int .i64 dy, .int .i64 vk, .int .i64 vn, .string vs, .slice da dan dac])] 0) 128) Try.f27 (bodyOf Try.f27) (mkFr (List.map some [.v (.agg #[.int .i64 sv, .int .i64 sl, .slice sa san sac]), .v (.agg #[.int .i64 dk, .string dt, .string dn, .string dc, .string dp, .bool du, .int .i64 dy, .int .i64 vk, .int .i64 vn, .string vs, .slice da dan dac])]) 128) = vc_rWithout π sv sl sa san sac dk dt dn dc dp du dy vk vn vs da dan dac := by kernel_rfl
theorem ok_rWithout (sv sl : Int) (sa : Option Addr) (san sac : Nat) (dk : Int) (dt dn dc dp : ByteArray) (du : Bool) (dy vk vn : Int) (vs : ByteArray) (da : Option Addr) (dan dac : Nat) (R : Value → PH → Prop) (s : PH) (h : vc_rWithout (RP Try.prog R) sv sl sa san sac dk dt dn dc dp du dy vk vn vs da dan dac s) : DCalls Try.prog 27 (List.map AV.val [.v (.agg #[.int .i64 sv, .int .i64 sl, .slice sa san sac]), .v (.agg #[.int .i64 dk, .string dt, .string dn, .string dc, .string dp, .bool du, .int .i64 dy, .int .i64 vk, .int .i64 vn, .string vs, .slice da dan dac])]).toArray s R :=
  calls_vcL (c := bodyOf Try.f27) (ann := ann_rWithout) la_rWithout (by kernel_rfl) Try.func27 rfl (by kernel_rfl) [.v (.agg #[.int .i64 sv, .int .i64 sl, .slice sa san sac]), .v (.agg #[.int .i64 dk, .string dt, .string dn, .string dc, .string dp, .bool du, .int .i64 dy, .int .i64 vk, .int .i64 vn, .string vs, .slice da dan dac])] [] (by rw [Try.ntmps27]; exact Nat.le_of_ble_eq_true rfl) (by kernel_rfl) (by rw [show Try.f27.ntmps = 128 from Try.ntmps27, eq_rWithout]; exact h)
/-- lintel/lintellaw15.Example -/
def vc_Example {W : Type} (π : Prims W) : W :=
  π.nw (Go.Obj.cells #[(Go.Value.int (IntKind.i64) ((0 : Int))), (Go.Value.string (ByteArray.mk #[(97 : UInt8)])), (Go.Value.int (IntKind.i64) ((1 : Int))), (Go.Value.int (IntKind.i64) ((0 : Int))), (Go.Value.int (IntKind.i64) ((0 : Int))), (Go.Value.int (IntKind.i64) ((0 : Int))), (Go.Value.string (ByteArray.mk #[])), (Go.Value.int (IntKind.i64) ((0 : Int))), (Go.Value.string (ByteArray.mk #[(98 : UInt8)])), (Go.Value.int (IntKind.i64) ((2 : Int))), (Go.Value.int (IntKind.i64) ((0 : Int))), (Go.Value.int (IntKind.i64) ((0 : Int))), (Go.Value.int (IntKind.i64) ((0 : Int))), (Go.Value.string (ByteArray.mk #[]))] (44 : Nat) ((0 : Nat), (0 : Nat))) fun r0 =>
  π.ret (Go.Value.agg #[(Go.Value.int (IntKind.i64) ((1 : Int))), (Go.Value.string (ByteArray.mk #[(116 : UInt8)])), (Go.Value.string (ByteArray.mk #[])), (Go.Value.string (ByteArray.mk #[])), (Go.Value.string (ByteArray.mk #[])), (Go.Value.bool (false)), (Go.Value.int (IntKind.i64) ((0 : Int))), (Go.Value.int (IntKind.i64) ((0 : Int))), (Go.Value.int (IntKind.i64) ((0 : Int))), (Go.Value.string (ByteArray.mk #[])), (Go.Value.slice (some (Addr.mk r0 (0 : Nat) none)) ((2 : Nat)) ((2 : Nat)))])
def ann_Example : Ann := { draws := [], join := [], loop := [] }
def la_Example : LA := { ptr := [(0, 0, 0)], ty := [(0, 29)] }
set_option maxRecDepth 100000 in
theorem eq_Example {W : Type} (π : Prims W) : bodyL π Try.prog la_Example ann_Example (mkFr (maskA [] [] 0) 5) Try.f37 (bodyOf Try.f37) (mkFr (List.map some []) 5) = vc_Example π := by kernel_rfl
theorem ok_Example (R : Value → PH → Prop) (s : PH) (h : vc_Example (RP Try.prog R) s) : DCalls Try.prog 37 (List.map AV.val []).toArray s R :=
  calls_vcL (c := bodyOf Try.f37) (ann := ann_Example) la_Example (by kernel_rfl) Try.func37 rfl (by kernel_rfl) [] [] (by rw [Try.ntmps37]; exact Nat.le_of_ble_eq_true rfl) (by kernel_rfl) (by rw [show Try.f37.ntmps = 5 from Try.ntmps37, eq_Example]; exact h)
/-- lintel/lintellaw15.awake -/
def vc_awake {W : Type} (π : Prims W) : W :=
  π.call (37 : Nat) #[] (false, [(true, [.int .i64, .str, .str, .str, .str, .bool, .int .i64, .int .i64, .int .i64, .str, .slice])]) fun (((x0 : Int), (t1 : ByteArray), (t2 : ByteArray), (t3 : ByteArray), (t4 : ByteArray), (b5 : Bool), (x6 : Int), (x7 : Int), (x8 : Int), (t9 : ByteArray), ((a10 : Option Addr), (n11 : Nat), (c12 : Nat)), _), _) =>
  π.call (14 : Nat) #[(Go.Value.agg #[(Go.Value.int (IntKind.i64) ((0 : Int))), (Go.Value.int (IntKind.i64) ((0 : Int))), (Go.Value.slice (none) ((0 : Nat)) ((0 : Nat)))]), (Go.Value.agg #[(Go.Value.int (IntKind.i64) (x0)), (Go.Value.string (t1)), (Go.Value.string (t2)), (Go.Value.string (t3)), (Go.Value.string (t4)), (Go.Value.bool (b5)), (Go.Value.int (IntKind.i64) (x6)), (Go.Value.int (IntKind.i64) (x7)), (Go.Value.int (IntKind.i64) (x8)), (Go.Value.string (t9)), (Go.Value.slice (a10) (n11) (c12))]), (Go.Value.int (IntKind.i64) ((3 : Int)))] (true, [(true, [.int .i64, .int .i64, .slice]), (false, [.int .i64])]) fun (((x13 : Int), (x14 : Int), ((a15 : Option Addr), (n16 : Nat), (c17 : Nat)), _), ((x18 : Int), _), _) =>
  π.call (14 : Nat) #[(Go.Value.agg #[(Go.Value.int (IntKind.i64) (x13)), (Go.Value.int (IntKind.i64) (x14)), (Go.Value.slice (a15) (n16) (c17))]), (Go.Value.agg #[(Go.Value.int (IntKind.i64) ((2 : Int))), (Go.Value.string (ByteArray.mk #[(116 : UInt8)])), (Go.Value.string (ByteArray.mk #[(105 : UInt8)])), (Go.Value.string (ByteArray.mk #[(98 : UInt8)])), (Go.Value.string (ByteArray.mk #[])), (Go.Value.bool (false)), (Go.Value.int (IntKind.i64) ((0 : Int))), (Go.Value.int (IntKind.i64) ((0 : Int))), (Go.Value.int (IntKind.i64) ((0 : Int))), (Go.Value.string (ByteArray.mk #[])), (Go.Value.slice (none) ((0 : Nat)) ((0 : Nat)))]), (Go.Value.int (IntKind.i64) ((1 : Int)))] (true, [(true, [.int .i64, .int .i64, .slice]), (false, [.int .i64])]) fun (((x19 : Int), (x20 : Int), ((a21 : Option Addr), (n22 : Nat), (c23 : Nat)), _), ((x24 : Int), _), _) =>
  π.call (14 : Nat) #[(Go.Value.agg #[(Go.Value.int (IntKind.i64) (x19)), (Go.Value.int (IntKind.i64) (x20)), (Go.Value.slice (a21) (n22) (c23))]), (Go.Value.agg #[(Go.Value.int (IntKind.i64) ((5 : Int))), (Go.Value.string (ByteArray.mk #[(116 : UInt8)])), (Go.Value.string (ByteArray.mk #[])), (Go.Value.string (ByteArray.mk #[(98 : UInt8)])), (Go.Value.string (ByteArray.mk #[])), (Go.Value.bool (false)), (Go.Value.int (IntKind.i64) ((0 : Int))), (Go.Value.int (IntKind.i64) ((0 : Int))), (Go.Value.int (IntKind.i64) ((0 : Int))), (Go.Value.string (ByteArray.mk #[])), (Go.Value.slice (none) ((0 : Nat)) ((0 : Nat)))]), (Go.Value.int (IntKind.i64) ((2 : Int)))] (true, [(true, [.int .i64, .int .i64, .slice]), (false, [.int .i64])]) fun (((x25 : Int), (x26 : Int), ((a27 : Option Addr), (n28 : Nat), (c29 : Nat)), _), ((x30 : Int), _), _) =>
  π.ite (x18 == (0 : Int)) (
    π.ite (x14 == (3 : Int)) (
      π.ite (x13 == (1 : Int)) (
        π.ite (x24 == (0 : Int)) (
          π.ite (x20 == (4 : Int)) (
            π.guard ((0 : Int) ≤ (0 : Int) ∧ (0 : Int) < (↑n22 : Int)) <|
            π.unSome (a21) fun p31 =>
            π.ld [.slice] ((p31.add (0 : Nat)).add (3 : Nat)) fun (((a32 : Option Addr), (n33 : Nat), (c34 : Nat)), _) =>
            π.ite ((↑n33 : Int) == (1 : Int)) (
              π.ite (x30 == (155 : Int)) (
                π.ret (Go.Value.bool (true))
              ) (
                π.ret (Go.Value.bool (false))
              )
            ) (
              π.ret (Go.Value.bool (false))
            )
          ) (
            π.ret (Go.Value.bool (false))
          )
        ) (
          π.ret (Go.Value.bool (false))
        )
      ) (
        π.ret (Go.Value.bool (false))
      )
    ) (
      π.ret (Go.Value.bool (false))
    )
  ) (
    π.ret (Go.Value.bool (false))
  )
def ann_awake : Ann := { draws := [], join := [], loop := [] }
def la_awake : LA := { ptr := [(1, 1, 0), (3, 3, 0), (5, 5, 0), (28, 1, 1), (33, 1, 0), (42, 3, 1), (47, 3, 2)], ty := [(1, 24), (3, 24), (5, 24)] }
set_option maxRecDepth 100000 in
theorem eq_awake {W : Type} (π : Prims W) : bodyL π Try.prog la_awake ann_awake (mkFr (maskA [] [] 0) 69) Try.f11 (bodyOf Try.f11) (mkFr (List.map some []) 69) = vc_awake π := by kernel_rfl
theorem ok_awake (R : Value → PH → Prop) (s : PH) (h : vc_awake (RP Try.prog R) s) : DCalls Try.prog 11 (List.map AV.val []).toArray s R :=
  calls_vcL (c := bodyOf Try.f11) (ann := ann_awake) la_awake (by kernel_rfl) Try.func11 rfl (by kernel_rfl) [] [] (by rw [Try.ntmps11]; exact Nat.le_of_ble_eq_true rfl) (by kernel_rfl) (by rw [show Try.f11.ntmps = 69 from Try.ntmps11, eq_awake]; exact h)
/-- lintel/lintellaw15.great -/
def vc_great {W : Type} (π : Prims W) (sv sl : Int) (sa : Option Addr) (san sac : Nat) (dk : Int) (dt dn dc dp : ByteArray) (du : Bool) (dy vk vn : Int) (vs : ByteArray) (da : Option Addr) (dan dac : Nat) : W :=
  π.loop [(false, [.int .i64]), (false, [.slice]), (false, [.int .i64]), (false, [.int .i64])] ((IntKind.i64.wrap ((↑san : Int) + (↑dan : Int)), ()), ((sa, san, sac), ()), ((↑san : Int), ()), ((0 : Int), ()), ()) fun (((x1 : Int), _), (((a2 : Option Addr), (n3 : Nat), (c4 : Nat)), _), ((x5 : Int), _), ((x6 : Int), _), _) again0 =>
    π.ite (decide (x6 < x5)) (
      π.guard ((0 : Int) ≤ x6 ∧ x6 < (↑n3 : Int)) <|
      π.unSome (a2) fun p7 =>
      π.ld [.int .i64, .str, .slice, .slice, .slice] (p7.add (x6.toNat * (5 : Nat))) fun ((x8 : Int), (t9 : ByteArray), ((a10 : Option Addr), (n11 : Nat), (c12 : Nat)), ((a13 : Option Addr), (n14 : Nat), (c15 : Nat)), ((a16 : Option Addr), (n17 : Nat), (c18 : Nat)), _) =>
      π.ite (decide (IntKind.i64.wrap (x1 + IntKind.i64.wrap (IntKind.i64.wrap ((↑n11 : Int) + (↑n14 : Int)) + (↑n17 : Int))) > (300 : Int))) (
        π.ret (Go.Value.bool (true))
      ) (
        again0 ((IntKind.i64.wrap (x1 + IntKind.i64.wrap (IntKind.i64.wrap ((↑n11 : Int) + (↑n14 : Int)) + (↑n17 : Int))), ()), ((a2, n3, c4), ()), (x5, ()), (IntKind.i64.wrap (x6 + (1 : Int)), ()), ())
      )
    ) (
      π.ret (Go.Value.bool (decide (x1 > (300 : Int))))
    )
def ann_great : Ann := { draws := [], join := [], loop := [(3, [(5, 3), (16, 22), (17, 3), (18, 3)])] }
def la_great : LA := { ptr := [(2, 2, 0), (3, 3, 0), (7, 7, 0), (8, 2, 2), (11, 3, 10), (15, 2, 2), (23, 7, 2), (26, 7, 3), (30, 7, 4)], ty := [(2, 24), (3, 29), (7, 42)] }
set_option maxRecDepth 100000 in
theorem eq_great {W : Type} (π : Prims W) (sv sl : Int) (sa : Option Addr) (san sac : Nat) (dk : Int) (dt dn dc dp : ByteArray) (du : Bool) (dy vk vn : Int) (vs : ByteArray) (da : Option Addr) (dan dac : Nat) : bodyL π Try.prog la_great ann_great (mkFr (maskA [] [.v (.agg #[.int .i64 sv, .int .i64 sl, .slice sa san sac]), .v (.agg #[.int .i64 dk, .string dt, .string dn, .string dc, .string dp, .bool du, .int .i64 dy, .int .i64 vk, .int .i64 vn, .string vs, .slice da dan dac])] 0) 40) Try.f12 (bodyOf Try.f12) (mkFr (List.map some [.v (.agg #[.int .i64 sv, .int .i64 sl, .slice sa san sac]), .v (.agg #[.int .i64 dk, .string dt, .string dn, .string dc, .string dp, .bool du, .int .i64 dy, .int .i64 vk, .int .i64 vn, .string vs, .slice da dan dac])]) 40) = vc_great π sv sl sa san sac dk dt dn dc dp du dy vk vn vs da dan dac := by kernel_rfl
theorem ok_great (sv sl : Int) (sa : Option Addr) (san sac : Nat) (dk : Int) (dt dn dc dp : ByteArray) (du : Bool) (dy vk vn : Int) (vs : ByteArray) (da : Option Addr) (dan dac : Nat) (R : Value → PH → Prop) (s : PH) (h : vc_great (RP Try.prog R) sv sl sa san sac dk dt dn dc dp du dy vk vn vs da dan dac s) : DCalls Try.prog 12 (List.map AV.val [.v (.agg #[.int .i64 sv, .int .i64 sl, .slice sa san sac]), .v (.agg #[.int .i64 dk, .string dt, .string dn, .string dc, .string dp, .bool du, .int .i64 dy, .int .i64 vk, .int .i64 vn, .string vs, .slice da dan dac])]).toArray s R :=
  calls_vcL (c := bodyOf Try.f12) (ann := ann_great) la_great (by kernel_rfl) Try.func12 rfl (by kernel_rfl) [.v (.agg #[.int .i64 sv, .int .i64 sl, .slice sa san sac]), .v (.agg #[.int .i64 dk, .string dt, .string dn, .string dc, .string dp, .bool du, .int .i64 dy, .int .i64 vk, .int .i64 vn, .string vs, .slice da dan dac])] [] (by rw [Try.ntmps12]; exact Nat.le_of_ble_eq_true rfl) (by kernel_rfl) (by rw [show Try.f12.ntmps = 40 from Try.ntmps12, eq_great]; exact h)
/-- lintel/lintellaw15.walked -/
def vc_walked {W : Type} (π : Prims W) (sv sl : Int) (sa : Option Addr) (san sac : Nat) (dk : Int) (dt dn dc dp : ByteArray) (du : Bool) (dy vk vn : Int) (vs : ByteArray) (da : Option Addr) (dan dac : Nat) (m : Option Addr) (mn mc : Nat) : W :=
  π.nw (Go.Obj.cells #[(Go.Value.int (IntKind.i64) (sv)), (Go.Value.int (IntKind.i64) (sl)), (Go.Value.slice (sa) (san) (sac))] (24 : Nat) ((0 : Nat), (0 : Nat))) fun r0 =>
  π.loop [(true, [.int .i64, .int .i64, .slice]), (true, [.int .i64, .str, .str, .str, .str, .bool, .int .i64, .int .i64, .int .i64, .str, .slice]), (false, [.slice]), (false, [.slice]), (false, [.int .i64]), (false, [.int .i64])] ((sv, sl, (sa, san, sac), ()), (dk, dt, dn, dc, dp, du, dy, vk, vn, vs, (da, dan, dac), ()), ((some (Addr.mk r0 (0 : Nat) none), (1 : Nat), (1 : Nat)), ()), ((m, mn, mc), ()), ((↑mn : Int), ()), ((0 : Int), ()), ()) fun (((x2 : Int), (x3 : Int), ((a4 : Option Addr), (n5 : Nat), (c6 : Nat)), _), ((x7 : Int), (t8 : ByteArray), (t9 : ByteArray), (t10 : ByteArray), (t11 : ByteArray), (b12 : Bool), (x13 : Int), (x14 : Int), (x15 : Int), (t16 : ByteArray), ((a17 : Option Addr), (n18 : Nat), (c19 : Nat)), _), (((a20 : Option Addr), (n21 : Nat), (c22 : Nat)), _), (((a23 : Option Addr), (n24 : Nat), (c25 : Nat)), _), ((x26 : Int), _), ((x27 : Int), _), _) again1 =>
    π.ite (decide (x27 < x26)) (
      π.guard ((0 : Int) ≤ x27 ∧ x27 < (↑n24 : Int)) <|
      π.unSome (a23) fun p28 =>
      π.ld [.int .i64, .int .i64] (p28.add (x27.toNat * (2 : Nat))) fun ((x29 : Int), (x30 : Int), _) =>
      π.join [(true, [.int .i64, .int .i64, .slice]), (true, [.int .i64, .str, .str, .str, .str, .bool, .int .i64, .int .i64, .int .i64, .str, .slice]), (false, [.slice]), (true, [.int .i64, .int .i64]), (false, [.slice]), (false, [.int .i64]), (false, [.int .i64]), (false, [.bool])] (fun J31 =>
        π.ite (x29 == (1 : Int)) (
          J31 ((x2, x3, (a4, n5, c6), ()), (x7, t8, t9, t10, t11, b12, x13, x14, x15, t16, (a17, n18, c19), ()), ((a20, n21, c22), ()), (x29, x30, ()), ((a23, n24, c25), ()), (x26, ()), (x27, ()), (true, ()), ())
        ) (
          J31 ((x2, x3, (a4, n5, c6), ()), (x7, t8, t9, t10, t11, b12, x13, x14, x15, t16, (a17, n18, c19), ()), ((a20, n21, c22), ()), (x29, x30, ()), ((a23, n24, c25), ()), (x26, ()), (x27, ()), (x29 == (2 : Int), ()), ())
        )
      ) (fun (((x32 : Int), (x33 : Int), ((a34 : Option Addr), (n35 : Nat), (c36 : Nat)), _), ((x37 : Int), (t38 : ByteArray), (t39 : ByteArray), (t40 : ByteArray), (t41 : ByteArray), (b42 : Bool), (x43 : Int), (x44 : Int), (x45 : Int), (t46 : ByteArray), ((a47 : Option Addr), (n48 : Nat), (c49 : Nat)), _), (((a50 : Option Addr), (n51 : Nat), (c52 : Nat)), _), ((x53 : Int), (x54 : Int), _), (((a55 : Option Addr), (n56 : Nat), (c57 : Nat)), _), ((x58 : Int), _), ((x59 : Int), _), ((b60 : Bool), _), _) =>
        π.ite (b60) (
          π.call (14 : Nat) #[(Go.Value.agg #[(Go.Value.int (IntKind.i64) (x32)), (Go.Value.int (IntKind.i64) (x33)), (Go.Value.slice (a34) (n35) (c36))]), (Go.Value.agg #[(Go.Value.int (IntKind.i64) (x37)), (Go.Value.string (t38)), (Go.Value.string (t39)), (Go.Value.string (t40)), (Go.Value.string (t41)), (Go.Value.bool (b42)), (Go.Value.int (IntKind.i64) (x43)), (Go.Value.int (IntKind.i64) (x44)), (Go.Value.int (IntKind.i64) (x45)), (Go.Value.string (t46)), (Go.Value.slice (a47) (n48) (c49))]), (Go.Value.int (IntKind.i64) (x54))] (true, [(true, [.int .i64, .int .i64, .slice]), (false, [.int .i64])]) fun (((x61 : Int), (x62 : Int), ((a63 : Option Addr), (n64 : Nat), (c65 : Nat)), _), ((x66 : Int), _), _) =>
          π.ite (x66 != (0 : Int)) (
            π.ret (Go.Value.tuple #[(Go.Value.slice (a50) (n51) (c52)), (Go.Value.bool (false))])
          ) (
            π.nw (Go.Obj.cells #[(Go.Value.int (IntKind.i64) (x61)), (Go.Value.int (IntKind.i64) (x62)), (Go.Value.slice (a63) (n64) (c65))] (24 : Nat) ((0 : Nat), (0 : Nat))) fun r67 =>
            π.app (24 : Nat) (3 : Nat) (40 : Nat) [(Go.Value.int (IntKind.i64) ((0 : Int))), (Go.Value.int (IntKind.i64) ((0 : Int))), (Go.Value.slice (none) ((0 : Nat)) ((0 : Nat)))] (a50) (n51) (c52) (Src.sl (some (Addr.mk r67 (0 : Nat) none)) (1 : Nat)) fun a68 n69 c70 =>
            again1 ((x61, x62, (a63, n64, c65), ()), (x37, t38, t39, t40, t41, b42, x43, x44, x45, t46, (a47, n48, c49), ()), ((a68, n69, c70), ()), ((a55, n56, c57), ()), (x58, ()), (IntKind.i64.wrap (x59 + (1 : Int)), ()), ())
          )
        ) (
          π.nw (Go.Obj.cells #[(Go.Value.int (IntKind.i64) (x32)), (Go.Value.int (IntKind.i64) (x33)), (Go.Value.slice (a34) (n35) (c36))] (24 : Nat) ((0 : Nat), (0 : Nat))) fun r71 =>
          π.app (24 : Nat) (3 : Nat) (40 : Nat) [(Go.Value.int (IntKind.i64) ((0 : Int))), (Go.Value.int (IntKind.i64) ((0 : Int))), (Go.Value.slice (none) ((0 : Nat)) ((0 : Nat)))] (a50) (n51) (c52) (Src.sl (some (Addr.mk r71 (0 : Nat) none)) (1 : Nat)) fun a72 n73 c74 =>
          again1 ((x32, x33, (a34, n35, c36), ()), (x37, t38, t39, t40, t41, b42, x43, x44, x45, t46, (a47, n48, c49), ()), ((a72, n73, c74), ()), ((a55, n56, c57), ()), (x58, ()), (IntKind.i64.wrap (x59 + (1 : Int)), ()), ())
        )
      )
    ) (
      π.ret (Go.Value.tuple #[(Go.Value.slice (a20) (n21) (c22)), (Go.Value.bool (true))])
    )
def ann_walked : Ann := { draws := [], join := [(6, [(3, 24), (4, 29), (8, 59), (10, 56), (15, 52), (16, 3), (17, 3), (28, 4)])], loop := [(3, [(3, 24), (4, 29), (8, 59), (15, 52), (16, 3), (17, 3)])] }
def la_walked : LA := { ptr := [(3, 3, 0), (4, 4, 0), (10, 10, 0), (11, 11, 0), (21, 10, 0), (25, 10, 0), (32, 10, 1)], ty := [(3, 24), (4, 29), (10, 56), (11, 24)] }
set_option maxRecDepth 100000 in
theorem eq_walked {W : Type} (π : Prims W) (sv sl : Int) (sa : Option Addr) (san sac : Nat) (dk : Int) (dt dn dc dp : ByteArray) (du : Bool) (dy vk vn : Int) (vs : ByteArray) (da : Option Addr) (dan dac : Nat) (m : Option Addr) (mn mc : Nat) : bodyL π Try.prog la_walked ann_walked (mkFr (maskA [] [.v (.agg #[.int .i64 sv, .int .i64 sl, .slice sa san sac]), .v (.agg #[.int .i64 dk, .string dt, .string dn, .string dc, .string dp, .bool du, .int .i64 dy, .int .i64 vk, .int .i64 vn, .string vs, .slice da dan dac]), .v (.slice m mn mc)] 0) 47) Try.f26 (bodyOf Try.f26) (mkFr (List.map some [.v (.agg #[.int .i64 sv, .int .i64 sl, .slice sa san sac]), .v (.agg #[.int .i64 dk, .string dt, .string dn, .string dc, .string dp, .bool du, .int .i64 dy, .int .i64 vk, .int .i64 vn, .string vs, .slice da dan dac]), .v (.slice m mn mc)]) 47) = vc_walked π sv sl sa san sac dk dt dn dc dp du dy vk vn vs da dan dac m mn mc := by kernel_rfl
theorem ok_walked (sv sl : Int) (sa : Option Addr) (san sac : Nat) (dk : Int) (dt dn dc dp : ByteArray) (du : Bool) (dy vk vn : Int) (vs : ByteArray) (da : Option Addr) (dan dac : Nat) (m : Option Addr) (mn mc : Nat) (R : Value → PH → Prop) (s : PH) (h : vc_walked (RP Try.prog R) sv sl sa san sac dk dt dn dc dp du dy vk vn vs da dan dac m mn mc s) : DCalls Try.prog 26 (List.map AV.val [.v (.agg #[.int .i64 sv, .int .i64 sl, .slice sa san sac]), .v (.agg #[.int .i64 dk, .string dt, .string dn, .string dc, .string dp, .bool du, .int .i64 dy, .int .i64 vk, .int .i64 vn, .string vs, .slice da dan dac]), .v (.slice m mn mc)]).toArray s R :=
  calls_vcL (c := bodyOf Try.f26) (ann := ann_walked) la_walked (by kernel_rfl) Try.func26 rfl (by kernel_rfl) [.v (.agg #[.int .i64 sv, .int .i64 sl, .slice sa san sac]), .v (.agg #[.int .i64 dk, .string dt, .string dn, .string dc, .string dp, .bool du, .int .i64 dy, .int .i64 vk, .int .i64 vn, .string vs, .slice da dan dac]), .v (.slice m mn mc)] [] (by rw [Try.ntmps26]; exact Nat.le_of_ble_eq_true rfl) (by kernel_rfl) (by rw [show Try.f26.ntmps = 47 from Try.ntmps26, eq_walked]; exact h)
/-- lintel/lintellaw15.SchemaSteps -/
def vc_SchemaSteps {W : Type} (π : Prims W) (sv sl : Int) (sa : Option Addr) (san sac : Nat) (dk : Int) (dt dn dc dp : ByteArray) (du : Bool) (dy vk vn : Int) (vs : ByteArray) (da : Option Addr) (dan dac : Nat) : W :=
  π.join [(true, [.int .i64, .int .i64, .slice]), (true, [.int .i64, .str, .str, .str, .str, .bool, .int .i64, .int .i64, .int .i64, .str, .slice])] (fun J0 =>
    π.call (11 : Nat) #[] (false, [(false, [.bool])]) fun (((b1 : Bool), _), _) =>
    π.ite (!b1) (
      π.call (11 : Nat) #[] (false, [(false, [.bool])]) fun (((b2 : Bool), _), _) =>
      π.ret (Go.Value.bool (b2))
    ) (
      π.call (12 : Nat) #[(Go.Value.agg #[(Go.Value.int (IntKind.i64) (sv)), (Go.Value.int (IntKind.i64) (sl)), (Go.Value.slice (sa) (san) (sac))]), (Go.Value.agg #[(Go.Value.int (IntKind.i64) (dk)), (Go.Value.string (dt)), (Go.Value.string (dn)), (Go.Value.string (dc)), (Go.Value.string (dp)), (Go.Value.bool (du)), (Go.Value.int (IntKind.i64) (dy)), (Go.Value.int (IntKind.i64) (vk)), (Go.Value.int (IntKind.i64) (vn)), (Go.Value.string (vs)), (Go.Value.slice (da) (dan) (dac))])] (false, [(false, [.bool])]) fun (((b3 : Bool), _), _) =>
      π.ite (b3) (
        π.call (11 : Nat) #[] (false, [(false, [.bool])]) fun (((b4 : Bool), _), _) =>
        π.ret (Go.Value.bool (b4))
      ) (
        π.call (20 : Nat) #[(Go.Value.agg #[(Go.Value.int (IntKind.i64) (sv)), (Go.Value.int (IntKind.i64) (sl)), (Go.Value.slice (sa) (san) (sac))])] (false, [(false, [.int .i64])]) fun (((x5 : Int), _), _) =>
        π.ite (x5 != (0 : Int)) (
          π.call (11 : Nat) #[] (false, [(false, [.bool])]) fun (((b6 : Bool), _), _) =>
          π.ret (Go.Value.bool (b6))
        ) (
          π.ite (decide (sv > (562949953421312 : Int))) (
            π.call (11 : Nat) #[] (false, [(false, [.bool])]) fun (((b7 : Bool), _), _) =>
            π.ret (Go.Value.bool (b7))
          ) (
            π.ite (decide (sl > (562949953421312 : Int))) (
              π.call (11 : Nat) #[] (false, [(false, [.bool])]) fun (((b8 : Bool), _), _) =>
              π.ret (Go.Value.bool (b8))
            ) (
              J0 ((sv, sl, (sa, san, sac), ()), (dk, dt, dn, dc, dp, du, dy, vk, vn, vs, (da, dan, dac), ()), ())
            )
          )
        )
      )
    )
  ) (fun (((x9 : Int), (x10 : Int), ((a11 : Option Addr), (n12 : Nat), (c13 : Nat)), _), ((x14 : Int), (t15 : ByteArray), (t16 : ByteArray), (t17 : ByteArray), (t18 : ByteArray), (b19 : Bool), (x20 : Int), (x21 : Int), (x22 : Int), (t23 : ByteArray), ((a24 : Option Addr), (n25 : Nat), (c26 : Nat)), _), _) =>
    π.join [(true, [.int .i64, .int .i64, .slice]), (true, [.int .i64, .str, .str, .str, .str, .bool, .int .i64, .int .i64, .int .i64, .str, .slice]), (false, [.bool])] (fun J27 =>
      π.ite (x14 == (1 : Int)) (
        J27 ((x9, x10, (a11, n12, c13), ()), (x14, t15, t16, t17, t18, b19, x20, x21, x22, t23, (a24, n25, c26), ()), (true, ()), ())
      ) (
        π.ite (x14 == (2 : Int)) (
          J27 ((x9, x10, (a11, n12, c13), ()), (x14, t15, t16, t17, t18, b19, x20, x21, x22, t23, (a24, n25, c26), ()), (true, ()), ())
        ) (
          π.ite (x14 == (4 : Int)) (
            J27 ((x9, x10, (a11, n12, c13), ()), (x14, t15, t16, t17, t18, b19, x20, x21, x22, t23, (a24, n25, c26), ()), (true, ()), ())
          ) (
            J27 ((x9, x10, (a11, n12, c13), ()), (x14, t15, t16, t17, t18, b19, x20, x21, x22, t23, (a24, n25, c26), ()), (x14 == (6 : Int), ()), ())
          )
        )
      )
    ) (fun (((x28 : Int), (x29 : Int), ((a30 : Option Addr), (n31 : Nat), (c32 : Nat)), _), ((x33 : Int), (t34 : ByteArray), (t35 : ByteArray), (t36 : ByteArray), (t37 : ByteArray), (b38 : Bool), (x39 : Int), (x40 : Int), (x41 : Int), (t42 : ByteArray), ((a43 : Option Addr), (n44 : Nat), (c45 : Nat)), _), ((b46 : Bool), _), _) =>
      π.join [(true, [.int .i64, .int .i64, .slice]), (true, [.int .i64, .str, .str, .str, .str, .bool, .int .i64, .int .i64, .int .i64, .str, .slice]), (false, [.bool])] (fun J47 =>
        π.call (25 : Nat) #[(Go.Value.agg #[(Go.Value.int (IntKind.i64) (x28)), (Go.Value.int (IntKind.i64) (x29)), (Go.Value.slice (a30) (n31) (c32))]), (Go.Value.agg #[(Go.Value.int (IntKind.i64) (x33)), (Go.Value.string (t34)), (Go.Value.string (t35)), (Go.Value.string (t36)), (Go.Value.string (t37)), (Go.Value.bool (b38)), (Go.Value.int (IntKind.i64) (x39)), (Go.Value.int (IntKind.i64) (x40)), (Go.Value.int (IntKind.i64) (x41)), (Go.Value.string (t42)), (Go.Value.slice (a43) (n44) (c45))])] (false, [(false, [.int .i64])]) fun (((x48 : Int), _), _) =>
        π.ite (b46) (
          π.ite (x48 != (0 : Int)) (
            π.ret (Go.Value.bool (true))
          ) (
            π.ite (!b46) (
              π.ite (x48 != (3 : Int)) (
                π.ret (Go.Value.bool (true))
              ) (
                J47 ((x28, x29, (a30, n31, c32), ()), (x33, t34, t35, t36, t37, b38, x39, x40, x41, t42, (a43, n44, c45), ()), (b46, ()), ())
              )
            ) (
              J47 ((x28, x29, (a30, n31, c32), ()), (x33, t34, t35, t36, t37, b38, x39, x40, x41, t42, (a43, n44, c45), ()), (b46, ()), ())
            )
          )
        ) (
          π.ite (!b46) (
            π.ite (x48 != (3 : Int)) (
              π.ret (Go.Value.bool (true))
            ) (
              J47 ((x28, x29, (a30, n31, c32), ()), (x33, t34, t35, t36, t37, b38, x39, x40, x41, t42, (a43, n44, c45), ()), (b46, ()), ())
            )
          ) (
            J47 ((x28, x29, (a30, n31, c32), ()), (x33, t34, t35, t36, t37, b38, x39, x40, x41, t42, (a43, n44, c45), ()), (b46, ()), ())
          )
        )
      ) (fun (((x49 : Int), (x50 : Int), ((a51 : Option Addr), (n52 : Nat), (c53 : Nat)), _), ((x54 : Int), (t55 : ByteArray), (t56 : ByteArray), (t57 : ByteArray), (t58 : ByteArray), (b59 : Bool), (x60 : Int), (x61 : Int), (x62 : Int), (t63 : ByteArray), ((a64 : Option Addr), (n65 : Nat), (c66 : Nat)), _), ((b67 : Bool), _), _) =>
        π.call (23 : Nat) #[(Go.Value.agg #[(Go.Value.int (IntKind.i64) (x54)), (Go.Value.string (t55)), (Go.Value.string (t56)), (Go.Value.string (t57)), (Go.Value.string (t58)), (Go.Value.bool (b59)), (Go.Value.int (IntKind.i64) (x60)), (Go.Value.int (IntKind.i64) (x61)), (Go.Value.int (IntKind.i64) (x62)), (Go.Value.string (t63)), (Go.Value.slice (a64) (n65) (c66))]), (Go.Value.bool (false))] (false, [(false, [.slice])]) fun ((((a68 : Option Addr), (n69 : Nat), (c70 : Nat)), _), _) =>
        π.call (26 : Nat) #[(Go.Value.agg #[(Go.Value.int (IntKind.i64) (x49)), (Go.Value.int (IntKind.i64) (x50)), (Go.Value.slice (a51) (n52) (c53))]), (Go.Value.agg #[(Go.Value.int (IntKind.i64) (x54)), (Go.Value.string (t55)), (Go.Value.string (t56)), (Go.Value.string (t57)), (Go.Value.string (t58)), (Go.Value.bool (b59)), (Go.Value.int (IntKind.i64) (x60)), (Go.Value.int (IntKind.i64) (x61)), (Go.Value.int (IntKind.i64) (x62)), (Go.Value.string (t63)), (Go.Value.slice (a64) (n65) (c66))]), (Go.Value.slice (a68) (n69) (c70))] (true, [(false, [.slice]), (false, [.bool])]) fun ((((a71 : Option Addr), (n72 : Nat), (c73 : Nat)), _), ((b74 : Bool), _), _) =>
        π.ite (!b74) (
          π.ret (Go.Value.bool ((↑n72 : Int) == (1 : Int)))
        ) (
          π.ite ((↑n69 : Int) == (0 : Int)) (
            π.ite (decide (x54 < (1 : Int))) (
              π.ret (Go.Value.bool (true))
            ) (
              π.ret (Go.Value.bool (decide (x54 > (7 : Int))))
            )
          ) (
            π.loop [(true, [.int .i64, .int .i64, .slice]), (true, [.int .i64, .str, .str, .str, .str, .bool, .int .i64, .int .i64, .int .i64, .str, .slice]), (false, [.bool]), (false, [.slice]), (false, [.int .i64])] ((x49, x50, (a51, n52, c53), ()), (x54, t55, t56, t57, t58, b59, x60, x61, x62, t63, (a64, n65, c66), ()), (b67, ()), ((a71, n72, c73), ()), ((1 : Int), ()), ()) fun (((x76 : Int), (x77 : Int), ((a78 : Option Addr), (n79 : Nat), (c80 : Nat)), _), ((x81 : Int), (t82 : ByteArray), (t83 : ByteArray), (t84 : ByteArray), (t85 : ByteArray), (b86 : Bool), (x87 : Int), (x88 : Int), (x89 : Int), (t90 : ByteArray), ((a91 : Option Addr), (n92 : Nat), (c93 : Nat)), _), ((b94 : Bool), _), (((a95 : Option Addr), (n96 : Nat), (c97 : Nat)), _), ((x98 : Int), _), _) again75 =>
              π.ite (decide (x98 < (↑n96 : Int))) (
                π.guard ((0 : Int) ≤ IntKind.i64.wrap (x98 - (1 : Int)) ∧ IntKind.i64.wrap (x98 - (1 : Int)) < (↑n96 : Int)) <|
                π.unSome (a95) fun p99 =>
                π.ld [.int .i64, .int .i64, .slice] (p99.add ((IntKind.i64.wrap (x98 - (1 : Int))).toNat * (3 : Nat))) fun ((x100 : Int), (x101 : Int), ((a102 : Option Addr), (n103 : Nat), (c104 : Nat)), _) =>
                π.callQ (25 : Nat) #[(Go.Value.agg #[(Go.Value.int (IntKind.i64) (x100)), (Go.Value.int (IntKind.i64) (x101)), (Go.Value.slice (a102) (n103) (c104))]), (Go.Value.agg #[(Go.Value.int (IntKind.i64) (x81)), (Go.Value.string (t82)), (Go.Value.string (t83)), (Go.Value.string (t84)), (Go.Value.string (t85)), (Go.Value.bool (b86)), (Go.Value.int (IntKind.i64) (x87)), (Go.Value.int (IntKind.i64) (x88)), (Go.Value.int (IntKind.i64) (x89)), (Go.Value.string (t90)), (Go.Value.slice (a91) (n92) (c93))])] (false, [(false, [.int .i64])]) fun (((x105 : Int), _), _) =>
                π.guard ((0 : Int) ≤ x98 ∧ x98 < (↑n96 : Int)) <|
                π.unSome (a95) fun p106 =>
                π.ld [.int .i64, .int .i64, .slice] (p106.add (x98.toNat * (3 : Nat))) fun ((x107 : Int), (x108 : Int), ((a109 : Option Addr), (n110 : Nat), (c111 : Nat)), _) =>
                π.callQ (25 : Nat) #[(Go.Value.agg #[(Go.Value.int (IntKind.i64) (x107)), (Go.Value.int (IntKind.i64) (x108)), (Go.Value.slice (a109) (n110) (c111))]), (Go.Value.agg #[(Go.Value.int (IntKind.i64) (x81)), (Go.Value.string (t82)), (Go.Value.string (t83)), (Go.Value.string (t84)), (Go.Value.string (t85)), (Go.Value.bool (b86)), (Go.Value.int (IntKind.i64) (x87)), (Go.Value.int (IntKind.i64) (x88)), (Go.Value.int (IntKind.i64) (x89)), (Go.Value.string (t90)), (Go.Value.slice (a91) (n92) (c93))])] (false, [(false, [.int .i64])]) fun (((x112 : Int), _), _) =>
                π.join [(true, [.int .i64, .int .i64, .slice]), (true, [.int .i64, .str, .str, .str, .str, .bool, .int .i64, .int .i64, .int .i64, .str, .slice]), (false, [.bool]), (false, [.slice]), (false, [.int .i64])] (fun J113 =>
                  π.ite (decide (x81 ≥ (2 : Int))) (
                    π.ite (decide (x81 ≤ (5 : Int))) (
                      π.ite (decide (IntKind.i64.wrap (x112 - x105) > (1 : Int))) (
                        π.ret (Go.Value.bool (false))
                      ) (
                        π.ite (decide (IntKind.i64.wrap (x105 - x112) > (1 : Int))) (
                          π.ret (Go.Value.bool (false))
                        ) (
                          π.guard ((0 : Int) ≤ x98 ∧ x98 < (↑n96 : Int)) <|
                          π.unSome (a95) fun p114 =>
                          π.ld [.int .i64, .int .i64, .slice] (p114.add (x98.toNat * (3 : Nat))) fun ((x115 : Int), (x116 : Int), ((a117 : Option Addr), (n118 : Nat), (c119 : Nat)), _) =>
                          π.callQ (19 : Nat) #[(Go.Value.agg #[(Go.Value.int (IntKind.i64) (x115)), (Go.Value.int (IntKind.i64) (x116)), (Go.Value.slice (a117) (n118) (c119))])] (false, [(false, [.bool])]) fun (((b120 : Bool), _), _) =>
                          π.ite (!b120) (
                            π.ret (Go.Value.bool (false))
                          ) (
                            π.guard ((0 : Int) ≤ x98 ∧ x98 < (↑n96 : Int)) <|
                            π.unSome (a95) fun p121 =>
                            π.ld [.int .i64] ((p121.add (x98.toNat * (3 : Nat))).add (0 : Nat)) fun ((x122 : Int), _) =>
                            π.guard ((0 : Int) ≤ IntKind.i64.wrap (x98 - (1 : Int)) ∧ IntKind.i64.wrap (x98 - (1 : Int)) < (↑n96 : Int)) <|
                            π.unSome (a95) fun p123 =>
                            π.ld [.int .i64] ((p123.add ((IntKind.i64.wrap (x98 - (1 : Int))).toNat * (3 : Nat))).add (0 : Nat)) fun ((x124 : Int), _) =>
                            π.ite (decide (x122 < x124)) (
                              π.ret (Go.Value.bool (false))
                            ) (
                              π.guard ((0 : Int) ≤ x98 ∧ x98 < (↑n96 : Int)) <|
                              π.unSome (a95) fun p125 =>
                              π.ld [.int .i64] ((p125.add (x98.toNat * (3 : Nat))).add (0 : Nat)) fun ((x126 : Int), _) =>
                              π.guard ((0 : Int) ≤ IntKind.i64.wrap (x98 - (1 : Int)) ∧ IntKind.i64.wrap (x98 - (1 : Int)) < (↑n96 : Int)) <|
                              π.unSome (a95) fun p127 =>
                              π.ld [.int .i64] ((p127.add ((IntKind.i64.wrap (x98 - (1 : Int))).toNat * (3 : Nat))).add (0 : Nat)) fun ((x128 : Int), _) =>
                              π.ite (decide (x126 > IntKind.i64.wrap (x128 + (1 : Int)))) (
                                π.ret (Go.Value.bool (false))
                              ) (
                                J113 ((x76, x77, (a78, n79, c80), ()), (x81, t82, t83, t84, t85, b86, x87, x88, x89, t90, (a91, n92, c93), ()), (b94, ()), ((a95, n96, c97), ()), (x98, ()), ())
                              )
                            )
                          )
                        )
                      )
                    ) (
                      π.guard ((0 : Int) ≤ x98 ∧ x98 < (↑n96 : Int)) <|
                      π.unSome (a95) fun p129 =>
                      π.ld [.int .i64, .int .i64, .slice] (p129.add (x98.toNat * (3 : Nat))) fun ((x130 : Int), (x131 : Int), ((a132 : Option Addr), (n133 : Nat), (c134 : Nat)), _) =>
                      π.callQ (19 : Nat) #[(Go.Value.agg #[(Go.Value.int (IntKind.i64) (x130)), (Go.Value.int (IntKind.i64) (x131)), (Go.Value.slice (a132) (n133) (c134))])] (false, [(false, [.bool])]) fun (((b135 : Bool), _), _) =>
                      π.ite (!b135) (
                        π.ret (Go.Value.bool (false))
                      ) (
                        π.guard ((0 : Int) ≤ x98 ∧ x98 < (↑n96 : Int)) <|
                        π.unSome (a95) fun p136 =>
                        π.ld [.int .i64] ((p136.add (x98.toNat * (3 : Nat))).add (0 : Nat)) fun ((x137 : Int), _) =>
                        π.guard ((0 : Int) ≤ IntKind.i64.wrap (x98 - (1 : Int)) ∧ IntKind.i64.wrap (x98 - (1 : Int)) < (↑n96 : Int)) <|
                        π.unSome (a95) fun p138 =>
                        π.ld [.int .i64] ((p138.add ((IntKind.i64.wrap (x98 - (1 : Int))).toNat * (3 : Nat))).add (0 : Nat)) fun ((x139 : Int), _) =>
                        π.ite (decide (x137 < x139)) (
                          π.ret (Go.Value.bool (false))
                        ) (
                          π.guard ((0 : Int) ≤ x98 ∧ x98 < (↑n96 : Int)) <|
                          π.unSome (a95) fun p140 =>
                          π.ld [.int .i64] ((p140.add (x98.toNat * (3 : Nat))).add (0 : Nat)) fun ((x141 : Int), _) =>
                          π.guard ((0 : Int) ≤ IntKind.i64.wrap (x98 - (1 : Int)) ∧ IntKind.i64.wrap (x98 - (1 : Int)) < (↑n96 : Int)) <|
                          π.unSome (a95) fun p142 =>
                          π.ld [.int .i64] ((p142.add ((IntKind.i64.wrap (x98 - (1 : Int))).toNat * (3 : Nat))).add (0 : Nat)) fun ((x143 : Int), _) =>
                          π.ite (decide (x141 > IntKind.i64.wrap (x143 + (1 : Int)))) (
                            π.ret (Go.Value.bool (false))
                          ) (
                            J113 ((x76, x77, (a78, n79, c80), ()), (x81, t82, t83, t84, t85, b86, x87, x88, x89, t90, (a91, n92, c93), ()), (b94, ()), ((a95, n96, c97), ()), (x98, ()), ())
                          )
                        )
                      )
                    )
                  ) (
                    π.guard ((0 : Int) ≤ x98 ∧ x98 < (↑n96 : Int)) <|
                    π.unSome (a95) fun p144 =>
                    π.ld [.int .i64, .int .i64, .slice] (p144.add (x98.toNat * (3 : Nat))) fun ((x145 : Int), (x146 : Int), ((a147 : Option Addr), (n148 : Nat), (c149 : Nat)), _) =>
                    π.callQ (19 : Nat) #[(Go.Value.agg #[(Go.Value.int (IntKind.i64) (x145)), (Go.Value.int (IntKind.i64) (x146)), (Go.Value.slice (a147) (n148) (c149))])] (false, [(false, [.bool])]) fun (((b150 : Bool), _), _) =>
                    π.ite (!b150) (
                      π.ret (Go.Value.bool (false))
                    ) (
                      π.guard ((0 : Int) ≤ x98 ∧ x98 < (↑n96 : Int)) <|
                      π.unSome (a95) fun p151 =>
                      π.ld [.int .i64] ((p151.add (x98.toNat * (3 : Nat))).add (0 : Nat)) fun ((x152 : Int), _) =>
                      π.guard ((0 : Int) ≤ IntKind.i64.wrap (x98 - (1 : Int)) ∧ IntKind.i64.wrap (x98 - (1 : Int)) < (↑n96 : Int)) <|
                      π.unSome (a95) fun p153 =>
                      π.ld [.int .i64] ((p153.add ((IntKind.i64.wrap (x98 - (1 : Int))).toNat * (3 : Nat))).add (0 : Nat)) fun ((x154 : Int), _) =>
                      π.ite (decide (x152 < x154)) (
                        π.ret (Go.Value.bool (false))
                      ) (
                        π.guard ((0 : Int) ≤ x98 ∧ x98 < (↑n96 : Int)) <|
                        π.unSome (a95) fun p155 =>
                        π.ld [.int .i64] ((p155.add (x98.toNat * (3 : Nat))).add (0 : Nat)) fun ((x156 : Int), _) =>
                        π.guard ((0 : Int) ≤ IntKind.i64.wrap (x98 - (1 : Int)) ∧ IntKind.i64.wrap (x98 - (1 : Int)) < (↑n96 : Int)) <|
                        π.unSome (a95) fun p157 =>
                        π.ld [.int .i64] ((p157.add ((IntKind.i64.wrap (x98 - (1 : Int))).toNat * (3 : Nat))).add (0 : Nat)) fun ((x158 : Int), _) =>
                        π.ite (decide (x156 > IntKind.i64.wrap (x158 + (1 : Int)))) (
                          π.ret (Go.Value.bool (false))
                        ) (
                          J113 ((x76, x77, (a78, n79, c80), ()), (x81, t82, t83, t84, t85, b86, x87, x88, x89, t90, (a91, n92, c93), ()), (b94, ()), ((a95, n96, c97), ()), (x98, ()), ())
                        )
                      )
                    )
                  )
                ) (fun (((x159 : Int), (x160 : Int), ((a161 : Option Addr), (n162 : Nat), (c163 : Nat)), _), ((x164 : Int), (t165 : ByteArray), (t166 : ByteArray), (t167 : ByteArray), (t168 : ByteArray), (b169 : Bool), (x170 : Int), (x171 : Int), (x172 : Int), (t173 : ByteArray), ((a174 : Option Addr), (n175 : Nat), (c176 : Nat)), _), ((b177 : Bool), _), (((a178 : Option Addr), (n179 : Nat), (c180 : Nat)), _), ((x181 : Int), _), _) =>
                  π.guard ((0 : Int) ≤ x181 ∧ x181 < (↑n179 : Int)) <|
                  π.unSome (a178) fun p182 =>
                  π.ld [.int .i64, .int .i64, .slice] (p182.add (x181.toNat * (3 : Nat))) fun ((x183 : Int), (x184 : Int), ((a185 : Option Addr), (n186 : Nat), (c187 : Nat)), _) =>
                  π.call (27 : Nat) #[(Go.Value.agg #[(Go.Value.int (IntKind.i64) (x183)), (Go.Value.int (IntKind.i64) (x184)), (Go.Value.slice (a185) (n186) (c187))]), (Go.Value.agg #[(Go.Value.int (IntKind.i64) (x164)), (Go.Value.string (t165)), (Go.Value.string (t166)), (Go.Value.string (t167)), (Go.Value.string (t168)), (Go.Value.bool (b169)), (Go.Value.int (IntKind.i64) (x170)), (Go.Value.int (IntKind.i64) (x171)), (Go.Value.int (IntKind.i64) (x172)), (Go.Value.string (t173)), (Go.Value.slice (a174) (n175) (c176))])] (false, [(true, [.int .i64, .int .i64, .slice])]) fun (((x188 : Int), (x189 : Int), ((a190 : Option Addr), (n191 : Nat), (c192 : Nat)), _), _) =>
                  π.call (27 : Nat) #[(Go.Value.agg #[(Go.Value.int (IntKind.i64) (x159)), (Go.Value.int (IntKind.i64) (x160)), (Go.Value.slice (a161) (n162) (c163))]), (Go.Value.agg #[(Go.Value.int (IntKind.i64) (x164)), (Go.Value.string (t165)), (Go.Value.string (t166)), (Go.Value.string (t167)), (Go.Value.string (t168)), (Go.Value.bool (b169)), (Go.Value.int (IntKind.i64) (x170)), (Go.Value.int (IntKind.i64) (x171)), (Go.Value.int (IntKind.i64) (x172)), (Go.Value.string (t173)), (Go.Value.slice (a174) (n175) (c176))])] (false, [(true, [.int .i64, .int .i64, .slice])]) fun (((x193 : Int), (x194 : Int), ((a195 : Option Addr), (n196 : Nat), (c197 : Nat)), _), _) =>
                  π.call (16 : Nat) #[(Go.Value.agg #[(Go.Value.int (IntKind.i64) (x188)), (Go.Value.int (IntKind.i64) (x189)), (Go.Value.slice (a190) (n191) (c192))]), (Go.Value.agg #[(Go.Value.int (IntKind.i64) (x193)), (Go.Value.int (IntKind.i64) (x194)), (Go.Value.slice (a195) (n196) (c197))])] (false, [(false, [.bool])]) fun (((b198 : Bool), _), _) =>
                  π.ite (!b198) (
                    π.ret (Go.Value.bool (false))
                  ) (
                    again75 ((x159, x160, (a161, n162, c163), ()), (x164, t165, t166, t167, t168, b169, x170, x171, x172, t173, (a174, n175, c176), ()), (b177, ()), ((a178, n179, c180), ()), (IntKind.i64.wrap (x181 + (1 : Int)), ()), ())
                  )
                )
              ) (
                π.guard ((0 : Int) ≤ IntKind.i64.wrap ((↑n96 : Int) - (1 : Int)) ∧ IntKind.i64.wrap ((↑n96 : Int) - (1 : Int)) < (↑n96 : Int)) <|
                π.unSome (a95) fun p199 =>
                π.ld [.int .i64, .int .i64, .slice] (p199.add ((IntKind.i64.wrap ((↑n96 : Int) - (1 : Int))).toNat * (3 : Nat))) fun ((x200 : Int), (x201 : Int), ((a202 : Option Addr), (n203 : Nat), (c204 : Nat)), _) =>
                π.callQ (25 : Nat) #[(Go.Value.agg #[(Go.Value.int (IntKind.i64) (x200)), (Go.Value.int (IntKind.i64) (x201)), (Go.Value.slice (a202) (n203) (c204))]), (Go.Value.agg #[(Go.Value.int (IntKind.i64) (x81)), (Go.Value.string (t82)), (Go.Value.string (t83)), (Go.Value.string (t84)), (Go.Value.string (t85)), (Go.Value.bool (b86)), (Go.Value.int (IntKind.i64) (x87)), (Go.Value.int (IntKind.i64) (x88)), (Go.Value.int (IntKind.i64) (x89)), (Go.Value.string (t90)), (Go.Value.slice (a91) (n92) (c93))])] (false, [(false, [.int .i64])]) fun (((x205 : Int), _), _) =>
                π.ite (b94) (
                  π.ite (x205 == (3 : Int)) (
                    π.ret (Go.Value.bool (true))
                  ) (
                    π.ite (!b94) (
                      π.ret (Go.Value.bool (x205 == (0 : Int)))
                    ) (
                      π.ret (Go.Value.bool (false))
                    )
                  )
                ) (
                  π.ite (!b94) (
                    π.ret (Go.Value.bool (x205 == (0 : Int)))
                  ) (
                    π.ret (Go.Value.bool (false))
                  )
                )
              )
          )
        )
      )
    )
  )
def ann_SchemaSteps : Ann := { draws := [(16, { A := [0, 1, 2, 3, 4, 5, 6, 7, 8, 9, 10, 11, 12, 13, 14], quiet := [6, 12] }), (17, { A := [0, 1, 2, 3, 4, 5, 6, 7, 8, 9, 10, 11, 12, 13, 14, 15, 16, 17, 18, 19, 20, 21, 22, 23, 24, 25, 26, 27, 28, 29, 30, 31, 32, 33, 34, 35, 36, 37, 38, 39, 40, 41, 42, 43, 44, 45, 46, 47, 48, 49, 50, 51, 52, 53, 54, 55, 56], quiet := [25] }), (19, { A := [0, 1, 2, 3, 4, 6, 7], quiet := [9], chkL := [(5, [6, 7])], eag := [10] }), (21, { A := [0, 1, 2, 3, 4, 5, 6, 7, 8], quiet := [7] })], join := [(3, [(2, 24), (3, 29)]), (4, [(2, 24), (3, 29), (5, 4)]), (7, [(2, 24), (3, 29), (5, 4)]), (19, [(2, 24), (3, 29), (5, 4), (8, 59), (10, 3)])], loop := [(14, [(2, 24), (3, 29), (5, 4), (8, 59), (10, 3)])] }
def la_SchemaSteps : LA := { ptr := [(2, 2, 0), (3, 3, 0), (27, 2, 0), (32, 2, 1), (37, 3, 0), (41, 3, 0), (46, 3, 0), (51, 3, 0), (88, 3, 0), (92, 3, 0), (115, 3, 0), (119, 3, 0)], ty := [(2, 24), (3, 29)] }
set_option maxRecDepth 100000 in
theorem eq_SchemaSteps {W : Type} (π : Prims W) (sv sl : Int) (sa : Option Addr) (san sac : Nat) (dk : Int) (dt dn dc dp : ByteArray) (du : Bool) (dy vk vn : Int) (vs : ByteArray) (da : Option Addr) (dan dac : Nat) : bodyL π Try.prog la_SchemaSteps ann_SchemaSteps (mkFr (maskA [] [.v (.agg #[.int .i64 sv, .int .i64 sl, .slice sa san sac]), .v (.agg #[.int .i64 dk, .string dt, .string dn, .string dc, .string dp, .bool du, .int .i64 dy, .int .i64 vk, .int .i64 vn, .string vs, .slice da dan dac])] 0) 204) Try.f7 (bodyOf Try.f7) (mkFr (List.map some [.v (.agg #[.int .i64 sv, .int .i64 sl, .slice sa san sac]), .v (.agg #[.int .i64 dk, .string dt, .string dn, .string dc, .string dp, .bool du, .int .i64 dy, .int .i64 vk, .int .i64 vn, .string vs, .slice da dan dac])]) 204) = vc_SchemaSteps π sv sl sa san sac dk dt dn dc dp du dy vk vn vs da dan dac := by kernel_rfl
theorem ok_SchemaSteps (sv sl : Int) (sa : Option Addr) (san sac : Nat) (dk : Int) (dt dn dc dp : ByteArray) (du : Bool) (dy vk vn : Int) (vs : ByteArray) (da : Option Addr) (dan dac : Nat) (R : Value → PH → Prop) (s : PH) (h : vc_SchemaSteps (RP Try.prog R) sv sl sa san sac dk dt dn dc dp du dy vk vn vs da dan dac s) : DCalls Try.prog 7 (List.map AV.val [.v (.agg #[.int .i64 sv, .int .i64 sl, .slice sa san sac]), .v (.agg #[.int .i64 dk, .string dt, .string dn, .string dc, .string dp, .bool du, .int .i64 dy, .int .i64 vk, .int .i64 vn, .string vs, .slice da dan dac])]).toArray s R :=
  calls_vcL (c := bodyOf Try.f7) (ann := ann_SchemaSteps) la_SchemaSteps (by kernel_rfl) Try.func7 rfl (by kernel_rfl) [.v (.agg #[.int .i64 sv, .int .i64 sl, .slice sa san sac]), .v (.agg #[.int .i64 dk, .string dt, .string dn, .string dc, .string dp, .bool du, .int .i64 dy, .int .i64 vk, .int .i64 vn, .string vs, .slice da dan dac])] [] (by rw [Try.ntmps7]; exact Nat.le_of_ble_eq_true rfl) (by kernel_rfl) (by rw [show Try.f7.ntmps = 204 from Try.ntmps7, eq_SchemaSteps]; exact h)
end Go.Proofs.Ythepfbcgpbkbdaa
end
section
set_option linter.unusedVariables false
set_option linter.unusedSimpArgs false
set_option maxHeartbeats 2000000
set_option maxRecDepth 100000
namespace Go.Proofs.Ythepfbcgpbkbdaa
open Fw Go
attribute [-simp] Fw.W.ld_iff Fw.W.st_iff
theorem callq {P : Program} {f : FuncId} {args : Array Value} {r : Bool × List Shape} {k : MDen r.2 → W.T} {s : PH} {v0 : Value} (x : MDen r.2) (h : DCalls P f args s fun v s' => v = v0 ∧ s' = s) (hx : mkRes r x = v0) (hk : k x s) : W.call P f args r k s :=
  W.call_of h (by rintro v s' ⟨rfl, rfl⟩; exact ⟨x, hx, hk⟩)
/-- a list of ids that grows -/
structure Ids (s0 s : PH) (a : Option Addr) (n c : Nat) (l : List Int) : Prop where
  row : rowE intE s 3 a n c l
  fr : ∀ g ∈ Fw.blk a, s0 g = none
  md : Fw.Mod [] s0 s
theorem Ids.nil (s : PH) : Ids s s none 0 0 [] := ⟨⟨by simp, Nat.le_refl _, Nat.zero_le _, .inl ⟨rfl, rfl, rfl⟩⟩, by simp [Fw.blk], Mod.refl _ _⟩
theorem Ids.push {s0 s : PH} {a : Option Addr} {n c : Nat} {l : List Int} {x : Int} {K : Option Addr → Nat → Nat → W.T} (h : Ids s0 s a n c l) (hl : l.length ≤ 4294967296)
    (hK : ∀ a' c' s', Ids s0 s' a' (n + 1) c' (l ++ [x]) → K a' (n + 1) c' s') : W.nw (.cells #[.int .i64 x] 3 (0, 0)) (fun r => W.app 3 1 8 [.int .i64 0] a n c (Src.sl (some ⟨r, 0, none⟩) 1) K) s := by
  refine W.nw_of fun r s1 hr m1 k1 => ?_
  have hmax : maxLen = 9223372036854775807 := rfl
  have hn : n = l.length := h.row.len
  have hrow := h.row.mod m1 (by simp)
  refine app_rowE hrow rfl (ys := [x]) (k := 1) ⟨rfl, ?_⟩ rfl rfl (by omega) (by omega) ?_
  · refine has_one ?_
    have := has_block k1 0 (.int .i64 x) (by simp)
    rwa [add_mk, Nat.zero_add] at this
  · intro a' c' s' h' hm
    refine hK a' c' s' ⟨h', ?_, ?_⟩
    · rcases hm with ⟨rfl, _⟩ | ⟨g, rfl, hg, _⟩
      · exact h.fr
      · intro g' hg'
        have : g' = g := by simpa [Fw.blk] using hg'
        subst this
        exact (h.md.trans m1).none hg (by simp)
    · rcases hm with ⟨rfl, hm⟩ | ⟨g, rfl, hg, hm⟩
      · exact (h.md.trans m1).fresh hm fun g hg => .inr (h.fr g hg)
      · exact (h.md.trans m1).trans hm
theorem allI_iff {α : Type} {p : Nat → α → Bool} {xs : List α} : allI p xs = true ↔ ∀ i x, xs[i]? = some x → p i x = true := by
  unfold allI; rw [upTo_iff]
  constructor
  · intro h i x hx; have := h i (List.getElem?_eq_some_iff.1 hx).1; rwa [condI_at hx] at this
  · intro h i hi
    obtain ⟨x, hx⟩ : ∃ x, xs[i]? = some x := ⟨_, List.getElem?_eq_getElem hi⟩
    rw [condI_at hx]; exact h i x hx
theorem allI_and {α : Type} {p q : Nat → α → Bool} {xs : List α} (h : allI (fun i x => p i x && q i x) xs = true) : allI p xs = true ∧ allI q xs = true := by
  rw [allI_iff] at h
  exact ⟨allI_iff.2 fun i x hx => by have := h i x hx; simp only [Bool.and_eq_true] at this; exact this.1, allI_iff.2 fun i x hx => by have := h i x hx; simp only [Bool.and_eq_true] at this; exact this.2⟩
theorem right_iff {S : Sch} : right S = true ↔ headB S = true ∧ S.tabs.length ≤ 6 ∧ allI (nameT S.tabs) S.tabs = true ∧ allI (fun _ T => tabB S T) S.tabs = true ∧ runIds S.last (S.tabs.flatMap idsOf) [] = true := by
  unfold right namesB
  simp only [Bool.and_eq_true, decide_eq_true_eq]
  constructor
  · rintro ⟨a, ⟨_, b, c⟩, d, e⟩; exact ⟨a, by omega, c, d, e⟩
  · rintro ⟨a, b, c, d, e⟩; exact ⟨a, ⟨by omega, by omega, c⟩, d, e⟩
theorem tabB_iff {S : Sch} {T : Tab} : tabB S T = true ↔ 1 ≤ T.cols.length ∧ T.cols.length ≤ 8 ∧ T.idxs.length ≤ 8 ∧ T.keys.length ≤ 8 ∧ allI (nameC T.cols) T.cols = true ∧ allI (nameX T.idxs) T.idxs = true ∧ allI (nameF T.keys) T.keys = true ∧
    first3 T = true ∧ allI colB T.cols = true ∧ allI (idxB T) T.idxs = true ∧ allI (keyB S T) T.keys = true := by
  unfold tabB namesB
  simp only [Bool.and_eq_true, decide_eq_true_eq]
  constructor
  · rintro ⟨⟨a, b, c⟩, ⟨d, e, f⟩, ⟨g, h, i⟩, j, k, l, m⟩; exact ⟨by omega, by omega, by omega, by omega, c, f, i, j, k, l, m⟩
  · rintro ⟨a, b, c, d, e, f, g, h, i, j, k⟩; exact ⟨⟨by omega, by omega, e⟩, ⟨by omega, by omega, f⟩, ⟨by omega, by omega, g⟩, h, i, j, k⟩
theorem right_no {S : Sch} (h : ¬ right S = true) : right S = false := by cases e : right S with
  | false => rfl
  | true => exact absurd e h
theorem no_col {S : Sch} {T : Tab} {j : Nat} {x : Col} (hx : T.cols[j]? = some x) (e : ¬ (nameC T.cols j x = true ∧ colB j x = true)) : ¬ tabB S T = true := fun r => by
  obtain ⟨_, _, _, _, a, _, _, _, b, _, _⟩ := tabB_iff.1 r
  exact e ⟨allI_iff.1 a j x hx, allI_iff.1 b j x hx⟩
theorem no_idx {S : Sch} {T : Tab} {j : Nat} {x : Idx} (hx : T.idxs[j]? = some x) (e : ¬ (nameX T.idxs j x = true ∧ idxB T j x = true)) : ¬ tabB S T = true := fun r => by
  obtain ⟨_, _, _, _, _, a, _, _, _, b, _⟩ := tabB_iff.1 r
  exact e ⟨allI_iff.1 a j x hx, allI_iff.1 b j x hx⟩
theorem no_key {S : Sch} {T : Tab} {j : Nat} {x : For} (hx : T.keys[j]? = some x) (e : ¬ (nameF T.keys j x = true ∧ keyB S T j x = true)) : ¬ tabB S T = true := fun r => by
  obtain ⟨_, _, _, _, _, _, a, _, _, _, b⟩ := tabB_iff.1 r
  exact e ⟨allI_iff.1 a j x hx, allI_iff.1 b j x hx⟩
theorem runIds_pre {last : Int} {l : List Int} {k : Nat} (h : runIds last l [] = true) : runIds last (l.take k) [] = true := by
  rw [← List.take_append_drop k l, runIds_app] at h
  simp only [Bool.and_eq_true] at h
  exact h.1
theorem up_succ {α : Type} {p : Nat → α → Bool} {xs : List α} {k : Nat} {x : α} (h : upTo (condI p xs) k = true) (hx : xs[k]? = some x) (hp : p k x = true) : upTo (condI p xs) (k + 1) = true := by
  rw [upTo_succ, h, condI_at hx, hp]; (first | done | rfl)
end Go.Proofs.Ythepfbcgpbkbdaa
end
section
set_option linter.unusedVariables false
set_option linter.unusedSimpArgs false
set_option maxHeartbeats 2000000
set_option maxRecDepth 100000
namespace Go.Proofs.Ythepfbcgpbkbdaa
open Fw Go
attribute [-simp] Fw.W.ld_iff Fw.W.st_iff
theorem ids_ld {s0 s : PH} {a : Option Addr} {n c : Nat} {l : List Int} (h : Ids s0 s a n c l) {i : Nat} {x : Int} (hx : l[i]? = some x) {K : Den [.int .i64] → W.T} (hK : K (x, ()) s) : W.unSome a (fun p => W.ld [.int .i64] (p.add (i * 1)) K) s := by
  obtain ⟨ad, rfl, hh⟩ := (elems.of_row h.row).at_enc hx
  simp only [W.unSome_some]
  exact ld_has_z hh (cs := [.int .i64]) (y := (x, ())) rfl hK
theorem c_rRight {s : PH} {t : Tri} {S : Sch} {ps : List TabP} (h : SchIs s t S ps) : DCalls Try.prog 19 #[schV S t] s fun y s' => y = .bool (right S) ∧ s' = s := by
  refine DCalls.quiet ?_
  obtain ⟨ta, tn, tc⟩ := t
  refine ok_rRight S.version S.last ta tn tc _ s ?_
  unfold vc_rRight
  have htn : tn = ps.length := h.el.len
  have hpl : S.tabs.length = ps.length := by rw [h.eq]; simp
  obtain ⟨R, hR⟩ : ∃ b, right S = b := ⟨_, rfl⟩
  rw [hR]
  have ret0 : ∀ {s'}, Fw.Mod [] s s' → ¬ right S = true → (Value.bool false = .bool R ∧ Fw.Mod [] s s') := fun m e => ⟨by rw [← hR, right_no e], m⟩
  simp only [RP_join]
  refine W.join_gen (fun z s' => z = ((S.version, S.last, (ta, tn, tc), ()), ()) ∧ s' = s ∧ headB S = true ∧ tn ≤ 6) ?_ ?_
  rotate_left
  · intro J hJ
    simp only [RP_ite, W.br_iff, decide_eq_true_eq, decide_eq_false_iff_not, RP_ret, W.ret_iff]
    have hno : ¬ (0 ≤ S.version ∧ S.version ≤ 1125899906842624 ∧ 0 ≤ S.last ∧ S.last ≤ 1125899906842624 ∧ S.tabs.length ≤ 6) → ¬ right S = true := fun e r => e (by
      have := (right_iff.1 r).1
      unfold headB at this
      simp only [Bool.and_eq_true, decide_eq_true_eq] at this
      exact ⟨this.1, this.2.1, this.2.2.1, this.2.2.2, (right_iff.1 r).2.1⟩)
    refine ⟨fun h1 => ret0 (Mod.refl _ _) (hno (by omega)), fun h1 => ⟨fun h2 => ret0 (Mod.refl _ _) (hno (by omega)), fun h2 => ⟨fun h3 => ret0 (Mod.refl _ _) (hno (by omega)), fun h3 => ⟨fun h4 => ret0 (Mod.refl _ _) (hno (by omega)), fun h4 => ⟨fun h5 => ret0 (Mod.refl _ _) (hno (by omega)), fun h5 => hJ _ _ ⟨rfl, rfl, ?_, by omega⟩⟩⟩⟩⟩⟩
    unfold headB
    simp only [Bool.and_eq_true, decide_eq_true_eq]
    omega
  rintro _ s1 ⟨rfl, rfl, hhead, h6⟩
  simp only [RP_loop]
  refine ⟨fun z s' => ∃ (k n c : Nat) (ia : Option Addr), z = ((S.version, S.last, (ta, tn, tc), ()), ((ia, n, c), ()), ((k : Int), ()), ()) ∧ k ≤ tn ∧ Ids s1 s' ia n c ((S.tabs.take k).flatMap idsOf) ∧ ((S.tabs.take k).flatMap idsOf).length ≤ 25 * k ∧
    upTo (condI (fun i T => nameT S.tabs i T && tabB S T) S.tabs) k = true, fun z _ => tn - z.2.2.1.1.toNat, ⟨0, 0, 0, none, rfl, Nat.zero_le _, Ids.nil _, by simp, rfl⟩, ?_⟩
  rintro _ s2 ⟨k, n, c, ia, rfl, hk, hids, hlen, hup⟩
  have hS2 := h.mono hids.md.le
  simp only [RP_ite, W.br_iff, decide_eq_true_eq, decide_eq_false_iff_not]
  refine ⟨fun hlt => ?_, fun hge => ?_⟩
  · have hlt : k < tn := by omega
    obtain ⟨p, hp⟩ : ∃ p, ps[k]? = some p := ⟨_, List.getElem?_eq_getElem (by omega)⟩
    have hT : S.tabs[k]? = some p.T := by rw [h.eq, List.getElem?_map, hp]; (first | done | rfl)
    obtain ⟨ad, had, hh⟩ := hS2.el.el.at_enc hp
    dsimp only at had
    subst had
    have hP0 := h.all p (get_mem hp)
    obtain ⟨T, ⟨ca, can, cac⟩, ⟨xa, xan, xac⟩, ⟨ka, kan, kac⟩⟩ := p
    dsimp only at hP0 hT
    have hcan : can = T.cols.length := hP0.c.len
    have hxan : xan = T.idxs.length := hP0.x.len
    have hkan : kan = T.keys.length := hP0.k.len
    have hnoT : ¬ tabB S T = true → ¬ right S = true := fun e r => e (by have := allI_iff.1 (right_iff.1 r).2.2.2.1 k T hT; exact this)
    simp only [RP_guard, W.guard_iff, RP_unSome, W.unSome_some, RP_ld, Int.toNat_natCast]
    refine ⟨by omega, ?_⟩
    refine ld_has_z hh (y := (T.id, T.name, (ca, can, cac), (xa, xan, xac), (ka, kan, kac), ())) rfl ?_
    refine W.join_gen (fun z s' => z = ((S.version, S.last, (some ad, tn, tc), ()), ((ia, n, c), ()), ((k : Int), ()), (T.id, T.name, (ca, can, cac), (xa, xan, xac), (ka, kan, kac), ()), ()) ∧ s' = s2 ∧ nameT S.tabs k T = true ∧ 1 ≤ can ∧ can ≤ 8 ∧ xan ≤ 8 ∧ kan ≤ 8) ?_ ?_
    rotate_left
    · intro J hJ
      simp only [RP_call]
      refine callq ((named T.name, ()), ()) (c_rNamed T.name s2) rfl ?_
      have hnoN : ¬ nameT S.tabs k T = true → ¬ right S = true := fun e r => e (allI_iff.1 (right_iff.1 r).2.2.1 k T hT)
      have hnoL : ¬ (1 ≤ T.cols.length ∧ T.cols.length ≤ 8 ∧ T.idxs.length ≤ 8 ∧ T.keys.length ≤ 8) → ¬ right S = true := fun e => hnoT fun r => e (by obtain ⟨a, b, c, d, _⟩ := tabB_iff.1 r; exact ⟨a, b, c, d⟩)
      simp only [W.br_iff]
      refine ⟨fun hb => ret0 hids.md (hnoN fun r => ?_), fun hb => ?_⟩
      · unfold nameT at r; simp only [Bool.and_eq_true] at r; rw [r.1] at hb; cases hb
      have hb : named T.name = true := by simpa using hb
      refine callq ((tabAt S T.name, ()), ()) (c_rTableAt (t := (some ad, tn, tc)) hS2 T.name) rfl ?_
      simp only [W.br_iff]
      refine ⟨fun h1 => ret0 hids.md (hnoN fun r => ?_), fun h1 => ?_⟩
      · unfold nameT at r; simp only [Bool.and_eq_true, decide_eq_true_eq] at r
        unfold tabAt at h1; rw [r.2] at h1; simp at h1
      have h1 : tabAt S T.name = (k : Int) := by simpa using h1
      simp only [decide_eq_true_eq, decide_eq_false_iff_not]
      refine ⟨fun h2 => ret0 hids.md (hnoL (by omega)), fun h2 => ⟨fun h3 => ret0 hids.md (hnoL (by omega)), fun h3 => ⟨fun h4 => ret0 hids.md (hnoL (by omega)), fun h4 => ⟨fun h5 => ret0 hids.md (hnoL (by omega)), fun h5 => hJ _ _ ⟨rfl, rfl, ?_, by omega, by omega, by omega, by omega⟩⟩⟩⟩⟩
      unfold nameT; rw [hb]; unfold tabAt at h1; rw [h1]; simp
    rintro _ s3 ⟨rfl, rfl, hnameT, hc1, hc8, hx8, hk8⟩
    try simp only [RP_nw, RP_app]
    refine hids.push (by omega) ?_
    intro ia c s4 hids
    obtain ⟨B, hB⟩ : ∃ B, (S.tabs.take k).flatMap idsOf ++ [T.id] = B := ⟨_, rfl⟩
    have hBl : B.length ≤ 25 * k + 1 := by rw [← hB, List.length_append, List.length_singleton]; omega
    rw [hB] at hids
    generalize n + 1 = n at hids ⊢
    try simp only [RP_loop]
    refine ⟨fun z s' => ∃ (j n c : Nat) (ia : Option Addr), z = ((S.version, S.last, (some ad, tn, tc), ()), ((ia, n, c), ()), ((k : Int), ()), (T.id, T.name, (ca, can, cac), (xa, xan, xac), (ka, kan, kac), ()), ((j : Int), ()), ()) ∧ j ≤ can ∧ Ids s1 s' ia n c (B ++ (T.cols.take j).map (·.id)) ∧
      upTo (condI (fun i x => nameC T.cols i x && colB i x) T.cols) j = true ∧ (0 < j → first3 T = true), fun z _ => can - z.2.2.2.2.1.1.toNat, ⟨0, _, _, _, rfl, Nat.zero_le _, by simpa using hids, rfl, by omega⟩, ?_⟩
    rintro _ s5 ⟨j, n, c, ia, rfl, hj, hids, hupC, hf3⟩
    simp only [RP_ite, W.br_iff, decide_eq_true_eq, decide_eq_false_iff_not]
    refine ⟨fun hlt2 => ?_, fun hge => ?_⟩
    · have hlt2 : j < can := by omega
      obtain ⟨x, hx⟩ : ∃ x, T.cols[j]? = some x := ⟨_, List.getElem?_eq_getElem (by omega)⟩
      have hCs := hP0.c.mono hids.md.le
      obtain ⟨ad2, had2, hh2⟩ := hCs.el.at_enc hx
      dsimp only at had2
      subst had2
      have hw := wrap_succ (k := j) (by omega)
      have hno : ¬ (named x.name = true ∧ colAt T x.name = j ∧ 1 ≤ x.state ∧ x.state ≤ 3 ∧ typed x.kind = true ∧ fits x.dflt x.kind = true) → ¬ right S = true := fun e => hnoT (no_col hx fun ⟨a, b⟩ => e (by
        unfold nameC at a; unfold colB stateB at b
        simp only [Bool.and_eq_true, decide_eq_true_eq] at a b
        exact ⟨a.1, a.2, b.1.1, b.1.2, b.2.1, b.2.2⟩))
      simp only [RP_guard, W.guard_iff, RP_unSome, W.unSome_some, RP_ld, Int.toNat_natCast]
      refine ⟨by omega, ?_⟩
      refine ld_has_z hh2 (y := (x.id, x.name, x.kind, x.state, x.dflt.kind, x.dflt.n, x.dflt.s, ())) rfl ?_
      refine callq ((named x.name, ()), ()) (c_rNamed x.name s5) rfl ?_
      simp only [W.br_iff]
      refine ⟨fun hb => ret0 hids.md (hno fun q => by rw [q.1] at hb; cases hb), fun hb => ?_⟩
      have hb : named x.name = true := by simpa using hb
      refine callq ((colAt T x.name, ()), ()) (c_rColumnAt (p := ⟨T, (some ad2, can, cac), (xa, xan, xac), (ka, kan, kac)⟩) hCs x.name) rfl ?_
      simp only [W.br_iff]
      refine ⟨fun h1 => ret0 hids.md (hno fun q => by rw [q.2.1] at h1; simp at h1), fun h1 => ?_⟩
      have h1 : colAt T x.name = (j : Int) := by simpa using h1
      simp only [decide_eq_true_eq, decide_eq_false_iff_not]
      refine ⟨fun h2 => ret0 hids.md (hno (by omega)), fun h2 => ⟨fun h3 => ret0 hids.md (hno (by omega)), fun h3 => ?_⟩⟩
      have hpush : ∀ (K : Option Addr → Nat → Nat → W.T), (∀ a' c' s', Ids s1 s' a' (n + 1) c' (B ++ (T.cols.take (j + 1)).map (·.id)) → K a' (n + 1) c' s') → W.nw (.cells #[.int .i64 x.id] 3 (0, 0)) (fun r => W.app 3 1 8 [.int .i64 0] ia n c (Src.sl (some ⟨r, 0, none⟩) 1) K) s5 := by
        intro K hK
        refine hids.push (by simp; omega) fun a' c' s' h' => hK a' c' s' ?_
        rw [ids_take (·.id) hx]; simpa using h'
      have hyes : typed x.kind = true → fits x.dflt x.kind = true → upTo (condI (fun i x => nameC T.cols i x && colB i x) T.cols) (j + 1) = true := fun a b => up_succ hupC hx (by
        unfold nameC colB stateB; unfold colAt at h1; rw [hb, h1, a, b, decide_eq_true (p := 1 ≤ x.state) (by omega), decide_eq_true (p := x.state ≤ 3) (by omega)]; simp)
      have hfirst : j = 0 → first3 T = decide (x.state = 3) := by
        rintro rfl
        unfold first3
        cases hcs : T.cols with
        | nil => rw [hcs] at hx; cases hx
        | cons a b => rw [hcs] at hx; cases hx; (first | done | rfl)
      have hno3 : first3 T = false → ¬ right S = true := fun e => hnoT fun r => by obtain ⟨_, _, _, _, _, _, _, q, _⟩ := tabB_iff.1 r; rw [e] at q; cases q
      try simp only [RP_ite, W.br_iff]
      refine ⟨fun h0 => ⟨fun h4 => ret0 hids.md (hno3 ?_), fun h4 => ?_⟩, fun h0 => ?_⟩
      · rw [hfirst (by have : (j : Int) = 0 := by simpa using h0
                       omega)]
        simpa using h4
      · have hq : first3 T = true := by
          rw [hfirst (by have : (j : Int) = 0 := by simpa using h0
                         omega)]
          simpa using h4
        refine callq ((typed x.kind, ()), ()) (c_rTyped x.kind s5) rfl ?_
        simp only [W.br_iff]
        refine ⟨fun hb => ret0 hids.md (hno fun q => by rw [q.2.2.2.2.1] at hb; cases hb), fun hb => ?_⟩
        refine callq ((fits x.dflt x.kind, ()), ()) (c_rFits x.dflt x.kind s5) rfl ?_
        simp only [W.br_iff]
        refine ⟨fun hb => ret0 hids.md (hno fun q => by rw [q.2.2.2.2.2] at hb; cases hb), fun hb2 => ?_⟩
        refine hpush _ fun a' c' s' h' => ?_
        rw [hw]
        refine ⟨⟨j + 1, n + 1, c', a', rfl, hlt2, h', hyes (by simpa using hb) (by simpa using hb2), fun _ => hq⟩, ?_⟩
        simp only [Int.toNat_natCast]; omega
      · have hq : first3 T = true := hf3 (by have : (j : Int) ≠ 0 := by simpa using h0
                                             omega)
        refine callq ((typed x.kind, ()), ()) (c_rTyped x.kind s5) rfl ?_
        simp only [W.br_iff]
        refine ⟨fun hb => ret0 hids.md (hno fun q => by rw [q.2.2.2.2.1] at hb; cases hb), fun hb => ?_⟩
        refine callq ((fits x.dflt x.kind, ()), ()) (c_rFits x.dflt x.kind s5) rfl ?_
        simp only [W.br_iff]
        refine ⟨fun hb => ret0 hids.md (hno fun q => by rw [q.2.2.2.2.2] at hb; cases hb), fun hb2 => ?_⟩
        refine hpush _ fun a' c' s' h' => ?_
        rw [hw]
        refine ⟨⟨j + 1, n + 1, c', a', rfl, hlt2, h', hyes (by simpa using hb) (by simpa using hb2), fun _ => hq⟩, ?_⟩
        simp only [Int.toNat_natCast]; omega
    · have hall : T.cols.take j = T.cols := List.take_of_length_le (by omega)
      have hupA : allI (fun i x => nameC T.cols i x && colB i x) T.cols = true := by unfold allI; rw [show T.cols.length = j by omega]; exact hupC
      have hq : first3 T = true := hf3 (by omega)
      rw [hall] at hids
      obtain ⟨B2, hB2⟩ : ∃ B2, B ++ T.cols.map (·.id) = B2 := ⟨_, rfl⟩
      have hB2l : B2.length ≤ 25 * k + 9 := by rw [← hB2, List.length_append, List.length_map]; omega
      rw [hB2] at hids
      refine ⟨fun z s' => ∃ (j n c : Nat) (ia : Option Addr), z = ((S.version, S.last, (some ad, tn, tc), ()), ((ia, n, c), ()), ((k : Int), ()), (T.id, T.name, (ca, can, cac), (xa, xan, xac), (ka, kan, kac), ()), ((j : Int), ()), ()) ∧ j ≤ xan ∧ Ids s1 s' ia n c (B2 ++ (T.idxs.take j).map (·.id)) ∧
        upTo (condI (fun i x => nameX T.idxs i x && idxB T i x) T.idxs) j = true, fun z _ => xan - z.2.2.2.2.1.1.toNat, ⟨0, _, _, _, rfl, Nat.zero_le _, by simpa using hids, rfl⟩, ?_⟩
      rintro _ s6 ⟨j, n, c, ia, rfl, hj, hids, hupX⟩
      simp only [RP_ite, W.br_iff, decide_eq_true_eq, decide_eq_false_iff_not]
      refine ⟨fun hlt2 => ?_, fun hge => ?_⟩
      · have hlt2 : j < xan := by omega
        obtain ⟨x, hx⟩ : ∃ x, T.idxs[j]? = some x := ⟨_, List.getElem?_eq_getElem (by omega)⟩
        have hXs := hP0.x.mono hids.md.le
        have hCs := hP0.c.mono hids.md.le
        obtain ⟨ad2, had2, hh2⟩ := hXs.el.at_enc hx
        dsimp only at had2
        subst had2
        have hw := wrap_succ (k := j) (by omega)
        have hno : ¬ (named x.name = true ∧ idxAt T x.name = j ∧ 1 ≤ x.state ∧ x.state ≤ 3 ∧ 0 ≤ colOf T x.column) → ¬ right S = true := fun e => hnoT (no_idx hx fun ⟨a, b⟩ => e (by
          unfold nameX at a; unfold idxB stateB at b
          simp only [Bool.and_eq_true, decide_eq_true_eq] at a b
          exact ⟨a.1, a.2, b.1.1, b.1.2, b.2⟩))
        simp only [RP_guard, W.guard_iff, RP_unSome, W.unSome_some, RP_ld, Int.toNat_natCast]
        refine ⟨by omega, ?_⟩
        refine ld_has_z hh2 (y := (x.id, x.name, x.column, x.unique, x.state, ())) rfl ?_
        refine callq ((named x.name, ()), ()) (c_rNamed x.name s6) rfl ?_
        simp only [W.br_iff]
        refine ⟨fun hb => ret0 hids.md (hno fun q => by rw [q.1] at hb; cases hb), fun hb => ?_⟩
        have hb : named x.name = true := by simpa using hb
        refine callq ((idxAt T x.name, ()), ()) (c_rIndexAt (p := ⟨T, (ca, can, cac), (some ad2, xan, xac), (ka, kan, kac)⟩) hXs x.name) rfl ?_
        simp only [W.br_iff]
        refine ⟨fun h1 => ret0 hids.md (hno fun q => by rw [q.2.1] at h1; simp at h1), fun h1 => ?_⟩
        have h1 : idxAt T x.name = (j : Int) := by simpa using h1
        simp only [decide_eq_true_eq, decide_eq_false_iff_not]
        refine ⟨fun h2 => ret0 hids.md (hno (by omega)), fun h2 => ⟨fun h3 => ret0 hids.md (hno (by omega)), fun h3 => ?_⟩⟩
        refine callq ((colOf T x.column, ()), ()) (c_rColumnOf (p := ⟨T, (ca, can, cac), (some ad2, xan, xac), (ka, kan, kac)⟩) hCs x.column) rfl ?_
        simp only [W.br_iff, decide_eq_true_eq, decide_eq_false_iff_not]
        refine ⟨fun h4 => ret0 hids.md (hno (by omega)), fun h4 => ?_⟩
        refine hids.push (by rw [List.length_append, List.length_map, List.length_take]; omega) fun a' c' s' h' => ?_
        rw [hw]
        refine ⟨⟨j + 1, n + 1, c', a', rfl, hlt2, by rw [ids_take (·.id) hx]; simpa using h', up_succ hupX hx ?_⟩, ?_⟩
        · unfold nameX idxB stateB; unfold idxAt at h1; rw [hb, h1, decide_eq_true (p := 1 ≤ x.state) (by omega), decide_eq_true (p := x.state ≤ 3) (by omega), decide_eq_true (p := 0 ≤ colOf T x.column) (by omega)]; simp
        · simp only [Int.toNat_natCast]; omega
      · have hall : T.idxs.take j = T.idxs := List.take_of_length_le (by omega)
        have hupB : allI (fun i x => nameX T.idxs i x && idxB T i x) T.idxs = true := by unfold allI; rw [show T.idxs.length = j by omega]; exact hupX
        rw [hall] at hids
        obtain ⟨B3, hB3⟩ : ∃ B3, B2 ++ T.idxs.map (·.id) = B3 := ⟨_, rfl⟩
        have hB3l : B3.length ≤ 25 * k + 17 := by rw [← hB3, List.length_append, List.length_map]; omega
        rw [hB3] at hids
        refine ⟨fun z s' => ∃ (j n c : Nat) (ia : Option Addr), z = ((S.version, S.last, (some ad, tn, tc), ()), ((ia, n, c), ()), ((k : Int), ()), (T.id, T.name, (ca, can, cac), (xa, xan, xac), (ka, kan, kac), ()), ((j : Int), ()), ()) ∧ j ≤ kan ∧ Ids s1 s' ia n c (B3 ++ (T.keys.take j).map (·.id)) ∧
          upTo (condI (fun i x => nameF T.keys i x && keyB S T i x) T.keys) j = true, fun z _ => kan - z.2.2.2.2.1.1.toNat, ⟨0, _, _, _, rfl, Nat.zero_le _, by simpa using hids, rfl⟩, ?_⟩
        rintro _ s7 ⟨j, n, c, ia, rfl, hj, hids, hupF⟩
        have hSn := h.mono hids.md.le
        have hXs := hP0.x.mono hids.md.le
        have hCs := hP0.c.mono hids.md.le
        have hKs := hP0.k.mono hids.md.le
        simp only [RP_ite, W.br_iff, decide_eq_true_eq, decide_eq_false_iff_not]
        refine ⟨fun hlt2 => ?_, fun hge => ?_⟩
        · have hlt2 : j < kan := by omega
          obtain ⟨x, hx⟩ : ∃ x, T.keys[j]? = some x := ⟨_, List.getElem?_eq_getElem (by omega)⟩
          obtain ⟨ad2, had2, hh2⟩ := hKs.el.at_enc hx
          dsimp only at had2
          subst had2
          have hw := wrap_succ (k := j) (by omega)
          have hno : ¬ (named x.name = true ∧ keyAt T x.name = j ∧ 1 ≤ x.state ∧ x.state ≤ 3 ∧ 0 ≤ colOf T x.column ∧ 0 ≤ tabOf S x.parent ∧ parB S T x = true) → ¬ right S = true := fun e => hnoT (no_key hx fun ⟨a, b⟩ => e (by
            unfold nameF at a; unfold keyB stateB at b
            simp only [Bool.and_eq_true, decide_eq_true_eq] at a b
            exact ⟨a.1, a.2, b.1.1, b.1.2, b.2.1, b.2.2.1, b.2.2.2⟩))
          simp only [RP_guard, W.guard_iff, RP_unSome, W.unSome_some, RP_ld, Int.toNat_natCast]
          refine ⟨by omega, ?_⟩
          refine ld_has_z hh2 (y := (x.id, x.name, x.column, x.parent, x.state, ())) rfl ?_
          refine callq ((tabOf S x.parent, ()), ()) (c_rTableOf (t := (some ad, tn, tc)) hSn x.parent) rfl ?_
          refine callq ((colOf T x.column, ()), ()) (c_rColumnOf (p := ⟨T, (ca, can, cac), (xa, xan, xac), (some ad2, kan, kac)⟩) hCs x.column) rfl ?_
          refine W.join_gen (fun z s' => z = ((S.version, S.last, (some ad, tn, tc), ()), ((ia, n, c), ()), ((k : Int), ()), (T.id, T.name, (ca, can, cac), (xa, xan, xac), (some ad2, kan, kac), ()), ((j : Int), ()), (x.id, x.name, x.column, x.parent, x.state, ()), (tabOf S x.parent, ()), (colOf T x.column, ()), ()) ∧ s' = s7 ∧
            named x.name = true ∧ keyAt T x.name = j ∧ 1 ≤ x.state ∧ x.state ≤ 3 ∧ 0 ≤ colOf T x.column ∧ 0 ≤ tabOf S x.parent) ?_ ?_
          rotate_left
          · intro J hJ
            refine callq ((named x.name, ()), ()) (c_rNamed x.name s7) rfl ?_
            simp only [W.br_iff]
            refine ⟨fun hb => ret0 hids.md (hno fun q => by rw [q.1] at hb; cases hb), fun hb => ?_⟩
            have hb : named x.name = true := by simpa using hb
            refine callq ((keyAt T x.name, ()), ()) (c_rKeyAt (p := ⟨T, (ca, can, cac), (xa, xan, xac), (some ad2, kan, kac)⟩) hKs x.name) rfl ?_
            simp only [W.br_iff]
            refine ⟨fun h1 => ret0 hids.md (hno fun q => by rw [q.2.1] at h1; simp at h1), fun h1 => ?_⟩
            have h1 : keyAt T x.name = (j : Int) := by simpa using h1
            simp only [decide_eq_true_eq, decide_eq_false_iff_not]
            refine ⟨fun h2 => ret0 hids.md (hno (by omega)), fun h2 => ⟨fun h3 => ret0 hids.md (hno (by omega)), fun h3 => ⟨fun h4 => ret0 hids.md (hno (by omega)), fun h4 => ⟨fun h5 => ret0 hids.md (hno (by omega)), fun h5 => hJ _ _ ⟨rfl, rfl, hb, h1, by omega, by omega, by omega, by omega⟩⟩⟩⟩⟩
          rintro _ s8 ⟨rfl, rfl, hb, h1, hs1, hs3, hcol, htab⟩
          obtain ⟨jp, P, hjp, hPj, _, _⟩ : ∃ (jp : Nat) (P : Tab), tabOf S x.parent = (jp : Int) ∧ S.tabs[jp]? = some P ∧ True ∧ True := by
            rcases seek_spec (p := fun T : Tab => decide (T.id = x.parent)) S.tabs 0 with ⟨e, _⟩ | ⟨j, P, e, e2, _⟩
            · exact absurd e (by unfold tabOf at htab; omega)
            · exact ⟨j, P, by unfold tabOf; rw [e]; simp, e2, trivial, trivial⟩
          obtain ⟨j2, C, hj2, hCj, _, _⟩ : ∃ (j : Nat) (C : Col), colOf T x.column = (j : Int) ∧ T.cols[j]? = some C ∧ True ∧ True := by
            rcases seek_spec (p := fun c : Col => decide (c.id = x.column)) T.cols 0 with ⟨e, _⟩ | ⟨j, P, e, e2, _⟩
            · exact absurd e (by unfold colOf at hcol; omega)
            · exact ⟨j, P, by unfold colOf; rw [e]; simp, e2, trivial, trivial⟩
          have hpar : parB S T x = (match P.cols with | c0 :: _ => decide (C.kind = c0.kind) | [] => false) := by unfold parB; rw [hjp, hj2]; simp only [Int.toNat_natCast, hPj, hCj] <;> rfl
          obtain ⟨pp, hpp, hppT⟩ : ∃ pp, ps[jp]? = some pp ∧ pp.T = P := by
            rw [h.eq, List.getElem?_map] at hPj
            cases hq : ps[jp]? with
            | none => rw [hq] at hPj; cases hPj
            | some pp => rw [hq] at hPj; exact ⟨pp, rfl, Option.some.inj hPj⟩
          have hjl := (List.getElem?_eq_some_iff.1 hpp).1
          have hj2l := (List.getElem?_eq_some_iff.1 hCj).1
          obtain ⟨ad3, had3, hh3⟩ := hSn.el.el.at_enc hpp
          dsimp only at had3
          cases had3
          have hPP := hSn.all pp (get_mem hpp)
          obtain ⟨PT, ⟨pca, pcn, pcc⟩, ⟨pxa, pxn, pxc⟩, ⟨pka, pkn, pkc⟩⟩ := pp
          dsimp only at hppT
          subst hppT
          have hpcn : pcn = PT.cols.length := hPP.c.len
          rw [hjp, hj2]
          simp only [Int.toNat_natCast]
          refine ⟨by omega, ?_⟩
          simp only [W.unSome_some]
          refine ld_has (j := 2) hh3 (cs := [.slice]) (y := ((pca, pcn, pcc), ())) rfl ?_
          simp only [W.br_iff]
          refine ⟨fun h3 => ret0 hids.md (hno fun q => ?_), fun h3 => ?_⟩
          · have h3 : pcn = 0 := by simpa using h3
            have : PT.cols = [] := List.length_eq_zero_iff.1 (by omega)
            have q := q.2.2.2.2.2.2
            rw [hpar, this] at q; cases q
          have h3 : pcn ≠ 0 := by simpa using h3
          obtain ⟨c1, cs1, hcs1⟩ : ∃ c0 cs, PT.cols = c0 :: cs := by
            cases hc : PT.cols with
            | nil => rw [hc] at hpcn; simp at hpcn; omega
            | cons a b => exact ⟨a, b, rfl⟩
          obtain ⟨ad4, had4, hh4⟩ := hCs.el.at_enc hCj
          dsimp only at had4
          cases had4
          obtain ⟨ad5, had5, hh5⟩ := hPP.c.el.at_enc (i := 0) (x := c1) (by rw [hcs1]; (first | done | rfl))
          dsimp only at had5
          subst had5
          rw [Nat.zero_mul, add_zero] at hh5
          refine ⟨by omega, ?_⟩
          simp only [W.unSome_some]
          refine ld_has (j := 2) hh3 (cs := [.slice]) (y := ((some ad5, pcn, pcc), ())) rfl ?_
          refine ⟨by dsimp only; omega, ?_⟩
          simp only [W.unSome_some]
          refine ld_has (j := 2) (A := Addr.add ad5 0) (by rw [add_zero]; exact hh5) (cs := [.int .i64]) (y := (c1.kind, ())) rfl ?_
          refine ⟨by omega, ?_⟩
          simp only [W.unSome_some]
          refine ld_has (j := 2) hh4 (cs := [.int .i64]) (y := (C.kind, ())) rfl ?_
          simp only [W.br_iff]
          refine ⟨fun h6 => ret0 hids.md (hno fun q => ?_), fun h6 => ?_⟩
          · have q := q.2.2.2.2.2.2
            rw [hpar, hcs1] at q
            have q : C.kind = c1.kind := by simpa using q
            rw [q] at h6; simp at h6
          refine hids.push (by rw [List.length_append, List.length_map, List.length_take]; omega) fun a' c' s' h' => ?_
          rw [hw]
          refine ⟨⟨j + 1, n + 1, c', a', rfl, hlt2, by rw [ids_take (·.id) hx]; simpa using h', up_succ hupF hx ?_⟩, ?_⟩
          · have e6 : c1.kind = C.kind := by simpa using h6
            unfold nameF keyB stateB; unfold keyAt at h1; rw [hb, h1, decide_eq_true (p := 1 ≤ x.state) (by omega), decide_eq_true (p := x.state ≤ 3) (by omega), decide_eq_true (p := 0 ≤ colOf T x.column) (by omega), decide_eq_true (p := 0 ≤ tabOf S x.parent) (by omega), hpar, hcs1]; simp [e6]
          · simp only [Int.toNat_natCast]; omega
        · have hall : T.keys.take j = T.keys := List.take_of_length_le (by omega)
          have hupD : allI (fun i x => nameF T.keys i x && keyB S T i x) T.keys = true := by unfold allI; rw [show T.keys.length = j by omega]; exact hupF
          rw [hall] at hids
          have htabB : tabB S T = true := tabB_iff.2 ⟨by omega, by omega, by omega, by omega, (allI_and hupA).1, (allI_and hupB).1, (allI_and hupD).1, hq, (allI_and hupA).2, (allI_and hupB).2, (allI_and hupD).2⟩
          have hnext : (S.tabs.take (k + 1)).flatMap idsOf = B3 ++ T.keys.map (·.id) := by
            rw [List.take_add_one, hT, List.flatMap_append, ← hB3, ← hB2, ← hB]
            simp [idsOf]
          rw [wrap_succ (k := k) (by omega)]
          refine ⟨⟨k + 1, _, _, _, rfl, hlt, by rw [hnext]; exact hids, ?_, up_succ hup hT (by rw [hnameT, htabB]; (first | done | rfl))⟩, ?_⟩
          · rw [hnext, List.length_append, List.length_map]; omega
          · simp only [Int.toNat_natCast]; omega
  · have hall : S.tabs.take k = S.tabs := List.take_of_length_le (by omega)
    have hupA : allI (fun i T => nameT S.tabs i T && tabB S T) S.tabs = true := by unfold allI; rw [show S.tabs.length = k by omega]; exact hup
    rw [hall] at hids hlen
    have hrun : right S = true ↔ runIds S.last (S.tabs.flatMap idsOf) [] = true :=
      ⟨fun r => (right_iff.1 r).2.2.2.2, fun r => right_iff.2 ⟨hhead, by omega, (allI_and hupA).1, (allI_and hupA).2, r⟩⟩
    generalize S.tabs.flatMap idsOf = l at hids hrun hlen
    have hnl : n = l.length := hids.row.len
    refine ⟨fun z s' => ∃ i : Nat, z = ((S.version, S.last, (ta, tn, tc), ()), ((ia, n, c), ()), ((i : Int), ()), ()) ∧ i ≤ n ∧ s' = s2 ∧ runIds S.last (l.take i) [] = true, fun z _ => n - z.2.2.1.1.toNat, ⟨0, rfl, Nat.zero_le _, rfl, rfl⟩, ?_⟩
    rintro _ s3 ⟨i, rfl, hi, rfl, hr⟩
    simp only [RP_ite, W.br_iff, decide_eq_true_eq, decide_eq_false_iff_not]
    refine ⟨fun hlt => ?_, fun hge => ?_⟩
    · have hlt : i < n := by omega
      obtain ⟨x, hx⟩ : ∃ x, l[i]? = some x := ⟨_, List.getElem?_eq_getElem (by omega)⟩
      have hstep : runIds S.last (l.take (i + 1)) [] = ((decide (1 ≤ x) && decide (x ≤ S.last)) && !decide (x ∈ (l.take i).reverse ++ [])) := by
        have := ids_take (fun y : Int => y) hx
        simp only [List.map_id'] at this
        rw [this, runIds_snoc, hr, Bool.true_and]
      have hno : ¬ (1 ≤ x ∧ x ≤ S.last ∧ x ∉ l.take i) → ¬ right S = true := fun e r => e (by
        have := runIds_pre (k := i + 1) (hrun.1 r)
        rw [hstep] at this
        simp only [Bool.and_eq_true, decide_eq_true_eq] at this
        refine ⟨this.1.1, this.1.2, ?_⟩
        simpa using this.2)
      refine W.join_gen (fun z s' => z = ((S.version, S.last, (ta, tn, tc), ()), ((ia, n, c), ()), ((i : Int), ()), ()) ∧ s' = s3 ∧ 1 ≤ x ∧ x ≤ S.last) ?_ ?_
      rotate_left
      · intro J hJ
        simp only [Int.toNat_natCast]
        refine ⟨by omega, ?_⟩
        refine ids_ld hids hx ?_
        simp only [W.br_iff, decide_eq_true_eq, decide_eq_false_iff_not]
        refine ⟨fun h1 => ret0 hids.md (hno (by omega)), fun h1 => ⟨by omega, ?_⟩⟩
        refine ids_ld hids hx ?_
        simp only [W.br_iff, decide_eq_true_eq, decide_eq_false_iff_not]
        exact ⟨fun h1 => ret0 hids.md (hno (by omega)), fun h2 => hJ _ _ ⟨rfl, rfl, by omega, by omega⟩⟩
      rintro _ s4 ⟨rfl, rfl, hx1, hx2⟩
      refine ⟨fun z s' => ∃ m : Nat, z = ((S.version, S.last, (ta, tn, tc), ()), ((ia, n, c), ()), ((i : Int), ()), ((m : Int), ()), ()) ∧ m ≤ i ∧ s' = s4 ∧ x ∉ l.take m, fun z _ => i - z.2.2.2.1.1.toNat, ⟨0, rfl, Nat.zero_le _, rfl, by simp⟩, ?_⟩
      rintro _ s5 ⟨m, rfl, hm, rfl, hnot⟩
      simp only [RP_ite, W.br_iff, decide_eq_true_eq, decide_eq_false_iff_not]
      refine ⟨fun hlt2 => ?_, fun hge => ?_⟩
      · have hlt2 : m < i := by omega
        obtain ⟨y, hy⟩ : ∃ y, l[m]? = some y := ⟨_, List.getElem?_eq_getElem (by omega)⟩
        simp only [Int.toNat_natCast]
        refine ⟨by omega, ?_⟩
        refine ids_ld hids hy ?_
        refine ⟨by omega, ?_⟩
        refine ids_ld hids hx ?_
        simp only [W.br_iff]
        refine ⟨fun h1 => ret0 hids.md (hno fun q => q.2.2 ?_), fun h1 => ?_⟩
        · have h1 : y = x := by simpa using h1
          subst h1
          exact List.mem_iff_getElem?.2 ⟨m, by rw [List.getElem?_take_of_lt hlt2]; exact hy⟩
        · have h1 : y ≠ x := by simpa using h1
          rw [wrap_succ (k := m) (by omega)]
          refine ⟨⟨m + 1, rfl, hlt2, trivial, ?_⟩, ?_⟩
          · rw [List.take_add_one, hy]
            simp only [Option.toList_some, List.mem_append, List.mem_singleton, not_or]
            exact ⟨hnot, fun e => h1 e.symm⟩
          · simp only [Int.toNat_natCast]; omega
      · have hmi : m = i := by omega
        subst hmi
        rw [wrap_succ (k := m) (by omega)]
        refine ⟨⟨m + 1, rfl, hlt, trivial, ?_⟩, ?_⟩
        · rw [hstep, decide_eq_true (p := 1 ≤ x) hx1, decide_eq_true (p := x ≤ S.last) hx2]
          simp [hnot]
        · simp only [Int.toNat_natCast]; omega
    · have hall : l.take i = l := List.take_of_length_le (by omega)
      rw [hall] at hr
      refine ⟨?_, hids.md⟩
      rw [← hR, hrun.2 hr]
end Go.Proofs.Ythepfbcgpbkbdaa
end
