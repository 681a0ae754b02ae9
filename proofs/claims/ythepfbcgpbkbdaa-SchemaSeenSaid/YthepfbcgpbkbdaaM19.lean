/-
  Schemas: what a law is handed.
  Conditions: none; it proves no statement by itself.
-/
import Derived.Test.YthepfbcgpbkbdaaM18
import Derived.Test.YthepfbcgpbkbdaaFwO
set_option linter.unusedVariables false
set_option linter.unusedSimpArgs false
set_option maxHeartbeats 1000000
set_option maxRecDepth 100000
namespace Go.Proofs.Ythepfbcgpbkbdaa
open Fw Go
attribute [-simp] Fw.W.ld_iff Fw.W.st_iff

def rdVal : Rd Val := (Rd.pair (Rd.int .i64) (Rd.pair (Rd.int .i64) (Rd.pair Rd.str Rd.unit))).map fun x => ⟨x.1, x.2.1, x.2.2.1⟩
def rdCol : Rd Col := (Rd.pair (Rd.int .i64) (Rd.pair Rd.str (Rd.pair (Rd.int .i64) (Rd.pair (Rd.int .i64) (Rd.pair rdVal Rd.unit))))).map fun x => ⟨x.1, x.2.1, x.2.2.1, x.2.2.2.1, x.2.2.2.2.1⟩
def rdIdx : Rd Idx := (Rd.pair (Rd.int .i64) (Rd.pair Rd.str (Rd.pair (Rd.int .i64) (Rd.pair Rd.bool (Rd.pair (Rd.int .i64) Rd.unit))))).map fun x => ⟨x.1, x.2.1, x.2.2.1, x.2.2.2.1, x.2.2.2.2.1⟩
def rdFor : Rd For := (Rd.pair (Rd.int .i64) (Rd.pair Rd.str (Rd.pair (Rd.int .i64) (Rd.pair (Rd.int .i64) (Rd.pair (Rd.int .i64) Rd.unit))))).map fun x => ⟨x.1, x.2.1, x.2.2.1, x.2.2.2.1, x.2.2.2.2.1⟩
def rdTab : Rd Tab := (Rd.pair (Rd.int .i64) (Rd.pair Rd.str (Rd.pair (Rd.sl rdCol 72) (Rd.pair (Rd.sl rdIdx 48) (Rd.pair (Rd.sl rdFor 48) Rd.unit))))).map fun x => ⟨x.1, x.2.1, x.2.2.1, x.2.2.2.1, x.2.2.2.2.1⟩
def rdSch : Rd Sch := (Rd.pair (Rd.int .i64) (Rd.pair (Rd.int .i64) (Rd.pair (Rd.sl rdTab 96) Rd.unit))).map fun x => ⟨x.1, x.2.1, x.2.2.1⟩
def rdDdlF : Rd (Int × ByteArray × ByteArray × ByteArray × ByteArray × Bool × Int × Val × List Col × Unit) :=
  Rd.pair (Rd.int .i64) (Rd.pair Rd.str (Rd.pair Rd.str (Rd.pair Rd.str (Rd.pair Rd.str (Rd.pair Rd.bool (Rd.pair (Rd.int .i64) (Rd.pair rdVal (Rd.pair (Rd.sl rdCol 72) Rd.unit))))))))
def rdDdl : Rd Ddl := rdDdlF.map fun x => ⟨x.1, x.2.1, x.2.2.1, x.2.2.2.1, x.2.2.2.2.1, x.2.2.2.2.2.1, x.2.2.2.2.2.2.1, x.2.2.2.2.2.2.2.1, x.2.2.2.2.2.2.2.2.1⟩
theorem op3 : Opens Try.prog 3 (Rd.int .i64) := opens_int Try.underlying3 (by kernel_rfl)
theorem op9 : Opens Try.prog 9 Rd.str := opens_str Try.underlying9 (by kernel_rfl)
theorem op4 : Opens Try.prog 4 Rd.bool := opens_bool Try.underlying4 (by kernel_rfl)
theorem op26 : Opens Try.prog 26 rdVal := opens_map _ (opens_struct (.cons rfl op3 (.cons rfl (opens_int Try.underlying2 (by kernel_rfl)) (.cons rfl op9 (.nil _)))) Try.underlying26 (by kernel_rfl))
theorem op44 : Opens Try.prog 44 rdCol := opens_map _ (opens_struct (.cons rfl op3 (.cons rfl op9 (.cons rfl op3 (.cons rfl op3 (.cons rfl op26 (.nil _)))))) Try.underlying44 (by kernel_rfl))
theorem op106 : Opens Try.prog 106 rdIdx := opens_map _ (opens_struct (.cons rfl op3 (.cons rfl op9 (.cons rfl op3 (.cons rfl op4 (.cons rfl op3 (.nil _)))))) Try.underlying106 (by kernel_rfl))
theorem op109 : Opens Try.prog 109 rdFor := opens_map _ (opens_struct (.cons rfl op3 (.cons rfl op9 (.cons rfl op3 (.cons rfl op3 (.cons rfl op3 (.nil _)))))) Try.underlying109 (by kernel_rfl))
theorem op27 : Opens Try.prog 27 (Rd.sl rdCol 72) := opens_sl op44 Try.underlying27 (by kernel_rfl) (by kernel_rfl)
theorem op39 : Opens Try.prog 39 (Rd.sl rdIdx 48) := opens_sl op106 Try.underlying39 (by kernel_rfl) (by kernel_rfl)
theorem op40 : Opens Try.prog 40 (Rd.sl rdFor 48) := opens_sl op109 Try.underlying40 (by kernel_rfl) (by kernel_rfl)
theorem op42 : Opens Try.prog 42 rdTab := opens_map _ (opens_struct (.cons rfl op3 (.cons rfl op9 (.cons rfl op27 (.cons rfl op39 (.cons rfl op40 (.nil _)))))) Try.underlying42 (by kernel_rfl))
theorem op22 : Opens Try.prog 22 (Rd.sl rdTab 96) := opens_sl op42 Try.underlying22 (by kernel_rfl) (by kernel_rfl)
theorem op24 : Opens Try.prog 24 rdSch := opens_map _ (opens_struct (.cons rfl op3 (.cons rfl op3 (.cons rfl op22 (.nil _)))) Try.underlying24 (by kernel_rfl))
theorem op29 : Opens Try.prog 29 rdDdl := opens_map _ (opens_struct (.cons rfl op3 (.cons rfl op9 (.cons rfl op9 (.cons rfl op9 (.cons rfl op9 (.cons rfl op4 (.cons rfl op3 (.cons rfl op26 (.cons rfl op27 (.nil _)))))))))) Try.underlying29 (by kernel_rfl))

theorem rsz : reachBytes ≤ 281474976710656 := by decide
theorem rdVal_is {s : PH} {cs : List Value} {v : Val} (h : rdVal.is s cs v) : cs = [.int .i64 v.kind, .int .i64 v.n, .string v.s] ∧ v.s.size ≤ 281474976710656 := by
  obtain ⟨x, rfl, c1, c2, rfl, ⟨rfl, _⟩, d1, d2, rfl, ⟨rfl, _⟩, e1, e2, rfl, ⟨rfl, h3⟩, rfl⟩ := h
  exact ⟨rfl, Nat.le_trans h3 rsz⟩
theorem rdCol_is {s : PH} {cs : List Value} {c : Col} (h : rdCol.is s cs c) : cs = colE.f c ∧ c.Sm := by
  obtain ⟨x, rfl, c1, c2, rfl, ⟨rfl, _⟩, d1, d2, rfl, ⟨rfl, h2⟩, e1, e2, rfl, ⟨rfl, _⟩, f1, f2, rfl, ⟨rfl, _⟩, g1, g2, rfl, h5, rfl⟩ := h
  obtain ⟨rfl, h6⟩ := rdVal_is h5
  exact ⟨rfl, Nat.le_trans h2 rsz, h6⟩
theorem rdIdx_is {s : PH} {cs : List Value} {c : Idx} (h : rdIdx.is s cs c) : cs = idxE.f c ∧ c.name.size ≤ 281474976710656 := by
  obtain ⟨x, rfl, c1, c2, rfl, ⟨rfl, _⟩, d1, d2, rfl, ⟨rfl, h2⟩, e1, e2, rfl, ⟨rfl, _⟩, f1, f2, rfl, rfl, g1, g2, rfl, ⟨rfl, _⟩, rfl⟩ := h
  exact ⟨rfl, Nat.le_trans h2 rsz⟩
theorem rdFor_is {s : PH} {cs : List Value} {c : For} (h : rdFor.is s cs c) : cs = forE.f c ∧ c.name.size ≤ 281474976710656 := by
  obtain ⟨x, rfl, c1, c2, rfl, ⟨rfl, _⟩, d1, d2, rfl, ⟨rfl, h2⟩, e1, e2, rfl, ⟨rfl, _⟩, f1, f2, rfl, ⟨rfl, _⟩, g1, g2, rfl, ⟨rfl, _⟩, rfl⟩ := h
  exact ⟨rfl, Nat.le_trans h2 rsz⟩
/-- elements that can be read; they may be many -/
structure SlB {α : Type} (E : Enc α) (s : PH) (t : Tri) (xs : List α) : Prop where
  el : elems (Rd.enc E) s t.1 t.2.1 xs
  le : t.2.1 ≤ t.2.2
  big : xs.length ≤ 4398046511104
theorem SlB.few {α : Type} {E : Enc α} {s : PH} {t : Tri} {xs : List α} (h : SlB E s t xs) (hl : xs.length ≤ 4294967296) : Sl E s t xs := ⟨h.el, h.le, hl⟩
theorem sl_open {α : Type} {R : Rd α} {E : Enc α} {P : α → Prop} {bytes : Nat} {s : PH} {cs : List Value} {xs : List α} (hb : 48 ≤ bytes) (hz : R.sz = E.sz) (hi : ∀ cs x, R.is s cs x → cs = E.f x ∧ P x) (h : (Rd.sl R bytes).is s cs xs) :
    ∃ t : Tri, cs = [t.v] ∧ SlB E s t xs ∧ ∀ x ∈ xs, P x := by
  obtain ⟨a, n, c, rfl, h1, h2, h3, h4⟩ := h
  refine ⟨(a, n, c), rfl, ⟨h4.imp hz fun cs x hx => (hi cs x hx).1, h1, ?_⟩, fun x hx => ?_⟩
  · have hr : reachBytes = 140737488351232 := rfl
    have : c * 48 ≤ c * bytes := Nat.mul_le_mul_left _ hb
    have := h4.1
    omega
  · obtain ⟨i, hi2⟩ := List.mem_iff_getElem?.1 hx
    obtain ⟨ad, cs', _, h6, _⟩ := h4.2 i x hi2
    exact (hi cs' x h6).2
structure TabB (s : PH) (p : TabP) : Prop where
  c : SlB colE s p.c p.T.cols
  x : SlB idxE s p.x p.T.idxs
  k : SlB forE s p.k p.T.keys
structure SchB (s : PH) (t : Tri) (S : Sch) (ps : List TabP) : Prop where
  el : SlB tabE s t ps
  eq : S.tabs = ps.map (·.T)
  all : ∀ p ∈ ps, TabB s p
theorem rdTab_is {s : PH} {cs : List Value} {T : Tab} (h : rdTab.is s cs T) : ∃ p : TabP, p.T = T ∧ cs = tabE.f p ∧ TabB s p ∧ T.Sm := by
  obtain ⟨x, rfl, c1, c2, rfl, ⟨rfl, _⟩, d1, d2, rfl, ⟨rfl, h2⟩, e1, e2, rfl, h3, f1, f2, rfl, h4, g1, g2, rfl, h5, rfl⟩ := h
  obtain ⟨t1, rfl, k1, n1⟩ := sl_open (by omega) rfl (fun cs x hx => rdCol_is hx) h3
  obtain ⟨t2, rfl, k2, n2⟩ := sl_open (by omega) rfl (fun cs x hx => rdIdx_is hx) h4
  obtain ⟨t3, rfl, k3, n3⟩ := sl_open (by omega) rfl (fun cs x hx => rdFor_is hx) h5
  exact ⟨⟨_, t1, t2, t3⟩, rfl, rfl, ⟨k1, k2, k3⟩, ⟨Nat.le_trans h2 rsz, n1, n2, n3⟩⟩
theorem tabs_choose : ∀ (l : List Tab) (Q : Nat → TabP → Prop), (∀ i T, l[i]? = some T → ∃ p : TabP, p.T = T ∧ Q i p) → ∃ ps : List TabP, ps.map (·.T) = l ∧ ∀ i p, ps[i]? = some p → Q i p
  | [], Q, _ => ⟨[], rfl, fun i p h => by simp at h⟩
  | T :: l, Q, h => by
    obtain ⟨p, hp, hq⟩ := h 0 T rfl
    obtain ⟨ps, he, hr⟩ := tabs_choose l (fun i => Q (i + 1)) fun i T' hT => h (i + 1) T' hT
    refine ⟨p :: ps, by simp [hp, he], fun i q hi => ?_⟩
    cases i with
    | zero => simp at hi; subst hi; exact hq
    | succ i => exact hr i q hi
theorem rdSch_is {s : PH} {cs : List Value} {S : Sch} (h : rdSch.is s cs S) : ∃ t ps, cs = [.int .i64 S.version, .int .i64 S.last, .slice t.1 t.2.1 t.2.2] ∧ SchB s t S ps ∧ ∀ T ∈ S.tabs, T.Sm := by
  obtain ⟨x, rfl, c1, c2, rfl, ⟨rfl, _⟩, d1, d2, rfl, ⟨rfl, _⟩, e1, e2, rfl, ⟨a, n, c, rfl, h1, h2, h3, h4⟩, rfl⟩ := h
  obtain ⟨ps, he, hq⟩ := tabs_choose x.2.2.1 (fun i p => (∃ ad, a = some ad ∧ s.has (ad.add (i * 5)) (tabE.f p)) ∧ TabB s p ∧ p.T.Sm) fun i T hT => by
    obtain ⟨ad, cs, k1, k2, k3⟩ := h4.2 i T hT
    obtain ⟨p, rfl, rfl, k4, k5⟩ := rdTab_is k2
    exact ⟨p, rfl, ⟨ad, k1, k3⟩, k4, k5⟩
  have hlen : ps.length = n := by rw [h4.1, ← he, List.length_map]
  refine ⟨(a, n, c), ps, rfl, ⟨⟨⟨hlen.symm, fun i p hp => ?_⟩, h1, ?_⟩, he.symm, fun p hp => ?_⟩, fun T hT => ?_⟩
  · obtain ⟨⟨ad, k1, k2⟩, _⟩ := hq i p hp
    exact ⟨ad, _, k1, rfl, k2⟩
  · have hr : reachBytes = 140737488351232 := rfl
    omega
  · obtain ⟨i, hi⟩ := List.mem_iff_getElem?.1 hp
    exact (hq i p hi).2.1
  · rw [show (Sch.mk x.1 x.2.1 x.2.2.1).tabs = ps.map (·.T) from he.symm] at hT
    obtain ⟨p, hp, rfl⟩ := List.mem_map.1 hT
    obtain ⟨i, hi⟩ := List.mem_iff_getElem?.1 hp
    exact (hq i p hi).2.2
theorem rdDdl_is {s : PH} {cs : List Value} {D : Ddl} (h : rdDdl.is s cs D) : ∃ t : Tri, cs = [.int .i64 D.kind, .string D.table, .string D.name, .string D.column, .string D.parent, .bool D.unique, .int .i64 D.type, .int .i64 D.dflt.kind, .int .i64 D.dflt.n, .string D.dflt.s, .slice t.1 t.2.1 t.2.2] ∧ SlB colE s t D.cols := by
  obtain ⟨x, rfl, c1, c2, rfl, ⟨rfl, _⟩, d1, d2, rfl, ⟨rfl, _⟩, e1, e2, rfl, ⟨rfl, _⟩, f1, f2, rfl, ⟨rfl, _⟩, g1, g2, rfl, ⟨rfl, _⟩, i1, i2, rfl, rfl, j1, j2, rfl, ⟨rfl, _⟩, k1, k2, rfl, hv, l1, l2, rfl, hc, rfl⟩ := h
  obtain ⟨rfl, _⟩ := rdVal_is hv
  obtain ⟨t, rfl, k, _⟩ := sl_open (by omega) rfl (fun cs x hx => rdCol_is hx) hc
  exact ⟨t, rfl, k⟩

/-! ## what is great -/
def wsum (l : List Tab) : Nat := (l.map fun T => T.cols.length + T.idxs.length + T.keys.length).sum
theorem wsum_take {l : List Tab} {k : Nat} {T : Tab} (h : l[k]? = some T) : wsum (l.take (k + 1)) = wsum (l.take k) + (T.cols.length + T.idxs.length + T.keys.length) := by
  unfold wsum; rw [List.take_add_one, h]; simp
theorem c_great {s : PH} {t : Tri} {S : Sch} {ps : List TabP} (h : SchB s t S ps) (D : Ddl) {u : Tri} (hu : SlB colE s u D.cols) :
    DCalls Try.prog 12 #[schV S t, ddlV D u] s fun y s' => (∃ b, y = .bool b ∧ (b = false → S.tabs.length + D.cols.length + wsum S.tabs ≤ 300)) ∧ s' = s := by
  obtain ⟨ua, un, uc⟩ := u
  obtain ⟨ta, tn, tc⟩ := t
  refine ok_great S.version S.last ta tn tc D.kind D.table D.name D.column D.parent D.unique D.type D.dflt.kind D.dflt.n D.dflt.s ua un uc _ s ?_
  unfold vc_great
  have htn : tn = ps.length := h.el.el.1
  have hpl : S.tabs.length = ps.length := by rw [h.eq]; simp
  have hun : un = D.cols.length := hu.el.1
  have hb1 := h.el.big
  have hb2 := hu.big
  simp only [RP_join, RP_ite, RP_call, RP_callQ, RP_ret, RP_nw, RP_app, RP_st, RP_ld, RP_unSome, RP_guard, RP_loop, RP_still, RP_clr, RP_look, RP_mset, W.unSome_some]
  have hw0 : IntKind.i64.wrap ((tn : Int) + (un : Int)) = ((tn + un : Nat) : Int) := by rw [wrap_in (by omega) (by omega)]; omega
  rw [hw0]
  refine ⟨fun z s' => ∃ k : Nat, z = ((((tn + un + wsum (S.tabs.take k) : Nat) : Int), ()), ((ta, tn, tc), ()), ((tn : Int), ()), ((k : Int), ()), ()) ∧ k ≤ tn ∧ s' = s ∧ tn + un + wsum (S.tabs.take k) ≤ 17592186044416, fun z _ => tn - z.2.2.2.1.1.toNat, ⟨0, by simp [wsum], Nat.zero_le _, rfl, by simp [wsum]; omega⟩, ?_⟩
  rintro _ s0 ⟨k, rfl, hk, rfl, hN⟩
  simp only [W.br_iff, decide_eq_true_eq, decide_eq_false_iff_not]
  refine ⟨fun hlt => ?_, fun hge => ?_⟩
  · have hlt : k < tn := by omega
    obtain ⟨p, hp⟩ : ∃ p, ps[k]? = some p := ⟨_, List.getElem?_eq_getElem (by omega)⟩
    have hT : S.tabs[k]? = some p.T := by rw [h.eq, List.getElem?_map, hp]; rfl
    obtain ⟨ad, had, hh⟩ := h.el.el.at_enc hp
    dsimp only at had
    subst had
    refine ⟨by omega, ?_⟩
    simp only [W.unSome_some, Int.toNat_natCast]
    refine ld_has_z hh (y := (p.T.id, p.T.name, p.c, p.x, p.k, ())) rfl ?_
    have hP := h.all p (get_mem hp)
    have l1 : p.c.2.1 = p.T.cols.length := hP.c.el.1
    have l2 : p.x.2.1 = p.T.idxs.length := hP.x.el.1
    have l3 : p.k.2.1 = p.T.keys.length := hP.k.el.1
    have g1 := hP.c.big
    have g2 := hP.x.big
    have g3 := hP.k.big
    have hs := wsum_take hT
    have hw : IntKind.i64.wrap (((tn + un + wsum (S.tabs.take k) : Nat) : Int) + IntKind.i64.wrap (IntKind.i64.wrap (((p.c.2.1 : Nat) : Int) + ((p.x.2.1 : Nat) : Int)) + ((p.k.2.1 : Nat) : Int))) = ((tn + un + wsum (S.tabs.take (k + 1)) : Nat) : Int) := by
      rw [wrap_in (n := ((p.c.2.1 : Nat) : Int) + ((p.x.2.1 : Nat) : Int)) (by omega) (by omega), wrap_in (n := ((p.c.2.1 : Nat) : Int) + ((p.x.2.1 : Nat) : Int) + ((p.k.2.1 : Nat) : Int)) (by omega) (by omega), wrap_in (by omega) (by omega), hs]
      omega
    dsimp only
    rw [hw]
    simp only [W.br_iff, decide_eq_true_eq, decide_eq_false_iff_not]
    refine ⟨fun hgt => ⟨⟨true, rfl, fun e => by cases e⟩, by trivial⟩, fun hle => ?_⟩
    rw [wrap_succ (k := k) (by omega)]
    refine ⟨⟨k + 1, rfl, hlt, by trivial, by omega⟩, by simp only [Int.toNat_natCast]; omega⟩
  · have hall : S.tabs.take k = S.tabs := List.take_of_length_le (by omega)
    rw [hall]
    refine ⟨⟨_, rfl, fun e => ?_⟩, by trivial⟩
    have e := of_decide_eq_false e
    omega
theorem SchB.is {s : PH} {t : Tri} {S : Sch} {ps : List TabP} (h : SchB s t S ps) (hl : S.tabs.length + wsum S.tabs ≤ 300) : SchIs s t S ps := by
  have key : ∀ (l : List Tab), ∀ T ∈ l, T.cols.length + T.idxs.length + T.keys.length ≤ wsum l := by
    intro l
    induction l with
    | nil => simp
    | cons a l ih =>
      intro T hT
      have e : wsum (a :: l) = (a.cols.length + a.idxs.length + a.keys.length) + wsum l := by simp [wsum]
      rcases List.mem_cons.1 hT with rfl | hT
      · omega
      · have := ih T hT; omega
  have hpl : S.tabs.length = ps.length := by rw [h.eq]; simp
  refine ⟨h.el.few (by omega), h.eq, fun p hp => ?_⟩
  have hT : p.T ∈ S.tabs := by rw [h.eq]; exact List.mem_map_of_mem hp
  have := key S.tabs p.T hT
  obtain ⟨a, b, c⟩ := h.all p hp
  exact ⟨a.few (by omega), b.few (by omega), c.few (by omega)⟩
theorem sm_great {S : Sch} (h : ∀ T ∈ S.tabs, T.Sm) (hl : S.tabs.length + wsum S.tabs ≤ 300) : S.Sm := by
  refine ⟨h, ?_⟩
  have key : ∀ (l : List Tab), (l.map Tab.cost).sum = l.length + wsum l := by
    intro l
    induction l with
    | nil => simp [wsum]
    | cons a l ih =>
      have e : wsum (a :: l) = (a.cols.length + a.idxs.length + a.keys.length) + wsum l := by simp [wsum]
      have ea : a.cost = 1 + a.cols.length + a.idxs.length + a.keys.length := rfl
      simp only [List.map_cons, List.sum_cons, List.length_cons, ih, e, ea]
      omega
  unfold Sch.cost
  rw [key]; omega

/-! ## it is awake -/
abbrev bs (l : List UInt8) : ByteArray := ⟨l.toArray⟩
abbrev emp : ByteArray := ⟨#[]⟩
def exD : Ddl := ⟨1, bs [116], emp, emp, emp, false, 0, ⟨0, 0, emp⟩, [⟨0, bs [97], 1, 0, ⟨0, 0, emp⟩⟩, ⟨0, bs [98], 2, 0, ⟨0, 0, emp⟩⟩]⟩
def exS1 : Sch := ⟨1, 3, [⟨1, bs [116], [⟨2, bs [97], 1, 3, ⟨0, 0, emp⟩⟩, ⟨3, bs [98], 2, 3, ⟨0, 0, emp⟩⟩], [], []⟩]⟩
def exD2 : Ddl := ⟨2, bs [116], bs [105], bs [98], emp, false, 0, ⟨0, 0, emp⟩, []⟩
def exS2 : Sch := ⟨2, 4, [⟨1, bs [116], [⟨2, bs [97], 1, 3, ⟨0, 0, emp⟩⟩, ⟨3, bs [98], 2, 3, ⟨0, 0, emp⟩⟩], [⟨4, bs [105], 3, false, 1⟩], []⟩]⟩
def exD3 : Ddl := ⟨5, bs [116], emp, bs [98], emp, false, 0, ⟨0, 0, emp⟩, []⟩
theorem ex1 : noSch.turn exD 3 = (exS1, 0) := by kernel_rfl
theorem ex2 : exS1.turn exD2 1 = (exS2, 0) := by kernel_rfl
theorem ex3 : exS2.turn exD3 2 = (noSch, 155) := by kernel_rfl
theorem c_Example (s : PH) : DCalls Try.prog 37 #[] s fun y s' => ∃ u : Tri, y = ddlV exD u ∧ Sl colE s' u exD.cols ∧ Fw.Mod [] s s' := by
  refine ok_Example _ s ?_
  unfold vc_Example
  simp only [RP_join, RP_ite, RP_call, RP_callQ, RP_ret, RP_nw, RP_app, RP_st, RP_ld, RP_unSome, RP_guard, RP_loop, RP_still, RP_clr, RP_look, RP_mset, W.unSome_some]
  refine W.nw_of fun r s1 hr m1 k1 => ?_
  refine ⟨(some ⟨r, 0, none⟩, 2, 2), rfl, ⟨⟨rfl, fun i x hx => ?_⟩, Nat.le_refl _, by decide⟩, m1⟩
  refine ⟨⟨r, 0, none⟩, _, rfl, rfl, ?_⟩
  have hb := has_block k1
  have hz : (Rd.enc colE).sz = 7 := rfl
  rw [hz]
  match i with
  | 0 =>
    simp [exD] at hx; subst hx
    have := PH.has.sub (l1 := []) (l2 := colE.f ⟨0, bs [97], 1, 0, ⟨0, 0, emp⟩⟩) (l3 := colE.f ⟨0, bs [98], 2, 0, ⟨0, 0, emp⟩⟩) hb
    exact this
  | 1 =>
    simp [exD] at hx; subst hx
    have := PH.has.sub (l1 := colE.f ⟨0, bs [97], 1, 0, ⟨0, 0, emp⟩⟩) (l2 := colE.f ⟨0, bs [98], 2, 0, ⟨0, 0, emp⟩⟩) (l3 := []) hb
    exact this
  | i + 2 => simp [exD] at hx
theorem gives_at {s : PH} {S' : Sch} {e : Int} {y : Value} {s' : PH} (h : Gives s S' e y s') (hs : S'.Sm) : ∃ t ps, y = .tuple #[schV S' t, .int .i64 e] ∧ SchIs s' t S' ps ∧ Has s' t ps ∧ Fw.Mod [] s s' ∧ ∀ g ∈ Lof t ps, s g = none := by
  obtain ⟨t, ps, rfl, hH, he, m, hf⟩ := h
  exact ⟨t, ps, rfl, hH.sm he hs, hH, m, hf⟩
theorem c_awake (s : PH) : DCalls Try.prog 11 #[] s fun y s' => y = .bool true ∧ s' = s := by
  refine DCalls.quiet (ok_awake _ s ?_)
  unfold vc_awake
  simp only [RP_join, RP_ite, RP_call, RP_callQ, RP_ret, RP_nw, RP_app, RP_st, RP_ld, RP_unSome, RP_guard, RP_loop, RP_still, RP_clr, RP_look, RP_mset, W.unSome_some]
  refine W.call_of (c_Example s) ?_
  rintro _ s1 ⟨u, rfl, hu, m1⟩
  refine ⟨((exD.kind, exD.table, exD.name, exD.column, exD.parent, exD.unique, exD.type, exD.dflt.kind, exD.dflt.n, exD.dflt.s, u, ()), ()), rfl, ?_⟩
  have hno : SchIs s1 noTri noSch [] := ⟨Sl.nil, rfl, by simp⟩
  have hc1 := c_Turn hno exD hu (by decide) 3
  have hz1 := turn_sm noSch exD 3
  rw [ex1] at hc1 hz1
  refine W.call_of hc1 ?_
  intro y s2 hg
  obtain ⟨t2, ps2, rfl, hS2, _, m2, _⟩ := gives_at hg hz1
  refine ⟨((exS1.version, exS1.last, t2, ()), (0, ()), ()), rfl, ?_⟩
  have hc2 := c_Turn hS2 exD2 (u := noTri) Sl.nil (by decide) 1
  have hz2 := turn_sm exS1 exD2 1
  rw [ex2] at hc2 hz2
  refine W.call_of hc2 ?_
  intro y s3 hg
  obtain ⟨t3, ps3, rfl, hS3, hH3, m3, _⟩ := gives_at hg hz2
  refine ⟨((exS2.version, exS2.last, t3, ()), (0, ()), ()), rfl, ?_⟩
  have hc3 := c_Turn hS3 exD3 (u := noTri) Sl.nil (by decide) 2
  have hz3 := turn_sm exS2 exD3 2
  rw [ex3] at hc3 hz3
  refine W.call_of hc3 ?_
  intro y s4 hg
  obtain ⟨t4, ps4, rfl, hS4, _, m4, _⟩ := gives_at hg hz3
  refine ⟨((noSch.version, noSch.last, t4, ()), (155, ()), ()), rfl, ?_⟩
  have hm : Fw.Mod [] s s4 := ((m1.trans m2).trans m3).trans m4
  have hS34 := hS3.mono m4.le
  have hlen : t3.2.1 = ps3.length := hS34.el.el.1
  have hpl : exS2.tabs.length = ps3.length := by rw [hS34.eq]; simp
  obtain ⟨p, hp⟩ : ∃ p, ps3[0]? = some p := ⟨_, List.getElem?_eq_getElem (by rw [← hpl]; decide)⟩
  have hT : exS2.tabs[0]? = some p.T := by rw [hS34.eq, List.getElem?_map, hp]; rfl
  obtain ⟨ad, had, hh⟩ := hS34.el.el.at_enc hp
  have hx : p.x.2.1 = p.T.idxs.length := (hS34.all p (get_mem hp)).x.len
  have hTv : p.T.idxs.length = 1 := by
    have : p.T = (exS2.tabs[0]?).getD ⟨0, emp, [], [], []⟩ := by rw [hT]; rfl
    rw [this]; rfl
  refine (W.br_iff _ _ _ _).2 ⟨fun _ => ?_, fun e => by cases e⟩
  refine (W.br_iff _ _ _ _).2 ⟨fun _ => ?_, fun e => by cases e⟩
  refine (W.br_iff _ _ _ _).2 ⟨fun _ => ?_, fun e => by cases e⟩
  refine (W.br_iff _ _ _ _).2 ⟨fun _ => ?_, fun e => by cases e⟩
  refine (W.br_iff _ _ _ _).2 ⟨fun _ => ?_, fun e => by cases e⟩
  have hn1 : t3.2.1 = 1 := by rw [hlen, ← hpl]; rfl
  refine ⟨by show (0 : Int) ≤ 0 ∧ (0 : Int) < (t3.2.1 : Nat); omega, ?_⟩
  dsimp only
  rw [had]
  simp only [W.unSome_some]
  rw [Nat.zero_mul] at hh
  refine ld_has (j := 3) hh (cs := [.slice]) (y := (p.x, ())) rfl ?_
  refine (W.br_iff _ _ _ _).2 ⟨fun _ => ?_, fun e => ?_⟩
  · refine (W.br_iff _ _ _ _).2 ⟨fun _ => ⟨rfl, hm⟩, fun e => by cases e⟩
  · have e : (((p.x.2.1 : Nat) : Int) == 1) = false := e
    rw [hx, hTv] at e
    cases e
theorem c_Table {s : PH} {t : Tri} {S : Sch} {ps : List TabP} (h : SchIs s t S ps) (name : ByteArray) : DCalls Try.prog 17 #[schV S t, .string name] s fun y s' =>
    (tabAt S name < 0 ∧ y = .tuple #[tabV ⟨0, emp, [], [], []⟩ noTri noTri noTri, .bool false] ∧ s' = s) ∨
    (∃ (i : Nat) (q : TabP), tabAt S name = (i : Int) ∧ S.tabs[i]? = some q.T ∧ y = .tuple #[tabV q.T q.c q.x q.k, .bool true] ∧ Own s' q ∧ Fw.Mod [] s s') := by
  obtain ⟨ta, tn, tc⟩ := t
  refine ok_Table S.version S.last ta tn tc name _ s ?_
  unfold vc_Table
  simp only [RP_join, RP_ite, RP_call, RP_callQ, RP_ret, RP_nw, RP_app, RP_st, RP_ld, RP_unSome, RP_guard, RP_loop, RP_still, RP_clr, RP_look, RP_mset, W.unSome_some]
  refine callq ((tabAt S name, ()), ()) (c_findT' (t := (ta, tn, tc)) h name) rfl ?_
  simp only [W.br_iff, decide_eq_true_eq, decide_eq_false_iff_not]
  refine ⟨fun h1 => .inl ⟨h1, rfl, rfl⟩, fun h1 => ?_⟩
  obtain ⟨i, T, hi, hT, _⟩ := (seek_cases (fun T : Tab => decide (T.name = name)) S.tabs).resolve_left (fun e => by have := e.1; unfold tabAt at h1; omega)
  have hi : tabAt S name = (i : Int) := hi
  obtain ⟨p, hp, rfl⟩ : ∃ p, ps[i]? = some p ∧ p.T = T := by
    rw [h.eq, List.getElem?_map] at hT
    cases hq : ps[i]? with
    | none => rw [hq] at hT; cases hT
    | some pp => rw [hq] at hT; exact ⟨pp, rfl, Option.some.inj hT⟩
  have htn : tn = ps.length := h.el.len
  have hil := (List.getElem?_eq_some_iff.1 hp).1
  obtain ⟨ad, had, hh⟩ := h.el.el.at_enc hp
  dsimp only at had
  subst had
  rw [hi]
  refine ⟨by omega, ?_⟩
  simp only [W.unSome_some, Int.toNat_natCast]
  refine ld_has_z hh (y := (p.T.id, p.T.name, p.c, p.x, p.k, ())) rfl ?_
  refine W.call_of (c_copied (h.all p (get_mem hp))) ?_
  rintro _ s1 ⟨q, rfl, hqT, hqo, m1, _, _⟩
  refine ⟨((q.T.id, q.T.name, q.c, q.x, q.k, ()), ()), rfl, .inr ⟨i, q, rfl, by rw [hqT]; exact hT, rfl, hqo, m1⟩⟩
end Go.Proofs.Ythepfbcgpbkbdaa
