/- PM: what the value machine's states say of the model's memory, and how that is kept. -/
import Derived.Test.YtibkgmpfncacpaaPMDefs
import Derived.Laws.AppendOwn
import Derived.Laws.OwnMore
import Derived.Laws.Slices
import Derived.Laws.Entries
import Derived.Laws.Cells
namespace Go.PM
open Go
def Value.isAgg : Value → Bool
 | .agg _ => true
 | _ => false
mutual
def LenOk (n c : Nat) : Prop := n ≤ c ∧ n ≤ lenMax
def Rep (fix : Nat → Nat → Prop) (W : World) : (t : Ty) → t.D → List Value → Prop
 | .unit, _, cs => cs = []
 | .int k, x, cs => cs = [.int k x]
 | .bool, x, cs => cs = [.bool x]
 | .str, x, cs => cs = [.string x]
 | .sl _ r, xs, cs => ∃ A c, cs = [.slice A xs.length c] ∧ LenOk xs.length c ∧ (xs ≠ [] → ∃ ad, A = some ad ∧ ad.spot = none ∧
   ∀ (i : Nat) (x : r.D), xs[i]? = some x → ∃ ci, Rep fix W r x ci ∧ ∀ (j : Nat) (u : Value), ci[j]? = some u →
    fix ad.block (ad.off + i * r.sz + j) ∧ W.cell? ⟨ad.block, ad.off + i * r.sz + j, none⟩ = some u)
 | .pair a b, x, cs => ∃ c1 c2, cs = c1 ++ c2 ∧ Rep fix W a x.1 c1 ∧ Rep fix W b x.2 c2
 | .any, _, cs => ∃ v, cs = [v] ∧ v.oneCell' = true
 | .clo g c, x, cs => ∃ ps : List Value, cs = [.func (.func g) #[] ps.toArray] ∧ RepC fix W c x ps
 | .osl _ _, _, cs => ∃ v, cs = [v] ∧ v.oneCell' = true
def RepC (fix : Nat → Nat → Prop) (W : World) : (t : Ty) → t.D → List Value → Prop
 | .unit, _, ps => ps = []
 | .pair a b, x, ps => ∃ ad ps', ps = .pointer (some ad) :: ps' ∧ ad.spot = none ∧ RepC fix W b x.2 ps' ∧ ∃ ci, Rep fix W a x.1 ci ∧ ∀ (j : Nat) (u : Value), ci[j]? = some u → fix ad.block (ad.off + j) ∧ W.cell? ⟨ad.block, ad.off + j, none⟩ = some u
 | _, _, _ => False
end
section
variable {fix fix' : Nat → Nat → Prop} {W W' : World}
mutual
theorem Rep.mono (h : ∀ b o, fix b o → fix' b o ∧ ∀ u, W.cell? ⟨b, o, none⟩ = some u → W'.cell? ⟨b, o, none⟩ = some u) :
  ∀ (t : Ty) (x : t.D) (cs : List Value), Rep fix W t x cs → Rep fix' W' t x cs
 | .unit, _, _, r => r
 | .int _, _, _, r => r
 | .bool, _, _, r => r
 | .str, _, _, r => r
 | .sl _ r, xs, cs, hr => by
  obtain ⟨A, c, h1, h2, h3⟩ := hr
  refine ⟨A, c, h1, h2, fun hn => ?_⟩
  obtain ⟨ad, ha, hs, hc⟩ := h3 hn
  refine ⟨ad, ha, hs, fun i x hx => ?_⟩
  obtain ⟨ci, hci, hcell⟩ := hc i x hx
  refine ⟨ci, Rep.mono h r x ci hci, fun j u hu => ?_⟩
  obtain ⟨hf, hw⟩ := hcell j u hu
  exact ⟨(h _ _ hf).1, (h _ _ hf).2 _ hw⟩
 | .pair a b, x, cs, hr => by
  obtain ⟨c1, c2, h1, h2, h3⟩ := hr
  exact ⟨c1, c2, h1, Rep.mono h a _ _ h2, Rep.mono h b _ _ h3⟩
 | .any, _, _, r => r
 | .clo g c, x, cs, hr => by
  obtain ⟨ps, h1, h2⟩ := hr
  exact ⟨ps, h1, RepC.mono h c x ps h2⟩
 | .osl _ _, _, _, r => r
theorem RepC.mono (h : ∀ b o, fix b o → fix' b o ∧ ∀ u, W.cell? ⟨b, o, none⟩ = some u → W'.cell? ⟨b, o, none⟩ = some u) :
  ∀ (t : Ty) (x : t.D) (ps : List Value), RepC fix W t x ps → RepC fix' W' t x ps
 | .unit, _, _, r => r
 | .pair a b, x, ps, hr => by
  obtain ⟨ad, ps', h1, h2, h3, ci, h4, h5⟩ := hr
  refine ⟨ad, ps', h1, h2, RepC.mono h b _ _ h3, ci, Rep.mono h a _ _ h4, fun j u hu => ?_⟩
  obtain ⟨hf, hw⟩ := h5 j u hu
  exact ⟨(h _ _ hf).1, (h _ _ hf).2 _ hw⟩
 | .int _, _, _, hr => hr.elim
 | .bool, _, _, hr => hr.elim
 | .str, _, _, hr => hr.elim
 | .sl _ _, _, _, hr => hr.elim
 | .any, _, _, hr => hr.elim
 | .clo _ _, _, _, hr => hr.elim
 | .osl _ _, _, _, hr => hr.elim
end
theorem Rep.len : ∀ (t : Ty) (x : t.D) (cs : List Value), Rep fix W t x cs → cs.length = t.sz
 | .unit, _, _, r => by cases r; rfl
 | .int _, _, _, r => by cases r; rfl
 | .bool, _, _, r => by cases r; rfl
 | .str, _, _, r => by cases r; rfl
 | .sl _ _, _, _, r => by obtain ⟨A, c, h1, _⟩ := r; subst h1; rfl
 | .any, _, _, r => by obtain ⟨v, h1, _⟩ := r; subst h1; rfl
 | .clo _ _, _, _, r => by obtain ⟨v, h1, _⟩ := r; subst h1; rfl
 | .osl _ _, _, _, r => by obtain ⟨v, h1, _⟩ := r; subst h1; rfl
 | .pair a b, x, _, r => by
  obtain ⟨c1, c2, h1, h2, h3⟩ := r
  subst h1
  simp [Ty.sz, Rep.len a _ _ h2, Rep.len b _ _ h3]
theorem Rep.one : ∀ (t : Ty) (x : t.D) (cs : List Value), Rep fix W t x cs → ∀ u ∈ cs, u.oneCell' = true
 | .unit, _, _, r => by cases r; simp
 | .int _, _, _, r => by cases r; simp [Value.oneCell']
 | .bool, _, _, r => by cases r; simp [Value.oneCell']
 | .str, _, _, r => by cases r; simp [Value.oneCell']
 | .sl _ _, _, _, r => by obtain ⟨A, c, h1, _⟩ := r; subst h1; simp [Value.oneCell']
 | .any, _, _, r => by obtain ⟨v, h1, h2⟩ := r; subst h1; simpa using h2
 | .clo _ _, _, _, r => by obtain ⟨v, h1, _⟩ := r; subst h1; simp [Value.oneCell']
 | .osl _ _, _, _, r => by obtain ⟨v, h1, h2⟩ := r; subst h1; simpa using h2
 | .pair a b, x, _, r => by
  obtain ⟨c1, c2, h1, h2, h3⟩ := r
  subst h1
  intro u hu
  rcases List.mem_append.1 hu with hu | hu
  ·exact Rep.one a _ _ h2 u hu
  ·exact Rep.one b _ _ h3 u hu
def Cells (fix : Nat → Nat → Prop) (W : World) : List DV → List Value → Prop
 | [], [] => True
 | d :: ds, v :: vs => Rep fix W d.t d.x [v] ∧ Cells fix W ds vs
 | _, _ => False
theorem Cells.len : ∀ {ds : List DV} {vs : List Value}, Cells fix W ds vs → ds.length = vs.length
 | [], [], _ => rfl
 | _ :: _, _ :: _, h => by simp [Cells.len h.2]
theorem Cells.append : ∀ {ds : List DV} {vs : List Value} {ds' : List DV} {vs' : List Value}, Cells fix W ds vs → Cells fix W ds' vs' → Cells fix W (ds ++ ds') (vs ++ vs')
 | [], [], _, _, _, h => h
 | _ :: _, _ :: _, _, _, h, h' => ⟨h.1, Cells.append h.2 h'⟩
theorem Cells.parts : ∀ {ds : List DV} {ds' : List DV} {vs : List Value}, Cells fix W (ds ++ ds') vs → ∃ v1 v2, vs = v1 ++ v2 ∧ Cells fix W ds v1 ∧ Cells fix W ds' v2
 | [], _, vs, h => ⟨[], vs, rfl, trivial, h⟩
 | _ :: _, _, v :: vs, h => by
  obtain ⟨v1, v2, e, h1, h2⟩ := Cells.parts h.2
  exact ⟨v :: v1, v2, by rw [e]; rfl, ⟨h.1, h1⟩, h2⟩
theorem Cells.get : ∀ {ds : List DV} {vs : List Value} (_ : Cells fix W ds vs) (j : Nat) (d : DV), ds[j]? = some d → ∃ v, vs[j]? = some v ∧ Rep fix W d.t d.x [v]
 | d :: ds, v :: vs, h, 0, _, e => by injection e with e; subst e; exact ⟨v, rfl, h.1⟩
 | d :: ds, v :: vs, h, j + 1, d', e => by simpa using Cells.get h.2 j d' (by simpa using e)
 | [], [], _, _, _, e => by simp at e
theorem Cells.of_get : ∀ {ds : List DV} {vs : List Value}, ds.length = vs.length → (∀ (j : Nat) (d : DV) (v : Value), ds[j]? = some d → vs[j]? = some v → Rep fix W d.t d.x [v]) → Cells fix W ds vs
 | [], [], _, _ => trivial
 | [], _ :: _, h, _ => by simp at h
 | _ :: _, [], h, _ => by simp at h
 | d :: ds, v :: vs, h, hr => ⟨hr 0 d v rfl rfl, Cells.of_get (by simpa using h) fun j d v hd hv => hr (j + 1) d v (by simpa using hd) (by simpa using hv)⟩
theorem Cells.mono (h : ∀ b o, fix b o → fix' b o ∧ ∀ u, W.cell? ⟨b, o, none⟩ = some u → W'.cell? ⟨b, o, none⟩ = some u) :
  ∀ {ds : List DV} {vs : List Value}, Cells fix W ds vs → Cells fix' W' ds vs
 | [], [], _ => trivial
 | _ :: _, _ :: _, hc => ⟨Rep.mono h _ _ _ hc.1, Cells.mono h hc.2⟩
theorem Cells.split : ∀ (t : Ty) (x : t.D) (vs : List Value), Rep fix W t x vs → Cells fix W (t.split x) vs
 | .unit, _, _, r => by cases r; trivial
 | .int _, _, _, r => by cases r; exact ⟨rfl, trivial⟩
 | .bool, _, _, r => by cases r; exact ⟨rfl, trivial⟩
 | .str, _, _, r => by cases r; exact ⟨rfl, trivial⟩
 | .sl e r, xs, _, h => by
  obtain ⟨A, c, h1, h2⟩ := h
  subst h1
  exact ⟨⟨A, c, rfl, h2⟩, trivial⟩
 | .pair a b, x, _, r => by
  obtain ⟨c1, c2, h1, h2, h3⟩ := r
  subst h1
  exact Cells.append (Cells.split a _ _ h2) (Cells.split b _ _ h3)
 | .any, _, _, r => by
  obtain ⟨v, h1, h2⟩ := r
  subst h1
  exact ⟨⟨v, rfl, h2⟩, trivial⟩
 | .clo g c, x, _, r => by
  obtain ⟨v, h1, h2⟩ := r
  subst h1
  exact ⟨⟨v, rfl, h2⟩, trivial⟩
 | .osl _ _, _, _, r => by
  obtain ⟨v, h1, h2⟩ := r
  subst h1
  exact ⟨⟨v, rfl, h2⟩, trivial⟩
theorem DV.as_eq {d : DV} {t : Ty} {x : t.D} (h : d.as t = some x) : ∃ tip, d = ⟨t, x, tip⟩ := by
 unfold DV.as at h
 split at h
 ·rename_i e
  obtain ⟨t', x', tip⟩ := d
  cases e
  injection h with h
  exact ⟨tip, by rw [← h]⟩
 ·simp at h
theorem takeOne_eq {t : Ty} {l l' : List DV} {x : t.D} (h : takeOne t l = some (x, l')) : ∃ tip, l = ⟨t, x, tip⟩ :: l' := by
 cases l with
 | nil => simp [takeOne] at h
 | cons d l =>
  simp only [takeOne] at h
  split at h
  ·rename_i y hy
   obtain ⟨tip, hd⟩ := DV.as_eq hy
   injection h with h
   injection h with h1 h2
   subst h1; subst h2
   exact ⟨tip, by rw [hd]⟩
  ·simp at h
theorem Ty.build_sound : ∀ (t : Ty) (l l' : List DV) (x : t.D), t.build l = some (x, l') → ∃ pre, l = pre ++ l' ∧ pre.length = t.sz ∧ ∀ (fix : Nat → Nat → Prop) (W : World) vs, Cells fix W pre vs → Rep fix W t x vs
 | .unit, l, l', x, h => by
  injection h with h; injection h with _ h
  exact ⟨[], by simp [h], rfl, fun _ _ vs hc => by cases vs with | nil => rfl | cons => exact hc.elim⟩
 | .int k, l, l', x, h => by
  obtain ⟨tip, e⟩ := takeOne_eq h
  exact ⟨[_], e, rfl, fun _ _ vs hc => by match vs, hc with | [v], hc => exact hc.1⟩
 | .bool, l, l', x, h => by
  obtain ⟨tip, e⟩ := takeOne_eq h
  exact ⟨[_], e, rfl, fun _ _ vs hc => by match vs, hc with | [v], hc => exact hc.1⟩
 | .str, l, l', x, h => by
  obtain ⟨tip, e⟩ := takeOne_eq h
  exact ⟨[_], e, rfl, fun _ _ vs hc => by match vs, hc with | [v], hc => exact hc.1⟩
 | .sl e r, l, l', x, h => by
  obtain ⟨tip, e⟩ := takeOne_eq h
  exact ⟨[_], e, rfl, fun _ _ vs hc => by match vs, hc with | [v], hc => exact hc.1⟩
 | .any, l, l', x, h => by
  obtain ⟨tip, e⟩ := takeOne_eq h
  exact ⟨[_], e, rfl, fun _ _ vs hc => by match vs, hc with | [v], hc => exact hc.1⟩
 | .clo g c, l, l', x, h => by
  obtain ⟨tip, e⟩ := takeOne_eq h
  exact ⟨[_], e, rfl, fun _ _ vs hc => by match vs, hc with | [v], hc => exact hc.1⟩
 | .osl _ _, l, l', x, h => by
  obtain ⟨tip, e⟩ := takeOne_eq h
  exact ⟨[_], e, rfl, fun _ _ vs hc => by match vs, hc with | [v], hc => exact hc.1⟩
 | .pair a b, l, l', x, h => by
  simp only [Ty.build] at h
  split at h
  ·rename_i y l1 h1
   split at h
   ·rename_i z l2 h2
    injection h with h; injection h with h h'
    subst h; subst h'
    obtain ⟨p1, e1, n1, r1⟩ := Ty.build_sound a _ _ _ h1
    obtain ⟨p2, e2, n2, r2⟩ := Ty.build_sound b _ _ _ h2
    refine ⟨p1 ++ p2, by rw [e1, e2, List.append_assoc], by simp [Ty.sz, n1, n2], fun fix W vs hc => ?_⟩
    obtain ⟨v1, v2, e, c1, c2⟩ := Cells.parts hc
    exact ⟨v1, v2, e, r1 _ _ _ c1, r2 _ _ _ c2⟩
   ·simp at h
  ·simp at h
theorem Ty.build_all {t : Ty} {cs : List DV} {x : t.D} (h : t.build cs = some (x, [])) {vs : List Value} (hc : Cells fix W cs vs) : Rep fix W t x vs := by
 obtain ⟨pre, e, _, r⟩ := Ty.build_sound t cs [] x h
 rw [List.append_nil] at e
 subst e
 exact r _ _ _ hc
def VRep (fix : Nat → Nat → Prop) (W : World) (t : Ty) (x : t.D) (v : Value) : Prop := Value.isAgg v = t.isAgg ∧ Rep fix W t x v.cells.toList
theorem VRep.mono (h : ∀ b o, fix b o → fix' b o ∧ ∀ u, W.cell? ⟨b, o, none⟩ = some u → W'.cell? ⟨b, o, none⟩ = some u) {t : Ty} {x : t.D} {v : Value} (r : VRep fix W t x v) : VRep fix' W' t x v := ⟨r.1, Rep.mono h _ _ _ r.2⟩
end
inductive Lab where
 | slot (t : Nat)
 | box (i : Nat)
 | cell (i j : Nat)
 | arg (i : Nat)
def Tip (fix : Nat → Nat → Prop) (own : Nat → Option Lab) (W : World) (q : Lab) (t : Ty) (v : Value) : Prop :=
 match t with
 | .sl e r => (∃ A n, v = .slice A n n) ∨ ∃ g n cap cur, v = .slice (some ⟨g, 0, none⟩) n cap ∧ W.heap[g]? = some (.cells cur e (0, 0)) ∧ n ≤ cap ∧ cap ≤ maxLen ∧ cur.size = cap * r.sz ∧ own g = some q ∧ ∀ o, fix g o → o < n * r.sz
 | _ => False
def NilTips (cs : List DV) (vs : List Value) : Prop := ∀ (j : Nat) d, cs[j]? = some d → d.tip = true → d.t.isSl = true ∧ vs[j]? = some (.slice none 0 0)
theorem NilTips.of_clear {cs : List DV} {vs : List Value} (h : ∀ d ∈ cs, d.tip = false) : NilTips cs vs := fun j d hj ht => by
 rw [h d (List.mem_of_getElem? hj)] at ht; cases ht
theorem NilTips.tip {fix : Nat → Nat → Prop} {own : Nat → Option Lab} {W : World} {q : Lab} {t : Ty} (h : t.isSl = true) : Tip fix own W q t (.slice none 0 0) := by
 cases t <;> simp [Ty.isSl] at h
 exact .inl ⟨none, 0, rfl⟩
def Own1 (fix : Nat → Nat → Prop) (own : Nat → Option Lab) (W : World) (q : Lab) (t : Ty) (v : Value) : Prop :=
 match t with
 | .sl e r => ∃ g n cur, v = .slice (some ⟨g, 0, none⟩) n n ∧ W.heap[g]? = some (.cells cur e (0, 0)) ∧ n ≤ maxLen ∧ cur.size = n * r.sz ∧ own g = some q ∧ ∀ o, fix g o → o < n * r.sz
 | _ => False
theorem Own1.tip {fix : Nat → Nat → Prop} {own : Nat → Option Lab} {W : World} {q : Lab} {t : Ty} {v : Value} (h : Own1 fix own W q t v) : Tip fix own W q t v := by
 cases t <;> simp only [Own1] at h
 obtain ⟨g, n, cur, h1, h2, h3, h4, h5, h6⟩ := h
 exact .inr ⟨g, n, n, cur, h1, h2, Nat.le_refl _, h3, h4, h5, h6⟩
structure Bx where
 b : Nat
 h : Value
 sub : Nat → Value := fun _ => undef
structure Gh where
 fix : Nat → Nat → Prop
 own : Nat → Option Lab
 bx : Nat → Bx
def SRep (g : Gh) (W : World) (t : Nat) : PV → Value → Prop
 | .unk, _ => True
 | .undef, v => v = undef
 | .nil, v => v = .slice none 0 0
 | .nilp, v => v = .pointer none
 | .val d, v => Value.isAgg v = false ∧ Rep g.fix W d.t d.x [v] ∧ (d.tip = true → Tip g.fix g.own W (.slot t) d.t v)
 | .agg cs, v => ∃ vs, v = .agg vs ∧ Cells g.fix W cs vs.toList ∧ NilTips cs vs.toList
 | .tup l, v => ∃ us, v = .tuple us ∧ l.length = us.size ∧ ∀ (j : Nat) p, l[j]? = some p → ∃ u, us[j]? = some u ∧ Value.isAgg u = p.1 ∧ Cells g.fix W p.2 u.cells.toList
 | .bptr i lo, v => v = .pointer (some ⟨(g.bx i).b, lo, none⟩)
 | .eptr cs, v => ∃ ad, v = .pointer (some ad) ∧ ad.spot = none ∧ ∀ (j : Nat) d, cs[j]? = some d → ∃ u, Rep g.fix W d.t d.x [u] ∧ g.fix ad.block (ad.off + j) ∧ W.cell? ⟨ad.block, ad.off + j, none⟩ = some u
 | .fn f, v => v = .func (.func f) #[] #[]
 | .box _ _ _, _ => True
 | .lent _ _, _ => True
 | .frz _ _ _, _ => True
 | .row _ _ _ _ _, _ => True
 | .gone _ _, _ => True
 | .hdr _ _, _ => True
 | .rptr _ _ _ _ _, _ => True
 | .lrow _ _ _ _, _ => True
 | .set _ _ _, _ => True
 | .iter _ _ _, _ => True
 | .mptr j, v => v = .map (some (g.bx j).b)
 | .itr j, v => v = .pointer (some ⟨(g.bx j).b, 0, none⟩)
 | .shdr _ _ _ _ _, _ => True
 | .sptr _ _ _ _ _ _ _ _, _ => True
 | .aggh cs _, v => ∃ vs, v = .agg vs ∧ Cells g.fix W cs vs.toList ∧ NilTips cs vs.toList
 | .tupr l _ _ _, v => ∃ us, v = .tuple us ∧ l.length = us.size ∧ ∀ (j : Nat) p, l[j]? = some p → ∃ u, us[j]? = some u ∧ Value.isAgg u = p.1 ∧ Cells g.fix W p.2 u.cells.toList
 | .hole _ _ _ _ _ _ _ _ _ _, _ => True
 | .full d b, v => Value.isAgg v = false ∧ Rep g.fix W d.t d.x [v] ∧ ∃ A n c, v = .slice A n c ∧ A.isSome = b
 | .exact d, v => Value.isAgg v = false ∧ Rep g.fix W d.t d.x [v] ∧ Own1 g.fix g.own W (.slot t) d.t v
def Rows (fix : Nat → Nat → Prop) (W : World) (r : Ty) (xs : List r.D) (cs : List Value) : Prop :=
 cs.length = xs.length * r.sz ∧ ∀ (i : Nat) x, xs[i]? = some x → Rep fix W r x ((cs.drop (i * r.sz)).take r.sz)
theorem Rows.mono {fix fix' : Nat → Nat → Prop} {W W' : World} {r : Ty} (h : ∀ b o, fix b o → fix' b o ∧ ∀ u, W.cell? ⟨b, o, none⟩ = some u → W'.cell? ⟨b, o, none⟩ = some u) {xs : List r.D} {cs : List Value} (k : Rows fix W r xs cs) : Rows fix' W' r xs cs :=
 ⟨k.1, fun i x hx => Rep.mono h _ _ _ (k.2 i x hx)⟩
def FrOk (fr : Nat × Nat) (n : Nat) : Prop := fr.1 = fr.2 ∨ n ≤ fr.1
def RowBlk (W : World) (b : Nat) (cur : Array Value) (e : TypeId) : Prop := ∃ fr, W.heap[b]? = some (.cells cur e fr) ∧ FrOk fr cur.size
theorem RowBlk.plain {W : World} {b : Nat} {cur : Array Value} {e : TypeId} (h : W.heap[b]? = some (.cells cur e (0, 0))) : RowBlk W b cur e := ⟨_, h, .inl rfl⟩
theorem RowBlk.same {W W' : World} {b : Nat} {cur : Array Value} {e : TypeId} (h : RowBlk W b cur e) (hb : W'.heap[b]? = W.heap[b]?) : RowBlk W' b cur e := by
 obtain ⟨fr, h1, h2⟩ := h
 exact ⟨fr, hb.trans h1, h2⟩
theorem RowBlk.cell {W : World} {b : Nat} {cur : Array Value} {e : TypeId} (h : RowBlk W b cur e) (o : Nat) : W.cell? ⟨b, o, none⟩ = cur[o]? := by
 obtain ⟨fr, h1, _⟩ := h
 simp [World.cell?, h1]
def RowAt (fix : Nat → Nat → Prop) (own : Nat → Option Lab) (W : World) (q : Lab) (h : Value) (e : TypeId) (r : Ty) (xs : List r.D) : Prop :=
 ∃ A c, h = .slice A xs.length c ∧ LenOk xs.length c ∧ ((A = none ∧ c = 0) ∨ ∃ b off cur cs, A = some ⟨b, off, none⟩ ∧ RowBlk W b cur e ∧ own b = some q ∧
  (∀ o, ¬ fix b o) ∧ c ≤ maxLen ∧ 0 < r.sz ∧ off + c * r.sz ≤ cur.size ∧ Rows fix W r xs cs ∧ ∀ (k : Nat) u, cs[k]? = some u → cur[off + k]? = some u)
structure SetFit (es : Array MapEntry) (clock : Nat) : Prop where
 size : es.size ≤ maxLen
 stamped : (∀ x ∈ es.toList, x.born < clock) ∧ (es.toList.map (·.born)).Nodup ∧ (es.toList.map (·.key)).Nodup
 keys : ∀ x ∈ es.toList, ∃ a : Int, x.key = .int .i64 a ∧ (Lit.int .i64 a).wf = true ∧ x.val = .agg #[]
def HasKey (es : Array MapEntry) (a : Int) : Prop := ∃ x ∈ es.toList, x.key = .int .i64 a
def SetAt (own : Nat → Option Lab) (W : World) (q : Lab) (b : Nat) (ks : List Int) : Prop :=
 ∃ es clock, W.heap[b]? = some (.map es clock) ∧ own b = some q ∧ SetFit es clock ∧ (∀ a, HasKey es a ↔ a ∈ ks) ∧ es.size ≤ ks.length
def IterAt (own : Nat → Option Lab) (W : World) (q : Lab) (r : Nat) (left : List Int) (cur : Option Int) : Prop :=
 ∃ b es clock since seen c0, W.heap[b]? = some (.map es clock) ∧ own b = some q ∧ SetFit es clock ∧ W.heap[r]? = some (.mapIter (some b) since seen c0) ∧ own r = some q ∧
  (∀ x ∈ es.toList, x.born < since) ∧ since ≤ c0 ∧ since ≤ clock ∧ (∀ a, a ∈ left ↔ ∃ x ∈ es.toList, x.key = .int .i64 a ∧ seen.contains x.born = false) ∧ left.Nodup ∧
  ∀ a, cur = some a → ∃ x ∈ es.toList, x.key = .int .i64 a ∧ ∃ seen', seen = Array.push seen' x.born ∧ c0 = clock
def SubsAt (fix : Nat → Nat → Prop) (own : Nat → Option Lab) (W : World) (j : Nat) (B : Bx) (r : Ty) (xs : List r.D) : Prop :=
 ∀ (i : Nat) x, xs[i]? = some x → ∀ (o : Nat) e2 r2 (y : List r2.D) tip, (r.split x)[o]? = some ⟨.osl e2 r2, y, tip⟩ →
  ∃ b off n c, B.h = .slice (some ⟨b, off, none⟩) n c ∧ own b = some (.box j) ∧ W.cell? ⟨b, off + i * r.sz + o, none⟩ = some (B.sub (i * r.sz + o)) ∧ RowAt fix own W (.cell j (i * r.sz + o)) (B.sub (i * r.sz + o)) e2 r2 y
def HoleAt (fix : Nat → Nat → Prop) (own : Nat → Option Lab) (W : World) (j : Nat) (B : Bx) (e : TypeId) (r : Ty) (xs : List r.D) (i o : Nat) (e2 : TypeId) (r2 : Ty) (ys : List r2.D) : Prop :=
 (∃ b off c cur cs, B.h = .slice (some ⟨b, off, none⟩) xs.length c ∧ LenOk xs.length c ∧ RowBlk W b cur e ∧ own b = some (.box j) ∧ (∀ o, ¬ fix b o) ∧ off + c * r.sz ≤ cur.size ∧ Rows fix W r xs cs ∧
  (∀ (k : Nat) u, cs[k]? = some u → k ≠ i * r.sz + o → cur[off + k]? = some u) ∧ cur[off + (i * r.sz + o)]? = some (B.sub (i * r.sz + o))) ∧
 i < xs.length ∧ o < r.sz ∧ (∃ d, (r.split (xs.getD i r.zero))[o]? = some d ∧ d.t = .sl e2 r2) ∧ RowAt fix own W (.cell j (i * r.sz + o)) (B.sub (i * r.sz + o)) e2 r2 ys
def BRep (g : Gh) (W : World) (i : Nat) : PV → Prop
 | .box T cs _ => ∃ vs, W.heap[(g.bx i).b]? = some (.cells vs T (0, 0)) ∧ g.own (g.bx i).b = some (.box i) ∧ (∀ o, ¬ g.fix (g.bx i).b o) ∧ Cells g.fix W cs vs.toList ∧
   ∀ (j : Nat) d, cs[j]? = some d → d.tip = true → ∃ u, vs[j]? = some u ∧ Tip g.fix g.own W (.cell i j) d.t u
 | .frz _ cs _ => ∃ vs : List Value, Cells g.fix W cs vs ∧ ∀ (j : Nat) u, vs[j]? = some u → g.fix (g.bx i).b j ∧ W.cell? ⟨(g.bx i).b, j, none⟩ = some u
 | .row e r xs _ _ => RowAt g.fix g.own W (.box i) (g.bx i).h e r xs ∧ SubsAt g.fix g.own W i (g.bx i) r xs
 | .set ks true _ => SetAt g.own W (.box i) (g.bx i).b ks
 | .iter left cur _ => IterAt g.own W (.box i) (g.bx i).b left cur
 | .hole e r xs _ _ ii o e2 r2 ys => HoleAt g.fix g.own W i (g.bx i) e r xs ii o e2 r2 ys
 | _ => True
def HOk (pv : PV) (b : Bx) (hv : Nat) (v : Value) : Prop :=
 match pv with
 | .row _ _ _ hv' _ => hv ≤ hv' ∧ (hv = hv' → v = b.h)
 | .lrow _ _ hv' _ => hv ≤ hv' ∧ (hv = hv' → v = b.h)
 | .gone hv' _ => hv ≤ hv'
 | .hole _ _ _ hv' _ _ _ _ _ _ => hv ≤ hv' ∧ (hv = hv' → v = b.h)
 | _ => False
def RpOk (pv : PV) (b : Bx) (hv i o sz : Nat) (v : Value) : Prop :=
 match pv with
 | .row _ r xs hv' _ => hv ≤ hv' ∧ (hv = hv' → sz = r.sz ∧ i < xs.length ∧ ∃ blk off c, b.h = .slice (some ⟨blk, off, none⟩) xs.length c ∧ v = .pointer (some ⟨blk, off + i * sz + o, none⟩))
 | .lrow r n hv' _ => hv ≤ hv' ∧ (hv = hv' → sz = r.sz ∧ i < n ∧ ∃ blk off c, b.h = .slice (some ⟨blk, off, none⟩) n c ∧ v = .pointer (some ⟨blk, off + i * sz + o, none⟩))
 | .gone hv' _ => hv ≤ hv'
 | .hole _ r xs hv' _ _ _ _ _ _ => hv ≤ hv' ∧ (hv = hv' → sz = r.sz ∧ i < xs.length ∧ ∃ blk off c, b.h = .slice (some ⟨blk, off, none⟩) xs.length c ∧ v = .pointer (some ⟨blk, off + i * sz + o, none⟩))
 | _ => False
def ShOk (pv : PV) (b : Bx) (hv ver i o : Nat) (v : Value) : Prop :=
 match pv with
 | .row _ r xs hv' ver' => hv ≤ hv' ∧ (hv = hv' → ver ≤ ver' ∧ (ver = ver' → i < xs.length ∧ v = b.sub (i * r.sz + o)))
 | .lrow _ _ hv' ver' => hv ≤ hv' ∧ (hv = hv' → ver ≤ ver')
 | .gone hv' _ => hv ≤ hv'
 | .hole _ r _ hv' ver' i' o' _ _ _ => hv ≤ hv' ∧ (hv = hv' → ver ≤ ver' ∧ (ver = ver' → i = i' → o = o' → v = b.sub (i * r.sz + o)))
 | _ => False
def SpOk (pv : PV) (b : Bx) (hv ver i o i2 o2 sz2 : Nat) (v : Value) : Prop :=
 match pv with
 | .row _ r xs hv' ver' => hv ≤ hv' ∧ (hv = hv' → ver ≤ ver' ∧ (ver = ver' → i < xs.length ∧ ∃ blk off n c, b.sub (i * r.sz + o) = .slice (some ⟨blk, off, none⟩) n c ∧ i2 < n ∧ v = .pointer (some ⟨blk, off + i2 * sz2 + o2, none⟩)))
 | .lrow _ _ hv' ver' => hv ≤ hv' ∧ (hv = hv' → ver ≤ ver')
 | .gone hv' _ => hv ≤ hv'
 | .hole _ r _ hv' ver' i' o' _ _ _ => hv ≤ hv' ∧ (hv = hv' → ver ≤ ver' ∧ (ver = ver' → i = i' → o = o' → ∃ blk off n c, b.sub (i * r.sz + o) = .slice (some ⟨blk, off, none⟩) n c ∧ i2 < n ∧ v = .pointer (some ⟨blk, off + i2 * sz2 + o2, none⟩)))
 | _ => False
def PtrOk (e : Env) (g : Gh) (pv : PV) (v : Value) : Prop :=
 match pv with
 | .bptr i _ => (e (.box i)).isCell = true
 | .hdr j hv => HOk (e (.box j)) (g.bx j) hv v
 | .rptr j hv i o sz => RpOk (e (.box j)) (g.bx j) hv i o sz v
 | .mptr j => (e (.box j)).isCell = true
 | .itr j => (e (.box j)).isCell = true
 | .tupr _ i j hv => ∃ us u, v = .tuple us ∧ us[i]? = some u ∧ HOk (e (.box j)) (g.bx j) hv u
 | .shdr j hv ver i o => ShOk (e (.box j)) (g.bx j) hv ver i o v
 | .sptr j hv ver i o i2 o2 sz2 => SpOk (e (.box j)) (g.bx j) hv ver i o i2 o2 sz2 v
 | .aggh _ hs => ∃ us, v = .agg us ∧ ∀ h ∈ hs, ∃ u, us[h.1]? = some u ∧ HOk (e (.box h.2.1)) (g.bx h.2.1) h.2.2 u
 | _ => True
structure Move (X : Lab → Prop) (W W' : World) (g g' : Gh) : Prop where
 fixed : ∀ b o, g.fix b o → g'.fix b o ∧ ∀ u, W.cell? ⟨b, o, none⟩ = some u → W'.cell? ⟨b, o, none⟩ = some u
 own : ∀ b q, g.own b = some q → ¬ X q → g'.own b = some q ∧ W'.heap[b]? = W.heap[b]? ∧ ∀ o, g'.fix b o → g.fix b o
theorem Move.refl (X : Lab → Prop) (W : World) (g : Gh) : Move X W W g g := ⟨fun _ _ h => ⟨h, fun _ h => h⟩, fun _ _ h _ => ⟨h, rfl, fun _ h => h⟩⟩
section
variable {X : Lab → Prop} {W W' : World} {g g' : Gh}
theorem Tip.move (m : Move X W W' g g') {q : Lab} (hq : ¬ X q) {t : Ty} {v : Value} (h : Tip g.fix g.own W q t v) : Tip g'.fix g'.own W' q t v := by
 cases t <;> simp only [Tip] at h ⊢
 rcases h with h | ⟨b, n, cap, cur, h1, h2, h3, h4, h5, h6, h7⟩
 ·exact .inl h
 ·obtain ⟨k1, k2, k3⟩ := m.own b q h6 hq
  exact .inr ⟨b, n, cap, cur, h1, k2.trans h2, h3, h4, h5, k1, fun o ho => h7 o (k3 o ho)⟩
theorem Own1.move (m : Move X W W' g g') {q : Lab} (hq : ¬ X q) {t : Ty} {v : Value} (h : Own1 g.fix g.own W q t v) : Own1 g'.fix g'.own W' q t v := by
 cases t <;> simp only [Own1] at h ⊢
 obtain ⟨b, n, cur, h1, h2, h4, h5, h6, h7⟩ := h
 obtain ⟨k1, k2, k3⟩ := m.own b q h6 hq
 exact ⟨b, n, cur, h1, k2.trans h2, h4, h5, k1, fun o ho => h7 o (k3 o ho)⟩
theorem SRep.move (m : Move X W W' g g') {t : Nat} (hq : ¬ X (.slot t)) {pv : PV} {v : Value} (hb : ∀ i, pv.cellAt = some i → g'.bx i = g.bx i) (h : SRep g W t pv v) : SRep g' W' t pv v := by
 cases pv with
 | unk => trivial
 | undef => exact h
 | nil => exact h
 | nilp => exact h
 | val d => exact ⟨h.1, Rep.mono m.fixed _ _ _ h.2.1, fun ht => (h.2.2 ht).move m hq⟩
 | agg cs => obtain ⟨vs, e, hc, hn⟩ := h; exact ⟨vs, e, Cells.mono m.fixed hc, hn⟩
 | aggh cs _ => obtain ⟨vs, e, hc, hn⟩ := h; exact ⟨vs, e, Cells.mono m.fixed hc, hn⟩
 | hole _ _ _ _ _ _ _ _ _ _ => trivial
 | full d b => exact ⟨h.1, Rep.mono m.fixed _ _ _ h.2.1, h.2.2⟩
 | exact d => exact ⟨h.1, Rep.mono m.fixed _ _ _ h.2.1, h.2.2.move m hq⟩
 | frz _ _ _ => trivial
 | tup l =>
  obtain ⟨us, e, hl, hc⟩ := h
  refine ⟨us, e, hl, fun j p hp => ?_⟩
  obtain ⟨u, h1, h2, h3⟩ := hc j p hp
  exact ⟨u, h1, h2, Cells.mono m.fixed h3⟩
 | bptr i lo => simp only [SRep] at h ⊢; rw [hb i rfl]; exact h
 | mptr i => simp only [SRep] at h ⊢; rw [hb i rfl]; exact h
 | itr i => simp only [SRep] at h ⊢; rw [hb i rfl]; exact h
 | set _ _ _ => trivial
 | iter _ _ _ => trivial
 | eptr cs =>
  obtain ⟨ad, e, hs, hc⟩ := h
  refine ⟨ad, e, hs, fun j d hd => ?_⟩
  obtain ⟨u, h1, h2, h3⟩ := hc j d hd
  exact ⟨u, Rep.mono m.fixed _ _ _ h1, (m.fixed _ _ h2).1, (m.fixed _ _ h2).2 _ h3⟩
 | fn f => exact h
 | box _ _ _ => trivial
 | lent _ _ => trivial
 | row _ _ _ _ _ => trivial
 | gone _ _ => trivial
 | hdr _ _ => trivial
 | rptr _ _ _ _ _ => trivial
 | lrow _ _ _ _ => trivial
 | shdr _ _ _ _ _ => trivial
 | sptr _ _ _ _ _ _ _ _ => trivial
 | tupr l _ _ _ =>
  obtain ⟨us, e, hl, hc⟩ := h
  refine ⟨us, e, hl, fun j p hp => ?_⟩
  obtain ⟨u, h1, h2, h3⟩ := hc j p hp
  exact ⟨u, h1, h2, Cells.mono m.fixed h3⟩
theorem RowAt.move (m : Move X W W' g g') {q : Lab} (h1 : ¬ X q) {hd : Value} {e : TypeId} {r : Ty} {xs : List r.D} (h : RowAt g.fix g.own W q hd e r xs) : RowAt g'.fix g'.own W' q hd e r xs := by
 obtain ⟨A, c, k1, k2, k3⟩ := h
 refine ⟨A, c, k1, k2, k3.imp id fun ⟨b, off, cur, cs, a1, a2, a3, a4, a5, a6, a7, a8, a9⟩ => ?_⟩
 obtain ⟨o1, o2, o3⟩ := m.own _ _ a3 h1
 exact ⟨b, off, cur, cs, a1, a2.same o2, o1, fun o ho => a4 o (o3 o ho), a5, a6, a7, a8.mono m.fixed, a9⟩
theorem SubsAt.move (m : Move X W W' g g') {j : Nat} (h1 : ¬ X (.box j)) (h2 : ∀ k, ¬ X (.cell j k)) {B : Bx} {r : Ty} {xs : List r.D} (h : SubsAt g.fix g.own W j B r xs) : SubsAt g'.fix g'.own W' j B r xs := by
 intro i x hx o e2 r2 y tip hd
 obtain ⟨b, off, n, c, k1, k2, k3, k4⟩ := h i x hx o e2 r2 y tip hd
 obtain ⟨o1, o2, -⟩ := m.own _ _ k2 h1
 exact ⟨b, off, n, c, k1, o1, by rw [World.cell?_of_block (w := W) o2]; exact k3, k4.move m (h2 _)⟩
theorem HoleAt.move (m : Move X W W' g g') {j : Nat} (h1 : ¬ X (.box j)) (h2 : ∀ k, ¬ X (.cell j k)) {B : Bx} {e : TypeId} {r : Ty} {xs : List r.D} {i o : Nat} {e2 : TypeId} {r2 : Ty} {ys : List r2.D} (h : HoleAt g.fix g.own W j B e r xs i o e2 r2 ys) : HoleAt g'.fix g'.own W' j B e r xs i o e2 r2 ys := by
 obtain ⟨⟨b, off, c, cur, cs, a1, a2, a3, a4, a5, a6, a7, a8, a9⟩, k1, k2, k3, k4⟩ := h
 obtain ⟨o1, o2, o3⟩ := m.own _ _ a4 h1
 exact ⟨⟨b, off, c, cur, cs, a1, a2, a3.same o2, o1, fun o ho => a5 o (o3 o ho), a6, a7.mono m.fixed, a8, a9⟩, k1, k2, k3, k4.move m (h2 _)⟩
theorem SetAt.move (m : Move X W W' g g') {q : Lab} (h1 : ¬ X q) {b : Nat} {ks : List Int} (h : SetAt g.own W q b ks) : SetAt g'.own W' q b ks := by
 obtain ⟨es, clock, k1, k2, k3⟩ := h
 obtain ⟨o1, o2, -⟩ := m.own _ _ k2 h1
 exact ⟨es, clock, o2.trans k1, o1, k3⟩
theorem IterAt.move (m : Move X W W' g g') {q : Lab} (h1 : ¬ X q) {r : Nat} {left : List Int} {cur : Option Int} (h : IterAt g.own W q r left cur) : IterAt g'.own W' q r left cur := by
 obtain ⟨b, es, clock, since, seen, c0, k1, k2, k3, k4, k5, k6⟩ := h
 obtain ⟨o1, o2, -⟩ := m.own _ _ k2 h1
 obtain ⟨p1, p2, -⟩ := m.own _ _ k5 h1
 exact ⟨b, es, clock, since, seen, c0, o2.trans k1, o1, k3, p2.trans k4, p1, k6⟩
theorem BRep.move (m : Move X W W' g g') {i : Nat} (h1 : ¬ X (.box i)) (h2 : ∀ j, ¬ X (.cell i j)) (hb : g'.bx i = g.bx i) {pv : PV} (h : BRep g W i pv) : BRep g' W' i pv := by
 cases pv <;> try trivial
 ·rename_i T cs ver
  obtain ⟨vs, k1, k2, k3, k4, k5⟩ := h
  obtain ⟨o1, o2, o3⟩ := m.own _ _ k2 h1
  simp only [BRep]
  rw [hb]
  refine ⟨vs, o2.trans k1, o1, fun o ho => k3 o (o3 o ho), Cells.mono m.fixed k4, fun j d hd ht => ?_⟩
  obtain ⟨u, hu, htip⟩ := k5 j d hd ht
  exact ⟨u, hu, htip.move m (h2 j)⟩
 ·rename_i T cs ver
  obtain ⟨vs, k1, k2⟩ := h
  simp only [BRep]
  rw [hb]
  exact ⟨vs, Cells.mono m.fixed k1, fun j u hu => ⟨(m.fixed _ _ (k2 j u hu).1).1, (m.fixed _ _ (k2 j u hu).1).2 _ (k2 j u hu).2⟩⟩
 ·simp only [BRep] at h ⊢
  rw [hb]
  exact ⟨h.1.move m h1, h.2.move m h1 h2⟩
 ·rename_i ks live ver
  cases live
  ·trivial
  ·simp only [BRep] at h ⊢
   rw [hb]
   exact h.move m h1
 ·simp only [BRep] at h ⊢
  rw [hb]
  exact h.move m h1
 ·simp only [BRep] at h ⊢
  rw [hb]
  exact h.move m h1 h2
end
def BoxSubs (fix : Nat → Nat → Prop) (own : Nat → Option Lab) (W : World) (q : Nat → Lab) (ds : List DV) (us : List Value) : Prop :=
 ∀ (k : Nat) e r (y : List r.D) tip, ds[k]? = some ⟨.osl e r, y, tip⟩ → k < 1000 ∧ r.plain = true ∧ ∃ u, us[k]? = some u ∧ RowAt fix own W (q k) u e r y
def Links (e : Env) (W : World) (g : Gh) : Prop := ∀ i k, (e (.box i)).lnkAt k = true → (e (.box (lk i k))).there = true → W.cell? ⟨(g.bx i).b, k, none⟩ = some (g.bx (lk i k)).h
theorem Links.of {e e' : Env} {W : World} {g : Gh} (h : Links e W g) (h1 : ∀ i k, (e' (.box i)).lnkAt k = true → (e (.box i)).lnkAt k = true) (h2 : ∀ i, (e' (.box i)).there = true → (e (.box i)).there = true) : Links e' W g :=
 fun i k hl ht => h i k (h1 i k hl) (h2 _ ht)
theorem lk_ge (i k : Nat) : 2000000 ≤ lk i k := by unfold lk; omega
structure F0 where
 f : Nat → Nat → Prop
 B : Nat → Bx
structure St (w0 : World) (T : Nat → Prop) (f0 : F0) (n : Nat) (e : Env) (a : Act) (W : World) (g : Gh) : Prop where
 defers : a.defers = []
 tmps : a.tmps.size = n
 os : W.os = w0.os
 tape : W.tape = w0.tape
 output : W.output = w0.output
 size : w0.heap.size ≤ W.heap.size
 old : ∀ b, b < w0.heap.size → ¬ T b → W.heap[b]? = w0.heap[b]?
 ownNew : ∀ b q, g.own b = some q → b < W.heap.size ∧ (b < w0.heap.size → T b)
 fixLt : ∀ b o, g.fix b o → b < W.heap.size
 fixOld : ∀ b o, f0.f b o → g.fix b o ∧ ∀ u, w0.cell? ⟨b, o, none⟩ = some u → W.cell? ⟨b, o, none⟩ = some u
 fixNew : ∀ b o, b < w0.heap.size → ¬ T b → g.fix b o → f0.f b o
 nle : n ≤ 1000000
 bxOld : ∀ i, 1000000 ≤ i → i < 2000000 → g.bx i = f0.B i
 ptr : ∀ t, PtrOk e g (e (.slot t)) (a.tmps.getD t undef)
 slots : ∀ t, SRep g W t (e (.slot t)) (a.tmps.getD t undef)
 boxes : ∀ i, BRep g W i (e (.box i))
 lnks : Links e W g
end Go.PM
