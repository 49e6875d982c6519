/- Sorted rows of numbers, in plain Lean. -/
import Derived.Test.YtcofionghgmldaaGreatPliNt
import Derived.Test.YtcofionghgmldaaGreatPliL11
import Derived.Test.YtcofionghgmldaaGreatPliL5E
import Derived.KernelRfl
import Derived.Test.YtcofionghgmldaaGreatPliL14
namespace Go.Pli
open Go Go.PM
theorem aD7 {x y:Int}:∀{l:List Int},y∈xK x l↔y=x∨y∈l
 | []=>by simp[xK]
 | z::l=>by
  simp only[xK]
  cases leI x z <;> simp only[cond_true,cond_false,List.mem_cons,aD7 (l:=l)]
  constructor
  ·rintro (h | h | h)
   ·exact .inr (.inl h)
   ·exact .inl h
   ·exact .inr (.inr h)
  ·rintro (h | h | h)
   ·exact .inr (.inl h)
   ·exact .inl h
   ·exact .inr (.inr h)
theorem vS {y:Int}:∀{l:List Int},y∈gF l↔y∈l
 | []=>Iff.rfl
 | x::l=>by simp only[gF,aD7,List.mem_cons,vS (l:=l)]
theorem aHL (x:Int):∀l:List Int,(xK x l).Perm (x::l)
 | []=> .refl _
 | z::l=>by
  simp only[xK]
  cases leI x z <;> simp only[cond_true,cond_false]
  ·exact ((aHL x l).cons z).trans (.swap x z l)
  ·exact .refl _
theorem kH:∀l:List Int,(gF l).Perm l
 | []=> .refl _
 | x::l=>(aHL x (gF l)).trans ((kH l).cons x)
theorem aDz (x:Int):∀{l:List Int},l.Pairwise (·≤·)→(xK x l).Pairwise (·≤·)
 | [],_=>by simp[xK]
 | z::l,h=>by
  have h1:=List.pairwise_cons.1 h
  simp only[xK]
  cases hx:leI x z <;> simp only[cond_true,cond_false]
  ·have hz:z≤x:=by simp only[leI,decide_eq_false_iff_not] at hx;omega
   refine List.pairwise_cons.2 ⟨fun y hy=>?_,aDz x h1.2⟩
   rcases aD7.1 hy with rfl | hy
   ·exact hz
   ·exact h1.1 y hy
  ·have hz:x≤z:=by simpa[leI] using hx
   refine List.pairwise_cons.2 ⟨fun y hy=>?_,h⟩
   rcases List.mem_cons.1 hy with rfl | hy
   ·exact hz
   ·exact Int.le_trans hz (h1.1 y hy)
theorem pL:∀l:List Int,(gF l).Pairwise (·≤·)
 | []=>List.Pairwise.nil
 | x::l=>aDz x (pL l)
theorem aDy:∀{a b:List Int},a.Pairwise (·≤·)→b.Pairwise (·≤·)→a.Perm b→a=b
 | [],b,_,_,h=>by rw[List.Perm.nil_eq h]
 | x::a,[],_,_,h=>by have:=h.length_eq;simp at this
 | x::a,y::b,ha,hb,h=>by
  have h1:=List.pairwise_cons.1 ha
  have h2:=List.pairwise_cons.1 hb
  have hxy:x=y:=by
   have hx:x∈y::b:=h.mem_iff.1 List.mem_cons_self
   have hy:y∈x::a:=h.mem_iff.2 List.mem_cons_self
   rcases List.mem_cons.1 hx with hx | hx
   ·exact hx
   ·rcases List.mem_cons.1 hy with hy | hy
    ·exact hy.symm
    ·exact Int.le_antisymm (h1.1 y hy) (h2.1 x hx)
  subst hxy
  rw[aDy h1.2 h2.2 (List.Perm.cons_inv h)]
theorem aK7 (l:List Int):(l.mergeSort fun x y=>decide (x≤y))=gF l:=by
 refine aDy ?_ (pL l) ((List.mergeSort_perm l _).trans (kH l).symm)
 have:=List.pairwise_mergeSort (le:=fun x y:Int=>decide (x≤y)) (by intro a b c;simp;omega) (by intro a b;simp;omega) l
 exact this.imp (by intro a b h;simpa using h)
theorem uU {y:Int}:∀{l:List Int},y∈bM l↔y∈l
 | []=>Iff.rfl
 | a::l=>by
  have ih:=uU (y:=y) (l:=l)
  simp only[bM]
  split
  ·rename_i h
   rw[h] at ih
   simp only[List.not_mem_nil,false_iff] at ih
   simp[ih]
  ·rename_i b r h
   rw[h] at ih
   cases hab:a==b <;> simp only[cond_true,cond_false]
   ·rw[List.mem_cons,ih,List.mem_cons]
   ·have:a=b:=by simpa using hab
    subst this
    rw[ih,List.mem_cons]
    constructor
    ·exact .inr
    ·rintro (h' | h')
     ·subst h';exact ih.1 List.mem_cons_self
     ·exact h'
theorem wM:∀{l:List Int},l.Pairwise (·≤·)→(bM l).Pairwise (·<·)
 | [],_=>List.Pairwise.nil
 | a::l,h=>by
  have h1:=List.pairwise_cons.1 h
  have ih:=wM h1.2
  simp only[bM]
  split
  ·simp
  ·rename_i b r hc
   rw[hc] at ih
   have hmem:∀y,y∈b::r→y∈l:=fun y hy=>uU.1 (by rw[hc];exact hy)
   cases hab:a==b <;> simp only[cond_true,cond_false]
   ·have hne:a≠b:=by simpa using hab
    have hle:=h1.1 b (hmem b List.mem_cons_self)
    refine List.pairwise_cons.2 ⟨fun y hy=>?_,ih⟩
    rcases List.mem_cons.1 hy with rfl | hy'
    ·omega
    ·have:=(List.pairwise_cons.1 ih).1 y hy'
     omega
   ·exact ih
theorem zS:∀{a b:List Int},a.Pairwise (·<·)→b.Pairwise (·<·)→(∀x,x∈a↔x∈b)→a=b
 | [],[],_,_,_=>rfl
 | [],y::b,_,_,h=>by have:=(h y).2 List.mem_cons_self;simp at this
 | x::a,[],_,_,h=>by have:=(h x).1 List.mem_cons_self;simp at this
 | x::a,y::b,ha,hb,h=>by
  have h1:=List.pairwise_cons.1 ha
  have h2:=List.pairwise_cons.1 hb
  have hxy:x=y:=by
   rcases List.mem_cons.1 ((h x).1 List.mem_cons_self) with hx | hx
   ·exact hx
   ·rcases List.mem_cons.1 ((h y).2 List.mem_cons_self) with hy | hy
    ·exact hy.symm
    ·have:=h1.1 y hy;have:=h2.1 x hx;omega
  subst hxy
  rw[zS h1.2 h2.2 fun z=>?_]
  constructor
  ·intro hz
   rcases List.mem_cons.1 ((h z).1 (List.mem_cons_of_mem _ hz)) with rfl | hz'
   ·have:=h1.1 z hz;omega
   ·exact hz'
  ·intro hz
   rcases List.mem_cons.1 ((h z).2 (List.mem_cons_of_mem _ hz)) with rfl | hz'
   ·have:=h2.1 z hz;omega
   ·exact hz'
theorem aC7 (n:Nat):(ints n).Pairwise (·<·):=by
 unfold ints
 rw[List.pairwise_map]
 exact List.pairwise_lt_range.imp (by intro a b h;omega)
theorem aH2 {l:List Int} (h:l.Pairwise (·≤·)) (hn:l.Nodup):l.Pairwise (·<·):=by
 induction l with
 | nil=>exact List.Pairwise.nil
 | cons x l ih=>
  have h1:=List.pairwise_cons.1 h
  have h2:=List.nodup_cons.1 hn
  refine List.pairwise_cons.2 ⟨fun y hy=>?_,ih h1.2 h2.2⟩
  have:=h1.1 y hy
  have:x≠y:=fun e=>h2.1 (by rw[e];exact hy)
  omega
theorem aIG {l:List Int} (hn:l.Nodup):(gF l).Pairwise (·<·):=
 aH2 (pL l) ((kH l).nodup_iff.2 hn)
end Go.Pli

namespace Go.Pli
open Go Go.PM
theorem aD4 {m:Im} {f g:Int}:g∈aBE m f↔gX m f g=true:=by
 unfold aBE gX
 simp only[List.mem_flatten,List.mem_map,List.any_eq_true,List.contains_iff_mem]
 constructor
 ·rintro ⟨l,⟨i,hi,rfl⟩,hg⟩;exact⟨i,hi,hg⟩
 ·rintro ⟨i,hi,hg⟩;exact⟨_,⟨i,hi,rfl⟩,hg⟩
theorem aJW {m:Im} (h:sP m=true) {f g:Int} (hf:inM m f=true) (hc:gX m f g=true):inM m g=true:=by
 simp only[sP,List.all_eq_true] at h
 exact h f (cX.2 (aP.1 hf)) g (aD4.2 hc)
theorem aLF {m:Im} {f g:Int} (hf:inM m f=true):g∈ofB m f↔gX m f g=true:=by
 unfold ofB
 rw[hf]
 simp only[cond_true]
 rw[uU,vS,aD4]
theorem aVs {m:Im} (h:sP m=true) {f:Int} (hf:inM m f=true):ofB m f=(ints m.2.2.2.1.length).filter fun g=>gX m f g:=by
 refine zS ?_ ((aC7 _).filter _) fun x=>?_
 ·unfold ofB
  rw[hf]
  exact wM (pL _)
 ·rw[aLF hf,List.mem_filter,cX]
  constructor
  ·intro hc;exact⟨aP.1 (aJW h hf hc),hc⟩
  ·exact fun hc=>hc.2
def Canon (m:Im) (S:List Int):Prop:=∃p:Int→Bool,S=(ints m.2.2.2.1.length).filter p
theorem Canon.inM {m:Im} {S:List Int} (h:Canon m S) {x:Int} (hx:x∈S):inM m x=true:=by
 obtain⟨p,rfl⟩:=h
 exact aP.2 (cX.1 (List.mem_filter.1 hx).1)
theorem Canon.len {m:Im} {S:List Int} (h:Canon m S):S.length≤m.2.2.2.1.length:=by
 obtain⟨p,rfl⟩:=h
 have:=List.length_filter_le p (ints m.2.2.2.1.length)
 rwa [dG] at this
theorem aSN {m:Im} (hi:bC m=true) {f:Int} (hf:inM m f=true):(aBE m f).length≤512:=by
 obtain⟨h0,h1⟩:=aP.1 hf
 have hx:=(jY ((bE hi).mts _ (jP h0 h1))).2.2.2.1.1
 unfold aBE
 have key:∀l:List Ins,((l.map (aT m)).flatten).length≤8*l.length:=by
  intro l
  induction l with
  | nil=>simp
  | cons i l ih=>
   have:=jT hi i
   rw[List.map_cons,List.flatten_cons,List.length_append,List.length_cons]
   omega
 have:=key (aC m f).2.2.2.1
 omega
theorem aUt (m:Im) (f:Int) (r) (h:cof m f=some r):∃k,aUG k m f=some r:=by
 unfold cof at h
 cases hi:bC m <;> simp only[hi,cond_true,cond_false] at h
 ·cases h
 injection h with h
 subst h
 refine⟨(aC m f).2.2.2.1.length+1,?_⟩
 unfold aUG ofB
 by_cases h0:f<0
 ·have:inM m f=false:=by cases hh:inM m f;rfl;have:=aP.1 hh;omega
  rw[this,decide_eq_true h0];rfl
 ·by_cases h1:f≥(m.2.2.2.1.length:Int)
  ·have:inM m f=false:=by cases hh:inM m f;rfl;have:=aP.1 hh;omega
   rw[this,decide_eq_false h0,decide_eq_true h1];rfl
  ·have hf:inM m f=true:=aP.2 ⟨by omega,by omega⟩
   have hd:m.2.2.2.1.getD f.toNat zMt=aC m f:=rfl
   have hr:(decide (0≤f)&&decide (f<(m.2.2.2.1.length:Int)))=true:=by simp;omega
   have hx:=(jY ((bE hi).mts _ (jP (show 0≤f by omega) (show f<(m.2.2.2.1.length:Int) by omega)))).2.2.2.1.1
   rw[hf,decide_eq_false h0,decide_eq_false h1,hr]
   simp only[cond_true,cond_false]
   have:=mI (L:=aIe m f) (n:=(aC m f).2.2.2.1.length) (B:=8) (st:=fun k out=>(out,(k:Int),())) (f:=fun k=>aT m ((aC m f).2.2.2.1.getD k dN)) (fin:=fun out=>some (bM (gF out),())) (fun k _=>jT hi _)
    (fun k out rec hk ho=>by
     have ht:∀x,kK m x=some (aT m x,()):=fun x=>by unfold kK;rw[hi];rfl
     have htl:=jT hi ((aC m f).2.2.2.1.getD k dN)
     rw[aIe]
     simp only[hd,dlt hk,dge,Bool.and_self,cond_true,Int.toNat_natCast,ht,Option.bind_some,iM (show out.length+(aT m ((aC m f).2.2.2.1.getD k dN)).length<549755813888 by omega),aN hk (by simp only[lenMax];omega)])
    (fun out rec _=>by rw[aIe];simp only[hd,bB,cond_false];rfl) ((aC m f).2.2.2.1.length+1) (by omega)
   rw[aEY] at this
   exact this
theorem sH:∀{a b:List Int},a.Nodup→(∀x∈a,x∈b)→a.length≤b.length
 | [],_,_,_=>Nat.zero_le _
 | x::a,b,ha,h=>by
  have h1:=List.nodup_cons.1 ha
  have hx:=h x List.mem_cons_self
  have:=sH (a:=a) (b:=b.erase x) h1.2 fun y hy=>by
   have hyx:y≠x:=fun e=>h1.1 (by rw[←e];exact hy)
   exact (List.mem_erase_of_ne hyx).2 (h y (List.mem_cons_of_mem _ hy))
  rw[List.length_erase_of_mem hx] at this
  have:=List.length_pos_of_mem hx
  simp only[List.length_cons];omega
end Go.Pli

namespace Go.Pli
open Go Go.PM
structure Grow (m n:Im):Prop where
 cls:∃e,n.1=m.1++e
 statics:m.2.1.length≤n.2.1.length
 ints:m.2.2.1.length≤n.2.2.1.length
 mts:n.2.2.2.1=m.2.2.2.1
end Go.Pli

namespace Go.Pli
open Go Go.PM
theorem aLx {m:Im} {l:List Int} {n g:Int} (h:g∈oR m l n):∃c∈l,eZ m c n=true∧g=(bH m c).2.2.1.getD n.toNat 0:=by
 simp only[oR,List.mem_map,List.mem_filter] at h
 obtain⟨c,⟨h1,h2⟩,rfl⟩:=h
 unfold dK at h2⊢
 cases hs:eZ m c n <;> simp only[hs,cond_true,cond_false] at h2⊢
 ·cases h2
 ·exact⟨c,h1,hs,rfl⟩
theorem aDZ {m:Im} (h:jQ m=true):sP m=true:=by
 simp only[jQ,Bool.and_eq_true] at h
 obtain⟨-,hc,hm,-⟩:=h
 simp only[sP,List.all_eq_true]
 intro f hf g hg
 obtain⟨h0,h1⟩:=cX.1 hf
 have hmth:=List.all_eq_true.1 hm _ (jP h0 h1)
 simp only[cJ,Bool.and_eq_true] at hmth
 have hins:=hmth.2.2.2.2.2.2
 simp only[aBE,List.mem_flatten,List.mem_map] at hg
 obtain⟨l,⟨i,hi,rfl⟩,hg⟩:=hg
 have hiB:=List.all_eq_true.1 hins i hi
 unfold aT at hg
 cases h31:i.1==31 <;> simp only[h31,cond_true,cond_false] at hg
 ·cases h32:i.1==32 <;> simp only[h32,cond_true,cond_false] at hg
  ·cases hg
  ·obtain⟨c,hcl,hs,rfl⟩:=aLx hg
   simp only[eZ,Bool.and_eq_true,decide_eq_true_eq] at hs
   obtain⟨⟨c0,c1⟩,n0,n1⟩:=hs
   have hk:i.2.2.1.toNat<(bH m c).2.2.1.length:=by omega
   have hget:(bH m c).2.2.1[i.2.2.1.toNat]? =some ((bH m c).2.2.1.getD i.2.2.1.toNat 0):=by
    rw[List.getD_eq_getElem?_getD,List.getElem?_eq_getElem hk];rfl
   have:=(nY (mU hc c0 c1) hget).1
   exact aP.2 this
 ·rw[List.mem_singleton] at hg
  subst hg
  have e:i.1=31:=by simpa using h31
  unfold bI at hiB
  rw[e] at hiB
  have:sin i.2.1 (m.2.2.2.1.length:Int)=true:=hiB
  exact this
theorem dB (m:Im):(aG m).length=m.2.2.2.1.length:=by
 unfold aG;rw[List.length_map,dG]
end Go.Pli

namespace Go.Pli
open Go Go.PM
theorem xX {σ R:Type} {L:σ→(σ→Option R)→Option R} {n:Nat} {st:Nat→σ} {r:Option R}
  (h1:∀k rec,k<n→L (st k) rec=rec (st (k+1))) (h2:∀rec,L (st n) rec=r):∀F,n<F→aA L F (st 0)=r:=by
 have key:∀(j k F:Nat),k+j=n→j<F→aA L F (st k)=r:=by
  intro j
  induction j with
  | zero=>
   intro k F hk hF
   obtain⟨F,rfl⟩:∃n,F=n+1:=⟨F - 1,by omega⟩
   have:k=n:=by omega
   subst this
   rw[aD,h2]
  | succ j ih=>
   intro k F hk hF
   obtain⟨F,rfl⟩:∃n,F=n+1:=⟨F - 1,by omega⟩
   rw[aD,h1 k _ (by omega)]
   exact ih (k+1) F (by omega) (by omega)
 exact fun F hF=>key n 0 F (by omega) hF
theorem aAV (n:Nat) (f:Nat→Nat→Bool):(fT n f).length=n:=by simp[fT]
theorem oD {n i:Nat} (h:i<n) (f:Nat→Nat→Bool):(fT n f).getD i []=(List.range n).map fun j=>f i j:=by simp[fT,h]
theorem qL {n j:Nat} (h:j<n) (f:Nat→Bool):((List.range n).map f).getD j false=f j:=by simp[h]
theorem aJe (n:Nat) (f:Nat→Bool):((List.range n).map f).length=n:=by simp
theorem aJl {n j:Nat} (f:Nat→Bool) (v:Bool):((List.range n).map f).set j v=(List.range n).map fun b=>if b=j then v else f b:=by
 apply List.ext_getElem (by simp)
 intro b h1 h2
 have hb:b<n:=by simpa using h2
 rw[List.getElem_set]
 by_cases hj:j=b
 ·subst hj;simp
 ·simp[hj,Ne.symm hj]
theorem aG2 {n i:Nat} (f:Nat→List Bool) (v:List Bool):((List.range n).map f).set i v=(List.range n).map fun a=>if a=i then v else f a:=by
 apply List.ext_getElem (by simp)
 intro b h1 h2
 have hb:b<n:=by simpa using h2
 rw[List.getElem_set]
 by_cases hj:i=b
 ·subst hj;simp
 ·simp[hj,Ne.symm hj]
theorem aSM {n i j:Nat} (hi:i<n) (f:Nat→Nat→Bool) (v:Bool):(fT n f).set i (((fT n f).getD i []).set j v)=fT n fun a b=>if a=i∧b=j then v else f a b:=by
 rw[oD hi,aJl]
 unfold fT
 rw[aG2]
 apply List.map_congr_left
 intro a _
 by_cases ha:a=i
 ·subst ha
  rw[if_pos rfl]
  apply List.map_congr_left
  intro b _
  by_cases hb:b=j <;> simp[hb]
 ·rw[if_neg ha]
  apply List.map_congr_left
  intro b _
  simp[ha]
theorem zI {n:Nat} {f g:Nat→Nat→Bool} (h:∀a,a<n→∀b,b<n→f a b=g a b):fT n f=fT n g:=by
 unfold fT
 apply List.map_congr_left
 intro a ha
 apply List.map_congr_left
 intro b hb
 exact h a (List.mem_range.1 ha) b (List.mem_range.1 hb)
theorem aMd (l:List (List Int)) (k i:Nat):cT l (k+1) i k=cT l k i k:=by
 simp only[cT]
 cases cT l k i k <;> simp
theorem aLZ (l:List (List Int)) (k j:Nat):cT l (k+1) k j=cT l k k j:=by
 simp only[cT]
 cases cT l k k j <;> simp
def kR (l:List (List Int)) (k i j:Nat) (a b:Nat):Bool:=if a<i∨(a=i∧b<j) then cT l (k+1) a b else cT l k a b
theorem aT3 (l:List (List Int)) (k i j a:Nat):kR l k i j a k=cT l k a k:=by
 unfold kR
 split
 ·exact aMd l k a
 ·rfl
theorem aTV (l:List (List Int)) (k i j b:Nat):kR l k i j k b=cT l k k b:=by
 unfold kR
 split
 ·exact aLZ l k b
 ·rfl
theorem aU2 (l:List (List Int)) (k i j:Nat):kR l k i j i j=cT l k i j:=by
 unfold kR
 rw[if_neg (by omega)]
theorem aRx (l:List (List Int)) (k i j:Nat):(fun a b=>if a=i∧b=j then cT l (k+1) i j else kR l k i j a b)=kR l k i (j+1):=by
 funext a b
 unfold kR
 by_cases h:a=i∧b=j
 ·obtain⟨rfl,rfl⟩:=h
  rw[if_pos ⟨rfl,rfl⟩,if_pos (.inr ⟨rfl,by omega⟩)]
 ·rw[if_neg h]
  by_cases h2:a<i∨(a=i∧b<j)
  ·rw[if_pos h2,if_pos (by omega)]
  ·rw[if_neg h2,if_neg (by omega)]
theorem aSn {l:List (List Int)} (hl:l.length≤1000) {k:Nat} (hk:k<l.length) {rec6:(Int×List (List Bool)×Unit)→Option (List (List Bool)×Unit)} {x:List (List Bool)}:
  aA (aAr l 2000 ((k:Int),x,()) rec6) 2000 ((0:Int),fT l.length (cT l k),())=rec6 (((k+1:Nat):Int),fT l.length (cT l (k+1)),()):=by
 have h0:fT l.length (cT l k)=fT l.length (kR l k 0 0):=zI fun a _ b _=>by unfold kR;rw[if_neg (by omega)]
 rw[h0]
 refine xX (n:=l.length) (st:=fun i=>((i:Int),fT l.length (kR l k i 0),())) (fun i rec hi=>?_) (fun rec=>?_) 2000 (by omega)
 ·rw[aAr]
  simp only[dlt hi,cond_true]
  refine (xX (n:=l.length) (st:=fun j=>((j:Int),fT l.length (kR l k i j),())) (fun j rec2 hj=>?_) (fun rec2=>?_) 2000 (by omega))
  ·rw[aEj]
   simp only[aAV,oD hi,oD hk,aJe,qL hj,qL hk,dlt hj,dlt hi,dlt hk,dge,Bool.and_self,cond_true,Int.toNat_natCast,aU2,aT3,aTV,aN hj (show _≤lenMax by simp only[lenMax];omega)]
   have fin:∀v,v=cT l (k+1) i j→rec2 (((j+1:Nat):Int),(fT l.length (kR l k i j)).set i (((List.range l.length).map fun b=>kR l k i j i b).set j v),())=rec2 (((j+1:Nat):Int),fT l.length (kR l k i (j+1)),()):=fun v hv=>by
    subst hv
    rw[←oD hi (kR l k i j),aSM hi,aRx]
   cases h1:cT l k i j <;> simp only[cond_true,cond_false]
   ·cases h2:cT l k i k <;> simp only[cond_true,cond_false]
    ·exact fin _ (by simp[cT,h1,h2])
    ·exact fin _ (by simp[cT,h1,h2])
   ·exact fin _ (by simp[cT,h1])
  ·rw[aEj]
   simp only[bB,cond_false,aN hi (show _≤lenMax by simp only[lenMax];omega)]
   congr 2
   refine congrArg (fun q=>(q,())) (zI fun a ha b hb=>?_)
   unfold kR
   by_cases h1:a<i∨(a=i∧b<l.length)
   ·rw[if_pos h1,if_pos (by omega)]
   ·rw[if_neg h1,if_neg (by omega)]
 ·rw[aAr]
  simp only[bB,cond_false,aN hk (show _≤lenMax by simp only[lenMax];omega)]
  congr 2
  refine congrArg (fun q=>(q,())) (zI fun a ha b hb=>?_)
  unfold kR
  rw[if_pos (.inl ha)]
theorem aPj {l:List (List Int)} (hl:l.length≤1000):aA (zY l 2000) 2000 ((0:Int),fT l.length (cT l 0),())=some (fT l.length (cT l l.length),()):=by
 refine xX (n:=l.length) (st:=fun k=>((k:Int),fT l.length (cT l k),())) (fun k rec hk=>?_) (fun rec=>?_) 2000 (by omega)
 ·rw[zY]
  simp only[dlt hk,cond_true]
  exact aSn hl hk
 ·rw[zY]
  simp only[bB,cond_false]
def zH (l:List (List Int)) (n i p b:Nat):Bool:=(((l.getD i []).take p).contains (b:Int))&&decide (b<n)
def hC (l:List (List Int)) (n i:Nat) (v:List Bool):List (List Bool):=(List.range n).map fun a=>if a<i then (List.range n).map fun b=>vP l a b else if a=i then v else[]
theorem aHq (l:List (List Int)) (n i:Nat) (v:List Bool):(hC l n i v).length=n:=by simp[hC]
theorem aQ0 (l:List (List Int)) {n i:Nat} (hi:i<n) (v:List Bool):(hC l n i v).getD i []=v:=by simp[hC,hi]
theorem aG5 (l:List (List Int)) {n i:Nat} (v w:List Bool):(hC l n i v).set i w=hC l n i w:=by
 unfold hC
 rw[aG2]
 apply List.map_congr_left
 intro a _
 by_cases ha:a=i
 ·subst ha;simp
 ·simp[ha]
theorem aNW {l:List (List Int)} (hl:l.length≤1000) (hr:∀r∈l,r.length≤1000) {i:Nat} (hi:i<l.length) {x:List (List Bool)} {rec2:(Int×List (List Bool)×Unit)→Option (List (List Bool)×Unit)}:
  aA (aAU l ((i:Int),x,()) rec2) 2000 ((0:Int),hC l l.length i (List.replicate l.length false),())=rec2 (((i+1:Nat):Int),hC l l.length (i+1) [],()):=by
 have hri:(l.getD i []).length≤1000:=hr _ (by rw[List.getD_eq_getElem?_getD,List.getElem?_eq_getElem hi];exact List.getElem_mem hi)
 have h0:hC l l.length i (List.replicate l.length false)=hC l l.length i ((List.range l.length).map (zH l l.length i 0)):=by
  congr 1
  apply List.ext_getElem (by simp)
  intro a h1 h2
  simp[zH]
 rw[h0]
 refine xX (n:=(l.getD i []).length) (st:=fun p=>((p:Int),hC l l.length i ((List.range l.length).map (zH l l.length i p)),())) (fun p rec hp=>?_) (fun rec=>?_) 2000 (by omega)
 ·have hget:(l.getD i []).getD p 0=(l.getD i [])[p]:=by rw[List.getD_eq_getElem?_getD,List.getElem?_eq_getElem hp];rfl
  rw[aAU]
  simp only[dlt hi,dlt hp,dge,Bool.and_self,cond_true,Int.toNat_natCast,aHq,aQ0 l hi,aJe,aN hp (show _≤lenMax by simp only[lenMax];omega)]
  have hnext:∀b,b<l.length→zH l l.length i (p+1) b=(zH l l.length i p b || ((l.getD i []).getD p 0==(b:Int))):=fun b hb=>by
   unfold zH
   rw[List.take_succ_eq_append_getElem hp,hget,List.contains_eq_any_beq,List.contains_eq_any_beq,List.any_append]
   simp only[List.any_cons,List.any_nil,Bool.or_false,decide_eq_true hb,Bool.and_true]
   rw[show ((b:Int)==(l.getD i [])[p])=((l.getD i [])[p]==(b:Int)) from BEq.comm]
  by_cases h1:(l.getD i []).getD p 0≥0
  ·rw[decide_eq_true h1]
   simp only[cond_true]
   by_cases h2:(l.getD i []).getD p 0<(l.length:Int)
   ·rw[decide_eq_true h2]
    simp only[Bool.and_self,cond_true]
    rw[aJl,aG5]
    congr 3
    congr 1
    apply List.map_congr_left
    intro b hb
    have hb:=List.mem_range.1 hb
    rw[hnext b hb]
    by_cases hbt:b=((l.getD i []).getD p 0).toNat
    ·rw[if_pos hbt]
     have:(l.getD i []).getD p 0=(b:Int):=by omega
     rw[this];simp
    ·rw[if_neg hbt]
     have:((l.getD i []).getD p 0==(b:Int))=false:=by
      have:¬(l.getD i []).getD p 0=(b:Int):=by omega
      simpa using this
     rw[this,Bool.or_false]
   ·rw[decide_eq_false h2]
    simp only[cond_false]
    congr 3
    congr 1
    apply List.map_congr_left
    intro b hb
    have hb:=List.mem_range.1 hb
    rw[hnext b hb]
    have:((l.getD i []).getD p 0==(b:Int))=false:=by
     have:¬(l.getD i []).getD p 0=(b:Int):=by omega
     simpa using this
    rw[this,Bool.or_false]
  ·rw[decide_eq_false h1]
   simp only[cond_false]
   congr 3
   congr 1
   apply List.map_congr_left
   intro b hb
   have hb:=List.mem_range.1 hb
   rw[hnext b hb]
   have:((l.getD i []).getD p 0==(b:Int))=false:=by
    have:¬(l.getD i []).getD p 0=(b:Int):=by omega
    simpa using this
   rw[this,Bool.or_false]
 ·rw[aAU]
  simp only[dlt hi,dge,Bool.and_self,cond_true,Int.toNat_natCast,bB,cond_false,aN hi (show _≤lenMax by simp only[lenMax];omega)]
  congr 2
  refine congrArg (fun q=>(q,())) ?_
  unfold hC
  apply List.map_congr_left
  intro a ha
  have ha:=List.mem_range.1 ha
  by_cases h1:a<i
  ·rw[if_pos h1,if_pos (by omega)]
  ·rw[if_neg h1]
   by_cases h2:a=i
   ·subst h2
    rw[if_pos rfl,if_pos (by omega)]
    apply List.map_congr_left
    intro b hb
    have hb:=List.mem_range.1 hb
    unfold zH vP
    rw[List.take_length,decide_eq_true hb,Bool.and_true]
   ·rw[if_neg h2,if_neg (by omega)]
    by_cases h3:a=i+1
    ·rw[if_pos h3]
    ·rw[if_neg h3]
theorem aOy (l:List (List Int)) (r) (h:yZ l=some r):∃k,aLI k l=some r:=by
 unfold yZ at h
 cases hs:rR l <;> simp only[hs,cond_true,cond_false] at h
 ·cases h
 injection h with h
 subst h
 simp only[rR,Bool.and_eq_true,List.all_eq_true] at hs
 have hl:l.length≤1000:=Nat.le_of_ble_eq_true hs.1
 have hr:∀r∈l,r.length≤1000:=fun r hr=>Nat.le_of_ble_eq_true (hs.2 r hr)
 refine⟨2000,?_⟩
 unfold aLI
 have hrm:decide ((l.length:Int)<(rowMax:Int))=true:=decide_eq_true (by simp only[rowMax];omega)
 have hle:decide ((l.length:Int)≤(l.length:Int))=true:=decide_eq_true (Int.le_refl _)
 have hz:decide ((0:Int)≤(l.length:Int))=true:=decide_eq_true (by omega)
 simp only[hrm,hle,hz,Bool.and_self,cond_true]
 have h0:(List.replicate l.length ([]:List Bool))=hC l l.length 0 []:=by
  apply List.ext_getElem (by simp[hC])
  intro a h1 h2
  simp[hC]
 rw[h0]
 refine xX (n:=l.length) (st:=fun i=>((i:Int),hC l l.length i [],())) (fun i rec hi=>?_) (fun rec=>?_) 2000 (by omega)
 ·rw[aEf]
  simp only[dlt hi,dge,hrm,hle,hz,Bool.and_self,cond_true,aHq,Int.toNat_natCast,aG5]
  exact aNW hl hr hi
 ·rw[aEf]
  simp only[bB,cond_false]
  have h1:hC l l.length l.length []=fT l.length (cT l 0):=by
   unfold hC fT
   apply List.map_congr_left
   intro a ha
   rw[if_pos (List.mem_range.1 ha)]
   rfl
  rw[h1]
  exact aPj hl
theorem wC (l:List (List Int)):∀(k i j m:Nat),m<k→cT l k i m=true→cT l k m j=true→cT l k i j=true
 | 0,_,_,_,h,_,_=>by omega
 | k+1,i,j,m,hm,h1,h2=>by
  have ih:=wC l k
  by_cases hmk:m=k
  ·subst hmk
   rw[aMd] at h1
   rw[aLZ] at h2
   simp only[cT,Bool.or_eq_true,Bool.and_eq_true]
   exact .inr ⟨h1,h2⟩
  ·have hm':m<k:=by omega
   simp only[cT,Bool.or_eq_true,Bool.and_eq_true] at h1 h2⊢
   rcases h1 with h1 | ⟨h1,h1'⟩ <;> rcases h2 with h2 | ⟨h2,h2'⟩
   ·exact .inl (ih i j m hm' h1 h2)
   ·exact .inr ⟨ih i k m hm' h1 h2,h2'⟩
   ·exact .inr ⟨h1,ih k j m hm' h1' h2⟩
   ·exact .inr ⟨h1,h2'⟩
theorem aAg (l:List (List Int)):∀(k:Nat) {i j:Nat},vP l i j=true→cT l k i j=true
 | 0,_,_,h=>h
 | k+1,_,_,h=>by simp only[cT,Bool.or_eq_true];exact .inl (aAg l k h)
end Go.Pli

namespace Go.Pli
open Go Go.PM
theorem aLv {m:Im} (hi:bC m=true):rR (aG m)=true:=by
 have h12:=(bE hi).methods
 simp only[rR,Bool.and_eq_true,List.all_eq_true]
 refine⟨Nat.ble_eq_true_of_le (by rw[dB];omega),fun r hr=>Nat.ble_eq_true_of_le ?_⟩
 simp only[aG,List.mem_map] at hr
 obtain⟨f,-,rfl⟩:=hr
 have:=List.length_filter_le (fun g=>gX m f g) (ints m.2.2.2.1.length)
 rw[dG] at this
 omega
end Go.Pli

namespace Go.Pli
open Go Go.PM
theorem aNd (m:Im) (l:List (List Sh)) (f:Int) (r) (h:tP m l f=some r):∃k,aIw k m l f=some r:=by
 unfold tP at h
 cases hg:aF m&&eS l <;> rw[hg] at h <;> simp only[cond_true,cond_false] at h
 ·cases h
 have:=Option.some.inj h
 subst this
 simp only[Bool.and_eq_true] at hg
 obtain⟨hs,hb⟩:=hg
 refine⟨1000001,?_⟩
 unfold aIw rH
 by_cases h0:f<0
 ·have:inM m f=false:=by cases hh:inM m f;rfl;have:=aP.1 hh;omega
  rw[this,decide_eq_true h0];rfl
 by_cases h1:f≥(m.2.2.2.1.length:Int)
 ·have:inM m f=false:=by cases hh:inM m f;rfl;have:=aP.1 hh;omega
  rw[this,decide_eq_false h0,decide_eq_true h1];rfl
 have hf:inM m f=true:=aP.2 ⟨by omega,by omega⟩
 have f0:0≤f:=by omega
 have f1:f<(m.2.2.2.1.length:Int):=by omega
 have key:aA (lQ l f) 1000001 ((0:Int),((0:Int),()))=some (.inl (tC l f,())):=by
  unfold tC sin
  by_cases hl:f<(l.length:Int)
  ·obtain⟨hlr,-⟩:=vJ hb (n:=f.toNat) (by omega)
   simp only[f0,hl,decide_true,Bool.and_self,cond_true]
   have q:∀(hh:List Sh),l.getD f.toNat []=hh→hh.length<1000000→aA (lQ l f) 1000001 ((0:Int),((0:Int),()))=some (.inl (iT (hh.map fun s=>(s.2.1.length:Int)),())):=fun hh hhe hhl=>by
    have:=fJ (L:=lQ l f) (n:=hh.length) (st:=fun k=>(iT ((hh.map fun s=>(s.2.1.length:Int)).take k),(k:Int),())) (fin:=some (.inl (iT (hh.map fun s=>(s.2.1.length:Int)),())))
     (fun k rec hk=>by
      have hx:(hh.map fun s=>(s.2.1.length:Int))[k]? =some (((hh.getD k zSh).2.1.length:Nat):Int):=by simp[hk]
      have hmx:=aHB (hh.map fun s=>(s.2.1.length:Int)) hx
      rw[lQ]
      simp only[f0,hl,hhe,dlt hk,dge,decide_true,Bool.and_self,cond_true,Int.toNat_natCast,aN hk (show _≤lenMax by simp only[lenMax];omega)]
      rw[hmx]
      by_cases hgt:(((hh.getD k zSh).2.1.length:Nat):Int)>iT ((hh.map fun s=>(s.2.1.length:Int)).take k)
      ·rw[decide_eq_true hgt,Int.max_eq_right (by omega)];rfl
      ·rw[decide_eq_false hgt,Int.max_eq_left (by omega)];rfl)
     (fun rec=>by
      rw[lQ]
      simp only[f0,hl,hhe,bB,decide_true,Bool.and_self,cond_true,cond_false]
      rw[List.take_of_length_le (by simp)]) 1000001 (by omega)
    exact this
   exact q _ rfl hlr
  ·simp only[hl,decide_false,Bool.and_false,cond_false]
   rw[aD,lQ]
   simp only[hl,decide_false,cond_false]
 have hd:=aDB hb f
 have hloc:=iE hs hf
 have fold:∀g:Int,m.2.2.2.1.getD g.toNat zMt=aC m g:=fun _=>rfl
 rw[key,hf]
 simp only[h0,h1,f0,f1,fold,decide_true,decide_false,Bool.and_self,cond_true,cond_false,Option.bind_some]
 rw[cD (n:=(3:Int)+_) (by omega) (by omega),cD (n:=(3:Int)+((aC m f).1.length:Int)+_) (by omega) (by omega),cD (by omega) (by omega)]
 simp
theorem aJv (W:Nat→Nat→Bool) (out:List Int) (g:Int):∀(a b:List Int) (x:Int),oA W out g (a++b) x=oA W out g b (oA W out g a x)
 | [],_,_=>rfl
 | _::a,b,_=>by rw[List.cons_append,oA,oA,aJv W out g a b]
theorem aEo (m:Im) (l:List (List Sh)) (W:Nat→Nat→Bool) (f:Int) (out:List Int):∀(p q:List Int) (a b:Int),mZ m l W f out (p++q) a b=mZ m l W f out q (mZ m l W f out p a b).1 (mZ m l W f out p a b).2
 | [],_,_,_=>rfl
 | g::p,q,a,b=>by
  rw[List.cons_append,mZ,mZ]
  cases g !=f&& !(W f.toNat g.toNat&&W g.toNat f.toNat) <;> simp only[cond_true,cond_false]
  ·exact aEo m l W f out p q _ _
  ·exact aEo m l W f out p q _ _
theorem aFb (m:Im) (l:List (List Sh)) (W:Nat→Nat→Bool):∀(p q out:List Int),eG m l W (p++q) out=eG m l W q (eG m l W p out)
 | [],_,_=>rfl
 | f::p,q,out=>by rw[List.cons_append,eG,eG,aFb m l W p q]
theorem aAk (m:Im) (l:List (List Sh)) (W:Nat→Nat→Bool):∀(p out:List Int),(eG m l W p out).length=out.length
 | [],_=>rfl
 | f::p,out=>by rw[eG,aAk m l W p,List.length_set]
theorem aAH (m:Im) (l:List (List Sh)) (W:Nat→Nat→Bool):∀(k:Nat) (out:List Int),mO m l W (k+1) out=eG m l W (ints m.2.2.2.1.length) (mO m l W k out)
 | 0,_=>rfl
 | k+1,out=>by
  show mO m l W (k+1) (eG m l W (ints m.2.2.2.1.length) out)=_
  rw[aAH m l W k]
  rfl
theorem aBv (m:Im) (l:List (List Sh)) (W:Nat→Nat→Bool):∀(k:Nat) (out:List Int),(mO m l W k out).length=out.length
 | 0,_=>rfl
 | k+1,out=>by rw[aAH,aAk,aBv m l W k]
theorem aGY {n k:Nat} (h:k<n):(ints n).take (k+1)=(ints n).take k++[(k:Int)]:=by
 rw[List.take_add_one]
 congr 1
 simp[ints,h]
theorem aPl {m:Im} {g:Nat} (hg:g<m.2.2.2.1.length):((aG m).getD g []).length≤m.2.2.2.1.length∧∀to∈(aG m).getD g [],0≤to∧to<(m.2.2.2.1.length:Int):=by
 have hk:g<(aG m).length:=by rw[dB];exact hg
 have hm:(aG m).getD g []∈aG m:=by rw[getD_some (List.getElem?_eq_getElem hk)];exact List.getElem_mem hk
 generalize (aG m).getD g []=e at hm
 unfold aG at hm
 obtain⟨f,-,rfl⟩:=List.mem_map.1 hm
 constructor
 ·have:=List.length_filter_le (fun g=>gX m f g) (ints m.2.2.2.1.length)
  rwa [dG] at this
 ·exact fun to ht=>cX.1 (List.mem_filter.1 ht).1
section
variable {m:Im} {l:List (List Sh)}
abbrev xM (m:Im):List (List Bool)×Unit:=(fT m.2.2.2.1.length (bP m),())
theorem aLk (h12:m.2.2.2.1.length≤12) {s7:Int×List Int×Unit} (hout:s7.2.1.length=m.2.2.2.1.length) {s9:Int×Int×Int×Unit} {g:Nat} (hg9:s9.2.2.1=(g:Int)) (hg:g<m.2.2.2.1.length) (s15:Int×Unit) (r17:Int×Unit) {F:Nat} (hF:100<F):
  aA (rK (aG m,()) (xM m) s7 s9 s15 r17) F (s9.2.1,((0:Int),()))=some (.inl (IntKind.i64.wrap (s9.1+IntKind.i64.wrap (s15.1*r17.1)),oA (bP m) s7.2.1 (g:Int) ((aG m).getD g []) s9.2.1,())):=by
 obtain⟨hel,hei⟩:=aPl hg
 have hge:(g:Int)<((aG m).length:Int):=by rw[dB];omega
 have hgg:decide ((g:Int)<((aG m).length:Int))=true:=decide_eq_true hge
 generalize hE:(aG m).getD g []=E at hel hei
 exact fJ (L:=rK (aG m,()) (xM m) s7 s9 s15 r17) (n:=E.length) (st:=fun k=>(oA (bP m) s7.2.1 (g:Int) (E.take k) s9.2.1,(k:Int),())) (fin:=some (.inl (IntKind.i64.wrap (s9.1+IntKind.i64.wrap (s15.1*r17.1)),oA (bP m) s7.2.1 (g:Int) E s9.2.1,())))
  (fun k rec hk=>by
   have hx:E[k]? =some E[k]:=List.getElem?_eq_getElem hk
   obtain⟨t0,t1⟩:=hei _ (List.getElem_mem hk)
   have htn:E[k].toNat<m.2.2.2.1.length:=by omega
   have ht2:decide (E[k]<((fT m.2.2.2.1.length (bP m)).length:Int))=true:=decide_eq_true (by rw[aAV];exact t1)
   have ht3:decide (E[k]<(s7.2.1.length:Int))=true:=decide_eq_true (by rw[hout];exact t1)
   have hrow:=oD htn (bP m)
   have hgl:decide ((g:Int)<(((List.range m.2.2.2.1.length).map fun j=>bP m E[k].toNat j).length:Int))=true:=decide_eq_true (by simp;omega)
   have hst:E.take (k+1)=E.take k++[E[k]]:=by rw[List.take_add_one,hx];rfl
   rw[rK]
   simp only[hg9,hgg,hE,dge,dlt hk,Bool.and_self,cond_true,Int.toNat_natCast,getD_some hx,t0,decide_true,ht2,ht3,hrow,hgl,qL hg,aN hk (show _≤lenMax by simp only[lenMax];omega)]
   rw[hst,aJv]
   simp only[oA,Int.toNat_natCast]
   cases bP m E[k].toNat g <;> simp only[Bool.not_true,Bool.not_false,Bool.true_and,Bool.false_and,cond_true,cond_false]
   cases decide (s7.2.1.getD E[k].toNat 0>oA (bP m) s7.2.1 (g:Int) (E.take k) s9.2.1) <;> simp only[cond_true,cond_false])
  (fun rec=>by
   rw[rK]
   simp only[hg9,hgg,hE,dge,bB,Bool.and_self,cond_true,cond_false,Int.toNat_natCast,List.take_length]) F (by omega)
theorem aNP (hs:aF m=true) (hl:eS l=true) {fuel:Nat} (hfu:100<fuel) {s7:Int×List Int×Unit} (hout:s7.2.1.length=m.2.2.2.1.length) {f:Nat} (hf7:s7.1=(f:Int)) (hf:f<m.2.2.2.1.length) (rec8) {F:Nat} (hF:100<F):
  aA (sA m l fuel (aG m,()) (xM m) s7 rec8) F ((0:Int),((0:Int),((0:Int),())))=rec8 (((f+1:Nat):Int),s7.2.1.set f (nR m l (bP m) s7.2.1 (f:Int)),()):=by
 have h12:=(bE (aV hs).1).methods
 have hfr:∀g:Int,tP m l g=some (rH m l g,()):=fun g=>by unfold tP;rw[hs,hl];rfl
 have hfo:decide ((f:Int)<(s7.2.1.length:Int))=true:=decide_eq_true (by rw[hout];omega)
 have hlenI:=dG m.2.2.2.1.length
 have hrow:=fun {i} (h:i<m.2.2.2.1.length)=>oD h (bP m)
 have fold:∀g:Nat,m.2.2.2.1.getD g zMt=aC m (g:Int):=fun g=>by unfold aC;rw[Int.toNat_natCast]
 exact fJ (L:=sA m l fuel (aG m,()) (xM m) s7 rec8) (n:=m.2.2.2.1.length)
  (st:=fun k=>((mZ m l (bP m) (f:Int) s7.2.1 ((ints m.2.2.2.1.length).take k) 0 0).1,(mZ m l (bP m) (f:Int) s7.2.1 ((ints m.2.2.2.1.length).take k) 0 0).2,(k:Int),()))
  (fun g rec hg=>by
   have hstep:=aGY hg
   have hgl:∀i,decide ((g:Int)<(((List.range m.2.2.2.1.length).map fun j=>bP m i j).length:Int))=true:=fun i=>decide_eq_true (by simp;omega)
   have hfl:∀i,decide ((f:Int)<(((List.range m.2.2.2.1.length).map fun j=>bP m i j).length:Int))=true:=fun i=>decide_eq_true (by simp;omega)
   have hw:=aN hg (show _≤lenMax by simp only[lenMax];omega)
   rw[hstep,aEo]
   generalize mZ m l (bP m) (f:Int) s7.2.1 ((ints m.2.2.2.1.length).take g) 0 0=S
   have hedge:=fun (s15:Int×Unit) (r17:Int×Unit)=>aLk (m:=m) h12 hout (s9:=(S.1,S.2,(g:Int),())) rfl hg s15 r17 hfu
   simp only at hedge
   rw[sA]
   simp only[hf7,dlt hg,dlt hf,dge,Bool.and_self,cond_true,Int.toNat_natCast,aAV,hrow hg,hrow hf,hgl,hfl,qL hg,qL hf,hfr,hedge,hw,fold,Option.bind_some]
   simp only[mZ,Int.toNat_natCast]
   cases hne:(g:Int) !=(f:Int) <;> simp only[Bool.true_and,Bool.false_and,cond_true,cond_false,Option.bind_some]
   ·cases bP m g g <;> simp only[cond_true,cond_false,Option.bind_some]
   ·cases bP m f g <;> simp only[Bool.true_and,Bool.false_and,Bool.not_true,Bool.not_false,cond_true,cond_false,Option.bind_some]
    cases bP m g f <;> simp only[Bool.not_true,Bool.not_false,cond_true,cond_false,Option.bind_some]
    cases bP m g g <;> simp only[cond_true,cond_false,Option.bind_some])
  (fun rec=>by
   rw[List.take_of_length_le (by omega)]
   rw[sA]
   simp only[hf7,bB,hfo,dge,Bool.and_self,cond_true,cond_false,Int.toNat_natCast,aN hf (show _≤lenMax by simp only[lenMax];omega)]
   rfl) F (by omega)
theorem aKP (hs:aF m=true) (hl:eS l=true) {fuel:Nat} (hfu:100<fuel) {s5:Int×List Int×Unit} (hout:s5.2.1.length=m.2.2.2.1.length) {i:Nat} (hi5:s5.1=(i:Int)) (hi:i<m.2.2.2.1.length) (rec6) {F:Nat} (hF:100<F):
  aA (rX m l fuel (aG m,()) (xM m) s5 rec6) F ((0:Int),s5.2.1,())=rec6 (((i+1:Nat):Int),eG m l (bP m) (ints m.2.2.2.1.length) s5.2.1,()):=by
 have h12:=(bE (aV hs).1).methods
 have hlenI:=dG m.2.2.2.1.length
 exact fJ (L:=rX m l fuel (aG m,()) (xM m) s5 rec6) (n:=m.2.2.2.1.length)
  (st:=fun k=>((k:Int),eG m l (bP m) ((ints m.2.2.2.1.length).take k) s5.2.1,()))
  (fun f rec hf=>by
   rw[aGY hf,aFb]
   have hol:(eG m l (bP m) ((ints m.2.2.2.1.length).take f) s5.2.1).length=m.2.2.2.1.length:=by rw[aAk,hout]
   generalize eG m l (bP m) ((ints m.2.2.2.1.length).take f) s5.2.1=out at hol
   rw[rX]
   simp only[dlt hf,cond_true]
   rw[aNP hs hl hfu (s7:=((f:Int),out,())) hol rfl hf rec hfu]
   simp only[eG,Int.toNat_natCast])
  (fun rec=>by
   rw[List.take_of_length_le (by omega),rX]
   simp only[bB,cond_false,hi5,aN hi (show _≤lenMax by simp only[lenMax];omega)]) F (by omega)
theorem aJj (hs:aF m=true) (hl:eS l=true) {fuel:Nat} (hfu:100<fuel) {F:Nat} (hF:100<F):
  aA (rS m l fuel (aG m,()) (xM m)) F ((0:Int),(List.replicate m.2.2.2.1.length (0:Int),()))=some (mO m l (bP m) m.2.2.2.1.length (List.replicate m.2.2.2.1.length 0),true,()):=by
 have h12:=(bE (aV hs).1).methods
 exact fJ (L:=rS m l fuel (aG m,()) (xM m)) (n:=m.2.2.2.1.length)
  (st:=fun k=>((k:Int),mO m l (bP m) k (List.replicate m.2.2.2.1.length 0),()))
  (fun i rec hi=>by
   rw[aAH]
   have hol:(mO m l (bP m) i (List.replicate m.2.2.2.1.length 0)).length=m.2.2.2.1.length:=by rw[aBv,List.length_replicate]
   generalize mO m l (bP m) i (List.replicate m.2.2.2.1.length 0)=out at hol
   rw[rS]
   simp only[dlt hi,cond_true]
   exact aKP hs hl hfu (s5:=((i:Int),out,())) hol rfl hi rec hfu)
  (fun rec=>by
   rw[rS]
   simp only[bB,cond_false]) F (by omega)
end
theorem aNe (m:Im) (l:List (List Sh)) (r) (h:mR m l=some r):∃k,aI3 k m l=some r:=by
 unfold mR at h
 cases hg:aF m&&(eS l&&(sP m&&rR (aG m))) <;> rw[hg] at h <;> simp only[cond_true,cond_false] at h
 ·cases h
 have:=Option.some.inj h
 subst this
 simp only[Bool.and_eq_true] at hg
 obtain⟨hs,hl,-,hsm⟩:=hg
 have hfi:=(aV hs).1
 have h12:=(bE hfi).methods
 have h1:qT m=some (aG m,()):=by unfold qT;rw[hfi];rfl
 have h2:yZ (aG m)=some (xM m):=by unfold yZ;rw[hsm,dB];rfl
 have fold:∀g:Nat,m.2.2.2.1.getD g zMt=aC m (g:Int):=fun g=>by unfold aC;rw[Int.toNat_natCast]
 refine⟨1001,?_⟩
 unfold aI3 lA
 rw[h1,Option.bind_some,h2,Option.bind_some]
 have hrm:decide ((m.2.2.2.1.length:Int)<(rowMax:Int))=true:=decide_eq_true (by simp only[rowMax];omega)
 have hle:decide ((m.2.2.2.1.length:Int)≤(m.2.2.2.1.length:Int))=true:=decide_eq_true (Int.le_refl _)
 have key:=dD (L:=wW m l 1001 (aG m,()) (xM m)) (xs:=ints m.2.2.2.1.length) (st:=fun k=>((k:Int),())) (p:=fun f=> !(bP m f.toNat f.toNat&&decide ((aC m f).2.2.2.2.1<1))) (ex:=some (([]:List Int),false,()))
  (fin:=some (mO m l (bP m) m.2.2.2.1.length (List.replicate m.2.2.2.1.length 0),true,()))
  (fun k x rec hk hlt=>by
   rw[dG] at hlt
   have hx:x=(k:Int):=by have:=aEl hlt 0;rw[getD_some hk] at this;exact this
   subst hx
   have hkl:decide ((k:Int)<(((List.range m.2.2.2.1.length).map fun j=>bP m k j).length:Int))=true:=decide_eq_true (by simp;omega)
   rw[wW]
   simp only[dlt hlt,dge,Bool.and_self,cond_true,Int.toNat_natCast,aAV,oD hlt,hkl,qL hlt,fold,aN hlt (show _≤lenMax by simp only[lenMax];omega)]
   cases bP m k k <;> simp only[Bool.true_and,Bool.false_and,Bool.not_false,cond_true,cond_false]
   cases decide ((aC m (k:Int)).2.2.2.2.1<1) <;> simp only[Bool.not_true,Bool.not_false,cond_true,cond_false])
  (fun rec=>by
   rw[dG,wW]
   simp only[bB,dge,hle,hrm,Bool.and_self,cond_true,cond_false]
   exact aJj hs hl (by omega) (by omega)) 1001 (by rw[dG];omega)
 rw[show ((0:Int),())=(((0:Nat):Int),()) from rfl,key]
 have e:((ints m.2.2.2.1.length).all fun f=> !(bP m f.toNat f.toNat&&decide ((aC m f).2.2.2.2.1<1)))= !fU m:=by
  unfold fU
  rw[←List.not_any_eq_all_not]
 rw[e]
 cases fU m <;> rfl
end Go.Pli
