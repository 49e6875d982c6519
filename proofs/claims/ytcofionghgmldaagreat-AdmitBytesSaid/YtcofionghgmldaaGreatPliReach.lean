/- Sorted rows of numbers, in plain Lean. -/
import Derived.Test.YtcofionghgmldaaGreatPliNt
import Derived.Test.YtcofionghgmldaaGreatPliL11
import Derived.Test.YtcofionghgmldaaGreatPliL5E
import Derived.KernelRfl
import Derived.Test.YtcofionghgmldaaGreatPliL14
namespace Go.Pli
open Go Go.PM
theorem aGK {x y:Int}:∀{l:List Int},y∈qF x l↔y=x∨y∈l
 | []=>by simp[qF]
 | z::l=>by
  simp only[qF];cases leI x z <;> simp only[aA,aB,cB,aGK (l:=l)];constructor
  ·rintro (h | h | h)
   ·exact .inr (.inl h)
   ·exact .inl h
   ·exact .inr (.inr h)
  ·rintro (h | h | h)
   ·exact .inr (.inl h)
   ·exact .inl h
   ·exact .inr (.inr h)
theorem aDK {y:Int}:∀{l:List Int},y∈gQ l↔y∈l
 | []=>Iff.rfl
 | x::l=>by simp only[gQ,aGK,cB,aDK (l:=l)]
theorem aLf (x:Int):∀l:List Int,(qF x l).Perm (x::l)
 | []=> .refl _
 | z::l=>by
  simp only[qF];cases leI x z <;> simp only[aA,aB]
  ·exact ((aLf x l).cons z).trans (.swap x z l)
  ·exact .refl _
theorem wB:∀l:List Int,(gQ l).Perm l
 | []=> .refl _
 | x::l=>(aLf x (gQ l)).trans ((wB l).cons x)
theorem aKa (x:Int):∀{l:List Int},l.Pairwise (·≤·)→(qF x l).Pairwise (·≤·)
 | [],_=>by simp[qF]
 | z::l,h=>by
  have h1:=lS.1 h;simp only[qF];cases hx:leI x z <;> simp only[aA,aB]
  ·have hz:z≤x:=by simp only[leI,uO] at hx;omega
   refine lS.2 ⟨fun y hy=>?_,aKa x h1.2⟩;rcases aGK.1 hy with rfl | hy
   ·exact hz
   ·exact h1.1 y hy
  ·have hz:x≤z:=by simpa[leI] using hx
   refine lS.2 ⟨fun y hy=>?_,h⟩;rcases cB.1 hy with rfl | hy
   ·exact hz
   ·exact Int.le_trans hz (h1.1 y hy)
theorem aCU:∀l:List Int,(gQ l).Pairwise (·≤·)
 | []=>List.Pairwise.nil
 | x::l=>aKa x (aCU l)
theorem aJ9:∀{a b:List Int},a.Pairwise (·≤·)→b.Pairwise (·≤·)→a.Perm b→a=b
 | [],b,_,_,h=>by rw[List.Perm.nil_eq h]
 | x::a,[],_,_,h=>by have:=h.length_eq;simp at this
 | x::a,y::b,ha,hb,h=>by
  have h1:=lS.1 ha;have h2:=lS.1 hb;have hxy:x=y:=by
   have hx:x∈y::b:=h.mem_iff.1 cF;have hy:y∈x::a:=h.mem_iff.2 cF;rcases cB.1 hx with hx | hx
   ·exact hx
   ·rcases cB.1 hy with hy | hy
    ·exact hy.symm
    ·exact Int.le_antisymm (h1.1 y hy) (h2.1 x hx)
  subst hxy;rw[aJ9 h1.2 h2.2 (List.Perm.cons_inv h)]
theorem aRb (l:List Int):(l.mergeSort fun x y=>decide (x≤y))=gQ l:=by
 refine aJ9 ?_ (aCU l) ((List.mergeSort_perm l _).trans (wB l).symm);have:=List.pairwise_mergeSort (le:=fun x y:Int=>decide (x≤y)) (by intro a b c;simp;omega) (by intro a b;simp;omega) l;exact this.imp (by intro a b h;simpa using h)
theorem aGL {y:Int}:∀{l:List Int},y∈eJ l↔y∈l
 | []=>Iff.rfl
 | a::l=>by
  have ih:=aGL (y:=y) (l:=l);simp only[eJ];split
  ·rename_i h;rw[h] at ih;simp only[List.not_mem_nil,false_iff] at ih;simp[ih]
  ·rename_i b r h;rw[h] at ih;cases hab:a==b <;> simp only[aA,aB]
   ·rw[cB,ih,cB]
   ·have:a=b:=by simpa using hab
    subst this;rw[ih,cB];constructor
    ·exact .inr
    ·rintro (h' | h')
     ·subst h';exact ih.1 cF
     ·exact h'
theorem aI7:∀{l:List Int},l.Pairwise (·≤·)→(eJ l).Pairwise (·<·)
 | [],_=>List.Pairwise.nil
 | a::l,h=>by
  have h1:=lS.1 h;have ih:=aI7 h1.2;simp only[eJ];split
  ·simp
  ·rename_i b r hc;rw[hc] at ih;have hmem:∀y,y∈b::r→y∈l:=fun y hy=>aGL.1 (by rw[hc];exact hy);cases hab:a==b <;> simp only[aA,aB]
   ·have hne:a≠b:=by simpa using hab
    have hle:=h1.1 b (hmem b cF);refine lS.2 ⟨fun y hy=>?_,ih⟩;rcases cB.1 hy with rfl | hy'
    ·omega
    ·have:=(lS.1 ih).1 y hy';omega
   ·exact ih
theorem aFr:∀{a b:List Int},a.Pairwise (·<·)→b.Pairwise (·<·)→(∀x,x∈a↔x∈b)→a=b
 | [],[],_,_,_=>rfl
 | [],y::b,_,_,h=>by have:=(h y).2 cF;simp at this
 | x::a,[],_,_,h=>by have:=(h x).1 cF;simp at this
 | x::a,y::b,ha,hb,h=>by
  have h1:=lS.1 ha;have h2:=lS.1 hb;have hxy:x=y:=by
   rcases cB.1 ((h x).1 cF) with hx | hx
   ·exact hx
   ·rcases cB.1 ((h y).2 cF) with hy | hy
    ·exact hy.symm
    ·have:=h1.1 y hy;have:=h2.1 x hx;omega
  subst hxy;rw[aFr h1.2 h2.2 fun z=>?_];constructor
  ·intro hz;rcases cB.1 ((h z).1 (bW _ hz)) with rfl | hz'
   ·have:=h1.1 z hz;omega
   ·exact hz'
  ·intro hz;rcases cB.1 ((h z).2 (bW _ hz)) with rfl | hz'
   ·have:=h2.1 z hz;omega
   ·exact hz'
theorem aI6 (n:Nat):(ints n).Pairwise (·<·):=by
 unfold ints;rw[List.pairwise_map];exact List.pairwise_lt_range.imp (by intro a b h;omega)
theorem aSm {l:List Int} (h:l.Pairwise (·≤·)) (hn:l.Nodup):l.Pairwise (·<·):=by
 induction l with
 | nil=>exact List.Pairwise.nil
 | cons x l ih=>
  have h1:=lS.1 h;have h2:=List.nodup_cons.1 hn;refine lS.2 ⟨fun y hy=>?_,ih h1.2 h2.2⟩;have:=h1.1 y hy;have:x≠y:=fun e=>h2.1 (by rw[e];exact hy);omega
theorem aRa {l:List Int} (hn:l.Nodup):(gQ l).Pairwise (·<·):=
 aSm (aCU l) ((wB l).nodup_iff.2 hn)
end Go.Pli

namespace Go.Pli
open Go Go.PM
theorem aGM {m:Im} {f g:Int}:g∈uX m f↔kF m f g=true:=by
 unfold uX kF;simp only[iY,gE,gP,vC];constructor
 ·rintro ⟨l,⟨i,hi,rfl⟩,hg⟩;exact⟨i,hi,hg⟩
 ·rintro ⟨i,hi,hg⟩;exact⟨_,⟨i,hi,rfl⟩,hg⟩
theorem aFg {m:Im} (h:rJ m=true) {f g:Int} (hf:inM m f=true) (hc:kF m f g=true):inM m g=true:=by
 simp only[rJ,bT] at h;exact h f (gH.2 (bR.1 hf)) g (aGM.2 hc)
theorem aLU {m:Im} {f g:Int} (hf:inM m f=true):g∈ofB m f↔kF m f g=true:=by
 unfold ofB;rw[hf];simp only[aA];rw[aGL,aDK,aGM]
theorem aUq {m:Im} (h:rJ m=true) {f:Int} (hf:inM m f=true):ofB m f=(ints m.2.2.2.1.length).filter fun g=>kF m f g:=by
 refine aFr ?_ ((aI6 _).filter _) fun x=>?_
 ·unfold ofB;rw[hf];exact aI7 (aCU _)
 ·rw[aLU hf,oD,gH];constructor
  ·intro hc;exact⟨bR.1 (aFg h hf hc),hc⟩
  ·exact fun hc=>hc.2
def Canon (m:Im) (S:List Int):Prop:=∃p:Int→Bool,S=(ints m.2.2.2.1.length).filter p
theorem Canon.inM {m:Im} {S:List Int} (h:Canon m S) {x:Int} (hx:x∈S):inM m x=true:=by
 obtain⟨p,rfl⟩:=h;exact bR.2 (gH.1 (oD.1 hx).1)
theorem Canon.len {m:Im} {S:List Int} (h:Canon m S):S.length≤m.2.2.2.1.length:=by
 obtain⟨p,rfl⟩:=h;have:=aAJ p (ints m.2.2.2.1.length)
 rwa [hY] at this
theorem bAw {m:Im} (hi:bI m=true) {f:Int} (hf:inM m f=true):(uX m f).length≤512:=by
 obtain⟨h0,h1⟩:=bR.1 hf;have hx:=(jW ((cH hi).mts _ (qB h0 h1))).2.2.2.1.1;unfold uX;have key:∀l:List Ins,((l.map (cT m)).flatten).length≤8*l.length:=by
  intro l
  induction l with
  | nil=>simp
  | cons i l ih=>
   have:=yA hi i;rw[dM,gO,aS,aJ];omega
 have:=key (aE m f).2.2.2.1;omega
theorem aZl (m:Im) (f:Int) (r) (h:cof m f=some r):∃k,aOp k m f=some r:=by
 unfold cof at h;cases hi:bI m <;> simp only[hi,aA,aB] at h
 ·cases h
 injection h with h
 subst h;refine⟨(aE m f).2.2.2.1.length+1,?_⟩;unfold aOp ofB;by_cases h0:f<0
 ·have:inM m f=false:=by cases hh:inM m f;rfl;have:=bR.1 hh;omega
  rw[this,aH h0];rfl
 ·by_cases h1:f≥(m.2.2.2.1.length:Int)
  ·have:inM m f=false:=by cases hh:inM m f;rfl;have:=bR.1 hh;omega
   rw[this,aT h0,aH h1];rfl
  ·have hf:inM m f=true:=bR.2 ⟨by omega,by omega⟩;have hd:m.2.2.2.1.getD f.toNat zMt=aE m f:=rfl;have hr:(decide (0≤f)&&decide (f<(m.2.2.2.1.length:Int)))=true:=by simp;omega
   have hx:=(jW ((cH hi).mts _ (qB (show 0≤f by omega) (show f<(m.2.2.2.1.length:Int) by omega)))).2.2.2.1.1;rw[hf,aT h0,aT h1,hr];simp only[aA,aB];have:=wI (L:=aEA m f) (n:=(aE m f).2.2.2.1.length) (B:=8) (st:=fun k out=>(out,(k:Int),())) (f:=fun k=>cT m ((aE m f).2.2.2.1.getD k cC)) (fin:=fun out=>some (eJ (gQ out),())) (fun k _=>yA hi _)
    (fun k out rec hk ho=>by
     have ht:∀x,sP m x=some (cT m x,()):=fun x=>by unfold sP;rw[hi];rfl
     have htl:=yA hi ((aE m f).2.2.2.1.getD k cC);rw[aEA];simp only[hd,dlt hk,dge,aG,aA,aL,ht,aF,mD (show out.length+(cT m ((aE m f).2.2.2.1.getD k cC)).length<549755813888 by omega),aQ hk (by simp only[lenMax];omega)])
    (fun out rec _=>by rw[aEA];simp only[hd,aU,aB];rfl) ((aE m f).2.2.2.1.length+1) (by omega)
   rw[aKo] at this;exact this
theorem aGt:∀{a b:List Int},a.Nodup→(∀x∈a,x∈b)→a.length≤b.length
 | [],_,_,_=>dY _
 | x::a,b,ha,h=>by
  have h1:=List.nodup_cons.1 ha;have hx:=h x cF;have:=aGt (a:=a) (b:=b.erase x) h1.2 fun y hy=>by
   have hyx:y≠x:=fun e=>h1.1 (by rw[←e];exact hy);exact (List.mem_erase_of_ne hyx).2 (h y (bW _ hy))
  rw[List.length_erase_of_mem hx] at this;have:=List.length_pos_of_mem hx;simp only[aJ];omega
end Go.Pli

namespace Go.Pli
open Go Go.PM
structure Grow (m n:Im):Prop where
 cls:∃e,n.1=m.1++e
 statics:m.2.1.length≤n.2.1.length
 ints:m.2.2.1.length≤n.2.2.1.length
 mts:n.2.2.2.1=m.2.2.2.1
end Go.Pli

namespace Go.Pli
open Go Go.PM
theorem aU0 {m:Im} {l:List Int} {n g:Int} (h:g∈tK m l n):∃c∈l,jH m c n=true∧g=(bF m c).2.2.1.getD n.toNat 0:=by
 simp only[tK,gE,oD] at h;obtain⟨c,⟨h1,h2⟩,rfl⟩:=h;unfold eS at h2⊢;cases hs:jH m c n <;> simp only[hs,aA,aB] at h2⊢
 ·cases h2
 ·exact⟨c,h1,hs,rfl⟩
theorem aFi {m:Im} (h:kL m=true):rJ m=true:=by
 simp only[kL,aC] at h;obtain⟨-,hc,hm,-⟩:=h;simp only[rJ,bT];intro f hf g hg;obtain⟨h0,h1⟩:=gH.1 hf;have hmth:=bT.1 hm _ (qB h0 h1);simp only[fD,aC] at hmth;have hins:=hmth.2.2.2.2.2.2;simp only[uX,iY,gE] at hg;obtain⟨l,⟨i,hi,rfl⟩,hg⟩:=hg;have hiB:=bT.1 hins i hi;unfold cT at hg;cases h31:i.1==31 <;> simp only[h31,aA,aB] at hg
 ·cases h32:i.1==32 <;> simp only[h32,aA,aB] at hg
  ·cases hg
  ·obtain⟨c,hcl,hs,rfl⟩:=aU0 hg;simp only[jH,aC,aO] at hs;obtain⟨⟨c0,c1⟩,n0,n1⟩:=hs;have hk:i.2.2.1.toNat<(bF m c).2.2.1.length:=by omega
   have hget:(bF m c).2.2.1[i.2.2.1.toNat]? =some ((bF m c).2.2.1.getD i.2.2.1.toNat 0):=by
    rw[eK,aX hk];rfl
   have:=(vN (sU hc c0 c1) hget).1;exact bR.2 this
 ·rw[fI] at hg;subst hg;have e:i.1=31:=by simpa using h31
  unfold cL at hiB;rw[e] at hiB;have:sin i.2.1 (m.2.2.2.1.length:Int)=true:=hiB;exact this
theorem iN (m:Im):(aR m).length=m.2.2.2.1.length:=by
 unfold aR;rw[sZ,hY]
end Go.Pli

namespace Go.Pli
open Go Go.PM
theorem aBG {σ R:Type} {L:σ→(σ→Option R)→Option R} {n:Nat} {st:Nat→σ} {r:Option R}
  (h1:∀k rec,k<n→L (st k) rec=rec (st (k+1))) (h2:∀rec,L (st n) rec=r):∀F,n<F→aD L F (st 0)=r:=by
 have key:∀(j k F:Nat),k+j=n→j<F→aD L F (st k)=r:=by
  intro j
  induction j with
  | zero=>
   intro k F hk hF;obtain⟨F,rfl⟩:∃n,F=n+1:=⟨F - 1,by omega⟩;have:k=n:=by omega
   subst this;rw[aZ,h2]
  | succ j ih=>
   intro k F hk hF;obtain⟨F,rfl⟩:∃n,F=n+1:=⟨F - 1,by omega⟩;rw[aZ,h1 k _ (by omega)];exact ih (k+1) F (by omega) (by omega)
 exact fun F hF=>key n 0 F (by omega) hF
theorem aDL (n:Nat) (f:Nat→Nat→Bool):(fH n f).length=n:=by simp[fH]
theorem wH {n i:Nat} (h:i<n) (f:Nat→Nat→Bool):(fH n f).getD i []=(List.range n).map fun j=>f i j:=by simp[fH,h]
theorem xU {n j:Nat} (h:j<n) (f:Nat→Bool):((List.range n).map f).getD j false=f j:=by simp[h]
theorem aIr (n:Nat) (f:Nat→Bool):((List.range n).map f).length=n:=by simp
theorem aIq {n j:Nat} (f:Nat→Bool) (v:Bool):((List.range n).map f).set j v=(List.range n).map fun b=>if b=j then v else f b:=by
 apply tC (by simp);intro b h1 h2;have hb:b<n:=by simpa using h2
 rw[List.getElem_set];by_cases hj:j=b
 ·subst hj;simp
 ·simp[hj,Ne.symm hj]
theorem aIp {n i:Nat} (f:Nat→List Bool) (v:List Bool):((List.range n).map f).set i v=(List.range n).map fun a=>if a=i then v else f a:=by
 apply tC (by simp);intro b h1 h2;have hb:b<n:=by simpa using h2
 rw[List.getElem_set];by_cases hj:i=b
 ·subst hj;simp
 ·simp[hj,Ne.symm hj]
theorem aU6 {n i j:Nat} (hi:i<n) (f:Nat→Nat→Bool) (v:Bool):(fH n f).set i (((fH n f).getD i []).set j v)=fH n fun a b=>if a=i∧b=j then v else f a b:=by
 rw[wH hi,aIq];unfold fH;rw[aIp];apply mX;intro a _;by_cases ha:a=i
 ·subst ha;rw[if_pos rfl];apply mX;intro b _;by_cases hb:b=j <;> simp[hb]
 ·rw[if_neg ha];apply mX;intro b _;simp[ha]
theorem aGP {n:Nat} {f g:Nat→Nat→Bool} (h:∀a,a<n→∀b,b<n→f a b=g a b):fH n f=fH n g:=by
 unfold fH;apply mX;intro a ha;apply mX;intro b hb;exact h a (kY.1 ha) b (kY.1 hb)
theorem aIx (l:List (List Int)) (k i:Nat):cR l (k+1) i k=cR l k i k:=by
 simp only[cR];cases cR l k i k <;> simp
theorem aIv (l:List (List Int)) (k j:Nat):cR l (k+1) k j=cR l k k j:=by
 simp only[cR];cases cR l k k j <;> simp
def iI (l:List (List Int)) (k i j:Nat) (a b:Nat):Bool:=if a<i∨(a=i∧b<j) then cR l (k+1) a b else cR l k a b
theorem aUS (l:List (List Int)) (k i j a:Nat):iI l k i j a k=cR l k a k:=by
 unfold iI;split
 ·exact aIx l k a
 ·rfl
theorem aUR (l:List (List Int)) (k i j b:Nat):iI l k i j k b=cR l k k b:=by
 unfold iI;split
 ·exact aIv l k b
 ·rfl
theorem aUT (l:List (List Int)) (k i j:Nat):iI l k i j i j=cR l k i j:=by
 unfold iI;rw[if_neg (by omega)]
theorem aUQ (l:List (List Int)) (k i j:Nat):(fun a b=>if a=i∧b=j then cR l (k+1) i j else iI l k i j a b)=iI l k i (j+1):=by
 funext a b;unfold iI;by_cases h:a=i∧b=j
 ·obtain⟨rfl,rfl⟩:=h;rw[if_pos ⟨rfl,rfl⟩,if_pos (.inr ⟨rfl,by omega⟩)]
 ·rw[if_neg h];by_cases h2:a<i∨(a=i∧b<j)
  ·rw[if_pos h2,if_pos (by omega)]
  ·rw[if_neg h2,if_neg (by omega)]
theorem aPB {l:List (List Int)} (hl:l.length≤1000) {k:Nat} (hk:k<l.length) {rec6:(Int×List (List Bool)×Unit)→Option (List (List Bool)×Unit)} {x:List (List Bool)}:
  aD (aCZ l 2000 ((k:Int),x,()) rec6) 2000 ((0:Int),fH l.length (cR l k),())=rec6 (((k+1:Nat):Int),fH l.length (cR l (k+1)),()):=by
 have h0:fH l.length (cR l k)=fH l.length (iI l k 0 0):=aGP fun a _ b _=>by unfold iI;rw[if_neg (by omega)]
 rw[h0];refine aBG (n:=l.length) (st:=fun i=>((i:Int),fH l.length (iI l k i 0),())) (fun i rec hi=>?_) (fun rec=>?_) 2000 (by omega)
 ·rw[aCZ];simp only[dlt hi,aA];refine (aBG (n:=l.length) (st:=fun j=>((j:Int),fH l.length (iI l k i j),())) (fun j rec2 hj=>?_) (fun rec2=>?_) 2000 (by omega))
  ·rw[aFU];simp only[aDL,wH hi,wH hk,aIr,xU hj,xU hk,dlt hj,dlt hi,dlt hk,dge,aG,aA,aL,aUT,aUS,aUR,aQ hj (show _≤lenMax by simp only[lenMax];omega)];have fin:∀v,v=cR l (k+1) i j→rec2 (((j+1:Nat):Int),(fH l.length (iI l k i j)).set i (((List.range l.length).map fun b=>iI l k i j i b).set j v),())=rec2 (((j+1:Nat):Int),fH l.length (iI l k i (j+1)),()):=fun v hv=>by
    subst hv;rw[←wH hi (iI l k i j),aU6 hi,aUQ]
   cases h1:cR l k i j <;> simp only[aA,aB]
   ·cases h2:cR l k i k <;> simp only[aA,aB]
    ·exact fin _ (by simp[cR,h1,h2])
    ·exact fin _ (by simp[cR,h1,h2])
   ·exact fin _ (by simp[cR,h1])
  ·rw[aFU];simp only[aU,aB,aQ hi (show _≤lenMax by simp only[lenMax];omega)];congr 2;refine dP (fun q=>(q,())) (aGP fun a ha b hb=>?_);unfold iI;by_cases h1:a<i∨(a=i∧b<l.length)
   ·rw[if_pos h1,if_pos (by omega)]
   ·rw[if_neg h1,if_neg (by omega)]
 ·rw[aCZ];simp only[aU,aB,aQ hk (show _≤lenMax by simp only[lenMax];omega)];congr 2;refine dP (fun q=>(q,())) (aGP fun a ha b hb=>?_);unfold iI;rw[if_pos (.inl ha)]
theorem aPC {l:List (List Int)} (hl:l.length≤1000):aD (aCY l 2000) 2000 ((0:Int),fH l.length (cR l 0),())=some (fH l.length (cR l l.length),()):=by
 refine aBG (n:=l.length) (st:=fun k=>((k:Int),fH l.length (cR l k),())) (fun k rec hk=>?_) (fun rec=>?_) 2000 (by omega)
 ·rw[aCY];simp only[dlt hk,aA];exact aPB hl hk
 ·rw[aCY];simp only[aU,aB]
def vL (l:List (List Int)) (n i p b:Nat):Bool:=(((l.getD i []).take p).contains (b:Int))&&decide (b<n)
def iF (l:List (List Int)) (n i:Nat) (v:List Bool):List (List Bool):=(List.range n).map fun a=>if a<i then (List.range n).map fun b=>uN l a b else if a=i then v else[]
theorem aJW (l:List (List Int)) (n i:Nat) (v:List Bool):(iF l n i v).length=n:=by simp[iF]
theorem aSd (l:List (List Int)) {n i:Nat} (hi:i<n) (v:List Bool):(iF l n i v).getD i []=v:=by simp[iF,hi]
theorem aJV (l:List (List Int)) {n i:Nat} (v w:List Bool):(iF l n i v).set i w=iF l n i w:=by
 unfold iF;rw[aIp];apply mX;intro a _;by_cases ha:a=i
 ·subst ha;simp
 ·simp[ha]
theorem aPD {l:List (List Int)} (hl:l.length≤1000) (hr:∀r∈l,r.length≤1000) {i:Nat} (hi:i<l.length) {x:List (List Bool)} {rec2:(Int×List (List Bool)×Unit)→Option (List (List Bool)×Unit)}:
  aD (aC0 l ((i:Int),x,()) rec2) 2000 ((0:Int),iF l l.length i (List.replicate l.length false),())=rec2 (((i+1:Nat):Int),iF l l.length (i+1) [],()):=by
 have hri:(l.getD i []).length≤1000:=hr _ (by rw[eK,aX hi];exact dT hi);have h0:iF l l.length i (List.replicate l.length false)=iF l l.length i ((List.range l.length).map (vL l l.length i 0)):=by
  congr 1;apply tC (by simp);intro a h1 h2;simp[vL]
 rw[h0];refine aBG (n:=(l.getD i []).length) (st:=fun p=>((p:Int),iF l l.length i ((List.range l.length).map (vL l l.length i p)),())) (fun p rec hp=>?_) (fun rec=>?_) 2000 (by omega)
 ·have hget:(l.getD i []).getD p 0=(l.getD i [])[p]:=by rw[eK,aX hp];rfl
  rw[aC0];simp only[dlt hi,dlt hp,dge,aG,aA,aL,aJW,aSd l hi,aIr,aQ hp (show _≤lenMax by simp only[lenMax];omega)];have hnext:∀b,b<l.length→vL l l.length i (p+1) b=(vL l l.length i p b || ((l.getD i []).getD p 0==(b:Int))):=fun b hb=>by
   unfold vL;rw[List.take_succ_eq_append_getElem hp,hget,List.contains_eq_any_beq,List.contains_eq_any_beq,List.any_append];simp only[List.any_cons,List.any_nil,rF,aH hb,kZ];rw[show ((b:Int)==(l.getD i [])[p])=((l.getD i [])[p]==(b:Int)) from BEq.comm]
  by_cases h1:(l.getD i []).getD p 0≥0
  ·rw[aH h1];simp only[aA];by_cases h2:(l.getD i []).getD p 0<(l.length:Int)
   ·rw[aH h2];simp only[aG,aA];rw[aIq,aJV];congr 3;congr 1;apply mX;intro b hb;have hb:=kY.1 hb;rw[hnext b hb];by_cases hbt:b=((l.getD i []).getD p 0).toNat
    ·rw[if_pos hbt];have:(l.getD i []).getD p 0=(b:Int):=by omega
     rw[this];simp
    ·rw[if_neg hbt];have:((l.getD i []).getD p 0==(b:Int))=false:=by
      have:¬(l.getD i []).getD p 0=(b:Int):=by omega
      simpa using this
     rw[this,rF]
   ·rw[aT h2];simp only[aB];congr 3;congr 1;apply mX;intro b hb;have hb:=kY.1 hb;rw[hnext b hb];have:((l.getD i []).getD p 0==(b:Int))=false:=by
     have:¬(l.getD i []).getD p 0=(b:Int):=by omega
     simpa using this
    rw[this,rF]
  ·rw[aT h1];simp only[aB];congr 3;congr 1;apply mX;intro b hb;have hb:=kY.1 hb;rw[hnext b hb];have:((l.getD i []).getD p 0==(b:Int))=false:=by
    have:¬(l.getD i []).getD p 0=(b:Int):=by omega
    simpa using this
   rw[this,rF]
 ·rw[aC0];simp only[dlt hi,dge,aG,aA,aL,aU,aB,aQ hi (show _≤lenMax by simp only[lenMax];omega)];congr 2;refine dP (fun q=>(q,())) ?_;unfold iF;apply mX;intro a ha;have ha:=kY.1 ha;by_cases h1:a<i
  ·rw[if_pos h1,if_pos (by omega)]
  ·rw[if_neg h1];by_cases h2:a=i
   ·subst h2;rw[if_pos rfl,if_pos (by omega)];apply mX;intro b hb;have hb:=kY.1 hb;unfold vL uN;rw[iD,aH hb,kZ]
   ·rw[if_neg h2,if_neg (by omega)];by_cases h3:a=i+1
    ·rw[if_pos h3]
    ·rw[if_neg h3]
theorem aSL (l:List (List Int)) (r) (h:yP l=some r):∃k,aKr k l=some r:=by
 unfold yP at h;cases hs:tJ l <;> simp only[hs,aA,aB] at h
 ·cases h
 injection h with h
 subst h;simp only[tJ,aC,bT] at hs;have hl:l.length≤1000:=fW hs.1;have hr:∀r∈l,r.length≤1000:=fun r hr=>fW (hs.2 r hr);refine⟨2000,?_⟩;unfold aKr;have hrm:decide ((l.length:Int)<(rowMax:Int))=true:=aH (by simp only[rowMax];omega);have hle:decide ((l.length:Int)≤(l.length:Int))=true:=aH (fB _);have hz:decide ((0:Int)≤(l.length:Int))=true:=aH (by omega);simp only[hrm,hle,hz,aG,aA];have h0:(List.replicate l.length ([]:List Bool))=iF l l.length 0 []:=by
  apply tC (by simp[iF]);intro a h1 h2;simp[iF]
 rw[h0];refine aBG (n:=l.length) (st:=fun i=>((i:Int),iF l l.length i [],())) (fun i rec hi=>?_) (fun rec=>?_) 2000 (by omega)
 ·rw[aFT];simp only[dlt hi,dge,hrm,hle,hz,aG,aA,aJW,aL,aJV];exact aPD hl hr hi
 ·rw[aFT];simp only[aU,aB];have h1:iF l l.length l.length []=fH l.length (cR l 0):=by
   unfold iF fH;apply mX;intro a ha;rw[if_pos (kY.1 ha)];rfl
  rw[h1];exact aPC hl
theorem aCr (l:List (List Int)):∀(k i j m:Nat),m<k→cR l k i m=true→cR l k m j=true→cR l k i j=true
 | 0,_,_,_,h,_,_=>by omega
 | k+1,i,j,m,hm,h1,h2=>by
  have ih:=aCr l k;by_cases hmk:m=k
  ·subst hmk;rw[aIx] at h1;rw[aIv] at h2;simp only[cR,fS,aC];exact .inr ⟨h1,h2⟩
  ·have hm':m<k:=by omega
   simp only[cR,fS,aC] at h1 h2⊢;rcases h1 with h1 | ⟨h1,h1'⟩ <;> rcases h2 with h2 | ⟨h2,h2'⟩
   ·exact .inl (ih i j m hm' h1 h2)
   ·exact .inr ⟨ih i k m hm' h1 h2,h2'⟩
   ·exact .inr ⟨h1,ih k j m hm' h1' h2⟩
   ·exact .inr ⟨h1,h2'⟩
theorem aCs (l:List (List Int)):∀(k:Nat) {i j:Nat},uN l i j=true→cR l k i j=true
 | 0,_,_,h=>h
 | k+1,_,_,h=>by simp only[cR,fS];exact .inl (aCs l k h)
end Go.Pli

namespace Go.Pli
open Go Go.PM
theorem aYs {m:Im} (hi:bI m=true):tJ (aR m)=true:=by
 have h12:=(cH hi).methods;simp only[tJ,aC,bT];refine⟨Nat.ble_eq_true_of_le (by rw[iN];omega),fun r hr=>Nat.ble_eq_true_of_le ?_⟩;simp only[aR,gE] at hr;obtain⟨f,-,rfl⟩:=hr;have:=aAJ (fun g=>kF m f g) (ints m.2.2.2.1.length);rw[hY] at this;omega
end Go.Pli

namespace Go.Pli
open Go Go.PM
theorem aSW (m:Im) (l:List (List Sh)) (f:Int) (r) (h:yT m l f=some r):∃k,aKx k m l f=some r:=by
 unfold yT at h;cases hg:aM m&&dK l <;> rw[hg] at h <;> simp only[aA,aB] at h
 ·cases h
 have:=fL h;subst this;simp only[aC] at hg;obtain⟨hs,hb⟩:=hg;refine⟨1000001,?_⟩;unfold aKx uJ;by_cases h0:f<0
 ·have:inM m f=false:=by cases hh:inM m f;rfl;have:=bR.1 hh;omega
  rw[this,aH h0];rfl
 by_cases h1:f≥(m.2.2.2.1.length:Int)
 ·have:inM m f=false:=by cases hh:inM m f;rfl;have:=bR.1 hh;omega
  rw[this,aT h0,aH h1];rfl
 have hf:inM m f=true:=bR.2 ⟨by omega,by omega⟩;have f0:0≤f:=by omega
 have f1:f<(m.2.2.2.1.length:Int):=by omega
 have key:aD (vW l f) 1000001 ((0:Int),((0:Int),()))=some (.inl (sN l f,())):=by
  unfold sN sin;by_cases hl:f<(l.length:Int)
  ·obtain⟨hlr,-⟩:=zI hb (n:=f.toNat) (by omega);simp only[f0,hl,aK,aG,aA];have q:∀(hh:List Sh),l.getD f.toNat []=hh→hh.length<1000000→aD (vW l f) 1000001 ((0:Int),((0:Int),()))=some (.inl (gC (hh.map fun s=>(s.2.1.length:Int)),())):=fun hh hhe hhl=>by
    have:=lK (L:=vW l f) (n:=hh.length) (st:=fun k=>(gC ((hh.map fun s=>(s.2.1.length:Int)).take k),(k:Int),())) (fin:=some (.inl (gC (hh.map fun s=>(s.2.1.length:Int)),())))
     (fun k rec hk=>by
      have hx:(hh.map fun s=>(s.2.1.length:Int))[k]? =some (((hh.getD k zSh).2.1.length:Nat):Int):=by simp[hk]
      have hmx:=aLZ (hh.map fun s=>(s.2.1.length:Int)) hx;rw[vW];simp only[f0,hl,hhe,dlt hk,dge,aK,aG,aA,aL,aQ hk (show _≤lenMax by simp only[lenMax];omega)];rw[hmx];by_cases hgt:(((hh.getD k zSh).2.1.length:Nat):Int)>gC ((hh.map fun s=>(s.2.1.length:Int)).take k)
      ·rw[aH hgt,Int.max_eq_right (by omega)];rfl
      ·rw[aT hgt,Int.max_eq_left (by omega)];rfl)
     (fun rec=>by
      rw[vW];simp only[f0,hl,hhe,aU,aK,aG,aA,aB];rw[List.take_of_length_le (by simp)]) 1000001 (by omega)
    exact this
   exact q _ rfl hlr
  ·simp only[hl,bB,vE,aB];rw[aZ,vW];simp only[hl,bB,aB]
 have hd:=aNX hb f;have hloc:=tQ hs hf;have fold:∀g:Int,m.2.2.2.1.getD g.toNat zMt=aE m g:=fun _=>rfl;rw[key,hf];simp only[h0,h1,f0,f1,fold,aK,bB,aG,aA,aB,aF];rw[bV (n:=(3:Int)+_) (by omega) (by omega),bV (n:=(3:Int)+((aE m f).1.length:Int)+_) (by omega) (by omega),bV (by omega) (by omega)];simp
theorem aO5 (W:Nat→Nat→Bool) (out:List Int) (g:Int):∀(a b:List Int) (x:Int),kW W out g (a++b) x=kW W out g b (kW W out g a x)
 | [],_,_=>rfl
 | _::a,b,_=>by rw[lV,kW,kW,aO5 W out g a b]
theorem aFn (m:Im) (l:List (List Sh)) (W:Nat→Nat→Bool) (f:Int) (out:List Int):∀(p q:List Int) (a b:Int),jR m l W f out (p++q) a b=jR m l W f out q (jR m l W f out p a b).1 (jR m l W f out p a b).2
 | [],_,_,_=>rfl
 | g::p,q,a,b=>by
  rw[lV,jR,jR];cases g !=f&& !(W f.toNat g.toNat&&W g.toNat f.toNat) <;> simp only[aA,aB]
  ·exact aFn m l W f out p q _ _
  ·exact aFn m l W f out p q _ _
theorem aJ3 (m:Im) (l:List (List Sh)) (W:Nat→Nat→Bool):∀(p q out:List Int),gG m l W (p++q) out=gG m l W q (gG m l W p out)
 | [],_,_=>rfl
 | f::p,q,out=>by rw[lV,gG,gG,aJ3 m l W p q]
theorem aFM (m:Im) (l:List (List Sh)) (W:Nat→Nat→Bool):∀(p out:List Int),(gG m l W p out).length=out.length
 | [],_=>rfl
 | f::p,out=>by rw[gG,aFM m l W p,dB]
theorem aFQ (m:Im) (l:List (List Sh)) (W:Nat→Nat→Bool):∀(k:Nat) (out:List Int),mE m l W (k+1) out=gG m l W (ints m.2.2.2.1.length) (mE m l W k out)
 | 0,_=>rfl
 | k+1,out=>by
  show mE m l W (k+1) (gG m l W (ints m.2.2.2.1.length) out)=_;rw[aFQ m l W k];rfl
theorem aFR (m:Im) (l:List (List Sh)) (W:Nat→Nat→Bool):∀(k:Nat) (out:List Int),(mE m l W k out).length=out.length
 | 0,_=>rfl
 | k+1,out=>by rw[aFQ,aFM,aFR m l W k]
theorem aMF {n k:Nat} (h:k<n):(ints n).take (k+1)=(ints n).take k++[(k:Int)]:=by
 rw[oB];congr 1;simp[ints,h]
theorem aYt {m:Im} {g:Nat} (hg:g<m.2.2.2.1.length):((aR m).getD g []).length≤m.2.2.2.1.length∧∀to∈(aR m).getD g [],0≤to∧to<(m.2.2.2.1.length:Int):=by
 have hk:g<(aR m).length:=by rw[iN];exact hg
 have hm:(aR m).getD g []∈aR m:=by rw[getD_some (aX hk)];exact dT hk
 generalize (aR m).getD g []=e at hm;unfold aR at hm;obtain⟨f,-,rfl⟩:=gE.1 hm;constructor
 ·have:=aAJ (fun g=>kF m f g) (ints m.2.2.2.1.length)
  rwa [hY] at this
 ·exact fun to ht=>gH.1 (oD.1 ht).1
section
variable {m:Im} {l:List (List Sh)}
abbrev pN (m:Im):List (List Bool)×Unit:=(fH m.2.2.2.1.length (bP m),())
theorem bAb (h12:m.2.2.2.1.length≤12) {s7:Int×List Int×Unit} (hout:s7.2.1.length=m.2.2.2.1.length) {s9:Int×Int×Int×Unit} {g:Nat} (hg9:s9.2.2.1=(g:Int)) (hg:g<m.2.2.2.1.length) (s15:Int×Unit) (r17:Int×Unit) {F:Nat} (hF:100<F):
  aD (aBo (aR m,()) (pN m) s7 s9 s15 r17) F (s9.2.1,((0:Int),()))=some (.inl (IntKind.i64.wrap (s9.1+IntKind.i64.wrap (s15.1*r17.1)),kW (bP m) s7.2.1 (g:Int) ((aR m).getD g []) s9.2.1,())):=by
 obtain⟨hel,hei⟩:=aYt hg;have hge:(g:Int)<((aR m).length:Int):=by rw[iN];omega
 have hgg:decide ((g:Int)<((aR m).length:Int))=true:=aH hge;generalize hE:(aR m).getD g []=E at hel hei;exact lK (L:=aBo (aR m,()) (pN m) s7 s9 s15 r17) (n:=E.length) (st:=fun k=>(kW (bP m) s7.2.1 (g:Int) (E.take k) s9.2.1,(k:Int),())) (fin:=some (.inl (IntKind.i64.wrap (s9.1+IntKind.i64.wrap (s15.1*r17.1)),kW (bP m) s7.2.1 (g:Int) E s9.2.1,())))
  (fun k rec hk=>by
   have hx:E[k]? =some E[k]:=aX hk;obtain⟨t0,t1⟩:=hei _ (dT hk);have htn:E[k].toNat<m.2.2.2.1.length:=by omega
   have ht2:decide (E[k]<((fH m.2.2.2.1.length (bP m)).length:Int))=true:=aH (by rw[aDL];exact t1);have ht3:decide (E[k]<(s7.2.1.length:Int))=true:=aH (by rw[hout];exact t1);have hrow:=wH htn (bP m);have hgl:decide ((g:Int)<(((List.range m.2.2.2.1.length).map fun j=>bP m E[k].toNat j).length:Int))=true:=aH (by simp;omega);have hst:E.take (k+1)=E.take k++[E[k]]:=by rw[oB,hx];rfl
   rw[aBo];simp only[hg9,hgg,hE,dge,dlt hk,aG,aA,aL,getD_some hx,t0,aK,ht2,ht3,hrow,hgl,xU hg,aQ hk (show _≤lenMax by simp only[lenMax];omega)];rw[hst,aO5];simp only[kW,aL];cases bP m E[k].toNat g <;> simp only[aV,bU,cZ,jP,aA,aB];cases decide (s7.2.1.getD E[k].toNat 0>kW (bP m) s7.2.1 (g:Int) (E.take k) s9.2.1) <;> simp only[aA,aB])
  (fun rec=>by
   rw[aBo];simp only[hg9,hgg,hE,dge,aU,aG,aA,aB,aL,iD]) F (by omega)
theorem aZ9 (hs:aM m=true) (hl:dK l=true) {fuel:Nat} (hfu:100<fuel) {s7:Int×List Int×Unit} (hout:s7.2.1.length=m.2.2.2.1.length) {f:Nat} (hf7:s7.1=(f:Int)) (hf:f<m.2.2.2.1.length) (rec8) {F:Nat} (hF:100<F):
  aD (aBn m l fuel (aR m,()) (pN m) s7 rec8) F ((0:Int),((0:Int),((0:Int),())))=rec8 (((f+1:Nat):Int),s7.2.1.set f (nH m l (bP m) s7.2.1 (f:Int)),()):=by
 have h12:=(cH (cX hs).1).methods;have hfr:∀g:Int,yT m l g=some (uJ m l g,()):=fun g=>by unfold yT;rw[hs,hl];rfl
 have hfo:decide ((f:Int)<(s7.2.1.length:Int))=true:=aH (by rw[hout];omega);have hlenI:=hY m.2.2.2.1.length;have hrow:=fun {i} (h:i<m.2.2.2.1.length)=>wH h (bP m);have fold:∀g:Nat,m.2.2.2.1.getD g zMt=aE m (g:Int):=fun g=>by unfold aE;rw[aL]
 exact lK (L:=aBn m l fuel (aR m,()) (pN m) s7 rec8) (n:=m.2.2.2.1.length)
  (st:=fun k=>((jR m l (bP m) (f:Int) s7.2.1 ((ints m.2.2.2.1.length).take k) 0 0).1,(jR m l (bP m) (f:Int) s7.2.1 ((ints m.2.2.2.1.length).take k) 0 0).2,(k:Int),()))
  (fun g rec hg=>by
   have hstep:=aMF hg;have hgl:∀i,decide ((g:Int)<(((List.range m.2.2.2.1.length).map fun j=>bP m i j).length:Int))=true:=fun i=>aH (by simp;omega);have hfl:∀i,decide ((f:Int)<(((List.range m.2.2.2.1.length).map fun j=>bP m i j).length:Int))=true:=fun i=>aH (by simp;omega);have hw:=aQ hg (show _≤lenMax by simp only[lenMax];omega);rw[hstep,aFn];generalize jR m l (bP m) (f:Int) s7.2.1 ((ints m.2.2.2.1.length).take g) 0 0=S;have hedge:=fun (s15:Int×Unit) (r17:Int×Unit)=>bAb (m:=m) h12 hout (s9:=(S.1,S.2,(g:Int),())) rfl hg s15 r17 hfu;simp only at hedge;rw[aBn];simp only[hf7,dlt hg,dlt hf,dge,aG,aA,aL,aDL,hrow hg,hrow hf,hgl,hfl,xU hg,xU hf,hfr,hedge,hw,fold,aF];simp only[jR,aL];cases hne:(g:Int) !=(f:Int) <;> simp only[cZ,jP,aA,aB,aF]
   ·cases bP m g g <;> simp only[aA,aB,aF]
   ·cases bP m f g <;> simp only[cZ,jP,aV,bU,aA,aB,aF];cases bP m g f <;> simp only[aV,bU,aA,aB,aF];cases bP m g g <;> simp only[aA,aB,aF])
  (fun rec=>by
   rw[List.take_of_length_le (by omega)];rw[aBn];simp only[hf7,aU,hfo,dge,aG,aA,aB,aL,aQ hf (show _≤lenMax by simp only[lenMax];omega)];rfl) F (by omega)
theorem aZ8 (hs:aM m=true) (hl:dK l=true) {fuel:Nat} (hfu:100<fuel) {s5:Int×List Int×Unit} (hout:s5.2.1.length=m.2.2.2.1.length) {i:Nat} (hi5:s5.1=(i:Int)) (hi:i<m.2.2.2.1.length) (rec6) {F:Nat} (hF:100<F):
  aD (aBm m l fuel (aR m,()) (pN m) s5 rec6) F ((0:Int),s5.2.1,())=rec6 (((i+1:Nat):Int),gG m l (bP m) (ints m.2.2.2.1.length) s5.2.1,()):=by
 have h12:=(cH (cX hs).1).methods;have hlenI:=hY m.2.2.2.1.length;exact lK (L:=aBm m l fuel (aR m,()) (pN m) s5 rec6) (n:=m.2.2.2.1.length)
  (st:=fun k=>((k:Int),gG m l (bP m) ((ints m.2.2.2.1.length).take k) s5.2.1,()))
  (fun f rec hf=>by
   rw[aMF hf,aJ3];have hol:(gG m l (bP m) ((ints m.2.2.2.1.length).take f) s5.2.1).length=m.2.2.2.1.length:=by rw[aFM,hout]
   generalize gG m l (bP m) ((ints m.2.2.2.1.length).take f) s5.2.1=out at hol;rw[aBm];simp only[dlt hf,aA];rw[aZ9 hs hl hfu (s7:=((f:Int),out,())) hol rfl hf rec hfu];simp only[gG,aL])
  (fun rec=>by
   rw[List.take_of_length_le (by omega),aBm];simp only[aU,aB,hi5,aQ hi (show _≤lenMax by simp only[lenMax];omega)]) F (by omega)
theorem aZ7 (hs:aM m=true) (hl:dK l=true) {fuel:Nat} (hfu:100<fuel) {F:Nat} (hF:100<F):
  aD (aBl m l fuel (aR m,()) (pN m)) F ((0:Int),(List.replicate m.2.2.2.1.length (0:Int),()))=some (mE m l (bP m) m.2.2.2.1.length (List.replicate m.2.2.2.1.length 0),true,()):=by
 have h12:=(cH (cX hs).1).methods;exact lK (L:=aBl m l fuel (aR m,()) (pN m)) (n:=m.2.2.2.1.length)
  (st:=fun k=>((k:Int),mE m l (bP m) k (List.replicate m.2.2.2.1.length 0),()))
  (fun i rec hi=>by
   rw[aFQ];have hol:(mE m l (bP m) i (List.replicate m.2.2.2.1.length 0)).length=m.2.2.2.1.length:=by rw[aFR,pK]
   generalize mE m l (bP m) i (List.replicate m.2.2.2.1.length 0)=out at hol;rw[aBl];simp only[dlt hi,aA];exact aZ8 hs hl hfu (s5:=((i:Int),out,())) hol rfl hi rec hfu)
  (fun rec=>by
   rw[aBl];simp only[aU,aB]) F (by omega)
end
theorem aS1 (m:Im) (l:List (List Sh)) (r) (h:rS m l=some r):∃k,aKB k m l=some r:=by
 unfold rS at h;cases hg:aM m&&(dK l&&(rJ m&&tJ (aR m))) <;> rw[hg] at h <;> simp only[aA,aB] at h
 ·cases h
 have:=fL h;subst this;simp only[aC] at hg;obtain⟨hs,hl,-,hsm⟩:=hg;have hfi:=(cX hs).1;have h12:=(cH hfi).methods;have h1:vX m=some (aR m,()):=by unfold vX;rw[hfi];rfl
 have h2:yP (aR m)=some (pN m):=by unfold yP;rw[hsm,iN];rfl
 have fold:∀g:Nat,m.2.2.2.1.getD g zMt=aE m (g:Int):=fun g=>by unfold aE;rw[aL]
 refine⟨1001,?_⟩;unfold aKB nU;rw[h1,aF,h2,aF];have hrm:decide ((m.2.2.2.1.length:Int)<(rowMax:Int))=true:=aH (by simp only[rowMax];omega);have hle:decide ((m.2.2.2.1.length:Int)≤(m.2.2.2.1.length:Int))=true:=aH (fB _);have key:=gV (L:=aC7 m l 1001 (aR m,()) (pN m)) (xs:=ints m.2.2.2.1.length) (st:=fun k=>((k:Int),())) (p:=fun f=> !(bP m f.toNat f.toNat&&decide ((aE m f).2.2.2.2.1<1))) (ex:=some (([]:List Int),false,()))
  (fin:=some (mE m l (bP m) m.2.2.2.1.length (List.replicate m.2.2.2.1.length 0),true,()))
  (fun k x rec hk hlt=>by
   rw[hY] at hlt;have hx:x=(k:Int):=by have:=aG8 hlt 0;rw[getD_some hk] at this;exact this
   subst hx;have hkl:decide ((k:Int)<(((List.range m.2.2.2.1.length).map fun j=>bP m k j).length:Int))=true:=aH (by simp;omega);rw[aC7];simp only[dlt hlt,dge,aG,aA,aL,aDL,wH hlt,hkl,xU hlt,fold,aQ hlt (show _≤lenMax by simp only[lenMax];omega)];cases bP m k k <;> simp only[cZ,jP,bU,aA,aB];cases decide ((aE m (k:Int)).2.2.2.2.1<1) <;> simp only[aV,bU,aA,aB])
  (fun rec=>by
   rw[hY,aC7];simp only[aU,dge,hle,hrm,aG,aA,aB];exact aZ7 hs hl (by omega) (by omega)) 1001 (by rw[hY];omega)
 rw[show ((0:Int),())=(((0:Nat):Int),()) from rfl,key];have e:((ints m.2.2.2.1.length).all fun f=> !(bP m f.toNat f.toNat&&decide ((aE m f).2.2.2.2.1<1)))= !kJ m:=by
  unfold kJ;rw[←List.not_any_eq_all_not]
 rw[e];cases kJ m <;> rfl
end Go.Pli
