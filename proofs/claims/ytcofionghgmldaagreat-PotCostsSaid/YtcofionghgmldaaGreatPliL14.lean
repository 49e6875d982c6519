/- The document's steps: what the printed functions come to. -/
import Derived.Test.YtcofionghgmldaaGreatPliNt
import Derived.Test.YtcofionghgmldaaGreatPliL13E
namespace Go.Pli
open Go Go.PM
theorem aJT (l:List Cl) (a b:Tp):tK l a b=cF l a b:=by
 cases h3:a.1==3
 ·unfold tK cF
  rw[h3]
  cases a.1==4 <;> simp
 ·obtain⟨a1,a2,⟨⟩⟩:=a
  have:a1=3:=by simpa using h3
  subst this
  exact aE0 l a2 b
theorem aE1 {l:List Cl} (hl:okL l=true) (a b:Tp):lF l a b=some (cF l a b,()):=by
 unfold lF;rw[hl,aJT];rfl
theorem aFa {l:List Cl} {xs ys:List Int} (hx:xs.length<1000000) (hy:ys.length<1000000):∀(r pre:List Int) (F:Nat),xs=pre++r→r.length<F→
  aE (xB (xs,()) (ys,())) F ((pre.length:Int),())=some (match r.find? fun c=>ys.contains c with | some c=>(3,c,()) | none=>zTp,())
 | [],pre,F,he,hF=>by
  obtain⟨F,rfl⟩:∃n,F=n+1:=⟨F - 1,by simp at hF;omega⟩
  rw[bU] at he
  rw[aX,xB,he]
  simp only[bQ,aB,List.find?_nil]
 | c::r,pre,F,he,hF=>by
  obtain⟨F,rfl⟩:∃n,F=n+1:=⟨F - 1,by simp at hF;omega⟩
  have hk:pre.length<xs.length:=by rw[he,aW];simp
  have hget:xs.getD pre.length 0=c:=by rw[he];simp
  have ih:=aFa (l:=l) hx hy r (pre++[c]) F (by rw[he,cA];rfl) (by simp only[aF] at hF;omega)
  simp only[aW,aF,bM,bH] at ih
  rw[aX,xB]
  simp only[dlt hk,dge,aH,aA,aU,hget,aFj (show ys.length<1000000000 by omega),aJ,bJ hk (show _≤lenMax by simp only[lenMax];omega),aD1]
  cases ys.contains c <;> simp only[aA,aB]
  exact ih
theorem aLH (l:List Cl) (a b:Tp) (r) (h:tL l a b=some r):∃k,aFb k l a b=some r:=by
 unfold tL at h
 cases hb:okL l <;> simp only[hb,aA,aB] at h
 ·cases h
 injection h with h
 subst h
 have hl:=gZ hb
 refine⟨1000003,?_⟩
 have hra:∀c,iQ l c=some (cE l c,()):=fun c=>by unfold iQ;rw[hb];rfl
 unfold aFb fN
 simp only[aE1 hb,aJ,hra]
 cases cF l a b <;> simp only[aA,aB]
 cases cF l b a <;> simp only[aA,aB]
 cases h1:a.1 !=3 <;> simp only[aA,aB,sU,kZ]
 cases h2:b.1 !=3 <;> simp only[aA,aB]
 by_cases hin:0≤a.2.1∧a.2.1<(l.length:Int)
 ·have hch:cE l a.2.1=a.2.1::bS l (kup l a.2.1):=by
   unfold cE
   rw[aI hin.2,aA,gI hin.1]
  have hlen:=sN l (a.2.1.toNat+1) a.2.1 (by omega)
  have hyb:(cE l b.2.1).length≤l.length:=by
   unfold cE
   by_cases h:b.2.1<(l.length:Int)
   ·simp only[h,aM,aA]
    by_cases h0:0≤b.2.1
    ·have:=sN l (b.2.1.toNat+1) b.2.1 (by omega)
     omega
    ·rw[eU (by omega)];simp
   ·simp[h]
  have hxa:(cE l a.2.1).length≤l.length:=by
   unfold cE
   rw[aI hin.2,aA]
   omega
  have:=aFa (l:=l) (xs:=cE l a.2.1) (ys:=cE l b.2.1) (by omega) (by omega) (bS l (kup l a.2.1)) [a.2.1] 1000003 (by rw[hch];rfl) (by
   rw[hch,aF] at hxa
   omega)
  refine this.trans ?_
  have hp:∀c∈bS l (kup l a.2.1),(cE l b.2.1).contains c=dA l b.2.1 c:=by
   intro c hc
   have hcm:=oP _ _ (gX _) hc
   have hk:=kJ (l:=l) hin.1
   unfold cE dA
   by_cases hbl:b.2.1<(l.length:Int)
   ·have c1:c<(l.length:Int):=by omega
    simp[hbl,hcm.1,c1]
   ·simp[hbl]
  have hf:(bS l (kup l a.2.1)).find? (fun c=>(cE l b.2.1).contains c)=(bS l (kup l a.2.1)).find? fun c=>dA l b.2.1 c:=by
   generalize bS l (kup l a.2.1)=cs at hp
   induction cs with
   | nil=>rfl
   | cons c cs ih=>
    rw[aD1,aD1,hp c (cW ..),ih fun x hx=>hp x (bZ _ hx)]
  rw[hf]
  rfl
 ·have hk:kup l a.2.1= -1:=by
   unfold kup
   by_cases h0:a.2.1<0
   ·simp[h0]
   ·have:a.2.1≥(l.length:Int):=by omega
    simp[this]
  rw[hk,eU (by omega)]
  have hnil:cE l a.2.1=[]:=by
   unfold cE
   by_cases h1:a.2.1<(l.length:Int)
   ·rw[aI h1,aA,eU (by omega)]
   ·simp[h1]
  rw[hnil,show (1000003:Nat)=1000002+1 from rfl,aX,xB]
  rfl
theorem aOM (x:Mt):tT x=some (bif x.2.2.1.1 !=5 then[x.2.2.1] else[],()):=by
 unfold tT
 cases h:x.2.2.1.1==5 <;> simp[bne,h]
theorem aMq {x:Mt} (h1:x.1.length<1000000) (h2:x.2.1.length<1000000) (n:Int):xN x n=some (iX x n,()):=by
 unfold xN iX
 have e1:decide (([]:List Tp).length+x.1.length<rowMax)=true:=aI (by simp only[bM,rowMax];omega)
 have e2:decide ((([]:List Tp)++x.1).length+x.2.1.length<rowMax)=true:=aI (by simp only[oX,rowMax];omega)
 rw[e1,aA,e2,aA]
 rw[oX]
 by_cases h0:n<0
 ·rw[aI h0];rfl
 ·rw[bO h0,aB,aB]
  by_cases h3:n≥((x.1++x.2.1).length:Int)
  ·rw[aI h3,aA,gU (by omega)]
  ·have h4:0≤n:=by omega
   have h5:n<((x.1++x.2.1).length:Int):=by omega
   rw[bO h3,aB,aI h4,aI h5]
   rfl
theorem aLv {m:Im} (hs:aL m=true) {i:Ins} {f:Int} (hf:inM m f=true) (hi:bW m (aD m f) i=true):xK m f i=some ((eF m (aD m f) i).1,(eF m (aD m f) i).2.1,()):=by
 have hfit:=(dQ hs).1
 have hcl:=tF hs
 obtain⟨f0,f1⟩:=cC.1 hf
 have hloc:=tE hs hf
 have fold:∀g:Int,m.2.2.2.1.getD g.toNat zMt=aD m g:=fun _=>rfl
 have hF:∀c,iE m c=some (dS m c,()):=fun c=>by unfold iE;rw[hfit];rfl
 unfold xK eF
 simp only[fold,aOM,aJ,hF,f0,f1,aM,aH,aA,aMq (x:=aD m f) (by omega) (by omega)]
 rcases i with⟨o,a,b,⟨⟩⟩
 simp only
 cases e:o==1
 case true=>obtain rfl:o=1:=by simpa using e
            rfl
 cases e:o==2
 case true=>obtain rfl:o=2:=by simpa using e
            rfl
 cases e:o==3
 case true=>obtain rfl:o=3:=by simpa using e
            rfl
 cases e:o==4
 case true=>obtain rfl:o=4:=by simpa using e
            rfl
 cases e:o==5
 case true=>obtain rfl:o=5:=by simpa using e
            rfl
 cases e:o==19
 case true=>obtain rfl:o=19:=by simpa using e
            rfl
 cases e:o==20
 case true=>obtain rfl:o=20:=by simpa using e
            rfl
 cases e:o==21
 case true=>obtain rfl:o=21:=by simpa using e
            rfl
 cases e:o==22
 case true=>obtain rfl:o=22:=by simpa using e
            rfl
 cases e:o==23
 case true=>obtain rfl:o=23:=by simpa using e
            rfl
 cases e:o==24
 case true=>obtain rfl:o=24:=by simpa using e
            rfl
 cases e:o==25
 case true=>obtain rfl:o=25:=by simpa using e
            rfl
 cases e:o==26
 case true=>obtain rfl:o=26:=by simpa using e
            rfl
 cases e:o==27
 case true=>
  obtain rfl:o=27:=by simpa using e
  have:sin a (m.1.length:Int)=true∧sin b (iI m a:Int)=true:=by simpa[bW] using hi
  obtain⟨h1,h2⟩:=this
  simp only[sin,aC,aQ] at h1 h2
  rw[←yR h1.2] at h2
  have h64:=aA9 hfit a
  have hw:IntKind.i64.wrap (b+1)=b+1:=by rw[cS] <;> omega
  have c1:b≤b+1:=by omega
  have c2:b+1≤((dS m a).length:Int):=by omega
  have e1:((dS m a).take (b+1).toNat).drop b.toNat=[(dS m a).getD b.toNat zTp]:=by
   have hk:b.toNat<(dS m a).length:=by omega
   rw[show (b+1).toNat=b.toNat+1 by omega,qK,List.drop_append,List.drop_of_length_le (by rw[bR];omega),bR,Nat.min_eq_left (by omega),Nat.sub_self]
   simp[hk]
  simp only[aA,hw,h2.1,c1,c2,aM,aH,e1]
  rfl
 cases e:o==28
 case true=>
  obtain rfl:o=28:=by simpa using e
  have:sin a (m.1.length:Int)=true∧sin b (iI m a:Int)=true:=by simpa[bW] using hi
  obtain⟨h1,h2⟩:=this
  simp only[sin,aC,aQ] at h1 h2
  rw[←yR h1.2] at h2
  simp only[aA,h2.1,h2.2,aM,aH]
  rfl
 cases e:o==29
 case true=>
  obtain rfl:o=29:=by simpa using e
  have:sin a (m.2.1.length:Int)=true:=by simpa[bW] using hi
  simp only[sin,aC,aQ] at this
  simp only[aA,this.1,this.2,aM,aH]
  rfl
 cases e:o==30
 case true=>
  obtain rfl:o=30:=by simpa using e
  have:sin a (m.2.1.length:Int)=true:=by simpa[bW] using hi
  simp only[sin,aC,aQ] at this
  simp only[aA,this.1,this.2,aM,aH]
  rfl
 cases e:o==34
 case true=>obtain rfl:o=34:=by simpa using e
            rfl
 cases e:o==33
 case true=>
  obtain rfl:o=33:=by simpa using e
  simp only[aA]
  show _=some ((bif (aD m f).2.2.1.1 !=5 then (([(aD m f).2.2.1],[],()):Eff) else ([],[],())).1,(bif (aD m f).2.2.1.1 !=5 then (([(aD m f).2.2.1],[],()):Eff) else ([],[],())).2.1,())
  cases (aD m f).2.2.1.1 !=5 <;> rfl
 cases e:o==31
 case true=>
  obtain rfl:o=31:=by simpa using e
  have:sin a (m.2.2.2.1.length:Int)=true:=by simpa[bW] using hi
  simp only[sin,aC,aQ] at this
  simp only[aA,this.1,this.2,aM,aH]
  rfl
 cases e:o==32
 case true=>
  obtain rfl:o=32:=by simpa using e
  have:sin a (m.1.length:Int)=true∧sin b ((bP m a).2.2.1.length:Int)=true:=by simpa[bW] using hi
  have hsl:gR m a b=true:=by unfold gR;unfold sin at this;rw[this.1,this.2];rfl
  have h1:=wV hsl
  simp only[sin,aC,aQ] at this
  obtain⟨h2,h3⟩:=qW (sR hcl this.1.1 this.1.2) h1
  have hg:=tE hs (f:=(dJ m a b).1) (cC.2 h2)
  have hr5:xL m a b=dJ m a b:=rfl
  have c1:(1:Int)≤((aD m (dJ m a b).1).1.length:Int):=by omega
  have c2:decide ([((3:Int),a,())].length+(((aD m (dJ m a b).1).1.take ((aD m (dJ m a b).1).1.length:Int).toNat).drop 1).length<rowMax)=true:=aI (by simp only[aF,bM,eB,bR,rowMax];omega)
  have c3:decide (((aD m (dJ m a b).1).1.length:Int)≤((aD m (dJ m a b).1).1.length:Int))=true:=aI (by omega)
  simp only[aA,hr5,h2.1,h2.2,c1,c3,aM,aH]
  rw[c2,aA,aU,iA]
  rfl
 simp only[aB]
 by_cases h7:o≥7
 ·by_cases h17:o≤17
  ·have hn:lJ o=true:=by unfold lJ;rw[aI h7,aI h17];rfl
   have hp:eE o=(([tI,tI],[tI],()),true,()):=by
    unfold eE
    simp only[*,aB,aA]
    have e18:(o==18)=false:=qG.2 (by omega)
    rw[e18]
    rfl
   rw[hp,aI h7,aI h17]
   rfl
  ·have hp:(eE o).1=([],[],())∧((eE o).2.1=true→True):=by
    have hn:lJ o=false:=by unfold lJ;rw[bO h17];simp
    unfold eE
    simp only[*,aB]
    cases o==18 <;> exact⟨rfl,fun _=>trivial⟩
   rw[aI h7,bO h17,hp.1]
   cases (eE o).2.1 <;> rfl
 ·have hp:(eE o).1=([],[],()):=by
   have hn:lJ o=false:=by unfold lJ;rw[bO h7];simp
   unfold eE
   simp only[*,aB]
   cases o==18 <;> rfl
  rw[bO h7,hp]
  cases (eE o).2.1 <;> rfl
end Go.Pli

namespace Go.Pli
open Go Go.PM
def wO (fuel:Nat) (m:Im) (f:Int) (pc:Int) (s:List Tp) (nx:List Int):Option (List Tp×List Int×Int×Unit):=
 (bif decide ((nx.length:Int)>0) then
  bif decide ((0:Int)<nx.length) then
   bif decide (0≤f)&&decide (f<m.2.2.2.1.length) then
    bif decide (nx.getD 0 0≥((m.2.2.2.1.getD f.toNat zMt).2.2.2.1.length:Int)) then
     some (.inr (([]:List Tp),(([]:List Int),((4:Int),()))))
    else some (.inl ())
   else none
  else none
 else some (.inl ()):Option (Unit⊕(List Tp×List Int×Int×Unit))).bind fun q=>match q with
 | .inr r8=>some r8
 | .inl _=>
  (xK m f ((m.2.2.2.1.getD f.toNat zMt).2.2.2.1.getD pc.toNat cM)).bind fun r9=>
  ((bif (((m.2.2.2.1.getD f.toNat zMt).2.2.2.1.getD pc.toNat cM).1)==6 then
   some (.inl (decide ((s.length:Int)>0),()))
  else some (.inl (false,())):Option ((Bool×Unit)⊕((List Tp×List Tp×Unit)⊕(List Tp×List Int×Int×Unit)))).bind fun q=>match q with
  | .inr r13=>some r13
  | .inl s12=>
   bif s12.1 then
    bif decide (0≤IntKind.i64.wrap ((s.length:Int) - 1))&&decide (IntKind.i64.wrap ((s.length:Int) - 1)<s.length) then
     some (.inl ([((0:Int),((0:Int),()))],([s.getD (IntKind.i64.wrap ((s.length:Int) - 1)).toNat zTp,s.getD (IntKind.i64.wrap ((s.length:Int) - 1)).toNat zTp],())))
    else none
   else some (.inl (r9.1,r9.2.1,())):Option ((List Tp×List Tp×Unit)⊕(List Tp×List Int×Int×Unit))).bind fun q=>match q with
  | .inr r11=>some r11
  | .inl s10=>
   (bif (((m.2.2.2.1.getD f.toNat zMt).2.2.2.1.getD pc.toNat cM).1)==6 then
    bif (s.length:Int)==0 then
     some (.inr (([]:List Tp),(([]:List Int),((4:Int),()))))
    else bif decide ((s10.1.length:Int)>(s.length:Int)) then
     some (.inr (([]:List Tp),(([]:List Int),((4:Int),()))))
    else bif decide (IntKind.i64.wrap ((IntKind.i64.wrap ((s.length:Int) - (s10.1.length:Int)))+(s10.2.1.length:Int))>8) then
     some (.inr (([]:List Tp),(([]:List Int),((4:Int),()))))
    else some (.inl ())
   else bif decide ((s10.1.length:Int)>(s.length:Int)) then
    some (.inr (([]:List Tp),(([]:List Int),((4:Int),()))))
   else bif decide (IntKind.i64.wrap ((IntKind.i64.wrap ((s.length:Int) - (s10.1.length:Int)))+(s10.2.1.length:Int))>8) then
    some (.inr (([]:List Tp),(([]:List Int),((4:Int),()))))
   else some (.inl ()):Option (Unit⊕(List Tp×List Int×Int×Unit))).bind fun q=>match q with
   | .inr r15=>some r15
   | .inl _=>
    aE (xG m f pc s (nx,()) s10) fuel ((0:Int),())
theorem aJG {n:Nat} (h:0<n) (h2:n<1000000):IntKind.i64.wrap ((n:Int) - 1)=((n - 1:Nat):Int):=by
 rw[cS] <;> omega
theorem aHS {m:Im} (hs:aL m=true) {f pc:Int} {s:List Tp} (hsl:s.length<1000000) {nx:List Int} {T Gv:List Tp} (hT:T.length≤s.length) (hT2:T.length≤12) (hG:Gv.length≤12) {F:Nat} (hF:100<F):
  aE (xG m f pc s (nx,()) (T,Gv,())) F ((0:Int),())=some (bif ((s.drop (s.length - T.length)).zip T).all (fun p=>dU m (aG m f pc).1 p.1 p.2) then (s.take (s.length - T.length)++Gv,nx,0,()) else ([],[],4,())):=by
 have hok:okL m.1=true:=fK (by have:=(dG (dQ hs).1).classes;omega)
 have fold:∀g:Int,m.2.2.2.1.getD g.toNat zMt=aD m g:=fun _=>rfl
 have fold2:(aD m f).2.2.2.1.getD pc.toNat cM=aG m f pc:=rfl
 have hzip:=aD6 (fun a b=>dU m (aG m f pc).1 a b) zTp zTp (s.drop (s.length - T.length)) T (by rw[eB];omega)
 rw[hzip]
 generalize hD:s.length - T.length=D at*
 have hDi:(s.length:Int) - (T.length:Int)=(D:Int):=by omega
 have w4:IntKind.i64.wrap (D:Int)=(D:Int):=by rw[cS] <;> omega
 rw[show (T.zipIdx.all fun q=>dU m (aG m f pc).1 ((s.drop D).getD q.2 zTp) q.1)=jC (fun k x=>dU m (aG m f pc).1 ((s.drop D).getD k zTp) x) 0 T by
  rw[aBK,aBB,bI]
  constructor
  ·intro hh j x hx
   have:=hh (x,j) (by rw[List.mem_zipIdx_iff_getElem?];exact hx)
   simpa using this
  ·rintro hh ⟨x,j⟩ hx
   rw[List.mem_zipIdx_iff_getElem?] at hx
   have:=hh j x hx
   simpa using this]
 refine (aCX (xs:=T) (st:=fun k=>((k:Int),())) (p:=fun k x=>dU m (aG m f pc).1 ((s.drop D).getD k zTp) x) (ex:=some ([],[],4,())) (fin:=some (s.take D++Gv,nx,0,())) (fun k x rec hk hlt=>?_) (fun rec=>?_) F (by omega)).trans ?_
 ·have hx:(s.drop D).getD k zTp=s.getD (D+k) zTp:=by simp[dZ]
  have w3:IntKind.i64.wrap ((D:Int)+(k:Int))=((D+k:Nat):Int):=by rw[cS] <;> omega
  have hw:=bJ hlt (show _≤lenMax by simp only[lenMax];omega)
  rw[xG]
  simp only[w4,hDi,w3,fold,fold2,dlt hlt,dge,dlt (show D+k<s.length by omega),aH,aA,aU,getD_some hk,hx,hw,aE1 hok,aJ,dU,rC,bne]
  generalize s.getD (D+k) zTp=t
  cases x.1==0 <;> simp only[aA,aB]
  cases x.1==4 <;> simp only[aA,aB]
  ·cases cF m.1 t x <;> rfl
  ·cases hJ t <;> simp only[bA,cD,aA,aB,lA,eC]
   cases (aG m f pc).1==34 <;> simp only[bA,cD,aA,aB,kZ,sU]
   cases t.1==2 <;> simp only[bA,cD,aA,aB]
 ·have l3:(D:Int)≤(s.length:Int):=by omega
  have r1:decide (([]:List Tp).length+(s.take D).length<rowMax)=true:=aI (by simp only[bM,bR,rowMax];omega)
  have r2:decide ((([]:List Tp)++s.take D).length+Gv.length<rowMax)=true:=aI (by simp only[oX,bR,rowMax];omega)
  rw[xG]
  simp only[w4,hDi,bQ,aB,dge,l3,aM,aH,aA,aU,aBG,r1,r2]
  rw[oX]
 ·cases jC (fun k x=>dU m (aG m f pc).1 ((s.drop D).getD k zTp) x) 0 T <;> rfl
theorem aJS {m:Im} (hs:aL m=true) {f pc:Int} {s:List Tp} (hsl:s.length<1000000) (hf:inM m f=true) (hp:sin pc (codeN m f:Int)=true) {F:Nat} (hF:100<F):wO F m f pc s (dR (aG m f pc) pc)=some (aN m f pc s):=by
 obtain⟨f0,f1⟩:=cC.1 hf
 have hp':=hp
 simp only[sin,aC,aQ] at hp'
 have hc:=fH hs hf
 have hi:=rA hs hf hp
 have fold:∀g:Int,m.2.2.2.1.getD g.toNat zMt=aD m g:=fun _=>rfl
 have fold2:(aD m f).2.2.2.1.getD pc.toNat cM=aG m f pc:=rfl
 have fold3:(aD m f).2.2.2.1.length=codeN m f:=rfl
 have hw:IntKind.i64.wrap (pc+1)=pc+1:=by rw[cS] <;> omega
 have hcnd:(bif decide (((dR (aG m f pc) pc).length:Int)>0) then decide ((dR (aG m f pc) pc).getD 0 0≥(codeN m f:Int)) else false)=(dR (aG m f pc) pc).contains (codeN m f:Int):=by
  have hj:((aG m f pc).1==18 || (aG m f pc).1==19)=true→(aG m f pc).2.1<(codeN m f:Int):=by
   intro hh
   have:sin (aG m f pc).2.1 (codeN m f:Int)=true:=by
    rw[fT] at hh
    unfold bW at hi
    rcases hh with hh | hh <;> (have e:=eq_of_beq hh;rw[e] at hi;exact hi)
   simp only[sin,aC,aQ] at this
   exact this.2
  have hpc:decide (pc+1≥(codeN m f:Int))=(pc+1==(codeN m f:Int)):=by
   rw[aBK,aQ,gJ];omega
  have hpc2:((codeN m f:Int)==pc+1)=(pc+1==(codeN m f:Int)):=by
   rw[aBK,gJ,gJ];omega
  unfold dR
  rw[hw]
  cases h1:(aG m f pc).1==18 <;> simp only[aA,aB]
  ·cases h2:(aG m f pc).1==19 <;> simp only[aA,aB]
   ·cases (aG m f pc).1==33 <;> simp only[aA,aB]
    ·simp only[aF,bM,List.getD_cons_zero,List.contains_cons,List.contains_nil,Bool.or_false,hpc,hpc2]
     rfl
    ·rfl
   ·have:=hj (by rw[h2,Bool.or_true])
    have e:((codeN m f:Int)==(aG m f pc).2.1)=false:=qG.2 (by omega)
    simp only[aF,bM,List.getD_cons_zero,List.contains_cons,List.contains_nil,Bool.or_false,hpc,hpc2,e]
    rfl
  ·have:=hj (by rw[h1,sU])
   have e:((codeN m f:Int)==(aG m f pc).2.1)=false:=qG.2 (by omega)
   have e2:decide ((aG m f pc).2.1≥(codeN m f:Int))=false:=bO (by omega)
   simp only[aF,bM,List.getD_cons_zero,List.contains_cons,List.contains_nil,Bool.or_false,e,e2]
   rfl
 unfold wO aN
 simp only[fold,fold2,fold3,aLv hs hf hi,f0,f1,hf,hp,aM,aH,bA,aA,aB]
 rw[←hcnd]
 have hsm:=aEL hs (f:=f) hi
 generalize eF m (aD m f) (aG m f pc)=E at hsm⊢
 generalize dR (aG m f pc) pc=nx
 obtain⟨hE1,hE2⟩:=hsm
 have e1:(bif decide ((nx.length:Int)>0) then bif decide ((0:Int)<nx.length) then bif decide (nx.getD 0 0≥(codeN m f:Int)) then (some (.inr (([]:List Tp),(([]:List Int),((4:Int),())))):Option (Unit⊕St4)) else some (.inl ()) else none else some (.inl ()))=
   some (bif (bif decide ((nx.length:Int)>0) then decide (nx.getD 0 0≥(codeN m f:Int)) else false) then .inr ([],[],4,()) else .inl ()):=by
  by_cases h:(nx.length:Int)>0
  ·rw[aI h,aA,aA,aA]
   cases decide (nx.getD 0 0≥(codeN m f:Int)) <;> rfl
  ·rw[bO h];rfl
 rw[e1]
 cases (bif decide ((nx.length:Int)>0) then decide (nx.getD 0 0≥(codeN m f:Int)) else false) <;> simp only[aA,aB,aJ]
 cases h6:(aG m f pc).1==6 <;> simp only[aA,aB,aJ]
 ·unfold mD
  by_cases l1:s.length<E.1.length
  ·have:(E.1.length:Int)>(s.length:Int):=by omega
   rw[aI this,aI l1]
   rfl
  have l1':¬(E.1.length:Int)>(s.length:Int):=by omega
  rw[bO l1',bO l1,aB,kZ]
  have w1:IntKind.i64.wrap ((s.length:Int) - (E.1.length:Int))=(s.length:Int) - (E.1.length:Int):=by rw[cS] <;> omega
  have w2:IntKind.i64.wrap ((s.length:Int) - (E.1.length:Int)+(E.2.1.length:Int))=(s.length:Int) - (E.1.length:Int)+(E.2.1.length:Int):=by rw[cS] <;> omega
  rw[w1,w2]
  by_cases l2:s.length - E.1.length+E.2.1.length>8
  ·have:(s.length:Int) - (E.1.length:Int)+(E.2.1.length:Int)>8:=by omega
   rw[aI this,aI l2]
   rfl
  have l2':¬(s.length:Int) - (E.1.length:Int)+(E.2.1.length:Int)>8:=by omega
  rw[bO l2,bO l2',aB,aB]
  simp only[aJ]
  exact aHS hs hsl (f:=f) (pc:=pc) (nx:=nx) (T:=E.1) (Gv:=E.2.1) (by omega) hE1 (by omega) hF
 ·by_cases s0:s.length=0
  ·have g1:decide ((s.length:Int)>0)=false:=bO (by omega)
   have g2:((s.length:Int)==0)=true:=by rw[s0];rfl
   rw[g1,g2,aI s0]
   rfl
  ·have g1:decide ((s.length:Int)>0)=true:=aI (by omega)
   have g2:((s.length:Int)==0)=false:=qG.2 (by omega)
   have hw1:=aJG (show 0<s.length by omega) hsl
   rw[g1,g2,bO s0,hw1]
   have hlt:s.length - 1<s.length:=by omega
   simp only[aA,aB,kZ,dge,dlt hlt,aH,aU,aJ]
   have a1:¬(([((0:Int),((0:Int),()))]:List Tp).length:Int)>(s.length:Int):=by
    show ¬((1:Nat):Int)>_
    omega
   have a2:IntKind.i64.wrap ((s.length:Int) - (([((0:Int),((0:Int),()))]:List Tp).length:Int))=(s.length:Int) - 1:=by
    show IntKind.i64.wrap ((s.length:Int) - ((1:Nat):Int))=_
    rw[cS] <;> omega
   have a3:IntKind.i64.wrap ((s.length:Int) - 1+(([s.getD (s.length - 1) zTp,s.getD (s.length - 1) zTp]:List Tp).length:Int))=(s.length:Int)+1:=by
    show IntKind.i64.wrap ((s.length:Int) - 1+((2:Nat):Int))=_
    rw[cS] <;> omega
   rw[bO a1,a2,a3]
   by_cases s8:s.length≥8
   ·have:(s.length:Int)+1>8:=by omega
    rw[aI this,aI s8]
    rfl
   ·have:¬(s.length:Int)+1>8:=by omega
    rw[bO this,bO s8]
    simp only[aB,aJ]
    have hfl:=aHS hs hsl (f:=f) (pc:=pc) (nx:=nx) (T:=[zTp]) (Gv:=[s.getD (s.length - 1) zTp,s.getD (s.length - 1) zTp]) (F:=F) (by simp;omega) (by simp) (by simp) hF
    refine hfl.trans ?_
    have hall:((s.drop (s.length - [zTp].length)).zip [zTp]).all (fun p=>dU m (aG m f pc).1 p.1 p.2)=true:=by
     rw[bI]
     rintro ⟨x,y⟩ hxy
     have:=(List.of_mem_zip hxy).2
     rw[dY] at this
     subst this
     rfl
    rw[hall]
    have hd:s.drop (s.length - 1)=[s.getD (s.length - 1) zTp]:=by
     rw[List.drop_eq_getElem_cons hlt,List.drop_of_length_le (by omega)]
     simp[hlt]
    simp only[aA,aF,bM,bH]
    rw[hd]
    have hs':s=s.take (s.length - 1)++[s.getD (s.length - 1) zTp]:=by
     rw[←hd,vZ]
    rw[show s.take (s.length - 1)++[s.getD (s.length - 1) zTp,s.getD (s.length - 1) zTp]=(s.take (s.length - 1)++[s.getD (s.length - 1) zTp])++[s.getD (s.length - 1) zTp] by simp,←hs']
theorem aL7 (m:Im) (f pc:Int) (s:List Tp) (r) (h:tQ m f pc s=some r):∃k,tP k m f pc s=some r:=by
 unfold tQ at h
 cases hb:aL m&&okL s <;> simp only[hb,aA,aB] at h
 ·cases h
 injection h with h
 subst h
 simp only[aC] at hb
 obtain⟨hs,hsl⟩:=hb
 have hsl:=gZ hsl
 obtain⟨F,hF⟩:∃F:Nat,100<F:=⟨101,by omega⟩
 refine⟨F,?_⟩
 have fold:∀g:Int,m.2.2.2.1.getD g.toNat zMt=aD m g:=fun _=>rfl
 have fold2:(aD m f).2.2.2.1.getD pc.toNat cM=aG m f pc:=rfl
 have fold3:(aD m f).2.2.2.1.length=codeN m f:=rfl
 cases hf:inM m f
 ·unfold tP aN
  rw[hf]
  have:¬(0≤f∧f<(m.2.2.2.1.length:Int)):=fun hh=>by rw[cC.2 hh] at hf;cases hf
  by_cases h0:f<0
  ·rw[aI h0];rfl
  ·have h1:f≥(m.2.2.2.1.length:Int):=by omega
   rw[bO h0,aI h1];rfl
 obtain⟨f0,f1⟩:=cC.1 hf
 have f2:¬f<0:=by omega
 have f3:¬f≥(m.2.2.2.1.length:Int):=by omega
 have hc:=fH hs hf
 by_cases p0:pc<0
 ·have:¬0≤pc:=by omega
  unfold tP aN sin
  rw[bO f2,bO f3,aI p0,hf,bO this];rfl
 have p0':0≤pc:=by omega
 by_cases p1:pc≥(codeN m f:Int)
 ·have:¬pc<(codeN m f:Int):=by omega
  unfold tP aN sin
  simp only[fold,fold3]
  rw[bO f2,bO f3,bO p0,aI f0,aI f1,aI p1,hf,bO this,aI p0'];rfl
 have p1':pc<(codeN m f:Int):=by omega
 have hp:sin pc (codeN m f:Int)=true:=by simp[sin,p0',p1']
 rw[←aJS hs hsl hf hp hF]
 have hi:=rA hs hf hp
 have hroom:∀x:Int,decide (([IntKind.i64.wrap (pc+1)]:List Int).length+[x].length<rowMax)=true:=fun x=>aI (by simp only[aF,bM,rowMax];omega)
 have hend:∀nx:List Int,_=wO F m f pc s nx:=fun nx=>by
  unfold wO
  simp only[fold,fold2,fold3]
  rw[aI f0,aI f1]
 have hred:∀nx:List Int,nx=dR (aG m f pc) pc→tP F m f pc s=wO F m f pc s nx:=by
  intro nx hnx
  unfold tP
  simp only[fold,fold2,fold3]
  rw[bO f2,bO f3,bO p0,aI f0,aI f1,bO p1,aI p0',aI p1']
  simp only[aA,aB,aH]
  unfold dR at hnx
  cases h18:(aG m f pc).1==18
  ·rw[h18] at hnx
   simp only[aB,aJ] at hnx⊢
   cases h19:(aG m f pc).1==19
   ·rw[h19] at hnx
    simp only[aB,aJ] at hnx⊢
    cases h33:(aG m f pc).1==33
    ·rw[h33] at hnx
     simp only[aB,aJ] at hnx⊢
     rw[hnx]
     exact hend _
    ·rw[h33] at hnx
     simp only[aA,aJ] at hnx⊢
     rw[hnx]
     exact hend _
   ·rw[h19] at hnx
    have h33:((aG m f pc).1==33)=false:=by
     have:=eq_of_beq h19
     rw[this];rfl
    simp only[aA,hroom,aJ,h33,aB] at hnx⊢
    rw[hnx]
    exact hend _
  ·rw[h18] at hnx
   have h19:((aG m f pc).1==19)=false:=by
    have:=eq_of_beq h18
    rw[this];rfl
   have h33:((aG m f pc).1==33)=false:=by
    have:=eq_of_beq h18
    rw[this];rfl
   simp only[aA,aJ,h19,h33,aB] at hnx⊢
   rw[hnx]
   exact hend _
 exact hred _ rfl
end Go.Pli

namespace Go.Pli
open Go Go.PM
def jG (N:Nat) (h:List Sh):Prop:=h.length=N∧∀s∈h,s.2.1.length≤8
theorem aG8 {N:Nat} {h:List Sh} (hh:jG N h) (k:Nat):(h.getD k zSh).2.1.length≤8:=by
 by_cases hk:k<h.length
 ·rw[getD_some (aV hk)];exact hh.2 _ (eH hk)
 ·rw[gU (by omega)];exact dF _
theorem aNF {l:List Cl} {o:Sh} {s:List Tp} (ho:o.2.1.length≤8) (hs:s.length≤8):(cU l o s).1.2.1.length≤8:=by
 unfold cU
 cases !o.1 <;> simp only[aA,aB]
 ·cases h2:decide (o.2.1.length≠s.length) <;> simp only[aA,aB]
  ·have hlen:o.2.1.length=s.length:=by simpa using h2
   cases (bN l o.2.1 s).any fun t=>t.1==0 <;> simp only[aA,aB]
   ·rw[uO l hlen];exact hs
   ·exact ho
  ·exact ho
 ·exact hs
theorem aG7 {N:Nat} {h:List Sh} (hh:jG N h) (k:Nat) {s:Sh} (hs:s.2.1.length≤8):jG N (h.set k s):=
 ⟨by rw[dE];exact hh.1,fun x hx=>by
  rcases wB hx with hx | rfl
  ·exact hh.2 x hx
  ·exact hs⟩
theorem aDr {l:List Cl} {a:List Tp} (ha:a.length≤8) {N:Nat}:∀(ts:List Int) (t:Bool) (h:List Sh) (r),jG N h→jT l a ts t h=some r→jG N r.2
 | [],t,h,r,hh,he=>by
  unfold jT at he
  injection he with he
  subst he
  exact hh
 | to::ts,t,h,r,hh,he=>by
  unfold jT at he
  cases h1:(cU l (h.getD to.toNat zSh) a).2.2.1 <;> simp only[h1,bA,cD,aA,aB] at he
  ·cases he
  ·cases h2:(cU l (h.getD to.toNat zSh) a).2.1 <;> simp only[h2,aA,aB] at he
   ·exact aDr ha ts _ _ _ hh he
   ·exact aDr ha ts _ _ _ (aG7 hh _ (aNF (aG8 hh _) ha)) he
theorem aOi {m:Im} (hok:okL m.1=true) {s6:Bool×Int×List Sh×Unit} {rec7:(Bool×Int×List Sh×Unit)→Option (List Sh×Bool×Unit)} {r5:St4} {to:Int} {k:Nat} (hto:r5.2.1.getD s6.2.1.toNat 0=to) (hk:s6.2.1=(k:Int)) (hk2:k<1000) (t0:0≤to) (t1:to<(s6.2.2.1.length:Int)) (ha:r5.1.length≤8) (hl:(s6.2.2.1.getD to.toNat zSh).2.1.length=r5.1.length) {F:Nat} (hF:100<F):
  aE (xJ m s6 rec7 r5) F (([]:List Tp),((0:Int),()))=
   bif (bN m.1 (s6.2.2.1.getD to.toNat zSh).2.1 r5.1).any fun t=>t.1==0 then some ([],false,())
   else bif !(bN m.1 (s6.2.2.1.getD to.toNat zSh).2.1 r5.1==(s6.2.2.1.getD to.toNat zSh).2.1) then rec7 (true,((k+1:Nat):Int),s6.2.2.1.set to.toNat (true,bN m.1 (s6.2.2.1.getD to.toNat zSh).2.1 r5.1,()),())
   else rec7 (s6.1,((k+1:Nat):Int),s6.2.2.1,()):=by
 generalize hO:(s6.2.2.1.getD to.toNat zSh).2.1=O at hl⊢
 have hto':r5.2.1.getD k 0=to:=by rw[hk] at hto;simpa using hto
 have hml:=uO m.1 hl
 have hw:IntKind.i64.wrap ((k:Int)+1)=((k+1:Nat):Int):=by rw[cS] <;> omega
 have key:=lN (L:=xJ m s6 rec7 r5) (xs:=bN m.1 O r5.1) (st:=fun j=>((bN m.1 O r5.1).take j,(j:Int),())) (p:=fun x=> !(x.1==0)) (ex:=some ([],false,()))
  (fin:=bif !(bN m.1 O r5.1==O) then rec7 (true,((k+1:Nat):Int),s6.2.2.1.set to.toNat (true,bN m.1 O r5.1,()),()) else rec7 (s6.1,((k+1:Nat):Int),s6.2.2.1,()))
  (fun j x rec hj hjl=>by
   have j1:j<r5.1.length:=by omega
   have j2:j<O.length:=by omega
   have hx:=aNI m.1 j2 j1
   rw[hj] at hx
   have hx:=nI hx
   have hrj:tL m.1 (O.getD j zTp) (r5.1.getD j zTp)=some (x,()):=by unfold tL;rw[hok,hx];rfl
   have hroom:decide (((bN m.1 O r5.1).take j).length+(0+1)<rowMax)=true:=lG (by rw[bR];omega)
   have htk:(bN m.1 O r5.1).take (j+1)=(bN m.1 O r5.1).take j++[x]:=by rw[qK,hj];rfl
   rw[xJ]
   simp only[hk,aU,hto',hO,t0,t1,dlt j1,dlt j2,dge,aM,aH,aA,hrj,aJ,aF,bM,hroom,bJ j1 (show _≤lenMax by simp only[lenMax];omega),htk]
   cases x.1==0 <;> rfl)
  (fun rec=>by
   rw[xJ]
   simp only[hml,bQ,aB,hk,aU,hto',hO,t0,t1,aM,aH,aA,tJ,hw]
   rw[←hml,iA]) F (by omega)
 rw[List.take_zero] at key
 refine key.trans ?_
 rw[←List.not_any_eq_all_not]
 cases (bN m.1 O r5.1).any fun t=>t.1==0 <;> rfl
theorem aHQ {m:Im} (hok:okL m.1=true) {s3:Bool×Int×List Sh×Unit} {rec4:(Bool×Int×List Sh×Unit)→Option (List Sh×Bool×Unit)} {r5:St4} (ha:r5.1.length≤8) {N:Nat} {F0:Nat} (hF0:100<F0) (hnl:r5.2.1.length≤2) (hto:∀to∈r5.2.1,0≤to∧to<(N:Int)):
  ∀(l pre:List Int) (t:Bool) (h:List Sh) (F:Nat),r5.2.1=pre++l→l.length<F→jG N h→aE (xI m F0 s3 rec4 r5) F (t,(pre.length:Int),h,())=
   match jT m.1 r5.1 l t h with
   | none=>some ([],false,())
   | some r=>rec4 (r.1,IntKind.i64.wrap (s3.2.1 - 1),r.2,())
 | [],pre,t,h,F,he,hF,hh=>by
  obtain⟨F,rfl⟩:∃n,F=n+1:=⟨F - 1,by simp at hF;omega⟩
  rw[bU] at he
  rw[aX,xI,he]
  simp only[bQ,aB,jT]
 | to::l,pre,t,h,F,he,hF,hh=>by
  obtain⟨F,rfl⟩:∃n,F=n+1:=⟨F - 1,by simp at hF;omega⟩
  have hk:pre.length<r5.2.1.length:=by rw[he,aW];simp
  have hget:r5.2.1.getD pre.length 0=to:=by rw[he];simp
  obtain⟨t0,t1⟩:=hto to (by rw[he];simp)
  have t2:to<(h.length:Int):=by rw[hh.1];exact t1
  have hw:=bJ hk (show _≤lenMax by simp only[lenMax];omega)
  have ih:=fun t' h' hh'=>aHQ hok (s3:=s3) (rec4:=rec4) ha hF0 hnl hto l (pre++[to]) t' h' F (by rw[he,cA];rfl) (by simp only[aF] at hF;omega) hh'
  simp only[aW,aF,bM,bH] at ih
  have hset:∀s:Sh,s.2.1.length≤8→jG N (h.set to.toNat s):=fun s hs=>aG7 hh _ hs
  rw[aX,xI]
  simp only[dlt hk,dge,aH,aA,aU,hget,t0,t2,aM,hw]
  unfold jT cU
  cases h1:(h.getD to.toNat zSh).1 <;> simp only[bA,cD,aA,aB]
  ·exact ih _ _ (hset _ ha)
  ·by_cases hl:(h.getD to.toNat zSh).2.1.length=r5.1.length
   ·have e1:(((h.getD to.toNat zSh).2.1.length:Int) !=(r5.1.length:Int))=false:=by rw[hl];simp
    have e2:decide ((h.getD to.toNat zSh).2.1.length≠r5.1.length)=false:=bO fun hh=>hh hl
    rw[e1,e2,aB,aB]
    have:=aOi hok (s6:=(t,(pre.length:Int),h,())) (rec7:=aE (xI m F0 s3 rec4 r5) F) (r5:=r5) (to:=to) (k:=pre.length) (by simpa using hget) rfl (by omega) t0 t2 ha hl hF0
    rw[this]
    cases (bN m.1 (h.getD to.toNat zSh).2.1 r5.1).any fun t=>t.1==0 <;> simp only[bA,cD,aA,aB]
    cases bN m.1 (h.getD to.toNat zSh).2.1 r5.1==(h.getD to.toNat zSh).2.1 <;> simp only[bA,cD,aA,aB]
    ·exact ih _ _ (hset _ (by rw[uO m.1 hl];exact ha))
    ·exact ih _ _ hh
   ·have e1:(((h.getD to.toNat zSh).2.1.length:Int) !=(r5.1.length:Int))=true:=bne_iff_ne.2 (by omega)
    have e2:decide ((h.getD to.toNat zSh).2.1.length≠r5.1.length)=true:=aI hl
    rw[e1,e2,aA,aA]
    rfl
theorem aHO {m:Im} (hs:aL m=true) {f:Int} {N:Nat} {pc:Nat} {t:Bool} {h:List Sh} {r} (hh:jG N h) (he:mX m f pc t h=some r):jG N r.2:=by
 unfold mX at he
 cases h1:(h.getD pc zSh).1 <;> simp only[h1,bA,cD,aA,aB] at he
 ·injection he with he;subst he;exact hh
 ·cases h2:(aN m f (pc:Int) (h.getD pc zSh).2.1).2.2.1 !=0 <;> simp only[h2,aA,aB] at he
  ·obtain⟨-,-,h8,-⟩:=nQ hs (f:=f) (pc:=(pc:Int)) (s:=(h.getD pc zSh).2.1) (by simpa using h2)
   exact aDr h8 _ _ _ _ hh he
  ·cases he
theorem aHL {m:Im} (hs:aL m=true) {f:Int} {N:Nat}:∀(n:Nat) (t:Bool) (h:List Sh) (r),jG N h→iH m f n t h=some r→jG N r.2
 | 0,t,h,r,hh,he=>by
  unfold iH at he
  injection he with he;subst he;exact hh
 | n+1,t,h,r,hh,he=>by
  unfold iH at he
  cases hp:mX m f n t h with
  | none=>rw[hp] at he;cases he
  | some q=>
   rw[hp] at he
   exact aHL hs n _ _ _ (aHO hs hh hp) he
theorem aE8 {m:Im} (hs:aL m=true) {f:Int} (hf:inM m f=true) {F0:Nat} (hF0:1000<F0) {s1:Int×List Sh×Unit} {rec2:(Int×List Sh×Unit)→Option (List Sh×Bool×Unit)}:
  ∀(n:Nat) (t:Bool) (h:List Sh) (F:Nat),n≤codeN m f→n<F→jG (codeN m f) h→aE (xH m f F0 s1 rec2) F (t,(n:Int) - 1,h,())=
   match iH m f n t h with
   | none=>some ([],false,())
   | some r=>bif !r.1 then some (r.2,true,()) else rec2 (IntKind.i64.wrap (s1.1+1),r.2,())
 | 0,t,h,F,hn,hF,hh=>by
  obtain⟨F,rfl⟩:∃n,F=n+1:=⟨F - 1,by omega⟩
  rw[aX,xH]
  have:¬(((0:Nat):Int) - 1≥0):=by omega
  simp only[this,bG,aB,iH]
 | n+1,t,h,F,hn,hF,hh=>by
  obtain⟨F,rfl⟩:∃n,F=n+1:=⟨F - 1,by omega⟩
  have hok:okL m.1=true:=fK (by have:=(dG (dQ hs).1).classes;omega)
  have hc:=fH hs hf
  have e:(((n+1:Nat):Int) - 1)=(n:Int):=by omega
  have g0:decide ((n:Int)≥0)=true:=aI (by omega)
  have hnl:n<h.length:=by rw[hh.1];omega
  have hw:IntKind.i64.wrap ((n:Int) - 1)=(n:Int) - 1:=by rw[cS] <;> omega
  have h8:=aG8 hh n
  have hst:tQ m f (n:Int) (h.getD n zSh).2.1=some (aN m f (n:Int) (h.getD n zSh).2.1):=by unfold tQ;rw[hs,fK (by omega)];rfl
  have ih:=fun t' h' hh'=>aE8 hs hf hF0 (s1:=s1) (rec2:=rec2) n t' h' F (by omega) (by omega) hh'
  rw[aX,xH,e]
  simp only[g0,dge,dlt hnl,aH,aA,aU,hw,hst,aJ]
  unfold iH
  have hfl:=fun q=>aHO hs (f:=f) (pc:=n) (t:=t) (r:=q) hh
  unfold mX at hfl⊢
  cases h1:(h.getD n zSh).1 <;> simp only[h1,bA,cD,aA,aB] at hfl⊢
  ·exact ih _ _ hh
  ·cases h2:(aN m f (n:Int) (h.getD n zSh).2.1).2.2.1 !=0 <;> simp only[h2,aA,aB] at hfl⊢
   ·obtain⟨-,-,h8,hto⟩:=nQ hs (f:=f) (pc:=(n:Int)) (s:=(h.getD n zSh).2.1) (by simpa using h2)
    have:=aHQ hok (s3:=(t,(n:Int),h,())) (rec4:=aE (xH m f F0 s1 rec2) F) (r5:=aN m f (n:Int) (h.getD n zSh).2.1) h8 (N:=codeN m f) (F0:=F0) (by omega) (wS ..) hto (aN m f (n:Int) (h.getD n zSh).2.1).2.1 [] t h F0 rfl (by have:(aN m f (n:Int) (h.getD n zSh).2.1).2.1.length≤2:=wS ..;omega) hh
    simp only[bM] at this
    refine this.trans ?_
    cases hE:jT m.1 (aN m f (n:Int) (h.getD n zSh).2.1).1 (aN m f (n:Int) (h.getD n zSh).2.1).2.1 t h with
    | none=>rfl
    | some q=>
     simp only[hw,aJ]
     exact ih _ _ (hfl q hE)
   ·rfl
theorem aE6 {m:Im} (hs:aL m=true) {f:Int} (hf:inM m f=true) {F0:Nat} (hF0:1000<F0):∀(n k:Nat) (h:List Sh) (F:Nat),k+n=4000→n<F→jG (codeN m f) h→aE (aAd m f F0) F ((k:Int),h,())=some (gH m f n h)
 | 0,k,h,F,hk,hF,hh=>by
  obtain⟨F,rfl⟩:∃n,F=n+1:=⟨F - 1,by omega⟩
  have:¬((k:Int)<4000):=by omega
  rw[aX,aAd]
  simp only[this,bG,aB]
  rfl
 | n+1,k,h,F,hk,hF,hh=>by
  obtain⟨F,rfl⟩:∃n,F=n+1:=⟨F - 1,by omega⟩
  have hlt:(k:Int)<4000:=by omega
  have hc:=fH hs hf
  have fold:∀g:Int,m.2.2.2.1.getD g.toNat zMt=aD m g:=fun _=>rfl
  have fold3:(aD m f).2.2.2.1.length=codeN m f:=rfl
  have hw:IntKind.i64.wrap ((codeN m f:Int) - 1)=(codeN m f:Int) - 1:=by rw[cS] <;> omega
  have hw2:IntKind.i64.wrap ((k:Int)+1)=((k+1:Nat):Int):=by rw[cS] <;> omega
  rw[aX,aAd]
  simp only[hlt,aM,aA,fold,fold3,hw]
  refine (aE8 hs hf hF0 (codeN m f) false h F0 (aT _) (by omega) hh).trans ?_
  unfold gH
  cases hr:iH m f (codeN m f) false h with
  | none=>rfl
  | some r=>
   have hl:=aHL hs _ _ _ _ hh hr
   simp only[hw2]
   cases r.1 <;> simp only[bA,cD,aA,aB]
   exact aE6 hs hf hF0 n (k+1) r.2 F (by omega) (by omega) hl
theorem aJ5 (m:Im) (f:Int):jG (codeN m f) (gG m f):=by
 unfold gG
 refine⟨by simp,fun s hs=>?_⟩
 rcases wB hs with h | rfl
 ·rw[zA] at h;rw[h.2];exact dF _
 ·exact dF _
theorem aL9 (m:Im) (f:Int) (r) (h:tS m f=some r):∃k,aFu k m f=some r:=by
 unfold tS at h
 cases hb:aL m&&inM m f <;> simp only[hb,aA,aB] at h
 ·cases h
 injection h with h
 subst h
 simp only[aC] at hb
 obtain⟨hs,hf⟩:=hb
 obtain⟨f0,f1⟩:=cC.1 hf
 have hc:=fH hs hf
 obtain⟨F,hF⟩:∃F:Nat,5000<F:=⟨5001,by omega⟩
 refine⟨F,?_⟩
 have fold:∀g:Int,m.2.2.2.1.getD g.toNat zMt=aD m g:=fun _=>rfl
 have fold3:(aD m f).2.2.2.1.length=codeN m f:=rfl
 have e0:decide ((0:Int)≤(codeN m f:Int))=true:=aI (by omega)
 have e1:decide ((codeN m f:Int)<(rowMax:Int))=true:=aI (by simp only[rowMax];omega)
 have e2:((codeN m f:Int)==0)=false:=qG.2 (by omega)
 have e3:decide ((0:Int)<(codeN m f:Int))=true:=aI (by omega)
 have e4:decide ((codeN m f:Int)≤(codeN m f:Int))=true:=aI (by omega)
 have e5:((List.replicate (codeN m f) zSh).getD 0 zSh).2=([],()):=by
  obtain⟨n,hn⟩:∃n,codeN m f=n+1:=⟨codeN m f - 1,by omega⟩
  rw[hn];rfl
 unfold aFu
 simp only[fold,fold3,f0,f1,aM,aH,aA,aB,e0,e1,e2,e3,e4,e5,aU,sS]
 exact aE6 hs hf (by omega) 4000 0 _ F (by omega) (by omega) (aJ5 m f)
theorem aJv {m:Im} (hs:aL m=true):∀(j k:Nat) (out:List (List Sh)) (F:Nat),k+j=m.2.2.2.1.length→j<F→out.length≤k→aE (aAe m) F (out,(k:Int),())=some (sQ m ((List.range' k j).map fun n:Nat=>(n:Int)) out)
 | 0,k,out,F,hk,hF,_=>by
  obtain⟨F,rfl⟩:∃n,F=n+1:=⟨F - 1,by omega⟩
  have:k=m.2.2.2.1.length:=by omega
  subst this
  rw[aX,aAe]
  simp only[bQ,aB]
  rfl
 | j+1,k,out,F,hk,hF,ho=>by
  obtain⟨F,rfl⟩:∃n,F=n+1:=⟨F - 1,by omega⟩
  have h12:=(dG (dQ hs).1).methods
  have hlt:k<m.2.2.2.1.length:=by omega
  have hin:inM m (k:Int)=true:=cC.2 ⟨by omega,by omega⟩
  have hsh:tS m (k:Int)=some (gH m (k:Int) 4000 (gG m (k:Int))):=by unfold tS;rw[hs,hin];rfl
  rw[aX,aAe]
  rw[List.range'_succ,dK,sQ]
  simp only[dlt hlt,aA,hsh,aJ]
  cases (gH m (k:Int) 4000 (gG m (k:Int))).2.1 <;> simp only[bA,cD,aA,aB]
  simp only[aF,bM,lG (show out.length+(0+1)<549755813888 by omega),aA,bJ hlt (show _≤lenMax by simp only[lenMax];omega)]
  exact aJv hs j (k+1) _ F (by omega) (by omega) (by simp;omega)
theorem aMd (m:Im) (r) (h:jP m=some r):∃k,aFw k m=some r:=by
 unfold jP at h
 cases hs:aL m <;> simp only[hs,aA,aB] at h
 ·cases h
 injection h with h
 subst h
 have h12:=(dG (dQ hs).1).methods
 refine⟨m.2.2.2.1.length+1,?_⟩
 unfold aFw
 rw[show ints m.2.2.2.1.length=(List.range' 0 m.2.2.2.1.length).map fun n:Nat=>(n:Int) by rw[←List.range_eq_range'];rfl]
 exact aJv hs m.2.2.2.1.length 0 [] _ (by omega) (by omega) (by simp)
end Go.Pli
