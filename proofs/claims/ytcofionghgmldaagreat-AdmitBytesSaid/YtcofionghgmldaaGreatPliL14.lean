/- The document's steps: what the printed functions come to. -/
import Derived.Test.YtcofionghgmldaaGreatPliNt
import Derived.Test.YtcofionghgmldaaGreatPliL13E
namespace Go.Pli
open Go Go.PM
theorem aP3 (l:List Cl) (a b:Tp):yJ l a b=cN l a b:=by
 cases h3:a.1==3
 ·unfold yJ cN;rw[h3];cases a.1==4 <;> simp
 ·obtain⟨a1,a2,⟨⟩⟩:=a;have:a1=3:=by simpa using h3
  subst this;exact aJS l a2 b
theorem aJT {l:List Cl} (hl:okL l=true) (a b:Tp):oL l a b=some (cN l a b,()):=by
 unfold oL;rw[hl,aP3];rfl
theorem aJ5 {l:List Cl} {xs ys:List Int} (hx:xs.length<1000000) (hy:ys.length<1000000):∀(r pre:List Int) (F:Nat),xs=pre++r→r.length<F→
  aD (aBa (xs,()) (ys,())) F ((pre.length:Int),())=some (match r.find? fun c=>ys.contains c with | some c=>(3,c,()) | none=>zTp,())
 | [],pre,F,he,hF=>by
  obtain⟨F,rfl⟩:∃n,F=n+1:=⟨F - 1,by simp at hF;omega⟩;rw[bZ] at he;rw[aZ,aBa,he];simp only[aU,aB,List.find?_nil]
 | c::r,pre,F,he,hF=>by
  obtain⟨F,rfl⟩:∃n,F=n+1:=⟨F - 1,by simp at hF;omega⟩;have hk:pre.length<xs.length:=by rw[he,aS];simp
  have hget:xs.getD pre.length 0=c:=by rw[he];simp
  have ih:=aJ5 (l:=l) hx hy r (pre++[c]) F (by rw[he,bG];rfl) (by simp only[aJ] at hF;omega);simp only[aS,aJ,bJ,cG] at ih;rw[aZ,aBa];simp only[dlt hk,dge,aG,aA,aL,hget,aFS (show ys.length<1000000000 by omega),aF,aQ hk (show _≤lenMax by simp only[lenMax];omega),xO];cases ys.contains c <;> simp only[aA,aB];exact ih
theorem aSj (l:List Cl) (a b:Tp) (r) (h:yM l a b=some r):∃k,aJ6 k l a b=some r:=by
 unfold yM at h;cases hb:okL l <;> simp only[hb,aA,aB] at h
 ·cases h
 injection h with h
 subst h;have hl:=iG hb;refine⟨1000003,?_⟩;have hra:∀c,lF l c=some (cP l c,()):=fun c=>by unfold lF;rw[hb];rfl
 unfold aJ6 gD;simp only[aJT hb,aF,hra];cases cN l a b <;> simp only[aA,aB];cases cN l b a <;> simp only[aA,aB];cases h1:a.1 !=3 <;> simp only[aA,aB,vD,iR];cases h2:b.1 !=3 <;> simp only[aA,aB];by_cases hin:0≤a.2.1∧a.2.1<(l.length:Int)
 ·have hch:cP l a.2.1=a.2.1::cI l (kup l a.2.1):=by
   unfold cP;rw[aH hin.2,aA,gM hin.1]
  have hlen:=xF l (a.2.1.toNat+1) a.2.1 (by omega);have hyb:(cP l b.2.1).length≤l.length:=by
   unfold cP;by_cases h:b.2.1<(l.length:Int)
   ·simp only[h,aK,aA];by_cases h0:0≤b.2.1
    ·have:=xF l (b.2.1.toNat+1) b.2.1 (by omega);omega
    ·rw[fG (by omega)];simp
   ·simp[h]
  have hxa:(cP l a.2.1).length≤l.length:=by
   unfold cP;rw[aH hin.2,aA];omega
  have:=aJ5 (l:=l) (xs:=cP l a.2.1) (ys:=cP l b.2.1) (by omega) (by omega) (cI l (kup l a.2.1)) [a.2.1] 1000003 (by rw[hch];rfl) (by
   rw[hch,aJ] at hxa;omega)
  refine this.trans ?_;have hp:∀c∈cI l (kup l a.2.1),(cP l b.2.1).contains c=dL l b.2.1 c:=by
   intro c hc;have hcm:=qV _ _ (fM _) hc;have hk:=mK (l:=l) hin.1;unfold cP dL;by_cases hbl:b.2.1<(l.length:Int)
   ·have c1:c<(l.length:Int):=by omega
    simp[hbl,hcm.1,c1]
   ·simp[hbl]
  have hf:(cI l (kup l a.2.1)).find? (fun c=>(cP l b.2.1).contains c)=(cI l (kup l a.2.1)).find? fun c=>dL l b.2.1 c:=by
   generalize cI l (kup l a.2.1)=cs at hp
   induction cs with
   | nil=>rfl
   | cons c cs ih=>
    rw[xO,xO,hp c (cF ..),ih fun x hx=>hp x (bW _ hx)]
  rw[hf];rfl
 ·have hk:kup l a.2.1= -1:=by
   unfold kup;by_cases h0:a.2.1<0
   ·simp[h0]
   ·have:a.2.1≥(l.length:Int):=by omega
    simp[this]
  rw[hk,fG (by omega)];have hnil:cP l a.2.1=[]:=by
   unfold cP;by_cases h1:a.2.1<(l.length:Int)
   ·rw[aH h1,aA,fG (by omega)]
   ·simp[h1]
  rw[hnil,show (1000003:Nat)=1000002+1 from rfl,aZ,aBa];rfl
theorem aXd (x:Mt):yS x=some (bif x.2.2.1.1 !=5 then[x.2.2.1] else[],()):=by
 unfold yS;cases h:x.2.2.1.1==5 <;> simp[bne,h]
theorem aTq {x:Mt} (h1:x.1.length<1000000) (h2:x.2.1.length<1000000) (n:Int):aBr x n=some (oV x n,()):=by
 unfold aBr oV;have e1:decide (([]:List Tp).length+x.1.length<rowMax)=true:=aH (by simp only[bJ,rowMax];omega);have e2:decide ((([]:List Tp)++x.1).length+x.2.1.length<rowMax)=true:=aH (by simp only[oC,rowMax];omega);rw[e1,aA,e2,aA];rw[oC];by_cases h0:n<0
 ·rw[aH h0];rfl
 ·rw[aT h0,aB,aB];by_cases h3:n≥((x.1++x.2.1).length:Int)
  ·rw[aH h3,aA,iL (by omega)]
  ·have h4:0≤n:=by omega
   have h5:n<((x.1++x.2.1).length:Int):=by omega
   rw[aT h3,aB,aH h4,aH h5];rfl
theorem aR3 {m:Im} (hs:aM m=true) {i:Ins} {f:Int} (hf:inM m f=true) (hi:cL m (aE m f) i=true):aBk m f i=some ((gL m (aE m f) i).1,(gL m (aE m f) i).2.1,()):=by
 have hfit:=(cX hs).1;have hcl:=yH hs;obtain⟨f0,f1⟩:=bR.1 hf;have hloc:=tQ hs hf;have fold:∀g:Int,m.2.2.2.1.getD g.toNat zMt=aE m g:=fun _=>rfl;have hF:∀c,kO m c=some (eL m c,()):=fun c=>by unfold kO;rw[hfit];rfl
 unfold aBk gL;simp only[fold,aXd,aF,hF,f0,f1,aK,aG,aA,aTq (x:=aE m f) (by omega) (by omega)];rcases i with⟨o,a,b,⟨⟩⟩
 simp only;cases e:o==1
 case true=>obtain rfl:o=1:=by simpa using e
            rfl
 cases e:o==2
 case true=>obtain rfl:o=2:=by simpa using e
            rfl
 cases e:o==3
 case true=>obtain rfl:o=3:=by simpa using e
            rfl
 cases e:o==4
 case true=>obtain rfl:o=4:=by simpa using e
            rfl
 cases e:o==5
 case true=>obtain rfl:o=5:=by simpa using e
            rfl
 cases e:o==19
 case true=>obtain rfl:o=19:=by simpa using e
            rfl
 cases e:o==20
 case true=>obtain rfl:o=20:=by simpa using e
            rfl
 cases e:o==21
 case true=>obtain rfl:o=21:=by simpa using e
            rfl
 cases e:o==22
 case true=>obtain rfl:o=22:=by simpa using e
            rfl
 cases e:o==23
 case true=>obtain rfl:o=23:=by simpa using e
            rfl
 cases e:o==24
 case true=>obtain rfl:o=24:=by simpa using e
            rfl
 cases e:o==25
 case true=>obtain rfl:o=25:=by simpa using e
            rfl
 cases e:o==26
 case true=>obtain rfl:o=26:=by simpa using e
            rfl
 cases e:o==27
 case true=>
  obtain rfl:o=27:=by simpa using e
  have:sin a (m.1.length:Int)=true∧sin b (gZ m a:Int)=true:=by simpa[cL] using hi
  obtain⟨h1,h2⟩:=this;simp only[sin,aC,aO] at h1 h2;rw[←aBW h1.2] at h2;have h64:=aEm hfit a;have hw:IntKind.i64.wrap (b+1)=b+1:=by rw[bV] <;> omega
  have c1:b≤b+1:=by omega
  have c2:b+1≤((eL m a).length:Int):=by omega
  have e1:((eL m a).take (b+1).toNat).drop b.toNat=[(eL m a).getD b.toNat zTp]:=by
   have hk:b.toNat<(eL m a).length:=by omega
   rw[show (b+1).toNat=b.toNat+1 by omega,oB,List.drop_append,List.drop_of_length_le (by rw[cO];omega),cO,Nat.min_eq_left (by omega),Nat.sub_self];simp[hk]
  simp only[aA,hw,h2.1,c1,c2,aK,aG,e1];rfl
 cases e:o==28
 case true=>
  obtain rfl:o=28:=by simpa using e
  have:sin a (m.1.length:Int)=true∧sin b (gZ m a:Int)=true:=by simpa[cL] using hi
  obtain⟨h1,h2⟩:=this;simp only[sin,aC,aO] at h1 h2;rw[←aBW h1.2] at h2;simp only[aA,h2.1,h2.2,aK,aG];rfl
 cases e:o==29
 case true=>
  obtain rfl:o=29:=by simpa using e
  have:sin a (m.2.1.length:Int)=true:=by simpa[cL] using hi
  simp only[sin,aC,aO] at this;simp only[aA,this.1,this.2,aK,aG];rfl
 cases e:o==30
 case true=>
  obtain rfl:o=30:=by simpa using e
  have:sin a (m.2.1.length:Int)=true:=by simpa[cL] using hi
  simp only[sin,aC,aO] at this;simp only[aA,this.1,this.2,aK,aG];rfl
 cases e:o==34
 case true=>obtain rfl:o=34:=by simpa using e
            rfl
 cases e:o==33
 case true=>
  obtain rfl:o=33:=by simpa using e
  simp only[aA];show _=some ((bif (aE m f).2.2.1.1 !=5 then (([(aE m f).2.2.1],[],()):Eff) else ([],[],())).1,(bif (aE m f).2.2.1.1 !=5 then (([(aE m f).2.2.1],[],()):Eff) else ([],[],())).2.1,());cases (aE m f).2.2.1.1 !=5 <;> rfl
 cases e:o==31
 case true=>
  obtain rfl:o=31:=by simpa using e
  have:sin a (m.2.2.2.1.length:Int)=true:=by simpa[cL] using hi
  simp only[sin,aC,aO] at this;simp only[aA,this.1,this.2,aK,aG];rfl
 cases e:o==32
 case true=>
  obtain rfl:o=32:=by simpa using e
  have:sin a (m.1.length:Int)=true∧sin b ((bF m a).2.2.1.length:Int)=true:=by simpa[cL] using hi
  have hsl:jH m a b=true:=by unfold jH;unfold sin at this;rw[this.1,this.2];rfl
  have h1:=aA3 hsl;simp only[sin,aC,aO] at this;obtain⟨h2,h3⟩:=vN (sU hcl this.1.1 this.1.2) h1;have hg:=tQ hs (f:=(eS m a b).1) (bR.2 h2);have hr5:aBp m a b=eS m a b:=rfl;have c1:(1:Int)≤((aE m (eS m a b).1).1.length:Int):=by omega
  have c2:decide ([((3:Int),a,())].length+(((aE m (eS m a b).1).1.take ((aE m (eS m a b).1).1.length:Int).toNat).drop 1).length<rowMax)=true:=aH (by simp only[aJ,bJ,fX,cO,rowMax];omega);have c3:decide (((aE m (eS m a b).1).1.length:Int)≤((aE m (eS m a b).1).1.length:Int))=true:=aH (by omega);simp only[aA,hr5,h2.1,h2.2,c1,c3,aK,aG];rw[c2,aA,aL,iD];rfl
 simp only[aB];by_cases h7:o≥7
 ·by_cases h17:o≤17
  ·have hn:oR o=true:=by unfold oR;rw[aH h7,aH h17];rfl
   have hp:fO o=(([tI,tI],[tI],()),true,()):=by
    unfold fO;simp only[*,aB,aA];have e18:(o==18)=false:=sS.2 (by omega);rw[e18];rfl
   rw[hp,aH h7,aH h17];rfl
  ·have hp:(fO o).1=([],[],())∧((fO o).2.1=true→True):=by
    have hn:oR o=false:=by unfold oR;rw[aT h17];simp
    unfold fO;simp only[*,aB];cases o==18 <;> exact⟨rfl,fun _=>trivial⟩
   rw[aH h7,aT h17,hp.1];cases (fO o).2.1 <;> rfl
 ·have hp:(fO o).1=([],[],()):=by
   have hn:oR o=false:=by unfold oR;rw[aT h7];simp
   unfold fO;simp only[*,aB];cases o==18 <;> rfl
  rw[aT h7,hp];cases (fO o).2.1 <;> rfl
end Go.Pli

namespace Go.Pli
open Go Go.PM
def aAT (fuel:Nat) (m:Im) (f:Int) (pc:Int) (s:List Tp) (nx:List Int):Option (List Tp×List Int×Int×Unit):=
 (bif decide ((nx.length:Int)>0) then
  bif decide ((0:Int)<nx.length) then
   bif decide (0≤f)&&decide (f<m.2.2.2.1.length) then
    bif decide (nx.getD 0 0≥((m.2.2.2.1.getD f.toNat zMt).2.2.2.1.length:Int)) then
     some (.inr (([]:List Tp),(([]:List Int),((4:Int),()))))
    else some (.inl ())
   else none
  else none
 else some (.inl ()):Option (Unit⊕(List Tp×List Int×Int×Unit))).bind fun q=>match q with
 | .inr r8=>some r8
 | .inl _=>
  (aBk m f ((m.2.2.2.1.getD f.toNat zMt).2.2.2.1.getD pc.toNat cC)).bind fun r9=>
  ((bif (((m.2.2.2.1.getD f.toNat zMt).2.2.2.1.getD pc.toNat cC).1)==6 then
   some (.inl (decide ((s.length:Int)>0),()))
  else some (.inl (false,())):Option ((Bool×Unit)⊕((List Tp×List Tp×Unit)⊕(List Tp×List Int×Int×Unit)))).bind fun q=>match q with
  | .inr r13=>some r13
  | .inl s12=>
   bif s12.1 then
    bif decide (0≤IntKind.i64.wrap ((s.length:Int) - 1))&&decide (IntKind.i64.wrap ((s.length:Int) - 1)<s.length) then
     some (.inl ([((0:Int),((0:Int),()))],([s.getD (IntKind.i64.wrap ((s.length:Int) - 1)).toNat zTp,s.getD (IntKind.i64.wrap ((s.length:Int) - 1)).toNat zTp],())))
    else none
   else some (.inl (r9.1,r9.2.1,())):Option ((List Tp×List Tp×Unit)⊕(List Tp×List Int×Int×Unit))).bind fun q=>match q with
  | .inr r11=>some r11
  | .inl s10=>
   (bif (((m.2.2.2.1.getD f.toNat zMt).2.2.2.1.getD pc.toNat cC).1)==6 then
    bif (s.length:Int)==0 then
     some (.inr (([]:List Tp),(([]:List Int),((4:Int),()))))
    else bif decide ((s10.1.length:Int)>(s.length:Int)) then
     some (.inr (([]:List Tp),(([]:List Int),((4:Int),()))))
    else bif decide (IntKind.i64.wrap ((IntKind.i64.wrap ((s.length:Int) - (s10.1.length:Int)))+(s10.2.1.length:Int))>8) then
     some (.inr (([]:List Tp),(([]:List Int),((4:Int),()))))
    else some (.inl ())
   else bif decide ((s10.1.length:Int)>(s.length:Int)) then
    some (.inr (([]:List Tp),(([]:List Int),((4:Int),()))))
   else bif decide (IntKind.i64.wrap ((IntKind.i64.wrap ((s.length:Int) - (s10.1.length:Int)))+(s10.2.1.length:Int))>8) then
    some (.inr (([]:List Tp),(([]:List Int),((4:Int),()))))
   else some (.inl ()):Option (Unit⊕(List Tp×List Int×Int×Unit))).bind fun q=>match q with
   | .inr r15=>some r15
   | .inl _=>
    aD (aBg m f pc s (nx,()) s10) fuel ((0:Int),())
theorem aPy {n:Nat} (h:0<n) (h2:n<1000000):IntKind.i64.wrap ((n:Int) - 1)=((n - 1:Nat):Int):=by
 rw[bV] <;> omega
theorem aNt {m:Im} (hs:aM m=true) {f pc:Int} {s:List Tp} (hsl:s.length<1000000) {nx:List Int} {T Gv:List Tp} (hT:T.length≤s.length) (hT2:T.length≤12) (hG:Gv.length≤12) {F:Nat} (hF:100<F):
  aD (aBg m f pc s (nx,()) (T,Gv,())) F ((0:Int),())=some (bif ((s.drop (s.length - T.length)).zip T).all (fun p=>eX m (aN m f pc).1 p.1 p.2) then (s.take (s.length - T.length)++Gv,nx,0,()) else ([],[],4,())):=by
 have hok:okL m.1=true:=gB (by have:=(cH (cX hs).1).classes;omega);have fold:∀g:Int,m.2.2.2.1.getD g.toNat zMt=aE m g:=fun _=>rfl;have fold2:(aE m f).2.2.2.1.getD pc.toNat cC=aN m f pc:=rfl;have hzip:=aIn (fun a b=>eX m (aN m f pc).1 a b) zTp zTp (s.drop (s.length - T.length)) T (by rw[fX];omega);rw[hzip];generalize hD:s.length - T.length=D at*
 have hDi:(s.length:Int) - (T.length:Int)=(D:Int):=by omega
 have w4:IntKind.i64.wrap (D:Int)=(D:Int):=by rw[bV] <;> omega
 rw[show (T.zipIdx.all fun q=>eX m (aN m f pc).1 ((s.drop D).getD q.2 zTp) q.1)=iW (fun k x=>eX m (aN m f pc).1 ((s.drop D).getD k zTp) x) 0 T by
  rw[xP,aAF,bT];constructor
  ·intro hh j x hx;have:=hh (x,j) (by rw[List.mem_zipIdx_iff_getElem?];exact hx);simpa using this
  ·rintro hh ⟨x,j⟩ hx
   rw[List.mem_zipIdx_iff_getElem?] at hx;have:=hh j x hx;simpa using this]
 refine (zU (xs:=T) (st:=fun k=>((k:Int),())) (p:=fun k x=>eX m (aN m f pc).1 ((s.drop D).getD k zTp) x) (ex:=some ([],[],4,())) (fin:=some (s.take D++Gv,nx,0,())) (fun k x rec hk hlt=>?_) (fun rec=>?_) F (by omega)).trans ?_
 ·have hx:(s.drop D).getD k zTp=s.getD (D+k) zTp:=by simp[fN]
  have w3:IntKind.i64.wrap ((D:Int)+(k:Int))=((D+k:Nat):Int):=by rw[bV] <;> omega
  have hw:=aQ hlt (show _≤lenMax by simp only[lenMax];omega);rw[aBg];simp only[w4,hDi,w3,fold,fold2,dlt hlt,dge,dlt (show D+k<s.length by omega),aG,aA,aL,getD_some hk,hx,hw,aJT hok,aF,eX,vT,bne];generalize s.getD (D+k) zTp=t;cases x.1==0 <;> simp only[aA,aB];cases x.1==4 <;> simp only[aA,aB]
  ·cases cN m.1 t x <;> rfl
  ·cases jY t <;> simp only[aV,bU,aA,aB,jP,cZ];cases (aN m f pc).1==34 <;> simp only[aV,bU,aA,aB,iR,vD];cases t.1==2 <;> simp only[aV,bU,aA,aB]
 ·have l3:(D:Int)≤(s.length:Int):=by omega
  have r1:decide (([]:List Tp).length+(s.take D).length<rowMax)=true:=aH (by simp only[bJ,cO,rowMax];omega);have r2:decide ((([]:List Tp)++s.take D).length+Gv.length<rowMax)=true:=aH (by simp only[oC,cO,rowMax];omega);rw[aBg];simp only[w4,hDi,aU,aB,dge,l3,aK,aG,aA,aL,aE0,r1,r2];rw[oC]
 ·cases iW (fun k x=>eX m (aN m f pc).1 ((s.drop D).getD k zTp) x) 0 T <;> rfl
theorem aP1 {m:Im} (hs:aM m=true) {f pc:Int} {s:List Tp} (hsl:s.length<1000000) (hf:inM m f=true) (hp:sin pc (aI m f:Int)=true) {F:Nat} (hF:100<F):aAT F m f pc s (eV (aN m f pc) pc)=some (aW m f pc s):=by
 obtain⟨f0,f1⟩:=bR.1 hf;have hp':=hp;simp only[sin,aC,aO] at hp';have hc:=gR hs hf;have hi:=vR hs hf hp;have fold:∀g:Int,m.2.2.2.1.getD g.toNat zMt=aE m g:=fun _=>rfl;have fold2:(aE m f).2.2.2.1.getD pc.toNat cC=aN m f pc:=rfl;have fold3:(aE m f).2.2.2.1.length=aI m f:=rfl;have hw:IntKind.i64.wrap (pc+1)=pc+1:=by rw[bV] <;> omega
 have hcnd:(bif decide (((eV (aN m f pc) pc).length:Int)>0) then decide ((eV (aN m f pc) pc).getD 0 0≥(aI m f:Int)) else false)=(eV (aN m f pc) pc).contains (aI m f:Int):=by
  have hj:((aN m f pc).1==18 || (aN m f pc).1==19)=true→(aN m f pc).2.1<(aI m f:Int):=by
   intro hh;have:sin (aN m f pc).2.1 (aI m f:Int)=true:=by
    rw[fS] at hh;unfold cL at hi;rcases hh with hh | hh <;> (have e:=eq_of_beq hh;rw[e] at hi;exact hi)
   simp only[sin,aC,aO] at this;exact this.2
  have hpc:decide (pc+1≥(aI m f:Int))=(pc+1==(aI m f:Int)):=by
   rw[xP,aO,hC];omega
  have hpc2:((aI m f:Int)==pc+1)=(pc+1==(aI m f:Int)):=by
   rw[xP,hC,hC];omega
  unfold eV;rw[hw];cases h1:(aN m f pc).1==18 <;> simp only[aA,aB]
  ·cases h2:(aN m f pc).1==19 <;> simp only[aA,aB]
   ·cases (aN m f pc).1==33 <;> simp only[aA,aB]
    ·simp only[aJ,bJ,List.getD_cons_zero,List.contains_cons,List.contains_nil,rF,hpc,hpc2];rfl
    ·rfl
   ·have:=hj (by rw[h2,Bool.or_true]);have e:((aI m f:Int)==(aN m f pc).2.1)=false:=sS.2 (by omega);simp only[aJ,bJ,List.getD_cons_zero,List.contains_cons,List.contains_nil,rF,hpc,hpc2,e];rfl
  ·have:=hj (by rw[h1,vD]);have e:((aI m f:Int)==(aN m f pc).2.1)=false:=sS.2 (by omega);have e2:decide ((aN m f pc).2.1≥(aI m f:Int))=false:=aT (by omega);simp only[aJ,bJ,List.getD_cons_zero,List.contains_cons,List.contains_nil,rF,e,e2];rfl
 unfold aAT aW;simp only[fold,fold2,fold3,aR3 hs hf hi,f0,f1,hf,hp,aK,aG,aV,aA,aB];rw[←hcnd];have hsm:=aJk hs (f:=f) hi;generalize gL m (aE m f) (aN m f pc)=E at hsm⊢;generalize eV (aN m f pc) pc=nx;obtain⟨hE1,hE2⟩:=hsm;have e1:(bif decide ((nx.length:Int)>0) then bif decide ((0:Int)<nx.length) then bif decide (nx.getD 0 0≥(aI m f:Int)) then (some (.inr (([]:List Tp),(([]:List Int),((4:Int),())))):Option (Unit⊕St4)) else some (.inl ()) else none else some (.inl ()))=
   some (bif (bif decide ((nx.length:Int)>0) then decide (nx.getD 0 0≥(aI m f:Int)) else false) then .inr ([],[],4,()) else .inl ()):=by
  by_cases h:(nx.length:Int)>0
  ·rw[aH h,aA,aA,aA];cases decide (nx.getD 0 0≥(aI m f:Int)) <;> rfl
  ·rw[aT h];rfl
 rw[e1];cases (bif decide ((nx.length:Int)>0) then decide (nx.getD 0 0≥(aI m f:Int)) else false) <;> simp only[aA,aB,aF];cases h6:(aN m f pc).1==6 <;> simp only[aA,aB,aF]
 ·unfold pQ;by_cases l1:s.length<E.1.length
  ·have:(E.1.length:Int)>(s.length:Int):=by omega
   rw[aH this,aH l1];rfl
  have l1':¬(E.1.length:Int)>(s.length:Int):=by omega
  rw[aT l1',aT l1,aB,iR];have w1:IntKind.i64.wrap ((s.length:Int) - (E.1.length:Int))=(s.length:Int) - (E.1.length:Int):=by rw[bV] <;> omega
  have w2:IntKind.i64.wrap ((s.length:Int) - (E.1.length:Int)+(E.2.1.length:Int))=(s.length:Int) - (E.1.length:Int)+(E.2.1.length:Int):=by rw[bV] <;> omega
  rw[w1,w2];by_cases l2:s.length - E.1.length+E.2.1.length>8
  ·have:(s.length:Int) - (E.1.length:Int)+(E.2.1.length:Int)>8:=by omega
   rw[aH this,aH l2];rfl
  have l2':¬(s.length:Int) - (E.1.length:Int)+(E.2.1.length:Int)>8:=by omega
  rw[aT l2,aT l2',aB,aB];simp only[aF];exact aNt hs hsl (f:=f) (pc:=pc) (nx:=nx) (T:=E.1) (Gv:=E.2.1) (by omega) hE1 (by omega) hF
 ·by_cases s0:s.length=0
  ·have g1:decide ((s.length:Int)>0)=false:=aT (by omega);have g2:((s.length:Int)==0)=true:=by rw[s0];rfl
   rw[g1,g2,aH s0];rfl
  ·have g1:decide ((s.length:Int)>0)=true:=aH (by omega);have g2:((s.length:Int)==0)=false:=sS.2 (by omega);have hw1:=aPy (show 0<s.length by omega) hsl;rw[g1,g2,aT s0,hw1];have hlt:s.length - 1<s.length:=by omega
   simp only[aA,aB,iR,dge,dlt hlt,aG,aL,aF];have a1:¬(([((0:Int),((0:Int),()))]:List Tp).length:Int)>(s.length:Int):=by
    show ¬((1:Nat):Int)>_;omega
   have a2:IntKind.i64.wrap ((s.length:Int) - (([((0:Int),((0:Int),()))]:List Tp).length:Int))=(s.length:Int) - 1:=by
    show IntKind.i64.wrap ((s.length:Int) - ((1:Nat):Int))=_;rw[bV] <;> omega
   have a3:IntKind.i64.wrap ((s.length:Int) - 1+(([s.getD (s.length - 1) zTp,s.getD (s.length - 1) zTp]:List Tp).length:Int))=(s.length:Int)+1:=by
    show IntKind.i64.wrap ((s.length:Int) - 1+((2:Nat):Int))=_;rw[bV] <;> omega
   rw[aT a1,a2,a3];by_cases s8:s.length≥8
   ·have:(s.length:Int)+1>8:=by omega
    rw[aH this,aH s8];rfl
   ·have:¬(s.length:Int)+1>8:=by omega
    rw[aT this,aT s8];simp only[aB,aF];have hfl:=aNt hs hsl (f:=f) (pc:=pc) (nx:=nx) (T:=[zTp]) (Gv:=[s.getD (s.length - 1) zTp,s.getD (s.length - 1) zTp]) (F:=F) (by simp;omega) (by simp) (by simp) hF;refine hfl.trans ?_;have hall:((s.drop (s.length - [zTp].length)).zip [zTp]).all (fun p=>eX m (aN m f pc).1 p.1 p.2)=true:=by
     rw[bT]
     rintro ⟨x,y⟩ hxy
     have:=(List.of_mem_zip hxy).2;rw[fI] at this;subst this;rfl
    rw[hall];have hd:s.drop (s.length - 1)=[s.getD (s.length - 1) zTp]:=by
     rw[List.drop_eq_getElem_cons hlt,List.drop_of_length_le (by omega)];simp[hlt]
    simp only[aA,aJ,bJ,cG];rw[hd];have hs':s=s.take (s.length - 1)++[s.getD (s.length - 1) zTp]:=by
     rw[←hd,xL]
    rw[show s.take (s.length - 1)++[s.getD (s.length - 1) zTp,s.getD (s.length - 1) zTp]=(s.take (s.length - 1)++[s.getD (s.length - 1) zTp])++[s.getD (s.length - 1) zTp] by simp,←hs']
theorem aSP (m:Im) (f pc:Int) (s:List Tp) (r) (h:rR m f pc s=some r):∃k,yQ k m f pc s=some r:=by
 unfold rR at h;cases hb:aM m&&okL s <;> simp only[hb,aA,aB] at h
 ·cases h
 injection h with h
 subst h;simp only[aC] at hb;obtain⟨hs,hsl⟩:=hb;have hsl:=iG hsl;obtain⟨F,hF⟩:∃F:Nat,100<F:=⟨101,by omega⟩;refine⟨F,?_⟩;have fold:∀g:Int,m.2.2.2.1.getD g.toNat zMt=aE m g:=fun _=>rfl;have fold2:(aE m f).2.2.2.1.getD pc.toNat cC=aN m f pc:=rfl;have fold3:(aE m f).2.2.2.1.length=aI m f:=rfl;cases hf:inM m f
 ·unfold yQ aW;rw[hf];have:¬(0≤f∧f<(m.2.2.2.1.length:Int)):=fun hh=>by rw[bR.2 hh] at hf;cases hf
  by_cases h0:f<0
  ·rw[aH h0];rfl
  ·have h1:f≥(m.2.2.2.1.length:Int):=by omega
   rw[aT h0,aH h1];rfl
 obtain⟨f0,f1⟩:=bR.1 hf;have f2:¬f<0:=by omega
 have f3:¬f≥(m.2.2.2.1.length:Int):=by omega
 have hc:=gR hs hf;by_cases p0:pc<0
 ·have:¬0≤pc:=by omega
  unfold yQ aW sin;rw[aT f2,aT f3,aH p0,hf,aT this];rfl
 have p0':0≤pc:=by omega
 by_cases p1:pc≥(aI m f:Int)
 ·have:¬pc<(aI m f:Int):=by omega
  unfold yQ aW sin;simp only[fold,fold3];rw[aT f2,aT f3,aT p0,aH f0,aH f1,aH p1,hf,aT this,aH p0'];rfl
 have p1':pc<(aI m f:Int):=by omega
 have hp:sin pc (aI m f:Int)=true:=by simp[sin,p0',p1']
 rw[←aP1 hs hsl hf hp hF];have hi:=vR hs hf hp;have hroom:∀x:Int,decide (([IntKind.i64.wrap (pc+1)]:List Int).length+[x].length<rowMax)=true:=fun x=>aH (by simp only[aJ,bJ,rowMax];omega);have hend:∀nx:List Int,_=aAT F m f pc s nx:=fun nx=>by
  unfold aAT;simp only[fold,fold2,fold3];rw[aH f0,aH f1]
 have hred:∀nx:List Int,nx=eV (aN m f pc) pc→yQ F m f pc s=aAT F m f pc s nx:=by
  intro nx hnx;unfold yQ;simp only[fold,fold2,fold3];rw[aT f2,aT f3,aT p0,aH f0,aH f1,aT p1,aH p0',aH p1'];simp only[aA,aB,aG];unfold eV at hnx;cases h18:(aN m f pc).1==18
  ·rw[h18] at hnx;simp only[aB,aF] at hnx⊢;cases h19:(aN m f pc).1==19
   ·rw[h19] at hnx;simp only[aB,aF] at hnx⊢;cases h33:(aN m f pc).1==33
    ·rw[h33] at hnx;simp only[aB,aF] at hnx⊢;rw[hnx];exact hend _
    ·rw[h33] at hnx;simp only[aA,aF] at hnx⊢;rw[hnx];exact hend _
   ·rw[h19] at hnx;have h33:((aN m f pc).1==33)=false:=by
     have:=eq_of_beq h19;rw[this];rfl
    simp only[aA,hroom,aF,h33,aB] at hnx⊢;rw[hnx];exact hend _
  ·rw[h18] at hnx;have h19:((aN m f pc).1==19)=false:=by
    have:=eq_of_beq h18;rw[this];rfl
   have h33:((aN m f pc).1==33)=false:=by
    have:=eq_of_beq h18;rw[this];rfl
   simp only[aA,aF,h19,h33,aB] at hnx⊢;rw[hnx];exact hend _
 exact hred _ rfl
end Go.Pli

namespace Go.Pli
open Go Go.PM
def lW (N:Nat) (h:List Sh):Prop:=h.length=N∧∀s∈h,s.2.1.length≤8
theorem aMj {N:Nat} {h:List Sh} (hh:lW N h) (k:Nat):(h.getD k zSh).2.1.length≤8:=by
 by_cases hk:k<h.length
 ·rw[getD_some (aX hk)];exact hh.2 _ (dT hk)
 ·rw[iL (by omega)];exact dY _
theorem aUW {l:List Cl} {o:Sh} {s:List Tp} (ho:o.2.1.length≤8) (hs:s.length≤8):(cQ l o s).1.2.1.length≤8:=by
 unfold cQ;cases !o.1 <;> simp only[aA,aB]
 ·cases h2:decide (o.2.1.length≠s.length) <;> simp only[aA,aB]
  ·have hlen:o.2.1.length=s.length:=by simpa using h2
   cases (bY l o.2.1 s).any fun t=>t.1==0 <;> simp only[aA,aB]
   ·rw[wG l hlen];exact hs
   ·exact ho
  ·exact ho
 ·exact hs
theorem aMi {N:Nat} {h:List Sh} (hh:lW N h) (k:Nat) {s:Sh} (hs:s.2.1.length≤8):lW N (h.set k s):=
 ⟨by rw[dB];exact hh.1,fun x hx=>by
  rcases sY hx with hx | rfl
  ·exact hh.2 x hx
  ·exact hs⟩
theorem aHv {l:List Cl} {a:List Tp} (ha:a.length≤8) {N:Nat}:∀(ts:List Int) (t:Bool) (h:List Sh) (r),lW N h→mP l a ts t h=some r→lW N r.2
 | [],t,h,r,hh,he=>by
  unfold mP at he;injection he with he
  subst he;exact hh
 | to::ts,t,h,r,hh,he=>by
  unfold mP at he;cases h1:(cQ l (h.getD to.toNat zSh) a).2.2.1 <;> simp only[h1,aV,bU,aA,aB] at he
  ·cases he
  ·cases h2:(cQ l (h.getD to.toNat zSh) a).2.1 <;> simp only[h2,aA,aB] at he
   ·exact aHv ha ts _ _ _ hh he
   ·exact aHv ha ts _ _ _ (aMi hh _ (aUW (aMj hh _) ha)) he
theorem aVG {m:Im} (hok:okL m.1=true) {s6:Bool×Int×List Sh×Unit} {rec7:(Bool×Int×List Sh×Unit)→Option (List Sh×Bool×Unit)} {r5:St4} {to:Int} {k:Nat} (hto:r5.2.1.getD s6.2.1.toNat 0=to) (hk:s6.2.1=(k:Int)) (hk2:k<1000) (t0:0≤to) (t1:to<(s6.2.2.1.length:Int)) (ha:r5.1.length≤8) (hl:(s6.2.2.1.getD to.toNat zSh).2.1.length=r5.1.length) {F:Nat} (hF:100<F):
  aD (aBj m s6 rec7 r5) F (([]:List Tp),((0:Int),()))=
   bif (bY m.1 (s6.2.2.1.getD to.toNat zSh).2.1 r5.1).any fun t=>t.1==0 then some ([],false,())
   else bif !(bY m.1 (s6.2.2.1.getD to.toNat zSh).2.1 r5.1==(s6.2.2.1.getD to.toNat zSh).2.1) then rec7 (true,((k+1:Nat):Int),s6.2.2.1.set to.toNat (true,bY m.1 (s6.2.2.1.getD to.toNat zSh).2.1 r5.1,()),())
   else rec7 (s6.1,((k+1:Nat):Int),s6.2.2.1,()):=by
 generalize hO:(s6.2.2.1.getD to.toNat zSh).2.1=O at hl⊢;have hto':r5.2.1.getD k 0=to:=by rw[hk] at hto;simpa using hto
 have hml:=wG m.1 hl;have hw:IntKind.i64.wrap ((k:Int)+1)=((k+1:Nat):Int):=by rw[bV] <;> omega
 have key:=gV (L:=aBj m s6 rec7 r5) (xs:=bY m.1 O r5.1) (st:=fun j=>((bY m.1 O r5.1).take j,(j:Int),())) (p:=fun x=> !(x.1==0)) (ex:=some ([],false,()))
  (fin:=bif !(bY m.1 O r5.1==O) then rec7 (true,((k+1:Nat):Int),s6.2.2.1.set to.toNat (true,bY m.1 O r5.1,()),()) else rec7 (s6.1,((k+1:Nat):Int),s6.2.2.1,()))
  (fun j x rec hj hjl=>by
   have j1:j<r5.1.length:=by omega
   have j2:j<O.length:=by omega
   have hx:=aLT m.1 j2 j1;rw[hj] at hx;have hx:=fL hx;have hrj:yM m.1 (O.getD j zTp) (r5.1.getD j zTp)=some (x,()):=by unfold yM;rw[hok,hx];rfl
   have hroom:decide (((bY m.1 O r5.1).take j).length+(0+1)<rowMax)=true:=mD (by rw[cO];omega);have htk:(bY m.1 O r5.1).take (j+1)=(bY m.1 O r5.1).take j++[x]:=by rw[oB,hj];rfl
   rw[aBj];simp only[hk,aL,hto',hO,t0,t1,dlt j1,dlt j2,dge,aK,aG,aA,hrj,aF,aJ,bJ,hroom,aQ j1 (show _≤lenMax by simp only[lenMax];omega),htk];cases x.1==0 <;> rfl)
  (fun rec=>by
   rw[aBj];simp only[hml,aU,aB,hk,aL,hto',hO,t0,t1,aK,aG,aA,kN,hw];rw[←hml,iD]) F (by omega)
 rw[List.take_zero] at key;refine key.trans ?_;rw[←List.not_any_eq_all_not];cases (bY m.1 O r5.1).any fun t=>t.1==0 <;> rfl
theorem aNr {m:Im} (hok:okL m.1=true) {s3:Bool×Int×List Sh×Unit} {rec4:(Bool×Int×List Sh×Unit)→Option (List Sh×Bool×Unit)} {r5:St4} (ha:r5.1.length≤8) {N:Nat} {F0:Nat} (hF0:100<F0) (hnl:r5.2.1.length≤2) (hto:∀to∈r5.2.1,0≤to∧to<(N:Int)):
  ∀(l pre:List Int) (t:Bool) (h:List Sh) (F:Nat),r5.2.1=pre++l→l.length<F→lW N h→aD (aBi m F0 s3 rec4 r5) F (t,(pre.length:Int),h,())=
   match mP m.1 r5.1 l t h with
   | none=>some ([],false,())
   | some r=>rec4 (r.1,IntKind.i64.wrap (s3.2.1 - 1),r.2,())
 | [],pre,t,h,F,he,hF,hh=>by
  obtain⟨F,rfl⟩:∃n,F=n+1:=⟨F - 1,by simp at hF;omega⟩;rw[bZ] at he;rw[aZ,aBi,he];simp only[aU,aB,mP]
 | to::l,pre,t,h,F,he,hF,hh=>by
  obtain⟨F,rfl⟩:∃n,F=n+1:=⟨F - 1,by simp at hF;omega⟩;have hk:pre.length<r5.2.1.length:=by rw[he,aS];simp
  have hget:r5.2.1.getD pre.length 0=to:=by rw[he];simp
  obtain⟨t0,t1⟩:=hto to (by rw[he];simp);have t2:to<(h.length:Int):=by rw[hh.1];exact t1
  have hw:=aQ hk (show _≤lenMax by simp only[lenMax];omega);have ih:=fun t' h' hh'=>aNr hok (s3:=s3) (rec4:=rec4) ha hF0 hnl hto l (pre++[to]) t' h' F (by rw[he,bG];rfl) (by simp only[aJ] at hF;omega) hh';simp only[aS,aJ,bJ,cG] at ih;have hset:∀s:Sh,s.2.1.length≤8→lW N (h.set to.toNat s):=fun s hs=>aMi hh _ hs;rw[aZ,aBi];simp only[dlt hk,dge,aG,aA,aL,hget,t0,t2,aK,hw];unfold mP cQ;cases h1:(h.getD to.toNat zSh).1 <;> simp only[aV,bU,aA,aB]
  ·exact ih _ _ (hset _ ha)
  ·by_cases hl:(h.getD to.toNat zSh).2.1.length=r5.1.length
   ·have e1:(((h.getD to.toNat zSh).2.1.length:Int) !=(r5.1.length:Int))=false:=by rw[hl];simp
    have e2:decide ((h.getD to.toNat zSh).2.1.length≠r5.1.length)=false:=aT fun hh=>hh hl;rw[e1,e2,aB,aB];have:=aVG hok (s6:=(t,(pre.length:Int),h,())) (rec7:=aD (aBi m F0 s3 rec4 r5) F) (r5:=r5) (to:=to) (k:=pre.length) (by simpa using hget) rfl (by omega) t0 t2 ha hl hF0;rw[this];cases (bY m.1 (h.getD to.toNat zSh).2.1 r5.1).any fun t=>t.1==0 <;> simp only[aV,bU,aA,aB];cases bY m.1 (h.getD to.toNat zSh).2.1 r5.1==(h.getD to.toNat zSh).2.1 <;> simp only[aV,bU,aA,aB]
    ·exact ih _ _ (hset _ (by rw[wG m.1 hl];exact ha))
    ·exact ih _ _ hh
   ·have e1:(((h.getD to.toNat zSh).2.1.length:Int) !=(r5.1.length:Int))=true:=bne_iff_ne.2 (by omega);have e2:decide ((h.getD to.toNat zSh).2.1.length≠r5.1.length)=true:=aH hl;rw[e1,e2,aA,aA];rfl
theorem aNp {m:Im} (hs:aM m=true) {f:Int} {N:Nat} {pc:Nat} {t:Bool} {h:List Sh} {r} (hh:lW N h) (he:qL m f pc t h=some r):lW N r.2:=by
 unfold qL at he;cases h1:(h.getD pc zSh).1 <;> simp only[h1,aV,bU,aA,aB] at he
 ·injection he with he;subst he;exact hh
 ·cases h2:(aW m f (pc:Int) (h.getD pc zSh).2.1).2.2.1 !=0 <;> simp only[h2,aA,aB] at he
  ·obtain⟨-,-,h8,-⟩:=oI hs (f:=f) (pc:=(pc:Int)) (s:=(h.getD pc zSh).2.1) (by simpa using h2);exact aHv h8 _ _ _ _ hh he
  ·cases he
theorem aNm {m:Im} (hs:aM m=true) {f:Int} {N:Nat}:∀(n:Nat) (t:Bool) (h:List Sh) (r),lW N h→kU m f n t h=some r→lW N r.2
 | 0,t,h,r,hh,he=>by
  unfold kU at he;injection he with he;subst he;exact hh
 | n+1,t,h,r,hh,he=>by
  unfold kU at he;cases hp:qL m f n t h with
  | none=>rw[hp] at he;cases he
  | some q=>
   rw[hp] at he;exact aNm hs n _ _ _ (aNp hs hh hp) he
theorem aJ2 {m:Im} (hs:aM m=true) {f:Int} (hf:inM m f=true) {F0:Nat} (hF0:1000<F0) {s1:Int×List Sh×Unit} {rec2:(Int×List Sh×Unit)→Option (List Sh×Bool×Unit)}:
  ∀(n:Nat) (t:Bool) (h:List Sh) (F:Nat),n≤aI m f→n<F→lW (aI m f) h→aD (aBh m f F0 s1 rec2) F (t,(n:Int) - 1,h,())=
   match kU m f n t h with
   | none=>some ([],false,())
   | some r=>bif !r.1 then some (r.2,true,()) else rec2 (IntKind.i64.wrap (s1.1+1),r.2,())
 | 0,t,h,F,hn,hF,hh=>by
  obtain⟨F,rfl⟩:∃n,F=n+1:=⟨F - 1,by omega⟩;rw[aZ,aBh];have:¬(((0:Nat):Int) - 1≥0):=by omega
  simp only[this,bB,aB,kU]
 | n+1,t,h,F,hn,hF,hh=>by
  obtain⟨F,rfl⟩:∃n,F=n+1:=⟨F - 1,by omega⟩;have hok:okL m.1=true:=gB (by have:=(cH (cX hs).1).classes;omega);have hc:=gR hs hf;have e:(((n+1:Nat):Int) - 1)=(n:Int):=by omega
  have g0:decide ((n:Int)≥0)=true:=aH (by omega);have hnl:n<h.length:=by rw[hh.1];omega
  have hw:IntKind.i64.wrap ((n:Int) - 1)=(n:Int) - 1:=by rw[bV] <;> omega
  have h8:=aMj hh n;have hst:rR m f (n:Int) (h.getD n zSh).2.1=some (aW m f (n:Int) (h.getD n zSh).2.1):=by unfold rR;rw[hs,gB (by omega)];rfl
  have ih:=fun t' h' hh'=>aJ2 hs hf hF0 (s1:=s1) (rec2:=rec2) n t' h' F (by omega) (by omega) hh';rw[aZ,aBh,e];simp only[g0,dge,dlt hnl,aG,aA,aL,hw,hst,aF];unfold kU;have hfl:=fun q=>aNp hs (f:=f) (pc:=n) (t:=t) (r:=q) hh;unfold qL at hfl⊢;cases h1:(h.getD n zSh).1 <;> simp only[h1,aV,bU,aA,aB] at hfl⊢
  ·exact ih _ _ hh
  ·cases h2:(aW m f (n:Int) (h.getD n zSh).2.1).2.2.1 !=0 <;> simp only[h2,aA,aB] at hfl⊢
   ·obtain⟨-,-,h8,hto⟩:=oI hs (f:=f) (pc:=(n:Int)) (s:=(h.getD n zSh).2.1) (by simpa using h2);have:=aNr hok (s3:=(t,(n:Int),h,())) (rec4:=aD (aBh m f F0 s1 rec2) F) (r5:=aW m f (n:Int) (h.getD n zSh).2.1) h8 (N:=aI m f) (F0:=F0) (by omega) (yC ..) hto (aW m f (n:Int) (h.getD n zSh).2.1).2.1 [] t h F0 rfl (by have:(aW m f (n:Int) (h.getD n zSh).2.1).2.1.length≤2:=yC ..;omega) hh;simp only[bJ] at this;refine this.trans ?_;cases hE:mP m.1 (aW m f (n:Int) (h.getD n zSh).2.1).1 (aW m f (n:Int) (h.getD n zSh).2.1).2.1 t h with
    | none=>rfl
    | some q=>
     simp only[hw,aF];exact ih _ _ (hfl q hE)
   ·rfl
theorem aJZ {m:Im} (hs:aM m=true) {f:Int} (hf:inM m f=true) {F0:Nat} (hF0:1000<F0):∀(n k:Nat) (h:List Sh) (F:Nat),k+n=4000→n<F→lW (aI m f) h→aD (aC1 m f F0) F ((k:Int),h,())=some (iU m f n h)
 | 0,k,h,F,hk,hF,hh=>by
  obtain⟨F,rfl⟩:∃n,F=n+1:=⟨F - 1,by omega⟩;have:¬((k:Int)<4000):=by omega
  rw[aZ,aC1];simp only[this,bB,aB];rfl
 | n+1,k,h,F,hk,hF,hh=>by
  obtain⟨F,rfl⟩:∃n,F=n+1:=⟨F - 1,by omega⟩;have hlt:(k:Int)<4000:=by omega
  have hc:=gR hs hf;have fold:∀g:Int,m.2.2.2.1.getD g.toNat zMt=aE m g:=fun _=>rfl;have fold3:(aE m f).2.2.2.1.length=aI m f:=rfl;have hw:IntKind.i64.wrap ((aI m f:Int) - 1)=(aI m f:Int) - 1:=by rw[bV] <;> omega
  have hw2:IntKind.i64.wrap ((k:Int)+1)=((k+1:Nat):Int):=by rw[bV] <;> omega
  rw[aZ,aC1];simp only[hlt,aK,aA,fold,fold3,hw];refine (aJ2 hs hf hF0 (aI m f) false h F0 (bL _) (by omega) hh).trans ?_;unfold iU;cases hr:kU m f (aI m f) false h with
  | none=>rfl
  | some r=>
   have hl:=aNm hs _ _ _ _ hh hr;simp only[hw2];cases r.1 <;> simp only[aV,bU,aA,aB];exact aJZ hs hf hF0 n (k+1) r.2 F (by omega) (by omega) hl
theorem aQf (m:Im) (f:Int):lW (aI m f) (iT m f):=by
 unfold iT;refine⟨by simp,fun s hs=>?_⟩;rcases sY hs with h | rfl
 ·rw[vB] at h;rw[h.2];exact dY _
 ·exact dY _
theorem aSQ (m:Im) (f:Int) (r) (h:yR m f=some r):∃k,aKv k m f=some r:=by
 unfold yR at h;cases hb:aM m&&inM m f <;> simp only[hb,aA,aB] at h
 ·cases h
 injection h with h
 subst h;simp only[aC] at hb;obtain⟨hs,hf⟩:=hb;obtain⟨f0,f1⟩:=bR.1 hf;have hc:=gR hs hf;obtain⟨F,hF⟩:∃F:Nat,5000<F:=⟨5001,by omega⟩;refine⟨F,?_⟩;have fold:∀g:Int,m.2.2.2.1.getD g.toNat zMt=aE m g:=fun _=>rfl;have fold3:(aE m f).2.2.2.1.length=aI m f:=rfl;have e0:decide ((0:Int)≤(aI m f:Int))=true:=aH (by omega);have e1:decide ((aI m f:Int)<(rowMax:Int))=true:=aH (by simp only[rowMax];omega);have e2:((aI m f:Int)==0)=false:=sS.2 (by omega);have e3:decide ((0:Int)<(aI m f:Int))=true:=aH (by omega);have e4:decide ((aI m f:Int)≤(aI m f:Int))=true:=aH (by omega);have e5:((List.replicate (aI m f) zSh).getD 0 zSh).2=([],()):=by
  obtain⟨n,hn⟩:∃n,aI m f=n+1:=⟨aI m f - 1,by omega⟩;rw[hn];rfl
 unfold aKv;simp only[fold,fold3,f0,f1,aK,aG,aA,aB,e0,e1,e2,e3,e4,e5,aL,pK];exact aJZ hs hf (by omega) 4000 0 _ F (by omega) (by omega) (aQf m f)
theorem aPl {m:Im} (hs:aM m=true):∀(j k:Nat) (out:List (List Sh)) (F:Nat),k+j=m.2.2.2.1.length→j<F→out.length≤k→aD (aC8 m) F (out,(k:Int),())=some (xJ m ((List.range' k j).map fun n:Nat=>(n:Int)) out)
 | 0,k,out,F,hk,hF,_=>by
  obtain⟨F,rfl⟩:∃n,F=n+1:=⟨F - 1,by omega⟩;have:k=m.2.2.2.1.length:=by omega
  subst this;rw[aZ,aC8];simp only[aU,aB];rfl
 | j+1,k,out,F,hk,hF,ho=>by
  obtain⟨F,rfl⟩:∃n,F=n+1:=⟨F - 1,by omega⟩;have h12:=(cH (cX hs).1).methods;have hlt:k<m.2.2.2.1.length:=by omega
  have hin:inM m (k:Int)=true:=bR.2 ⟨by omega,by omega⟩;have hsh:yR m (k:Int)=some (iU m (k:Int) 4000 (iT m (k:Int))):=by unfold yR;rw[hs,hin];rfl
  rw[aZ,aC8];rw[List.range'_succ,dM,xJ];simp only[dlt hlt,aA,hsh,aF];cases (iU m (k:Int) 4000 (iT m (k:Int))).2.1 <;> simp only[aV,bU,aA,aB];simp only[aJ,bJ,mD (show out.length+(0+1)<549755813888 by omega),aA,aQ hlt (show _≤lenMax by simp only[lenMax];omega)];exact aPl hs j (k+1) _ F (by omega) (by omega) (by simp;omega)
theorem aS3 (m:Im) (r) (h:pX m=some r):∃k,aKC k m=some r:=by
 unfold pX at h;cases hs:aM m <;> simp only[hs,aA,aB] at h
 ·cases h
 injection h with h
 subst h;have h12:=(cH (cX hs).1).methods;refine⟨m.2.2.2.1.length+1,?_⟩;unfold aKC;rw[show ints m.2.2.2.1.length=(List.range' 0 m.2.2.2.1.length).map fun n:Nat=>(n:Int) by rw[←List.range_eq_range'];rfl];exact aPl hs m.2.2.2.1.length 0 [] _ (by omega) (by omega) (by simp)
end Go.Pli
