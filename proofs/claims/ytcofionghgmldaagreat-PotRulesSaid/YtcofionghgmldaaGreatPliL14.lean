/- The document's steps: what the printed functions come to. -/
import Derived.Test.YtcofionghgmldaaGreatPliNt
import Derived.Test.YtcofionghgmldaaGreatPliL13E
namespace Go.Pli
open Go Go.PM
theorem aJ8 (l:List Cl) (a b:Tp):tQ l a b=cG l a b:=by
 cases h3:a.1==3
 ·unfold tQ cG
  rw[h3]
  cases a.1==4 <;> simp
 ·obtain⟨a1,a2,⟨⟩⟩:=a
  have:a1=3:=by simpa using h3
  subst this
  exact aFe l a2 b
theorem aFf {l:List Cl} (hl:okL l=true) (a b:Tp):lH l a b=some (cG l a b,()):=by
 unfold lH;rw[hl,aJ8];rfl
theorem aFo {l:List Cl} {xs ys:List Int} (hx:xs.length<1000000) (hy:ys.length<1000000):∀(r pre:List Int) (F:Nat),xs=pre++r→r.length<F→
  aE (xI (xs,()) (ys,())) F ((pre.length:Int),())=some (match r.find? fun c=>ys.contains c with | some c=>(3,c,()) | none=>zTp,())
 | [],pre,F,he,hF=>by
  obtain⟨F,rfl⟩:∃n,F=n+1:=⟨F - 1,by simp at hF;omega⟩
  rw[bS] at he
  rw[aY,xI,he]
  simp only[bO,aB,List.find?_nil]
 | c::r,pre,F,he,hF=>by
  obtain⟨F,rfl⟩:∃n,F=n+1:=⟨F - 1,by simp at hF;omega⟩
  have hk:pre.length<xs.length:=by rw[he,aV];simp
  have hget:xs.getD pre.length 0=c:=by rw[he];simp
  have ih:=aFo (l:=l) hx hy r (pre++[c]) F (by rw[he,bX];rfl) (by simp only[aF] at hF;omega)
  simp only[aV,aF,bI,bK] at ih
  rw[aY,xI]
  simp only[dlt hk,dge,aI,aA,aT,hget,aFx (show ys.length<1000000000 by omega),aJ,bG hk (show _≤lenMax by simp only[lenMax];omega),aEe]
  cases ys.contains c <;> simp only[aA,aB]
  exact ih
theorem aL0 (l:List Cl) (a b:Tp) (r) (h:tS l a b=some r):∃k,aFp k l a b=some r:=by
 unfold tS at h
 cases hb:okL l <;> simp only[hb,aA,aB] at h
 ·cases h
 injection h with h
 subst h
 have hl:=hU hb
 refine⟨1000003,?_⟩
 have hra:∀c,iT l c=some (cF l c,()):=fun c=>by unfold iT;rw[hb];rfl
 unfold aFp fP
 simp only[aFf hb,aJ,hra]
 cases cG l a b <;> simp only[aA,aB]
 cases cG l b a <;> simp only[aA,aB]
 cases h1:a.1 !=3 <;> simp only[aA,aB,sY,lC]
 cases h2:b.1 !=3 <;> simp only[aA,aB]
 by_cases hin:0≤a.2.1∧a.2.1<(l.length:Int)
 ·have hch:cF l a.2.1=a.2.1::bU l (kup l a.2.1):=by
   unfold cF
   rw[aG hin.2,aA,gM hin.1]
  have hlen:=sR l (a.2.1.toNat+1) a.2.1 (by omega)
  have hyb:(cF l b.2.1).length≤l.length:=by
   unfold cF
   by_cases h:b.2.1<(l.length:Int)
   ·simp only[h,aK,aA]
    by_cases h0:0≤b.2.1
    ·have:=sR l (b.2.1.toNat+1) b.2.1 (by omega)
     omega
    ·rw[eX (by omega)];simp
   ·simp[h]
  have hxa:(cF l a.2.1).length≤l.length:=by
   unfold cF
   rw[aG hin.2,aA]
   omega
  have:=aFo (l:=l) (xs:=cF l a.2.1) (ys:=cF l b.2.1) (by omega) (by omega) (bU l (kup l a.2.1)) [a.2.1] 1000003 (by rw[hch];rfl) (by
   rw[hch,aF] at hxa
   omega)
  refine this.trans ?_
  have hp:∀c∈bU l (kup l a.2.1),(cF l b.2.1).contains c=dD l b.2.1 c:=by
   intro c hc
   have hcm:=oU _ _ (gO _) hc
   have hk:=kN (l:=l) hin.1
   unfold cF dD
   by_cases hbl:b.2.1<(l.length:Int)
   ·have c1:c<(l.length:Int):=by omega
    simp[hbl,hcm.1,c1]
   ·simp[hbl]
  have hf:(bU l (kup l a.2.1)).find? (fun c=>(cF l b.2.1).contains c)=(bU l (kup l a.2.1)).find? fun c=>dD l b.2.1 c:=by
   generalize bU l (kup l a.2.1)=cs at hp
   induction cs with
   | nil=>rfl
   | cons c cs ih=>
    rw[aEe,aEe,hp c (cY ..),ih fun x hx=>hp x (cD _ hx)]
  rw[hf]
  rfl
 ·have hk:kup l a.2.1= -1:=by
   unfold kup
   by_cases h0:a.2.1<0
   ·simp[h0]
   ·have:a.2.1≥(l.length:Int):=by omega
    simp[this]
  rw[hk,eX (by omega)]
  have hnil:cF l a.2.1=[]:=by
   unfold cF
   by_cases h1:a.2.1<(l.length:Int)
   ·rw[aG h1,aA,eX (by omega)]
   ·simp[h1]
  rw[hnil,show (1000003:Nat)=1000002+1 from rfl,aY,xI]
  rfl
theorem aPb (x:Mt):tY x=some (bif x.2.2.1.1 !=5 then[x.2.2.1] else[],()):=by
 unfold tY
 cases h:x.2.2.1.1==5 <;> simp[bne,h]
theorem aMO {x:Mt} (h1:x.1.length<1000000) (h2:x.2.1.length<1000000) (n:Int):xU x n=some (iZ x n,()):=by
 unfold xU iZ
 have e1:decide (([]:List Tp).length+x.1.length<rowMax)=true:=aG (by simp only[bI,rowMax];omega)
 have e2:decide ((([]:List Tp)++x.1).length+x.2.1.length<rowMax)=true:=aG (by simp only[nO,rowMax];omega)
 rw[e1,aA,e2,aA]
 rw[nO]
 by_cases h0:n<0
 ·rw[aG h0];rfl
 ·rw[bH h0,aB,aB]
  by_cases h3:n≥((x.1++x.2.1).length:Int)
  ·rw[aG h3,aA,gY (by omega)]
  ·have h4:0≤n:=by omega
   have h5:n<((x.1++x.2.1).length:Int):=by omega
   rw[bH h3,aB,aG h4,aG h5]
   rfl
theorem aLM {m:Im} (hs:aM m=true) {i:Ins} {f:Int} (hf:inM m f=true) (hi:bZ m (aD m f) i=true):xR m f i=some ((eJ m (aD m f) i).1,(eJ m (aD m f) i).2.1,()):=by
 have hfit:=(dR hs).1
 have hcl:=tL hs
 obtain⟨f0,f1⟩:=cA.1 hf
 have hloc:=tK hs hf
 have fold:∀g:Int,m.2.2.2.1.getD g.toNat zMt=aD m g:=fun _=>rfl
 have hF:∀c,iH m c=some (dT m c,()):=fun c=>by unfold iH;rw[hfit];rfl
 unfold xR eJ
 simp only[fold,aPb,aJ,hF,f0,f1,aK,aI,aA,aMO (x:=aD m f) (by omega) (by omega)]
 rcases i with⟨o,a,b,⟨⟩⟩
 simp only
 cases e:o==1
 case true=>obtain rfl:o=1:=by simpa using e
            rfl
 cases e:o==2
 case true=>obtain rfl:o=2:=by simpa using e
            rfl
 cases e:o==3
 case true=>obtain rfl:o=3:=by simpa using e
            rfl
 cases e:o==4
 case true=>obtain rfl:o=4:=by simpa using e
            rfl
 cases e:o==5
 case true=>obtain rfl:o=5:=by simpa using e
            rfl
 cases e:o==19
 case true=>obtain rfl:o=19:=by simpa using e
            rfl
 cases e:o==20
 case true=>obtain rfl:o=20:=by simpa using e
            rfl
 cases e:o==21
 case true=>obtain rfl:o=21:=by simpa using e
            rfl
 cases e:o==22
 case true=>obtain rfl:o=22:=by simpa using e
            rfl
 cases e:o==23
 case true=>obtain rfl:o=23:=by simpa using e
            rfl
 cases e:o==24
 case true=>obtain rfl:o=24:=by simpa using e
            rfl
 cases e:o==25
 case true=>obtain rfl:o=25:=by simpa using e
            rfl
 cases e:o==26
 case true=>obtain rfl:o=26:=by simpa using e
            rfl
 cases e:o==27
 case true=>
  obtain rfl:o=27:=by simpa using e
  have:sin a (m.1.length:Int)=true∧sin b (iL m a:Int)=true:=by simpa[bZ] using hi
  obtain⟨h1,h2⟩:=this
  simp only[sin,aC,aP] at h1 h2
  rw[←yZ h1.2] at h2
  have h64:=aBf hfit a
  have hw:IntKind.i64.wrap (b+1)=b+1:=by rw[cT] <;> omega
  have c1:b≤b+1:=by omega
  have c2:b+1≤((dT m a).length:Int):=by omega
  have e1:((dT m a).take (b+1).toNat).drop b.toNat=[(dT m a).getD b.toNat zTp]:=by
   have hk:b.toNat<(dT m a).length:=by omega
   rw[show (b+1).toNat=b.toNat+1 by omega,pC,List.drop_append,List.drop_of_length_le (by rw[bR];omega),bR,Nat.min_eq_left (by omega),Nat.sub_self]
   simp[hk]
  simp only[aA,hw,h2.1,c1,c2,aK,aI,e1]
  rfl
 cases e:o==28
 case true=>
  obtain rfl:o=28:=by simpa using e
  have:sin a (m.1.length:Int)=true∧sin b (iL m a:Int)=true:=by simpa[bZ] using hi
  obtain⟨h1,h2⟩:=this
  simp only[sin,aC,aP] at h1 h2
  rw[←yZ h1.2] at h2
  simp only[aA,h2.1,h2.2,aK,aI]
  rfl
 cases e:o==29
 case true=>
  obtain rfl:o=29:=by simpa using e
  have:sin a (m.2.1.length:Int)=true:=by simpa[bZ] using hi
  simp only[sin,aC,aP] at this
  simp only[aA,this.1,this.2,aK,aI]
  rfl
 cases e:o==30
 case true=>
  obtain rfl:o=30:=by simpa using e
  have:sin a (m.2.1.length:Int)=true:=by simpa[bZ] using hi
  simp only[sin,aC,aP] at this
  simp only[aA,this.1,this.2,aK,aI]
  rfl
 cases e:o==34
 case true=>obtain rfl:o=34:=by simpa using e
            rfl
 cases e:o==33
 case true=>
  obtain rfl:o=33:=by simpa using e
  simp only[aA]
  show _=some ((bif (aD m f).2.2.1.1 !=5 then (([(aD m f).2.2.1],[],()):Eff) else ([],[],())).1,(bif (aD m f).2.2.1.1 !=5 then (([(aD m f).2.2.1],[],()):Eff) else ([],[],())).2.1,())
  cases (aD m f).2.2.1.1 !=5 <;> rfl
 cases e:o==31
 case true=>
  obtain rfl:o=31:=by simpa using e
  have:sin a (m.2.2.2.1.length:Int)=true:=by simpa[bZ] using hi
  simp only[sin,aC,aP] at this
  simp only[aA,this.1,this.2,aK,aI]
  rfl
 cases e:o==32
 case true=>
  obtain rfl:o=32:=by simpa using e
  have:sin a (m.1.length:Int)=true∧sin b ((bQ m a).2.2.1.length:Int)=true:=by simpa[bZ] using hi
  have hsl:gX m a b=true:=by unfold gX;unfold sin at this;rw[this.1,this.2];rfl
  have h1:=xB hsl
  simp only[sin,aC,aP] at this
  obtain⟨h2,h3⟩:=rC (sV hcl this.1.1 this.1.2) h1
  have hg:=tK hs (f:=(dL m a b).1) (cA.2 h2)
  have hr5:xS m a b=dL m a b:=rfl
  have c1:(1:Int)≤((aD m (dL m a b).1).1.length:Int):=by omega
  have c2:decide ([((3:Int),a,())].length+(((aD m (dL m a b).1).1.take ((aD m (dL m a b).1).1.length:Int).toNat).drop 1).length<rowMax)=true:=aG (by simp only[aF,bI,eF,bR,rowMax];omega)
  have c3:decide (((aD m (dL m a b).1).1.length:Int)≤((aD m (dL m a b).1).1.length:Int))=true:=aG (by omega)
  simp only[aA,hr5,h2.1,h2.2,c1,c3,aK,aI]
  rw[c2,aA,aT,iD]
  rfl
 simp only[aB]
 by_cases h7:o≥7
 ·by_cases h17:o≤17
  ·have hn:lK o=true:=by unfold lK;rw[aG h7,aG h17];rfl
   have hp:eI o=(([tI,tI],[tI],()),true,()):=by
    unfold eI
    simp only[*,aB,aA]
    have e18:(o==18)=false:=oX.2 (by omega)
    rw[e18]
    rfl
   rw[hp,aG h7,aG h17]
   rfl
  ·have hp:(eI o).1=([],[],())∧((eI o).2.1=true→True):=by
    have hn:lK o=false:=by unfold lK;rw[bH h17];simp
    unfold eI
    simp only[*,aB]
    cases o==18 <;> exact⟨rfl,fun _=>trivial⟩
   rw[aG h7,bH h17,hp.1]
   cases (eI o).2.1 <;> rfl
 ·have hp:(eI o).1=([],[],()):=by
   have hn:lK o=false:=by unfold lK;rw[bH h7];simp
   unfold eI
   simp only[*,aB]
   cases o==18 <;> rfl
  rw[bH h7,hp]
  cases (eI o).2.1 <;> rfl
end Go.Pli

namespace Go.Pli
open Go Go.PM
def wV (fuel:Nat) (m:Im) (f:Int) (pc:Int) (s:List Tp) (nx:List Int):Option (List Tp×List Int×Int×Unit):=
 (bif decide ((nx.length:Int)>0) then
  bif decide ((0:Int)<nx.length) then
   bif decide (0≤f)&&decide (f<m.2.2.2.1.length) then
    bif decide (nx.getD 0 0≥((m.2.2.2.1.getD f.toNat zMt).2.2.2.1.length:Int)) then
     some (.inr (([]:List Tp),(([]:List Int),((4:Int),()))))
    else some (.inl ())
   else none
  else none
 else some (.inl ()):Option (Unit⊕(List Tp×List Int×Int×Unit))).bind fun q=>match q with
 | .inr r8=>some r8
 | .inl _=>
  (xR m f ((m.2.2.2.1.getD f.toNat zMt).2.2.2.1.getD pc.toNat cR)).bind fun r9=>
  ((bif (((m.2.2.2.1.getD f.toNat zMt).2.2.2.1.getD pc.toNat cR).1)==6 then
   some (.inl (decide ((s.length:Int)>0),()))
  else some (.inl (false,())):Option ((Bool×Unit)⊕((List Tp×List Tp×Unit)⊕(List Tp×List Int×Int×Unit)))).bind fun q=>match q with
  | .inr r13=>some r13
  | .inl s12=>
   bif s12.1 then
    bif decide (0≤IntKind.i64.wrap ((s.length:Int) - 1))&&decide (IntKind.i64.wrap ((s.length:Int) - 1)<s.length) then
     some (.inl ([((0:Int),((0:Int),()))],([s.getD (IntKind.i64.wrap ((s.length:Int) - 1)).toNat zTp,s.getD (IntKind.i64.wrap ((s.length:Int) - 1)).toNat zTp],())))
    else none
   else some (.inl (r9.1,r9.2.1,())):Option ((List Tp×List Tp×Unit)⊕(List Tp×List Int×Int×Unit))).bind fun q=>match q with
  | .inr r11=>some r11
  | .inl s10=>
   (bif (((m.2.2.2.1.getD f.toNat zMt).2.2.2.1.getD pc.toNat cR).1)==6 then
    bif (s.length:Int)==0 then
     some (.inr (([]:List Tp),(([]:List Int),((4:Int),()))))
    else bif decide ((s10.1.length:Int)>(s.length:Int)) then
     some (.inr (([]:List Tp),(([]:List Int),((4:Int),()))))
    else bif decide (IntKind.i64.wrap ((IntKind.i64.wrap ((s.length:Int) - (s10.1.length:Int)))+(s10.2.1.length:Int))>8) then
     some (.inr (([]:List Tp),(([]:List Int),((4:Int),()))))
    else some (.inl ())
   else bif decide ((s10.1.length:Int)>(s.length:Int)) then
    some (.inr (([]:List Tp),(([]:List Int),((4:Int),()))))
   else bif decide (IntKind.i64.wrap ((IntKind.i64.wrap ((s.length:Int) - (s10.1.length:Int)))+(s10.2.1.length:Int))>8) then
    some (.inr (([]:List Tp),(([]:List Int),((4:Int),()))))
   else some (.inl ()):Option (Unit⊕(List Tp×List Int×Int×Unit))).bind fun q=>match q with
   | .inr r15=>some r15
   | .inl _=>
    aE (xN m f pc s (nx,()) s10) fuel ((0:Int),())
theorem aJV {n:Nat} (h:0<n) (h2:n<1000000):IntKind.i64.wrap ((n:Int) - 1)=((n - 1:Nat):Int):=by
 rw[cT] <;> omega
theorem aH7 {m:Im} (hs:aM m=true) {f pc:Int} {s:List Tp} (hsl:s.length<1000000) {nx:List Int} {T Gv:List Tp} (hT:T.length≤s.length) (hT2:T.length≤12) (hG:Gv.length≤12) {F:Nat} (hF:100<F):
  aE (xN m f pc s (nx,()) (T,Gv,())) F ((0:Int),())=some (bif ((s.drop (s.length - T.length)).zip T).all (fun p=>dV m (aH m f pc).1 p.1 p.2) then (s.take (s.length - T.length)++Gv,nx,0,()) else ([],[],4,())):=by
 have hok:okL m.1=true:=fB (by have:=(dI (dR hs).1).classes;omega)
 have fold:∀g:Int,m.2.2.2.1.getD g.toNat zMt=aD m g:=fun _=>rfl
 have fold2:(aD m f).2.2.2.1.getD pc.toNat cR=aH m f pc:=rfl
 have hzip:=aEk (fun a b=>dV m (aH m f pc).1 a b) zTp zTp (s.drop (s.length - T.length)) T (by rw[eF];omega)
 rw[hzip]
 generalize hD:s.length - T.length=D at*
 have hDi:(s.length:Int) - (T.length:Int)=(D:Int):=by omega
 have w4:IntKind.i64.wrap (D:Int)=(D:Int):=by rw[cT] <;> omega
 rw[show (T.zipIdx.all fun q=>dV m (aH m f pc).1 ((s.drop D).getD q.2 zTp) q.1)=jE (fun k x=>dV m (aH m f pc).1 ((s.drop D).getD k zTp) x) 0 T by
  rw[aBQ,aBI,bL]
  constructor
  ·intro hh j x hx
   have:=hh (x,j) (by rw[List.mem_zipIdx_iff_getElem?];exact hx)
   simpa using this
  ·rintro hh ⟨x,j⟩ hx
   rw[List.mem_zipIdx_iff_getElem?] at hx
   have:=hh j x hx
   simpa using this]
 refine (aC8 (xs:=T) (st:=fun k=>((k:Int),())) (p:=fun k x=>dV m (aH m f pc).1 ((s.drop D).getD k zTp) x) (ex:=some ([],[],4,())) (fin:=some (s.take D++Gv,nx,0,())) (fun k x rec hk hlt=>?_) (fun rec=>?_) F (by omega)).trans ?_
 ·have hx:(s.drop D).getD k zTp=s.getD (D+k) zTp:=by simp[eA]
  have w3:IntKind.i64.wrap ((D:Int)+(k:Int))=((D+k:Nat):Int):=by rw[cT] <;> omega
  have hw:=bG hlt (show _≤lenMax by simp only[lenMax];omega)
  rw[xN]
  simp only[w4,hDi,w3,fold,fold2,dlt hlt,dge,dlt (show D+k<s.length by omega),aI,aA,aT,getD_some hk,hx,hw,aFf hok,aJ,dV,rI,bne]
  generalize s.getD (D+k) zTp=t
  cases x.1==0 <;> simp only[aA,aB]
  cases x.1==4 <;> simp only[aA,aB]
  ·cases cG m.1 t x <;> rfl
  ·cases hZ t <;> simp only[aZ,bY,aA,aB,lD,eG]
   cases (aH m f pc).1==34 <;> simp only[aZ,bY,aA,aB,lC,sY]
   cases t.1==2 <;> simp only[aZ,bY,aA,aB]
 ·have l3:(D:Int)≤(s.length:Int):=by omega
  have r1:decide (([]:List Tp).length+(s.take D).length<rowMax)=true:=aG (by simp only[bI,bR,rowMax];omega)
  have r2:decide ((([]:List Tp)++s.take D).length+Gv.length<rowMax)=true:=aG (by simp only[nO,bR,rowMax];omega)
  rw[xN]
  simp only[w4,hDi,bO,aB,dge,l3,aK,aI,aA,aT,aBM,r1,r2]
  rw[nO]
 ·cases jE (fun k x=>dV m (aH m f pc).1 ((s.drop D).getD k zTp) x) 0 T <;> rfl
theorem aJ7 {m:Im} (hs:aM m=true) {f pc:Int} {s:List Tp} (hsl:s.length<1000000) (hf:inM m f=true) (hp:sin pc (codeN m f:Int)=true) {F:Nat} (hF:100<F):wV F m f pc s (dS (aH m f pc) pc)=some (aN m f pc s):=by
 obtain⟨f0,f1⟩:=cA.1 hf
 have hp':=hp
 simp only[sin,aC,aP] at hp'
 have hc:=fA hs hf
 have hi:=rG hs hf hp
 have fold:∀g:Int,m.2.2.2.1.getD g.toNat zMt=aD m g:=fun _=>rfl
 have fold2:(aD m f).2.2.2.1.getD pc.toNat cR=aH m f pc:=rfl
 have fold3:(aD m f).2.2.2.1.length=codeN m f:=rfl
 have hw:IntKind.i64.wrap (pc+1)=pc+1:=by rw[cT] <;> omega
 have hcnd:(bif decide (((dS (aH m f pc) pc).length:Int)>0) then decide ((dS (aH m f pc) pc).getD 0 0≥(codeN m f:Int)) else false)=(dS (aH m f pc) pc).contains (codeN m f:Int):=by
  have hj:((aH m f pc).1==18 || (aH m f pc).1==19)=true→(aH m f pc).2.1<(codeN m f:Int):=by
   intro hh
   have:sin (aH m f pc).2.1 (codeN m f:Int)=true:=by
    rw[fW] at hh
    unfold bZ at hi
    rcases hh with hh | hh <;> (have e:=eq_of_beq hh;rw[e] at hi;exact hi)
   simp only[sin,aC,aP] at this
   exact this.2
  have hpc:decide (pc+1≥(codeN m f:Int))=(pc+1==(codeN m f:Int)):=by
   rw[aBQ,aP,gN];omega
  have hpc2:((codeN m f:Int)==pc+1)=(pc+1==(codeN m f:Int)):=by
   rw[aBQ,gN,gN];omega
  unfold dS
  rw[hw]
  cases h1:(aH m f pc).1==18 <;> simp only[aA,aB]
  ·cases h2:(aH m f pc).1==19 <;> simp only[aA,aB]
   ·cases (aH m f pc).1==33 <;> simp only[aA,aB]
    ·simp only[aF,bI,List.getD_cons_zero,List.contains_cons,List.contains_nil,Bool.or_false,hpc,hpc2]
     rfl
    ·rfl
   ·have:=hj (by rw[h2,Bool.or_true])
    have e:((codeN m f:Int)==(aH m f pc).2.1)=false:=oX.2 (by omega)
    simp only[aF,bI,List.getD_cons_zero,List.contains_cons,List.contains_nil,Bool.or_false,hpc,hpc2,e]
    rfl
  ·have:=hj (by rw[h1,sY])
   have e:((codeN m f:Int)==(aH m f pc).2.1)=false:=oX.2 (by omega)
   have e2:decide ((aH m f pc).2.1≥(codeN m f:Int))=false:=bH (by omega)
   simp only[aF,bI,List.getD_cons_zero,List.contains_cons,List.contains_nil,Bool.or_false,e,e2]
   rfl
 unfold wV aN
 simp only[fold,fold2,fold3,aLM hs hf hi,f0,f1,hf,hp,aK,aI,aZ,aA,aB]
 rw[←hcnd]
 have hsm:=aE0 hs (f:=f) hi
 generalize eJ m (aD m f) (aH m f pc)=E at hsm⊢
 generalize dS (aH m f pc) pc=nx
 obtain⟨hE1,hE2⟩:=hsm
 have e1:(bif decide ((nx.length:Int)>0) then bif decide ((0:Int)<nx.length) then bif decide (nx.getD 0 0≥(codeN m f:Int)) then (some (.inr (([]:List Tp),(([]:List Int),((4:Int),())))):Option (Unit⊕St4)) else some (.inl ()) else none else some (.inl ()))=
   some (bif (bif decide ((nx.length:Int)>0) then decide (nx.getD 0 0≥(codeN m f:Int)) else false) then .inr ([],[],4,()) else .inl ()):=by
  by_cases h:(nx.length:Int)>0
  ·rw[aG h,aA,aA,aA]
   cases decide (nx.getD 0 0≥(codeN m f:Int)) <;> rfl
  ·rw[bH h];rfl
 rw[e1]
 cases (bif decide ((nx.length:Int)>0) then decide (nx.getD 0 0≥(codeN m f:Int)) else false) <;> simp only[aA,aB,aJ]
 cases h6:(aH m f pc).1==6 <;> simp only[aA,aB,aJ]
 ·unfold mG
  by_cases l1:s.length<E.1.length
  ·have:(E.1.length:Int)>(s.length:Int):=by omega
   rw[aG this,aG l1]
   rfl
  have l1':¬(E.1.length:Int)>(s.length:Int):=by omega
  rw[bH l1',bH l1,aB,lC]
  have w1:IntKind.i64.wrap ((s.length:Int) - (E.1.length:Int))=(s.length:Int) - (E.1.length:Int):=by rw[cT] <;> omega
  have w2:IntKind.i64.wrap ((s.length:Int) - (E.1.length:Int)+(E.2.1.length:Int))=(s.length:Int) - (E.1.length:Int)+(E.2.1.length:Int):=by rw[cT] <;> omega
  rw[w1,w2]
  by_cases l2:s.length - E.1.length+E.2.1.length>8
  ·have:(s.length:Int) - (E.1.length:Int)+(E.2.1.length:Int)>8:=by omega
   rw[aG this,aG l2]
   rfl
  have l2':¬(s.length:Int) - (E.1.length:Int)+(E.2.1.length:Int)>8:=by omega
  rw[bH l2,bH l2',aB,aB]
  simp only[aJ]
  exact aH7 hs hsl (f:=f) (pc:=pc) (nx:=nx) (T:=E.1) (Gv:=E.2.1) (by omega) hE1 (by omega) hF
 ·by_cases s0:s.length=0
  ·have g1:decide ((s.length:Int)>0)=false:=bH (by omega)
   have g2:((s.length:Int)==0)=true:=by rw[s0];rfl
   rw[g1,g2,aG s0]
   rfl
  ·have g1:decide ((s.length:Int)>0)=true:=aG (by omega)
   have g2:((s.length:Int)==0)=false:=oX.2 (by omega)
   have hw1:=aJV (show 0<s.length by omega) hsl
   rw[g1,g2,bH s0,hw1]
   have hlt:s.length - 1<s.length:=by omega
   simp only[aA,aB,lC,dge,dlt hlt,aI,aT,aJ]
   have a1:¬(([((0:Int),((0:Int),()))]:List Tp).length:Int)>(s.length:Int):=by
    show ¬((1:Nat):Int)>_
    omega
   have a2:IntKind.i64.wrap ((s.length:Int) - (([((0:Int),((0:Int),()))]:List Tp).length:Int))=(s.length:Int) - 1:=by
    show IntKind.i64.wrap ((s.length:Int) - ((1:Nat):Int))=_
    rw[cT] <;> omega
   have a3:IntKind.i64.wrap ((s.length:Int) - 1+(([s.getD (s.length - 1) zTp,s.getD (s.length - 1) zTp]:List Tp).length:Int))=(s.length:Int)+1:=by
    show IntKind.i64.wrap ((s.length:Int) - 1+((2:Nat):Int))=_
    rw[cT] <;> omega
   rw[bH a1,a2,a3]
   by_cases s8:s.length≥8
   ·have:(s.length:Int)+1>8:=by omega
    rw[aG this,aG s8]
    rfl
   ·have:¬(s.length:Int)+1>8:=by omega
    rw[bH this,bH s8]
    simp only[aB,aJ]
    have hfl:=aH7 hs hsl (f:=f) (pc:=pc) (nx:=nx) (T:=[zTp]) (Gv:=[s.getD (s.length - 1) zTp,s.getD (s.length - 1) zTp]) (F:=F) (by simp;omega) (by simp) (by simp) hF
    refine hfl.trans ?_
    have hall:((s.drop (s.length - [zTp].length)).zip [zTp]).all (fun p=>dV m (aH m f pc).1 p.1 p.2)=true:=by
     rw[bL]
     rintro ⟨x,y⟩ hxy
     have:=(List.of_mem_zip hxy).2
     rw[dY] at this
     subst this
     rfl
    rw[hall]
    have hd:s.drop (s.length - 1)=[s.getD (s.length - 1) zTp]:=by
     rw[List.drop_eq_getElem_cons hlt,List.drop_of_length_le (by omega)]
     simp[hlt]
    simp only[aA,aF,bI,bK]
    rw[hd]
    have hs':s=s.take (s.length - 1)++[s.getD (s.length - 1) zTp]:=by
     rw[←hd,wG]
    rw[show s.take (s.length - 1)++[s.getD (s.length - 1) zTp,s.getD (s.length - 1) zTp]=(s.take (s.length - 1)++[s.getD (s.length - 1) zTp])++[s.getD (s.length - 1) zTp] by simp,←hs']
theorem aMw (m:Im) (f pc:Int) (s:List Tp) (r) (h:nZ m f pc s=some r):∃k,tW k m f pc s=some r:=by
 unfold nZ at h
 cases hb:aM m&&okL s <;> simp only[hb,aA,aB] at h
 ·cases h
 injection h with h
 subst h
 simp only[aC] at hb
 obtain⟨hs,hsl⟩:=hb
 have hsl:=hU hsl
 obtain⟨F,hF⟩:∃F:Nat,100<F:=⟨101,by omega⟩
 refine⟨F,?_⟩
 have fold:∀g:Int,m.2.2.2.1.getD g.toNat zMt=aD m g:=fun _=>rfl
 have fold2:(aD m f).2.2.2.1.getD pc.toNat cR=aH m f pc:=rfl
 have fold3:(aD m f).2.2.2.1.length=codeN m f:=rfl
 cases hf:inM m f
 ·unfold tW aN
  rw[hf]
  have:¬(0≤f∧f<(m.2.2.2.1.length:Int)):=fun hh=>by rw[cA.2 hh] at hf;cases hf
  by_cases h0:f<0
  ·rw[aG h0];rfl
  ·have h1:f≥(m.2.2.2.1.length:Int):=by omega
   rw[bH h0,aG h1];rfl
 obtain⟨f0,f1⟩:=cA.1 hf
 have f2:¬f<0:=by omega
 have f3:¬f≥(m.2.2.2.1.length:Int):=by omega
 have hc:=fA hs hf
 by_cases p0:pc<0
 ·have:¬0≤pc:=by omega
  unfold tW aN sin
  rw[bH f2,bH f3,aG p0,hf,bH this];rfl
 have p0':0≤pc:=by omega
 by_cases p1:pc≥(codeN m f:Int)
 ·have:¬pc<(codeN m f:Int):=by omega
  unfold tW aN sin
  simp only[fold,fold3]
  rw[bH f2,bH f3,bH p0,aG f0,aG f1,aG p1,hf,bH this,aG p0'];rfl
 have p1':pc<(codeN m f:Int):=by omega
 have hp:sin pc (codeN m f:Int)=true:=by simp[sin,p0',p1']
 rw[←aJ7 hs hsl hf hp hF]
 have hi:=rG hs hf hp
 have hroom:∀x:Int,decide (([IntKind.i64.wrap (pc+1)]:List Int).length+[x].length<rowMax)=true:=fun x=>aG (by simp only[aF,bI,rowMax];omega)
 have hend:∀nx:List Int,_=wV F m f pc s nx:=fun nx=>by
  unfold wV
  simp only[fold,fold2,fold3]
  rw[aG f0,aG f1]
 have hred:∀nx:List Int,nx=dS (aH m f pc) pc→tW F m f pc s=wV F m f pc s nx:=by
  intro nx hnx
  unfold tW
  simp only[fold,fold2,fold3]
  rw[bH f2,bH f3,bH p0,aG f0,aG f1,bH p1,aG p0',aG p1']
  simp only[aA,aB,aI]
  unfold dS at hnx
  cases h18:(aH m f pc).1==18
  ·rw[h18] at hnx
   simp only[aB,aJ] at hnx⊢
   cases h19:(aH m f pc).1==19
   ·rw[h19] at hnx
    simp only[aB,aJ] at hnx⊢
    cases h33:(aH m f pc).1==33
    ·rw[h33] at hnx
     simp only[aB,aJ] at hnx⊢
     rw[hnx]
     exact hend _
    ·rw[h33] at hnx
     simp only[aA,aJ] at hnx⊢
     rw[hnx]
     exact hend _
   ·rw[h19] at hnx
    have h33:((aH m f pc).1==33)=false:=by
     have:=eq_of_beq h19
     rw[this];rfl
    simp only[aA,hroom,aJ,h33,aB] at hnx⊢
    rw[hnx]
    exact hend _
  ·rw[h18] at hnx
   have h19:((aH m f pc).1==19)=false:=by
    have:=eq_of_beq h18
    rw[this];rfl
   have h33:((aH m f pc).1==33)=false:=by
    have:=eq_of_beq h18
    rw[this];rfl
   simp only[aA,aJ,h19,h33,aB] at hnx⊢
   rw[hnx]
   exact hend _
 exact hred _ rfl
end Go.Pli

namespace Go.Pli
open Go Go.PM
def jI (N:Nat) (h:List Sh):Prop:=h.length=N∧∀s∈h,s.2.1.length≤8
theorem aHn {N:Nat} {h:List Sh} (hh:jI N h) (k:Nat):(h.getD k zSh).2.1.length≤8:=by
 by_cases hk:k<h.length
 ·rw[getD_some (aW hk)];exact hh.2 _ (eE hk)
 ·rw[gY (by omega)];exact dG _
theorem aN5 {l:List Cl} {o:Sh} {s:List Tp} (ho:o.2.1.length≤8) (hs:s.length≤8):(cW l o s).1.2.1.length≤8:=by
 unfold cW
 cases !o.1 <;> simp only[aA,aB]
 ·cases h2:decide (o.2.1.length≠s.length) <;> simp only[aA,aB]
  ·have hlen:o.2.1.length=s.length:=by simpa using h2
   cases (bP l o.2.1 s).any fun t=>t.1==0 <;> simp only[aA,aB]
   ·rw[uU l hlen];exact hs
   ·exact ho
  ·exact ho
 ·exact hs
theorem aHm {N:Nat} {h:List Sh} (hh:jI N h) (k:Nat) {s:Sh} (hs:s.2.1.length≤8):jI N (h.set k s):=
 ⟨by rw[dB];exact hh.1,fun x hx=>by
  rcases wI hx with hx | rfl
  ·exact hh.2 x hx
  ·exact hs⟩
theorem aDD {l:List Cl} {a:List Tp} (ha:a.length≤8) {N:Nat}:∀(ts:List Int) (t:Bool) (h:List Sh) (r),jI N h→jX l a ts t h=some r→jI N r.2
 | [],t,h,r,hh,he=>by
  unfold jX at he
  injection he with he
  subst he
  exact hh
 | to::ts,t,h,r,hh,he=>by
  unfold jX at he
  cases h1:(cW l (h.getD to.toNat zSh) a).2.2.1 <;> simp only[h1,aZ,bY,aA,aB] at he
  ·cases he
  ·cases h2:(cW l (h.getD to.toNat zSh) a).2.1 <;> simp only[h2,aA,aB] at he
   ·exact aDD ha ts _ _ _ hh he
   ·exact aDD ha ts _ _ _ (aHm hh _ (aN5 (aHn hh _) ha)) he
theorem aOH {m:Im} (hok:okL m.1=true) {s6:Bool×Int×List Sh×Unit} {rec7:(Bool×Int×List Sh×Unit)→Option (List Sh×Bool×Unit)} {r5:St4} {to:Int} {k:Nat} (hto:r5.2.1.getD s6.2.1.toNat 0=to) (hk:s6.2.1=(k:Int)) (hk2:k<1000) (t0:0≤to) (t1:to<(s6.2.2.1.length:Int)) (ha:r5.1.length≤8) (hl:(s6.2.2.1.getD to.toNat zSh).2.1.length=r5.1.length) {F:Nat} (hF:100<F):
  aE (xQ m s6 rec7 r5) F (([]:List Tp),((0:Int),()))=
   bif (bP m.1 (s6.2.2.1.getD to.toNat zSh).2.1 r5.1).any fun t=>t.1==0 then some ([],false,())
   else bif !(bP m.1 (s6.2.2.1.getD to.toNat zSh).2.1 r5.1==(s6.2.2.1.getD to.toNat zSh).2.1) then rec7 (true,((k+1:Nat):Int),s6.2.2.1.set to.toNat (true,bP m.1 (s6.2.2.1.getD to.toNat zSh).2.1 r5.1,()),())
   else rec7 (s6.1,((k+1:Nat):Int),s6.2.2.1,()):=by
 generalize hO:(s6.2.2.1.getD to.toNat zSh).2.1=O at hl⊢
 have hto':r5.2.1.getD k 0=to:=by rw[hk] at hto;simpa using hto
 have hml:=uU m.1 hl
 have hw:IntKind.i64.wrap ((k:Int)+1)=((k+1:Nat):Int):=by rw[cT] <;> omega
 have key:=lO (L:=xQ m s6 rec7 r5) (xs:=bP m.1 O r5.1) (st:=fun j=>((bP m.1 O r5.1).take j,(j:Int),())) (p:=fun x=> !(x.1==0)) (ex:=some ([],false,()))
  (fin:=bif !(bP m.1 O r5.1==O) then rec7 (true,((k+1:Nat):Int),s6.2.2.1.set to.toNat (true,bP m.1 O r5.1,()),()) else rec7 (s6.1,((k+1:Nat):Int),s6.2.2.1,()))
  (fun j x rec hj hjl=>by
   have j1:j<r5.1.length:=by omega
   have j2:j<O.length:=by omega
   have hx:=aN8 m.1 j2 j1
   rw[hj] at hx
   have hx:=nL hx
   have hrj:tS m.1 (O.getD j zTp) (r5.1.getD j zTp)=some (x,()):=by unfold tS;rw[hok,hx];rfl
   have hroom:decide (((bP m.1 O r5.1).take j).length+(0+1)<rowMax)=true:=jQ (by rw[bR];omega)
   have htk:(bP m.1 O r5.1).take (j+1)=(bP m.1 O r5.1).take j++[x]:=by rw[pC,hj];rfl
   rw[xQ]
   simp only[hk,aT,hto',hO,t0,t1,dlt j1,dlt j2,dge,aK,aI,aA,hrj,aJ,aF,bI,hroom,bG j1 (show _≤lenMax by simp only[lenMax];omega),htk]
   cases x.1==0 <;> rfl)
  (fun rec=>by
   rw[xQ]
   simp only[hml,bO,aB,hk,aT,hto',hO,t0,t1,aK,aI,aA,tP,hw]
   rw[←hml,iD]) F (by omega)
 rw[List.take_zero] at key
 refine key.trans ?_
 rw[←List.not_any_eq_all_not]
 cases (bP m.1 O r5.1).any fun t=>t.1==0 <;> rfl
theorem aH5 {m:Im} (hok:okL m.1=true) {s3:Bool×Int×List Sh×Unit} {rec4:(Bool×Int×List Sh×Unit)→Option (List Sh×Bool×Unit)} {r5:St4} (ha:r5.1.length≤8) {N:Nat} {F0:Nat} (hF0:100<F0) (hnl:r5.2.1.length≤2) (hto:∀to∈r5.2.1,0≤to∧to<(N:Int)):
  ∀(l pre:List Int) (t:Bool) (h:List Sh) (F:Nat),r5.2.1=pre++l→l.length<F→jI N h→aE (xP m F0 s3 rec4 r5) F (t,(pre.length:Int),h,())=
   match jX m.1 r5.1 l t h with
   | none=>some ([],false,())
   | some r=>rec4 (r.1,IntKind.i64.wrap (s3.2.1 - 1),r.2,())
 | [],pre,t,h,F,he,hF,hh=>by
  obtain⟨F,rfl⟩:∃n,F=n+1:=⟨F - 1,by simp at hF;omega⟩
  rw[bS] at he
  rw[aY,xP,he]
  simp only[bO,aB,jX]
 | to::l,pre,t,h,F,he,hF,hh=>by
  obtain⟨F,rfl⟩:∃n,F=n+1:=⟨F - 1,by simp at hF;omega⟩
  have hk:pre.length<r5.2.1.length:=by rw[he,aV];simp
  have hget:r5.2.1.getD pre.length 0=to:=by rw[he];simp
  obtain⟨t0,t1⟩:=hto to (by rw[he];simp)
  have t2:to<(h.length:Int):=by rw[hh.1];exact t1
  have hw:=bG hk (show _≤lenMax by simp only[lenMax];omega)
  have ih:=fun t' h' hh'=>aH5 hok (s3:=s3) (rec4:=rec4) ha hF0 hnl hto l (pre++[to]) t' h' F (by rw[he,bX];rfl) (by simp only[aF] at hF;omega) hh'
  simp only[aV,aF,bI,bK] at ih
  have hset:∀s:Sh,s.2.1.length≤8→jI N (h.set to.toNat s):=fun s hs=>aHm hh _ hs
  rw[aY,xP]
  simp only[dlt hk,dge,aI,aA,aT,hget,t0,t2,aK,hw]
  unfold jX cW
  cases h1:(h.getD to.toNat zSh).1 <;> simp only[aZ,bY,aA,aB]
  ·exact ih _ _ (hset _ ha)
  ·by_cases hl:(h.getD to.toNat zSh).2.1.length=r5.1.length
   ·have e1:(((h.getD to.toNat zSh).2.1.length:Int) !=(r5.1.length:Int))=false:=by rw[hl];simp
    have e2:decide ((h.getD to.toNat zSh).2.1.length≠r5.1.length)=false:=bH fun hh=>hh hl
    rw[e1,e2,aB,aB]
    have:=aOH hok (s6:=(t,(pre.length:Int),h,())) (rec7:=aE (xP m F0 s3 rec4 r5) F) (r5:=r5) (to:=to) (k:=pre.length) (by simpa using hget) rfl (by omega) t0 t2 ha hl hF0
    rw[this]
    cases (bP m.1 (h.getD to.toNat zSh).2.1 r5.1).any fun t=>t.1==0 <;> simp only[aZ,bY,aA,aB]
    cases bP m.1 (h.getD to.toNat zSh).2.1 r5.1==(h.getD to.toNat zSh).2.1 <;> simp only[aZ,bY,aA,aB]
    ·exact ih _ _ (hset _ (by rw[uU m.1 hl];exact ha))
    ·exact ih _ _ hh
   ·have e1:(((h.getD to.toNat zSh).2.1.length:Int) !=(r5.1.length:Int))=true:=bne_iff_ne.2 (by omega)
    have e2:decide ((h.getD to.toNat zSh).2.1.length≠r5.1.length)=true:=aG hl
    rw[e1,e2,aA,aA]
    rfl
theorem aH3 {m:Im} (hs:aM m=true) {f:Int} {N:Nat} {pc:Nat} {t:Bool} {h:List Sh} {r} (hh:jI N h) (he:nA m f pc t h=some r):jI N r.2:=by
 unfold nA at he
 cases h1:(h.getD pc zSh).1 <;> simp only[h1,aZ,bY,aA,aB] at he
 ·injection he with he;subst he;exact hh
 ·cases h2:(aN m f (pc:Int) (h.getD pc zSh).2.1).2.2.1 !=0 <;> simp only[h2,aA,aB] at he
  ·obtain⟨-,-,h8,-⟩:=mF hs (f:=f) (pc:=(pc:Int)) (s:=(h.getD pc zSh).2.1) (by simpa using h2)
   exact aDD h8 _ _ _ _ hh he
  ·cases he
theorem aH0 {m:Im} (hs:aM m=true) {f:Int} {N:Nat}:∀(n:Nat) (t:Bool) (h:List Sh) (r),jI N h→iK m f n t h=some r→jI N r.2
 | 0,t,h,r,hh,he=>by
  unfold iK at he
  injection he with he;subst he;exact hh
 | n+1,t,h,r,hh,he=>by
  unfold iK at he
  cases hp:nA m f n t h with
  | none=>rw[hp] at he;cases he
  | some q=>
   rw[hp] at he
   exact aH0 hs n _ _ _ (aH3 hs hh hp) he
theorem aFm {m:Im} (hs:aM m=true) {f:Int} (hf:inM m f=true) {F0:Nat} (hF0:1000<F0) {s1:Int×List Sh×Unit} {rec2:(Int×List Sh×Unit)→Option (List Sh×Bool×Unit)}:
  ∀(n:Nat) (t:Bool) (h:List Sh) (F:Nat),n≤codeN m f→n<F→jI (codeN m f) h→aE (xO m f F0 s1 rec2) F (t,(n:Int) - 1,h,())=
   match iK m f n t h with
   | none=>some ([],false,())
   | some r=>bif !r.1 then some (r.2,true,()) else rec2 (IntKind.i64.wrap (s1.1+1),r.2,())
 | 0,t,h,F,hn,hF,hh=>by
  obtain⟨F,rfl⟩:∃n,F=n+1:=⟨F - 1,by omega⟩
  rw[aY,xO]
  have:¬(((0:Nat):Int) - 1≥0):=by omega
  simp only[this,bE,aB,iK]
 | n+1,t,h,F,hn,hF,hh=>by
  obtain⟨F,rfl⟩:∃n,F=n+1:=⟨F - 1,by omega⟩
  have hok:okL m.1=true:=fB (by have:=(dI (dR hs).1).classes;omega)
  have hc:=fA hs hf
  have e:(((n+1:Nat):Int) - 1)=(n:Int):=by omega
  have g0:decide ((n:Int)≥0)=true:=aG (by omega)
  have hnl:n<h.length:=by rw[hh.1];omega
  have hw:IntKind.i64.wrap ((n:Int) - 1)=(n:Int) - 1:=by rw[cT] <;> omega
  have h8:=aHn hh n
  have hst:nZ m f (n:Int) (h.getD n zSh).2.1=some (aN m f (n:Int) (h.getD n zSh).2.1):=by unfold nZ;rw[hs,fB (by omega)];rfl
  have ih:=fun t' h' hh'=>aFm hs hf hF0 (s1:=s1) (rec2:=rec2) n t' h' F (by omega) (by omega) hh'
  rw[aY,xO,e]
  simp only[g0,dge,dlt hnl,aI,aA,aT,hw,hst,aJ]
  unfold iK
  have hfl:=fun q=>aH3 hs (f:=f) (pc:=n) (t:=t) (r:=q) hh
  unfold nA at hfl⊢
  cases h1:(h.getD n zSh).1 <;> simp only[h1,aZ,bY,aA,aB] at hfl⊢
  ·exact ih _ _ hh
  ·cases h2:(aN m f (n:Int) (h.getD n zSh).2.1).2.2.1 !=0 <;> simp only[h2,aA,aB] at hfl⊢
   ·obtain⟨-,-,h8,hto⟩:=mF hs (f:=f) (pc:=(n:Int)) (s:=(h.getD n zSh).2.1) (by simpa using h2)
    have:=aH5 hok (s3:=(t,(n:Int),h,())) (rec4:=aE (xO m f F0 s1 rec2) F) (r5:=aN m f (n:Int) (h.getD n zSh).2.1) h8 (N:=codeN m f) (F0:=F0) (by omega) (tJ ..) hto (aN m f (n:Int) (h.getD n zSh).2.1).2.1 [] t h F0 rfl (by have:(aN m f (n:Int) (h.getD n zSh).2.1).2.1.length≤2:=tJ ..;omega) hh
    simp only[bI] at this
    refine this.trans ?_
    cases hE:jX m.1 (aN m f (n:Int) (h.getD n zSh).2.1).1 (aN m f (n:Int) (h.getD n zSh).2.1).2.1 t h with
    | none=>rfl
    | some q=>
     simp only[hw,aJ]
     exact ih _ _ (hfl q hE)
   ·rfl
theorem aFk {m:Im} (hs:aM m=true) {f:Int} (hf:inM m f=true) {F0:Nat} (hF0:1000<F0):∀(n k:Nat) (h:List Sh) (F:Nat),k+n=4000→n<F→jI (codeN m f) h→aE (aAl m f F0) F ((k:Int),h,())=some (gK m f n h)
 | 0,k,h,F,hk,hF,hh=>by
  obtain⟨F,rfl⟩:∃n,F=n+1:=⟨F - 1,by omega⟩
  have:¬((k:Int)<4000):=by omega
  rw[aY,aAl]
  simp only[this,bE,aB]
  rfl
 | n+1,k,h,F,hk,hF,hh=>by
  obtain⟨F,rfl⟩:∃n,F=n+1:=⟨F - 1,by omega⟩
  have hlt:(k:Int)<4000:=by omega
  have hc:=fA hs hf
  have fold:∀g:Int,m.2.2.2.1.getD g.toNat zMt=aD m g:=fun _=>rfl
  have fold3:(aD m f).2.2.2.1.length=codeN m f:=rfl
  have hw:IntKind.i64.wrap ((codeN m f:Int) - 1)=(codeN m f:Int) - 1:=by rw[cT] <;> omega
  have hw2:IntKind.i64.wrap ((k:Int)+1)=((k+1:Nat):Int):=by rw[cT] <;> omega
  rw[aY,aAl]
  simp only[hlt,aK,aA,fold,fold3,hw]
  refine (aFm hs hf hF0 (codeN m f) false h F0 (aU _) (by omega) hh).trans ?_
  unfold gK
  cases hr:iK m f (codeN m f) false h with
  | none=>rfl
  | some r=>
   have hl:=aH0 hs _ _ _ _ hh hr
   simp only[hw2]
   cases r.1 <;> simp only[aZ,bY,aA,aB]
   exact aFk hs hf hF0 n (k+1) r.2 F (by omega) (by omega) hl
theorem aKk (m:Im) (f:Int):jI (codeN m f) (gI m f):=by
 unfold gI
 refine⟨by simp,fun s hs=>?_⟩
 rcases wI hs with h | rfl
 ·rw[zI] at h;rw[h.2];exact dG _
 ·exact dG _
theorem aMx (m:Im) (f:Int) (r) (h:tX m f=some r):∃k,aFJ k m f=some r:=by
 unfold tX at h
 cases hb:aM m&&inM m f <;> simp only[hb,aA,aB] at h
 ·cases h
 injection h with h
 subst h
 simp only[aC] at hb
 obtain⟨hs,hf⟩:=hb
 obtain⟨f0,f1⟩:=cA.1 hf
 have hc:=fA hs hf
 obtain⟨F,hF⟩:∃F:Nat,5000<F:=⟨5001,by omega⟩
 refine⟨F,?_⟩
 have fold:∀g:Int,m.2.2.2.1.getD g.toNat zMt=aD m g:=fun _=>rfl
 have fold3:(aD m f).2.2.2.1.length=codeN m f:=rfl
 have e0:decide ((0:Int)≤(codeN m f:Int))=true:=aG (by omega)
 have e1:decide ((codeN m f:Int)<(rowMax:Int))=true:=aG (by simp only[rowMax];omega)
 have e2:((codeN m f:Int)==0)=false:=oX.2 (by omega)
 have e3:decide ((0:Int)<(codeN m f:Int))=true:=aG (by omega)
 have e4:decide ((codeN m f:Int)≤(codeN m f:Int))=true:=aG (by omega)
 have e5:((List.replicate (codeN m f) zSh).getD 0 zSh).2=([],()):=by
  obtain⟨n,hn⟩:∃n,codeN m f=n+1:=⟨codeN m f - 1,by omega⟩
  rw[hn];rfl
 unfold aFJ
 simp only[fold,fold3,f0,f1,aK,aI,aA,aB,e0,e1,e2,e3,e4,e5,aT,pE]
 exact aFk hs hf (by omega) 4000 0 _ F (by omega) (by omega) (aKk m f)
theorem aJL {m:Im} (hs:aM m=true):∀(j k:Nat) (out:List (List Sh)) (F:Nat),k+j=m.2.2.2.1.length→j<F→out.length≤k→aE (aAm m) F (out,(k:Int),())=some (sU m ((List.range' k j).map fun n:Nat=>(n:Int)) out)
 | 0,k,out,F,hk,hF,_=>by
  obtain⟨F,rfl⟩:∃n,F=n+1:=⟨F - 1,by omega⟩
  have:k=m.2.2.2.1.length:=by omega
  subst this
  rw[aY,aAm]
  simp only[bO,aB]
  rfl
 | j+1,k,out,F,hk,hF,ho=>by
  obtain⟨F,rfl⟩:∃n,F=n+1:=⟨F - 1,by omega⟩
  have h12:=(dI (dR hs).1).methods
  have hlt:k<m.2.2.2.1.length:=by omega
  have hin:inM m (k:Int)=true:=cA.2 ⟨by omega,by omega⟩
  have hsh:tX m (k:Int)=some (gK m (k:Int) 4000 (gI m (k:Int))):=by unfold tX;rw[hs,hin];rfl
  rw[aY,aAm]
  rw[List.range'_succ,dH,sU]
  simp only[dlt hlt,aA,hsh,aJ]
  cases (gK m (k:Int) 4000 (gI m (k:Int))).2.1 <;> simp only[aZ,bY,aA,aB]
  simp only[aF,bI,jQ (show out.length+(0+1)<549755813888 by omega),aA,bG hlt (show _≤lenMax by simp only[lenMax];omega)]
  exact aJL hs j (k+1) _ F (by omega) (by omega) (by simp;omega)
theorem aMB (m:Im) (r) (h:jS m=some r):∃k,aFL k m=some r:=by
 unfold jS at h
 cases hs:aM m <;> simp only[hs,aA,aB] at h
 ·cases h
 injection h with h
 subst h
 have h12:=(dI (dR hs).1).methods
 refine⟨m.2.2.2.1.length+1,?_⟩
 unfold aFL
 rw[show ints m.2.2.2.1.length=(List.range' 0 m.2.2.2.1.length).map fun n:Nat=>(n:Int) by rw[←List.range_eq_range'];rfl]
 exact aJL hs m.2.2.2.1.length 0 [] _ (by omega) (by omega) (by simp)
end Go.Pli
