/- The document's steps: what the printed functions come to. -/
import Derived.Test.YtcofionghgmldaaGreatPliNt
import Derived.Test.YtcofionghgmldaaGreatPliL13E
namespace Go.Pli
open Go Go.PM
theorem aLj (l:List Cl) (a b:Tp):vA l a b=cR l a b:=by
 cases h3:a.1==3
 ·unfold vA cR
  rw[h3]
  cases a.1==4 <;> simp
 ·obtain⟨a1,a2,⟨⟩⟩:=a
  have:a1=3:=by simpa using h3
  subst this
  exact aF8 l a2 b
theorem aF9 {l:List Cl} (hl:okL l=true) (a b:Tp):mL l a b=some (cR l a b,()):=by
 unfold mL;rw[hl,aLj];rfl
theorem aGj {l:List Cl} {xs ys:List Int} (hx:xs.length<1000000) (hy:ys.length<1000000):∀(r pre:List Int) (F:Nat),xs=pre++r→r.length<F→
  aE (yJ (xs,()) (ys,())) F ((pre.length:Int),())=some (match r.find? fun c=>ys.contains c with | some c=>(3,c,()) | none=>zTp,())
 | [],pre,F,he,hF=>by
  obtain⟨F,rfl⟩:∃n,F=n+1:=⟨F - 1,by simp at hF;omega⟩
  rw[cB] at he
  rw[aZ,yJ,he]
  simp only[bP,aB,List.find?_nil]
 | c::r,pre,F,he,hF=>by
  obtain⟨F,rfl⟩:∃n,F=n+1:=⟨F - 1,by simp at hF;omega⟩
  have hk:pre.length<xs.length:=by rw[he,aX];simp
  have hget:xs.getD pre.length 0=c:=by rw[he];simp
  have ih:=aGj (l:=l) hx hy r (pre++[c]) F (by rw[he,cK];rfl) (by simp only[aF] at hF;omega)
  simp only[aX,aF,bK,bQ] at ih
  rw[aZ,yJ]
  simp only[dlt hk,dge,aH,aA,aR,hget,aGt (show ys.length<1000000000 by omega),aK,bG hk (show _≤lenMax by simp only[lenMax];omega),aAp]
  cases ys.contains c <;> simp only[aA,aB]
  exact ih
theorem aNn (l:List Cl) (a b:Tp) (r) (h:vB l a b=some r):∃k,aGk k l a b=some r:=by
 unfold vB at h
 cases hb:okL l <;> simp only[hb,aA,aB] at h
 ·cases h
 injection h with h
 subst h
 have hl:=iP hb
 refine⟨1000003,?_⟩
 have hra:∀c,jO l c=some (cG l c,()):=fun c=>by unfold jO;rw[hb];rfl
 unfold aGk gJ
 simp only[aF9 hb,aK,hra]
 cases cR l a b <;> simp only[aA,aB]
 cases cR l b a <;> simp only[aA,aB]
 cases h1:a.1 !=3 <;> simp only[aA,aB,sB,jJ]
 cases h2:b.1 !=3 <;> simp only[aA,aB]
 by_cases hin:0≤a.2.1∧a.2.1<(l.length:Int)
 ·have hch:cG l a.2.1=a.2.1::cH l (kup l a.2.1):=by
   unfold cG
   rw[aI hin.2,aA,iA hin.1]
  have hlen:=uF l (a.2.1.toNat+1) a.2.1 (by omega)
  have hyb:(cG l b.2.1).length≤l.length:=by
   unfold cG
   by_cases h:b.2.1<(l.length:Int)
   ·simp only[h,aN,aA]
    by_cases h0:0≤b.2.1
    ·have:=uF l (b.2.1.toNat+1) b.2.1 (by omega)
     omega
    ·rw[fO (by omega)];simp
   ·simp[h]
  have hxa:(cG l a.2.1).length≤l.length:=by
   unfold cG
   rw[aI hin.2,aA]
   omega
  have:=aGj (l:=l) (xs:=cG l a.2.1) (ys:=cG l b.2.1) (by omega) (by omega) (cH l (kup l a.2.1)) [a.2.1] 1000003 (by rw[hch];rfl) (by
   rw[hch,aF] at hxa
   omega)
  refine this.trans ?_
  have hp:∀c∈cH l (kup l a.2.1),(cG l b.2.1).contains c=dH l b.2.1 c:=by
   intro c hc
   have hcm:=oO _ _ (hC _) hc
   have hk:=lO (l:=l) hin.1
   unfold cG dH
   by_cases hbl:b.2.1<(l.length:Int)
   ·have c1:c<(l.length:Int):=by omega
    simp[hbl,hcm.1,c1]
   ·simp[hbl]
  have hf:(cH l (kup l a.2.1)).find? (fun c=>(cG l b.2.1).contains c)=(cH l (kup l a.2.1)).find? fun c=>dH l b.2.1 c:=by
   generalize cH l (kup l a.2.1)=cs at hp
   induction cs with
   | nil=>rfl
   | cons c cs ih=>
    rw[aAp,aAp,hp c (bR ..),ih fun x hx=>hp x (bJ _ hx)]
  rw[hf]
  rfl
 ·have hk:kup l a.2.1= -1:=by
   unfold kup
   by_cases h0:a.2.1<0
   ·simp[h0]
   ·have:a.2.1≥(l.length:Int):=by omega
    simp[this]
  rw[hk,fO (by omega)]
  have hnil:cG l a.2.1=[]:=by
   unfold cG
   by_cases h1:a.2.1<(l.length:Int)
   ·rw[aI h1,aA,fO (by omega)]
   ·simp[h1]
  rw[hnil,show (1000003:Nat)=1000002+1 from rfl,aZ,yJ]
  rfl
theorem aQP (x:Mt):vG x=some (bif x.2.2.1.1 !=5 then[x.2.2.1] else[],()):=by
 unfold vG
 cases h:x.2.2.1.1==5 <;> simp[bne,h]
theorem aOd {x:Mt} (h1:x.1.length<1000000) (h2:x.2.1.length<1000000) (n:Int):yV x n=some (jS x n,()):=by
 unfold yV jS
 have e1:decide (([]:List Tp).length+x.1.length<rowMax)=true:=aI (by simp only[bK,rowMax];omega)
 have e2:decide ((([]:List Tp)++x.1).length+x.2.1.length<rowMax)=true:=aI (by simp only[oS,rowMax];omega)
 rw[e1,aA,e2,aA]
 rw[oS]
 by_cases h0:n<0
 ·rw[aI h0];rfl
 ·rw[bM h0,aB,aB]
  by_cases h3:n≥((x.1++x.2.1).length:Int)
  ·rw[aI h3,aA,gB (by omega)]
  ·have h4:0≤n:=by omega
   have h5:n<((x.1++x.2.1).length:Int):=by omega
   rw[bM h3,aB,aI h4,aI h5]
   rfl
theorem aNa {m:Im} (hs:aJ m=true) {i:Ins} {f:Int} (hf:inM m f=true) (hi:cM m (aD m f) i=true):yS m f i=some ((eQ m (aD m f) i).1,(eQ m (aD m f) i).2.1,()):=by
 have hfit:=(dI hs).1
 have hcl:=uX hs
 obtain⟨f0,f1⟩:=bC.1 hf
 have hloc:=uW hs hf
 have fold:∀g:Int,m.2.2.2.1.getD g.toNat zMt=aD m g:=fun _=>rfl
 have hF:∀c,jA m c=some (dP m c,()):=fun c=>by unfold jA;rw[hfit];rfl
 unfold yS eQ
 simp only[fold,aQP,aK,hF,f0,f1,aN,aH,aA,aOd (x:=aD m f) (by omega) (by omega)]
 rcases i with⟨o,a,b,⟨⟩⟩
 simp only
 cases e:o==1
 case true=>obtain rfl:o=1:=by simpa using e
            rfl
 cases e:o==2
 case true=>obtain rfl:o=2:=by simpa using e
            rfl
 cases e:o==3
 case true=>obtain rfl:o=3:=by simpa using e
            rfl
 cases e:o==4
 case true=>obtain rfl:o=4:=by simpa using e
            rfl
 cases e:o==5
 case true=>obtain rfl:o=5:=by simpa using e
            rfl
 cases e:o==19
 case true=>obtain rfl:o=19:=by simpa using e
            rfl
 cases e:o==20
 case true=>obtain rfl:o=20:=by simpa using e
            rfl
 cases e:o==21
 case true=>obtain rfl:o=21:=by simpa using e
            rfl
 cases e:o==22
 case true=>obtain rfl:o=22:=by simpa using e
            rfl
 cases e:o==23
 case true=>obtain rfl:o=23:=by simpa using e
            rfl
 cases e:o==24
 case true=>obtain rfl:o=24:=by simpa using e
            rfl
 cases e:o==25
 case true=>obtain rfl:o=25:=by simpa using e
            rfl
 cases e:o==26
 case true=>obtain rfl:o=26:=by simpa using e
            rfl
 cases e:o==27
 case true=>
  obtain rfl:o=27:=by simpa using e
  have:sin a (m.1.length:Int)=true∧sin b (jF m a:Int)=true:=by simpa[cM] using hi
  obtain⟨h1,h2⟩:=this
  simp only[sin,aC,aP] at h1 h2
  rw[←zZ h1.2] at h2
  have h64:=aBW hfit a
  have hw:IntKind.i64.wrap (b+1)=b+1:=by rw[cY] <;> omega
  have c1:b≤b+1:=by omega
  have c2:b+1≤((dP m a).length:Int):=by omega
  have e1:((dP m a).take (b+1).toNat).drop b.toNat=[(dP m a).getD b.toNat zTp]:=by
   have hk:b.toNat<(dP m a).length:=by omega
   rw[show (b+1).toNat=b.toNat+1 by omega,rW,List.drop_append,List.drop_of_length_le (by rw[bN];omega),bN,Nat.min_eq_left (by omega),Nat.sub_self]
   simp[hk]
  simp only[aA,hw,h2.1,c1,c2,aN,aH,e1]
  rfl
 cases e:o==28
 case true=>
  obtain rfl:o=28:=by simpa using e
  have:sin a (m.1.length:Int)=true∧sin b (jF m a:Int)=true:=by simpa[cM] using hi
  obtain⟨h1,h2⟩:=this
  simp only[sin,aC,aP] at h1 h2
  rw[←zZ h1.2] at h2
  simp only[aA,h2.1,h2.2,aN,aH]
  rfl
 cases e:o==29
 case true=>
  obtain rfl:o=29:=by simpa using e
  have:sin a (m.2.1.length:Int)=true:=by simpa[cM] using hi
  simp only[sin,aC,aP] at this
  simp only[aA,this.1,this.2,aN,aH]
  rfl
 cases e:o==30
 case true=>
  obtain rfl:o=30:=by simpa using e
  have:sin a (m.2.1.length:Int)=true:=by simpa[cM] using hi
  simp only[sin,aC,aP] at this
  simp only[aA,this.1,this.2,aN,aH]
  rfl
 cases e:o==34
 case true=>obtain rfl:o=34:=by simpa using e
            rfl
 cases e:o==33
 case true=>
  obtain rfl:o=33:=by simpa using e
  simp only[aA]
  show _=some ((bif (aD m f).2.2.1.1 !=5 then (([(aD m f).2.2.1],[],()):Eff) else ([],[],())).1,(bif (aD m f).2.2.1.1 !=5 then (([(aD m f).2.2.1],[],()):Eff) else ([],[],())).2.1,())
  cases (aD m f).2.2.1.1 !=5 <;> rfl
 cases e:o==31
 case true=>
  obtain rfl:o=31:=by simpa using e
  have:sin a (m.2.2.2.1.length:Int)=true:=by simpa[cM] using hi
  simp only[sin,aC,aP] at this
  simp only[aA,this.1,this.2,aN,aH]
  rfl
 cases e:o==32
 case true=>
  obtain rfl:o=32:=by simpa using e
  have:sin a (m.1.length:Int)=true∧sin b ((bZ m a).2.2.1.length:Int)=true:=by simpa[cM] using hi
  have hsl:iG m a b=true:=by unfold iG;unfold sin at this;rw[this.1,this.2];rfl
  have h1:=yD hsl
  simp only[sin,aC,aP] at this
  obtain⟨h2,h3⟩:=sN (uJ hcl this.1.1 this.1.2) h1
  have hg:=uW hs (f:=(dQ m a b).1) (bC.2 h2)
  have hr5:yT m a b=dQ m a b:=rfl
  have c1:(1:Int)≤((aD m (dQ m a b).1).1.length:Int):=by omega
  have c2:decide ([((3:Int),a,())].length+(((aD m (dQ m a b).1).1.take ((aD m (dQ m a b).1).1.length:Int).toNat).drop 1).length<rowMax)=true:=aI (by simp only[aF,bK,dW,bN,rowMax];omega)
  have c3:decide (((aD m (dQ m a b).1).1.length:Int)≤((aD m (dQ m a b).1).1.length:Int))=true:=aI (by omega)
  simp only[aA,hr5,h2.1,h2.2,c1,c3,aN,aH]
  rw[c2,aA,aR,iD]
  rfl
 simp only[aB]
 by_cases h7:o≥7
 ·by_cases h17:o≤17
  ·have hn:mR o=true:=by unfold mR;rw[aI h7,aI h17];rfl
   have hp:eP o=(([tI,tI],[tI],()),true,()):=by
    unfold eP
    simp only[*,aB,aA]
    have e18:(o==18)=false:=oQ.2 (by omega)
    rw[e18]
    rfl
   rw[hp,aI h7,aI h17]
   rfl
  ·have hp:(eP o).1=([],[],())∧((eP o).2.1=true→True):=by
    have hn:mR o=false:=by unfold mR;rw[bM h17];simp
    unfold eP
    simp only[*,aB]
    cases o==18 <;> exact⟨rfl,fun _=>trivial⟩
   rw[aI h7,bM h17,hp.1]
   cases (eP o).2.1 <;> rfl
 ·have hp:(eP o).1=([],[],()):=by
   have hn:mR o=false:=by unfold mR;rw[bM h7];simp
   unfold eP
   simp only[*,aB]
   cases o==18 <;> rfl
  rw[bM h7,hp]
  cases (eP o).2.1 <;> rfl
end Go.Pli

namespace Go.Pli
open Go Go.PM
def xX (fuel:Nat) (m:Im) (f:Int) (pc:Int) (s:List Tp) (nx:List Int):Option (List Tp×List Int×Int×Unit):=
 (bif decide ((nx.length:Int)>0) then
  bif decide ((0:Int)<nx.length) then
   bif decide (0≤f)&&decide (f<m.2.2.2.1.length) then
    bif decide (nx.getD 0 0≥((m.2.2.2.1.getD f.toNat zMt).2.2.2.1.length:Int)) then
     some (.inr (([]:List Tp),(([]:List Int),((4:Int),()))))
    else some (.inl ())
   else none
  else none
 else some (.inl ()):Option (Unit⊕(List Tp×List Int×Int×Unit))).bind fun q=>match q with
 | .inr r8=>some r8
 | .inl _=>
  (yS m f ((m.2.2.2.1.getD f.toNat zMt).2.2.2.1.getD pc.toNat zIns)).bind fun r9=>
  ((bif (((m.2.2.2.1.getD f.toNat zMt).2.2.2.1.getD pc.toNat zIns).1)==6 then
   some (.inl (decide ((s.length:Int)>0),()))
  else some (.inl (false,())):Option ((Bool×Unit)⊕((List Tp×List Tp×Unit)⊕(List Tp×List Int×Int×Unit)))).bind fun q=>match q with
  | .inr r13=>some r13
  | .inl s12=>
   bif s12.1 then
    bif decide (0≤IntKind.i64.wrap ((s.length:Int) - 1))&&decide (IntKind.i64.wrap ((s.length:Int) - 1)<s.length) then
     some (.inl ([((0:Int),((0:Int),()))],([s.getD (IntKind.i64.wrap ((s.length:Int) - 1)).toNat zTp,s.getD (IntKind.i64.wrap ((s.length:Int) - 1)).toNat zTp],())))
    else none
   else some (.inl (r9.1,r9.2.1,())):Option ((List Tp×List Tp×Unit)⊕(List Tp×List Int×Int×Unit))).bind fun q=>match q with
  | .inr r11=>some r11
  | .inl s10=>
   (bif (((m.2.2.2.1.getD f.toNat zMt).2.2.2.1.getD pc.toNat zIns).1)==6 then
    bif (s.length:Int)==0 then
     some (.inr (([]:List Tp),(([]:List Int),((4:Int),()))))
    else bif decide ((s10.1.length:Int)>(s.length:Int)) then
     some (.inr (([]:List Tp),(([]:List Int),((4:Int),()))))
    else bif decide (IntKind.i64.wrap ((IntKind.i64.wrap ((s.length:Int) - (s10.1.length:Int)))+(s10.2.1.length:Int))>8) then
     some (.inr (([]:List Tp),(([]:List Int),((4:Int),()))))
    else some (.inl ())
   else bif decide ((s10.1.length:Int)>(s.length:Int)) then
    some (.inr (([]:List Tp),(([]:List Int),((4:Int),()))))
   else bif decide (IntKind.i64.wrap ((IntKind.i64.wrap ((s.length:Int) - (s10.1.length:Int)))+(s10.2.1.length:Int))>8) then
    some (.inr (([]:List Tp),(([]:List Int),((4:Int),()))))
   else some (.inl ()):Option (Unit⊕(List Tp×List Int×Int×Unit))).bind fun q=>match q with
   | .inr r15=>some r15
   | .inl _=>
    aE (yO m f pc s (nx,()) s10) fuel ((0:Int),())
theorem aKZ {n:Nat} (h:0<n) (h2:n<1000000):IntKind.i64.wrap ((n:Int) - 1)=((n - 1:Nat):Int):=by
 rw[cY] <;> omega
theorem aI6 {m:Im} (hs:aJ m=true) {f pc:Int} {s:List Tp} (hsl:s.length<1000000) {nx:List Int} {T Gv:List Tp} (hT:T.length≤s.length) (hT2:T.length≤12) (hG:Gv.length≤12) {F:Nat} (hF:100<F):
  aE (yO m f pc s (nx,()) (T,Gv,())) F ((0:Int),())=some (bif ((s.drop (s.length - T.length)).zip T).all (fun p=>eC m (aG m f pc).1 p.1 p.2) then (s.take (s.length - T.length)++Gv,nx,0,()) else ([],[],4,())):=by
 have hok:okL m.1=true:=fB (by have:=(dD (dI hs).1).classes;omega)
 have fold:∀g:Int,m.2.2.2.1.getD g.toNat zMt=aD m g:=fun _=>rfl
 have fold2:(aD m f).2.2.2.1.getD pc.toNat zIns=aG m f pc:=rfl
 have hzip:=aE7 (fun a b=>eC m (aG m f pc).1 a b) zTp zTp (s.drop (s.length - T.length)) T (by rw[dW];omega)
 rw[hzip]
 generalize hD:s.length - T.length=D at*
 have hDi:(s.length:Int) - (T.length:Int)=(D:Int):=by omega
 have w4:IntKind.i64.wrap (D:Int)=(D:Int):=by rw[cY] <;> omega
 rw[show (T.zipIdx.all fun q=>eC m (aG m f pc).1 ((s.drop D).getD q.2 zTp) q.1)=jX (fun k x=>eC m (aG m f pc).1 ((s.drop D).getD k zTp) x) 0 T by
  rw[aCA,aCq,bO]
  constructor
  ·intro hh j x hx
   have:=hh (x,j) (by rw[List.mem_zipIdx_iff_getElem?];exact hx)
   simpa using this
  ·rintro hh ⟨x,j⟩ hx
   rw[List.mem_zipIdx_iff_getElem?] at hx
   have:=hh j x hx
   simpa using this]
 refine (aD0 (xs:=T) (st:=fun k=>((k:Int),())) (p:=fun k x=>eC m (aG m f pc).1 ((s.drop D).getD k zTp) x) (ex:=some ([],[],4,())) (fin:=some (s.take D++Gv,nx,0,())) (fun k x rec hk hlt=>?_) (fun rec=>?_) F (by omega)).trans ?_
 ·have hx:(s.drop D).getD k zTp=s.getD (D+k) zTp:=by simp[dS]
  have w3:IntKind.i64.wrap ((D:Int)+(k:Int))=((D+k:Nat):Int):=by rw[cY] <;> omega
  have hw:=bG hlt (show _≤lenMax by simp only[lenMax];omega)
  rw[yO]
  simp only[w4,hDi,w3,fold,fold2,dlt hlt,dge,dlt (show D+k<s.length by omega),aH,aA,aR,getD_some hk,hx,hw,aF9 hok,aK,eC,sR,bne]
  generalize s.getD (D+k) zTp=t
  cases x.1==0 <;> simp only[aA,aB]
  cases x.1==4 <;> simp only[aA,aB]
  ·cases cR m.1 t x <;> rfl
  ·cases iS t <;> simp only[aY,cF,aA,aB,lA,eJ]
   cases (aG m f pc).1==34 <;> simp only[aY,cF,aA,aB,jJ,sB]
   cases t.1==2 <;> simp only[aY,cF,aA,aB]
 ·have l3:(D:Int)≤(s.length:Int):=by omega
  have r1:decide (([]:List Tp).length+(s.take D).length<rowMax)=true:=aI (by simp only[bK,bN,rowMax];omega)
  have r2:decide ((([]:List Tp)++s.take D).length+Gv.length<rowMax)=true:=aI (by simp only[oS,bN,rowMax];omega)
  rw[yO]
  simp only[w4,hDi,bP,aB,dge,l3,aN,aH,aA,aR,aCv,r1,r2]
  rw[oS]
 ·cases jX (fun k x=>eC m (aG m f pc).1 ((s.drop D).getD k zTp) x) 0 T <;> rfl
theorem aLi {m:Im} (hs:aJ m=true) {f pc:Int} {s:List Tp} (hsl:s.length<1000000) (hf:inM m f=true) (hp:sin pc (codeN m f:Int)=true) {F:Nat} (hF:100<F):xX F m f pc s (eB (aG m f pc) pc)=some (aQ m f pc s):=by
 obtain⟨f0,f1⟩:=bC.1 hf
 have hp':=hp
 simp only[sin,aC,aP] at hp'
 have hc:=eU hs hf
 have hi:=sQ hs hf hp
 have fold:∀g:Int,m.2.2.2.1.getD g.toNat zMt=aD m g:=fun _=>rfl
 have fold2:(aD m f).2.2.2.1.getD pc.toNat zIns=aG m f pc:=rfl
 have fold3:(aD m f).2.2.2.1.length=codeN m f:=rfl
 have hw:IntKind.i64.wrap (pc+1)=pc+1:=by rw[cY] <;> omega
 have hcnd:(bif decide (((eB (aG m f pc) pc).length:Int)>0) then decide ((eB (aG m f pc) pc).getD 0 0≥(codeN m f:Int)) else false)=(eB (aG m f pc) pc).contains (codeN m f:Int):=by
  have hj:((aG m f pc).1==18 || (aG m f pc).1==19)=true→(aG m f pc).2.1<(codeN m f:Int):=by
   intro hh
   have:sin (aG m f pc).2.1 (codeN m f:Int)=true:=by
    rw[eT] at hh
    unfold cM at hi
    rcases hh with hh | hh <;> (have e:=eq_of_beq hh;rw[e] at hi;exact hi)
   simp only[sin,aC,aP] at this
   exact this.2
  have hpc:decide (pc+1≥(codeN m f:Int))=(pc+1==(codeN m f:Int)):=by
   rw[aCA,aP,iB];omega
  have hpc2:((codeN m f:Int)==pc+1)=(pc+1==(codeN m f:Int)):=by
   rw[aCA,iB,iB];omega
  unfold eB
  rw[hw]
  cases h1:(aG m f pc).1==18 <;> simp only[aA,aB]
  ·cases h2:(aG m f pc).1==19 <;> simp only[aA,aB]
   ·cases (aG m f pc).1==33 <;> simp only[aA,aB]
    ·simp only[aF,bK,List.getD_cons_zero,List.contains_cons,List.contains_nil,Bool.or_false,hpc,hpc2]
     rfl
    ·rfl
   ·have:=hj (by rw[h2,Bool.or_true])
    have e:((codeN m f:Int)==(aG m f pc).2.1)=false:=oQ.2 (by omega)
    simp only[aF,bK,List.getD_cons_zero,List.contains_cons,List.contains_nil,Bool.or_false,hpc,hpc2,e]
    rfl
  ·have:=hj (by rw[h1,sB])
   have e:((codeN m f:Int)==(aG m f pc).2.1)=false:=oQ.2 (by omega)
   have e2:decide ((aG m f pc).2.1≥(codeN m f:Int))=false:=bM (by omega)
   simp only[aF,bK,List.getD_cons_zero,List.contains_cons,List.contains_nil,Bool.or_false,e,e2]
   rfl
 unfold xX aQ
 simp only[fold,fold2,fold3,aNa hs hf hi,f0,f1,hf,hp,aN,aH,aY,aA,aB]
 rw[←hcnd]
 have hsm:=aFT hs (f:=f) hi
 generalize eQ m (aD m f) (aG m f pc)=E at hsm⊢
 generalize eB (aG m f pc) pc=nx
 obtain⟨hE1,hE2⟩:=hsm
 have e1:(bif decide ((nx.length:Int)>0) then bif decide ((0:Int)<nx.length) then bif decide (nx.getD 0 0≥(codeN m f:Int)) then (some (.inr (([]:List Tp),(([]:List Int),((4:Int),())))):Option (Unit⊕St4)) else some (.inl ()) else none else some (.inl ()))=
   some (bif (bif decide ((nx.length:Int)>0) then decide (nx.getD 0 0≥(codeN m f:Int)) else false) then .inr ([],[],4,()) else .inl ()):=by
  by_cases h:(nx.length:Int)>0
  ·rw[aI h,aA,aA,aA]
   cases decide (nx.getD 0 0≥(codeN m f:Int)) <;> rfl
  ·rw[bM h];rfl
 rw[e1]
 cases (bif decide ((nx.length:Int)>0) then decide (nx.getD 0 0≥(codeN m f:Int)) else false) <;> simp only[aA,aB,aK]
 cases h6:(aG m f pc).1==6 <;> simp only[aA,aB,aK]
 ·unfold nP
  by_cases l1:s.length<E.1.length
  ·have:(E.1.length:Int)>(s.length:Int):=by omega
   rw[aI this,aI l1]
   rfl
  have l1':¬(E.1.length:Int)>(s.length:Int):=by omega
  rw[bM l1',bM l1,aB,jJ]
  have w1:IntKind.i64.wrap ((s.length:Int) - (E.1.length:Int))=(s.length:Int) - (E.1.length:Int):=by rw[cY] <;> omega
  have w2:IntKind.i64.wrap ((s.length:Int) - (E.1.length:Int)+(E.2.1.length:Int))=(s.length:Int) - (E.1.length:Int)+(E.2.1.length:Int):=by rw[cY] <;> omega
  rw[w1,w2]
  by_cases l2:s.length - E.1.length+E.2.1.length>8
  ·have:(s.length:Int) - (E.1.length:Int)+(E.2.1.length:Int)>8:=by omega
   rw[aI this,aI l2]
   rfl
  have l2':¬(s.length:Int) - (E.1.length:Int)+(E.2.1.length:Int)>8:=by omega
  rw[bM l2,bM l2',aB,aB]
  simp only[aK]
  exact aI6 hs hsl (f:=f) (pc:=pc) (nx:=nx) (T:=E.1) (Gv:=E.2.1) (by omega) hE1 (by omega) hF
 ·by_cases s0:s.length=0
  ·have g1:decide ((s.length:Int)>0)=false:=bM (by omega)
   have g2:((s.length:Int)==0)=true:=by rw[s0];rfl
   rw[g1,g2,aI s0]
   rfl
  ·have g1:decide ((s.length:Int)>0)=true:=aI (by omega)
   have g2:((s.length:Int)==0)=false:=oQ.2 (by omega)
   have hw1:=aKZ (show 0<s.length by omega) hsl
   rw[g1,g2,bM s0,hw1]
   have hlt:s.length - 1<s.length:=by omega
   simp only[aA,aB,jJ,dge,dlt hlt,aH,aR,aK]
   have a1:¬(([((0:Int),((0:Int),()))]:List Tp).length:Int)>(s.length:Int):=by
    show ¬((1:Nat):Int)>_
    omega
   have a2:IntKind.i64.wrap ((s.length:Int) - (([((0:Int),((0:Int),()))]:List Tp).length:Int))=(s.length:Int) - 1:=by
    show IntKind.i64.wrap ((s.length:Int) - ((1:Nat):Int))=_
    rw[cY] <;> omega
   have a3:IntKind.i64.wrap ((s.length:Int) - 1+(([s.getD (s.length - 1) zTp,s.getD (s.length - 1) zTp]:List Tp).length:Int))=(s.length:Int)+1:=by
    show IntKind.i64.wrap ((s.length:Int) - 1+((2:Nat):Int))=_
    rw[cY] <;> omega
   rw[bM a1,a2,a3]
   by_cases s8:s.length≥8
   ·have:(s.length:Int)+1>8:=by omega
    rw[aI this,aI s8]
    rfl
   ·have:¬(s.length:Int)+1>8:=by omega
    rw[bM this,bM s8]
    simp only[aB,aK]
    have hfl:=aI6 hs hsl (f:=f) (pc:=pc) (nx:=nx) (T:=[zTp]) (Gv:=[s.getD (s.length - 1) zTp,s.getD (s.length - 1) zTp]) (F:=F) (by simp;omega) (by simp) (by simp) hF
    refine hfl.trans ?_
    have hall:((s.drop (s.length - [zTp].length)).zip [zTp]).all (fun p=>eC m (aG m f pc).1 p.1 p.2)=true:=by
     rw[bO]
     rintro ⟨x,y⟩ hxy
     have:=(List.of_mem_zip hxy).2
     rw[dV] at this
     subst this
     rfl
    rw[hall]
    have hd:s.drop (s.length - 1)=[s.getD (s.length - 1) zTp]:=by
     rw[List.drop_eq_getElem_cons hlt,List.drop_of_length_le (by omega)]
     simp[hlt]
    simp only[aA,aF,bK,bQ]
    rw[hd]
    have hs':s=s.take (s.length - 1)++[s.getD (s.length - 1) zTp]:=by
     rw[←hd,xK]
    rw[show s.take (s.length - 1)++[s.getD (s.length - 1) zTp,s.getD (s.length - 1) zTp]=(s.take (s.length - 1)++[s.getD (s.length - 1) zTp])++[s.getD (s.length - 1) zTp] by simp,←hs']
theorem aNS (m:Im) (f pc:Int) (s:List Tp) (r) (h:pB m f pc s=some r):∃k,vE k m f pc s=some r:=by
 unfold pB at h
 cases hb:aJ m&&okL s <;> simp only[hb,aA,aB] at h
 ·cases h
 injection h with h
 subst h
 simp only[aC] at hb
 obtain⟨hs,hsl⟩:=hb
 have hsl:=iP hsl
 obtain⟨F,hF⟩:∃F:Nat,100<F:=⟨101,by omega⟩
 refine⟨F,?_⟩
 have fold:∀g:Int,m.2.2.2.1.getD g.toNat zMt=aD m g:=fun _=>rfl
 have fold2:(aD m f).2.2.2.1.getD pc.toNat zIns=aG m f pc:=rfl
 have fold3:(aD m f).2.2.2.1.length=codeN m f:=rfl
 cases hf:inM m f
 ·unfold vE aQ
  rw[hf]
  have:¬(0≤f∧f<(m.2.2.2.1.length:Int)):=fun hh=>by rw[bC.2 hh] at hf;cases hf
  by_cases h0:f<0
  ·rw[aI h0];rfl
  ·have h1:f≥(m.2.2.2.1.length:Int):=by omega
   rw[bM h0,aI h1];rfl
 obtain⟨f0,f1⟩:=bC.1 hf
 have f2:¬f<0:=by omega
 have f3:¬f≥(m.2.2.2.1.length:Int):=by omega
 have hc:=eU hs hf
 by_cases p0:pc<0
 ·have:¬0≤pc:=by omega
  unfold vE aQ sin
  rw[bM f2,bM f3,aI p0,hf,bM this];rfl
 have p0':0≤pc:=by omega
 by_cases p1:pc≥(codeN m f:Int)
 ·have:¬pc<(codeN m f:Int):=by omega
  unfold vE aQ sin
  simp only[fold,fold3]
  rw[bM f2,bM f3,bM p0,aI f0,aI f1,aI p1,hf,bM this,aI p0'];rfl
 have p1':pc<(codeN m f:Int):=by omega
 have hp:sin pc (codeN m f:Int)=true:=by simp[sin,p0',p1']
 rw[←aLi hs hsl hf hp hF]
 have hi:=sQ hs hf hp
 have hroom:∀x:Int,decide (([IntKind.i64.wrap (pc+1)]:List Int).length+[x].length<rowMax)=true:=fun x=>aI (by simp only[aF,bK,rowMax];omega)
 have hend:∀nx:List Int,_=xX F m f pc s nx:=fun nx=>by
  unfold xX
  simp only[fold,fold2,fold3]
  rw[aI f0,aI f1]
 have hred:∀nx:List Int,nx=eB (aG m f pc) pc→vE F m f pc s=xX F m f pc s nx:=by
  intro nx hnx
  unfold vE
  simp only[fold,fold2,fold3]
  rw[bM f2,bM f3,bM p0,aI f0,aI f1,bM p1,aI p0',aI p1']
  simp only[aA,aB,aH]
  unfold eB at hnx
  cases h18:(aG m f pc).1==18
  ·rw[h18] at hnx
   simp only[aB,aK] at hnx⊢
   cases h19:(aG m f pc).1==19
   ·rw[h19] at hnx
    simp only[aB,aK] at hnx⊢
    cases h33:(aG m f pc).1==33
    ·rw[h33] at hnx
     simp only[aB,aK] at hnx⊢
     rw[hnx]
     exact hend _
    ·rw[h33] at hnx
     simp only[aA,aK] at hnx⊢
     rw[hnx]
     exact hend _
   ·rw[h19] at hnx
    have h33:((aG m f pc).1==33)=false:=by
     have:=eq_of_beq h19
     rw[this];rfl
    simp only[aA,hroom,aK,h33,aB] at hnx⊢
    rw[hnx]
    exact hend _
  ·rw[h18] at hnx
   have h19:((aG m f pc).1==19)=false:=by
    have:=eq_of_beq h18
    rw[this];rfl
   have h33:((aG m f pc).1==33)=false:=by
    have:=eq_of_beq h18
    rw[this];rfl
   simp only[aA,aK,h19,h33,aB] at hnx⊢
   rw[hnx]
   exact hend _
 exact hred _ rfl
end Go.Pli

namespace Go.Pli
open Go Go.PM
def kC (N:Nat) (h:List Sh):Prop:=h.length=N∧∀s∈h,s.2.1.length≤8
theorem aIl {N:Nat} {h:List Sh} (hh:kC N h) (k:Nat):(h.getD k zSh).2.1.length≤8:=by
 by_cases hk:k<h.length
 ·rw[getD_some (aT hk)];exact hh.2 _ (dX hk)
 ·rw[gB (by omega)];exact dL _
theorem aPC {l:List Cl} {o:Sh} {s:List Tp} (ho:o.2.1.length≤8) (hs:s.length≤8):(dC l o s).1.2.1.length≤8:=by
 unfold dC
 cases !o.1 <;> simp only[aA,aB]
 ·cases h2:decide (o.2.1.length≠s.length) <;> simp only[aA,aB]
  ·have hlen:o.2.1.length=s.length:=by simpa using h2
   cases (cC l o.2.1 s).any fun t=>t.1==0 <;> simp only[aA,aB]
   ·rw[wA l hlen];exact hs
   ·exact ho
  ·exact ho
 ·exact hs
theorem aIk {N:Nat} {h:List Sh} (hh:kC N h) (k:Nat) {s:Sh} (hs:s.2.1.length≤8):kC N (h.set k s):=
 ⟨by rw[cX];exact hh.1,fun x hx=>by
  rcases rX hx with hx | rfl
  ·exact hh.2 x hx
  ·exact hs⟩
theorem aEv {l:List Cl} {a:List Tp} (ha:a.length≤8) {N:Nat}:∀(ts:List Int) (t:Bool) (h:List Sh) (r),kC N h→kV l a ts t h=some r→kC N r.2
 | [],t,h,r,hh,he=>by
  unfold kV at he
  injection he with he
  subst he
  exact hh
 | to::ts,t,h,r,hh,he=>by
  unfold kV at he
  cases h1:(dC l (h.getD to.toNat zSh) a).2.2.1 <;> simp only[h1,aY,cF,aA,aB] at he
  ·cases he
  ·cases h2:(dC l (h.getD to.toNat zSh) a).2.1 <;> simp only[h2,aA,aB] at he
   ·exact aEv ha ts _ _ _ hh he
   ·exact aEv ha ts _ _ _ (aIk hh _ (aPC (aIl hh _) ha)) he
theorem aQl {m:Im} (hok:okL m.1=true) {s6:Bool×Int×List Sh×Unit} {rec7:(Bool×Int×List Sh×Unit)→Option (List Sh×Bool×Unit)} {r5:St4} {to:Int} {k:Nat} (hto:r5.2.1.getD s6.2.1.toNat 0=to) (hk:s6.2.1=(k:Int)) (hk2:k<1000) (t0:0≤to) (t1:to<(s6.2.2.1.length:Int)) (ha:r5.1.length≤8) (hl:(s6.2.2.1.getD to.toNat zSh).2.1.length=r5.1.length) {F:Nat} (hF:100<F):
  aE (yR m s6 rec7 r5) F (([]:List Tp),((0:Int),()))=
   bif (cC m.1 (s6.2.2.1.getD to.toNat zSh).2.1 r5.1).any fun t=>t.1==0 then some ([],false,())
   else bif !(cC m.1 (s6.2.2.1.getD to.toNat zSh).2.1 r5.1==(s6.2.2.1.getD to.toNat zSh).2.1) then rec7 (true,((k+1:Nat):Int),s6.2.2.1.set to.toNat (true,cC m.1 (s6.2.2.1.getD to.toNat zSh).2.1 r5.1,()),())
   else rec7 (s6.1,((k+1:Nat):Int),s6.2.2.1,()):=by
 generalize hO:(s6.2.2.1.getD to.toNat zSh).2.1=O at hl⊢
 have hto':r5.2.1.getD k 0=to:=by rw[hk] at hto;simpa using hto
 have hml:=wA m.1 hl
 have hw:IntKind.i64.wrap ((k:Int)+1)=((k+1:Nat):Int):=by rw[cY] <;> omega
 have key:=mU (L:=yR m s6 rec7 r5) (xs:=cC m.1 O r5.1) (st:=fun j=>((cC m.1 O r5.1).take j,(j:Int),())) (p:=fun x=> !(x.1==0)) (ex:=some ([],false,()))
  (fin:=bif !(cC m.1 O r5.1==O) then rec7 (true,((k+1:Nat):Int),s6.2.2.1.set to.toNat (true,cC m.1 O r5.1,()),()) else rec7 (s6.1,((k+1:Nat):Int),s6.2.2.1,()))
  (fun j x rec hj hjl=>by
   have j1:j<r5.1.length:=by omega
   have j2:j<O.length:=by omega
   have hx:=aPF m.1 j2 j1
   rw[hj] at hx
   have hx:=lZ hx
   have hrj:vB m.1 (O.getD j zTp) (r5.1.getD j zTp)=some (x,()):=by unfold vB;rw[hok,hx];rfl
   have hroom:decide (((cC m.1 O r5.1).take j).length+(0+1)<rowMax)=true:=mM (by rw[bN];omega)
   have htk:(cC m.1 O r5.1).take (j+1)=(cC m.1 O r5.1).take j++[x]:=by rw[rW,hj];rfl
   rw[yR]
   simp only[hk,aR,hto',hO,t0,t1,dlt j1,dlt j2,dge,aN,aH,aA,hrj,aK,aF,bK,hroom,bG j1 (show _≤lenMax by simp only[lenMax];omega),htk]
   cases x.1==0 <;> rfl)
  (fun rec=>by
   rw[yR]
   simp only[hml,bP,aB,hk,aR,hto',hO,t0,t1,aN,aH,aA,kK,hw]
   rw[←hml,iD]) F (by omega)
 rw[List.take_zero] at key
 refine key.trans ?_
 rw[←List.not_any_eq_all_not]
 cases (cC m.1 O r5.1).any fun t=>t.1==0 <;> rfl
theorem aI4 {m:Im} (hok:okL m.1=true) {s3:Bool×Int×List Sh×Unit} {rec4:(Bool×Int×List Sh×Unit)→Option (List Sh×Bool×Unit)} {r5:St4} (ha:r5.1.length≤8) {N:Nat} {F0:Nat} (hF0:100<F0) (hnl:r5.2.1.length≤2) (hto:∀to∈r5.2.1,0≤to∧to<(N:Int)):
  ∀(l pre:List Int) (t:Bool) (h:List Sh) (F:Nat),r5.2.1=pre++l→l.length<F→kC N h→aE (yQ m F0 s3 rec4 r5) F (t,(pre.length:Int),h,())=
   match kV m.1 r5.1 l t h with
   | none=>some ([],false,())
   | some r=>rec4 (r.1,IntKind.i64.wrap (s3.2.1 - 1),r.2,())
 | [],pre,t,h,F,he,hF,hh=>by
  obtain⟨F,rfl⟩:∃n,F=n+1:=⟨F - 1,by simp at hF;omega⟩
  rw[cB] at he
  rw[aZ,yQ,he]
  simp only[bP,aB,kV]
 | to::l,pre,t,h,F,he,hF,hh=>by
  obtain⟨F,rfl⟩:∃n,F=n+1:=⟨F - 1,by simp at hF;omega⟩
  have hk:pre.length<r5.2.1.length:=by rw[he,aX];simp
  have hget:r5.2.1.getD pre.length 0=to:=by rw[he];simp
  obtain⟨t0,t1⟩:=hto to (by rw[he];simp)
  have t2:to<(h.length:Int):=by rw[hh.1];exact t1
  have hw:=bG hk (show _≤lenMax by simp only[lenMax];omega)
  have ih:=fun t' h' hh'=>aI4 hok (s3:=s3) (rec4:=rec4) ha hF0 hnl hto l (pre++[to]) t' h' F (by rw[he,cK];rfl) (by simp only[aF] at hF;omega) hh'
  simp only[aX,aF,bK,bQ] at ih
  have hset:∀s:Sh,s.2.1.length≤8→kC N (h.set to.toNat s):=fun s hs=>aIk hh _ hs
  rw[aZ,yQ]
  simp only[dlt hk,dge,aH,aA,aR,hget,t0,t2,aN,hw]
  unfold kV dC
  cases h1:(h.getD to.toNat zSh).1 <;> simp only[aY,cF,aA,aB]
  ·exact ih _ _ (hset _ ha)
  ·by_cases hl:(h.getD to.toNat zSh).2.1.length=r5.1.length
   ·have e1:(((h.getD to.toNat zSh).2.1.length:Int) !=(r5.1.length:Int))=false:=by rw[hl];simp
    have e2:decide ((h.getD to.toNat zSh).2.1.length≠r5.1.length)=false:=bM fun hh=>hh hl
    rw[e1,e2,aB,aB]
    have:=aQl hok (s6:=(t,(pre.length:Int),h,())) (rec7:=aE (yQ m F0 s3 rec4 r5) F) (r5:=r5) (to:=to) (k:=pre.length) (by simpa using hget) rfl (by omega) t0 t2 ha hl hF0
    rw[this]
    cases (cC m.1 (h.getD to.toNat zSh).2.1 r5.1).any fun t=>t.1==0 <;> simp only[aY,cF,aA,aB]
    cases cC m.1 (h.getD to.toNat zSh).2.1 r5.1==(h.getD to.toNat zSh).2.1 <;> simp only[aY,cF,aA,aB]
    ·exact ih _ _ (hset _ (by rw[wA m.1 hl];exact ha))
    ·exact ih _ _ hh
   ·have e1:(((h.getD to.toNat zSh).2.1.length:Int) !=(r5.1.length:Int))=true:=bne_iff_ne.2 (by omega)
    have e2:decide ((h.getD to.toNat zSh).2.1.length≠r5.1.length)=true:=aI hl
    rw[e1,e2,aA,aA]
    rfl
theorem aI2 {m:Im} (hs:aJ m=true) {f:Int} {N:Nat} {pc:Nat} {t:Bool} {h:List Sh} {r} (hh:kC N h) (he:oE m f pc t h=some r):kC N r.2:=by
 unfold oE at he
 cases h1:(h.getD pc zSh).1 <;> simp only[h1,aY,cF,aA,aB] at he
 ·injection he with he;subst he;exact hh
 ·cases h2:(aQ m f (pc:Int) (h.getD pc zSh).2.1).2.2.1 !=0 <;> simp only[h2,aA,aB] at he
  ·obtain⟨-,-,h8,-⟩:=nO hs (f:=f) (pc:=(pc:Int)) (s:=(h.getD pc zSh).2.1) (by simpa using h2)
   exact aEv h8 _ _ _ _ hh he
  ·cases he
theorem aIZ {m:Im} (hs:aJ m=true) {f:Int} {N:Nat}:∀(n:Nat) (t:Bool) (h:List Sh) (r),kC N h→jE m f n t h=some r→kC N r.2
 | 0,t,h,r,hh,he=>by
  unfold jE at he
  injection he with he;subst he;exact hh
 | n+1,t,h,r,hh,he=>by
  unfold jE at he
  cases hp:oE m f n t h with
  | none=>rw[hp] at he;cases he
  | some q=>
   rw[hp] at he
   exact aIZ hs n _ _ _ (aI2 hs hh hp) he
theorem aGh {m:Im} (hs:aJ m=true) {f:Int} (hf:inM m f=true) {F0:Nat} (hF0:1000<F0) {s1:Int×List Sh×Unit} {rec2:(Int×List Sh×Unit)→Option (List Sh×Bool×Unit)}:
  ∀(n:Nat) (t:Bool) (h:List Sh) (F:Nat),n≤codeN m f→n<F→kC (codeN m f) h→aE (yP m f F0 s1 rec2) F (t,(n:Int) - 1,h,())=
   match jE m f n t h with
   | none=>some ([],false,())
   | some r=>bif !r.1 then some (r.2,true,()) else rec2 (IntKind.i64.wrap (s1.1+1),r.2,())
 | 0,t,h,F,hn,hF,hh=>by
  obtain⟨F,rfl⟩:∃n,F=n+1:=⟨F - 1,by omega⟩
  rw[aZ,yP]
  have:¬(((0:Nat):Int) - 1≥0):=by omega
  simp only[this,bU,aB,jE]
 | n+1,t,h,F,hn,hF,hh=>by
  obtain⟨F,rfl⟩:∃n,F=n+1:=⟨F - 1,by omega⟩
  have hok:okL m.1=true:=fB (by have:=(dD (dI hs).1).classes;omega)
  have hc:=eU hs hf
  have e:(((n+1:Nat):Int) - 1)=(n:Int):=by omega
  have g0:decide ((n:Int)≥0)=true:=aI (by omega)
  have hnl:n<h.length:=by rw[hh.1];omega
  have hw:IntKind.i64.wrap ((n:Int) - 1)=(n:Int) - 1:=by rw[cY] <;> omega
  have h8:=aIl hh n
  have hst:pB m f (n:Int) (h.getD n zSh).2.1=some (aQ m f (n:Int) (h.getD n zSh).2.1):=by unfold pB;rw[hs,fB (by omega)];rfl
  have ih:=fun t' h' hh'=>aGh hs hf hF0 (s1:=s1) (rec2:=rec2) n t' h' F (by omega) (by omega) hh'
  rw[aZ,yP,e]
  simp only[g0,dge,dlt hnl,aH,aA,aR,hw,hst,aK]
  unfold jE
  have hfl:=fun q=>aI2 hs (f:=f) (pc:=n) (t:=t) (r:=q) hh
  unfold oE at hfl⊢
  cases h1:(h.getD n zSh).1 <;> simp only[h1,aY,cF,aA,aB] at hfl⊢
  ·exact ih _ _ hh
  ·cases h2:(aQ m f (n:Int) (h.getD n zSh).2.1).2.2.1 !=0 <;> simp only[h2,aA,aB] at hfl⊢
   ·obtain⟨-,-,h8,hto⟩:=nO hs (f:=f) (pc:=(n:Int)) (s:=(h.getD n zSh).2.1) (by simpa using h2)
    have:=aI4 hok (s3:=(t,(n:Int),h,())) (rec4:=aE (yP m f F0 s1 rec2) F) (r5:=aQ m f (n:Int) (h.getD n zSh).2.1) h8 (N:=codeN m f) (F0:=F0) (by omega) (sL ..) hto (aQ m f (n:Int) (h.getD n zSh).2.1).2.1 [] t h F0 rfl (by have:(aQ m f (n:Int) (h.getD n zSh).2.1).2.1.length≤2:=sL ..;omega) hh
    simp only[bK] at this
    refine this.trans ?_
    cases hE:kV m.1 (aQ m f (n:Int) (h.getD n zSh).2.1).1 (aQ m f (n:Int) (h.getD n zSh).2.1).2.1 t h with
    | none=>rfl
    | some q=>
     simp only[hw,aK]
     exact ih _ _ (hfl q hE)
   ·rfl
theorem aGf {m:Im} (hs:aJ m=true) {f:Int} (hf:inM m f=true) {F0:Nat} (hF0:1000<F0):∀(n k:Nat) (h:List Sh) (F:Nat),k+n=4000→n<F→kC (codeN m f) h→aE (aAV m f F0) F ((k:Int),h,())=some (hZ m f n h)
 | 0,k,h,F,hk,hF,hh=>by
  obtain⟨F,rfl⟩:∃n,F=n+1:=⟨F - 1,by omega⟩
  have:¬((k:Int)<4000):=by omega
  rw[aZ,aAV]
  simp only[this,bU,aB]
  rfl
 | n+1,k,h,F,hk,hF,hh=>by
  obtain⟨F,rfl⟩:∃n,F=n+1:=⟨F - 1,by omega⟩
  have hlt:(k:Int)<4000:=by omega
  have hc:=eU hs hf
  have fold:∀g:Int,m.2.2.2.1.getD g.toNat zMt=aD m g:=fun _=>rfl
  have fold3:(aD m f).2.2.2.1.length=codeN m f:=rfl
  have hw:IntKind.i64.wrap ((codeN m f:Int) - 1)=(codeN m f:Int) - 1:=by rw[cY] <;> omega
  have hw2:IntKind.i64.wrap ((k:Int)+1)=((k+1:Nat):Int):=by rw[cY] <;> omega
  rw[aZ,aAV]
  simp only[hlt,aN,aA,fold,fold3,hw]
  refine (aGh hs hf hF0 (codeN m f) false h F0 (aU _) (by omega) hh).trans ?_
  unfold hZ
  cases hr:jE m f (codeN m f) false h with
  | none=>rfl
  | some r=>
   have hl:=aIZ hs _ _ _ _ hh hr
   simp only[hw2]
   cases r.1 <;> simp only[aY,cF,aA,aB]
   exact aGf hs hf hF0 n (k+1) r.2 F (by omega) (by omega) hl
theorem aLv (m:Im) (f:Int):kC (codeN m f) (hU m f):=by
 unfold hU
 refine⟨by simp,fun s hs=>?_⟩
 rcases rX hs with h | rfl
 ·rw[aAo] at h;rw[h.2];exact dL _
 ·exact dL _
theorem aNT (m:Im) (f:Int) (r) (h:vF m f=some r):∃k,aGG k m f=some r:=by
 unfold vF at h
 cases hb:aJ m&&inM m f <;> simp only[hb,aA,aB] at h
 ·cases h
 injection h with h
 subst h
 simp only[aC] at hb
 obtain⟨hs,hf⟩:=hb
 obtain⟨f0,f1⟩:=bC.1 hf
 have hc:=eU hs hf
 obtain⟨F,hF⟩:∃F:Nat,5000<F:=⟨5001,by omega⟩
 refine⟨F,?_⟩
 have fold:∀g:Int,m.2.2.2.1.getD g.toNat zMt=aD m g:=fun _=>rfl
 have fold3:(aD m f).2.2.2.1.length=codeN m f:=rfl
 have e0:decide ((0:Int)≤(codeN m f:Int))=true:=aI (by omega)
 have e1:decide ((codeN m f:Int)<(rowMax:Int))=true:=aI (by simp only[rowMax];omega)
 have e2:((codeN m f:Int)==0)=false:=oQ.2 (by omega)
 have e3:decide ((0:Int)<(codeN m f:Int))=true:=aI (by omega)
 have e4:decide ((codeN m f:Int)≤(codeN m f:Int))=true:=aI (by omega)
 have e5:((List.replicate (codeN m f) zSh).getD 0 zSh).2=([],()):=by
  obtain⟨n,hn⟩:∃n,codeN m f=n+1:=⟨codeN m f - 1,by omega⟩
  rw[hn];rfl
 unfold aGG
 simp only[fold,fold3,f0,f1,aN,aH,aA,aB,e0,e1,e2,e3,e4,e5,aR,rY]
 exact aGf hs hf (by omega) 4000 0 _ F (by omega) (by omega) (aLv m f)
theorem aKQ {m:Im} (hs:aJ m=true):∀(j k:Nat) (out:List (List Sh)) (F:Nat),k+j=m.2.2.2.1.length→j<F→out.length≤k→aE (aAW m) F (out,(k:Int),())=some (uI m ((List.range' k j).map fun n:Nat=>(n:Int)) out)
 | 0,k,out,F,hk,hF,_=>by
  obtain⟨F,rfl⟩:∃n,F=n+1:=⟨F - 1,by omega⟩
  have:k=m.2.2.2.1.length:=by omega
  subst this
  rw[aZ,aAW]
  simp only[bP,aB]
  rfl
 | j+1,k,out,F,hk,hF,ho=>by
  obtain⟨F,rfl⟩:∃n,F=n+1:=⟨F - 1,by omega⟩
  have h12:=(dD (dI hs).1).methods
  have hlt:k<m.2.2.2.1.length:=by omega
  have hin:inM m (k:Int)=true:=bC.2 ⟨by omega,by omega⟩
  have hsh:vF m (k:Int)=some (hZ m (k:Int) 4000 (hU m (k:Int))):=by unfold vF;rw[hs,hin];rfl
  rw[aZ,aAW]
  rw[List.range'_succ,dO,uI]
  simp only[dlt hlt,aA,hsh,aK]
  cases (hZ m (k:Int) 4000 (hU m (k:Int))).2.1 <;> simp only[aY,cF,aA,aB]
  simp only[aF,bK,mM (show out.length+(0+1)<549755813888 by omega),aA,bG hlt (show _≤lenMax by simp only[lenMax];omega)]
  exact aKQ hs j (k+1) _ F (by omega) (by omega) (by simp;omega)
theorem aNX (m:Im) (r) (h:kN m=some r):∃k,aGI k m=some r:=by
 unfold kN at h
 cases hs:aJ m <;> simp only[hs,aA,aB] at h
 ·cases h
 injection h with h
 subst h
 have h12:=(dD (dI hs).1).methods
 refine⟨m.2.2.2.1.length+1,?_⟩
 unfold aGI
 rw[show ints m.2.2.2.1.length=(List.range' 0 m.2.2.2.1.length).map fun n:Nat=>(n:Int) by rw[←List.range_eq_range'];rfl]
 exact aKQ hs m.2.2.2.1.length 0 [] _ (by omega) (by omega) (by simp)
end Go.Pli
