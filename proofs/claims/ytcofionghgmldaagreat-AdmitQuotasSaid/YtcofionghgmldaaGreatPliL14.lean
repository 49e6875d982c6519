/- The document's steps: what the printed functions come to. -/
import Derived.Test.YtcofionghgmldaaGreatPliNt
import Derived.Test.YtcofionghgmldaaGreatPliL13E
namespace Go.Pli
open Go Go.PM
theorem aVF (l:List Cl) (a b:Tp):aCC l a b=cP l a b:=by
 cases h3:a.1==3
 ·unfold aCC cP
  rw[h3]
  cases a.1==4 <;> simp
 ·obtain⟨a1,a2,⟨⟩⟩:=a
  have:a1=3:=by simpa using h3
  subst this
  exact aHy l a2 b
theorem aMk {l:List Cl} (hl:okL l=true) (a b:Tp):uB l a b=some (cP l a b,()):=by
 unfold uB;rw[hl,aVF];rfl
theorem aED {l:List Cl} {xs ys:List Int} (hx:xs.length<1000000) (hy:ys.length<1000000):∀(r pre:List Int) (F:Nat),xs=pre++r→r.length<F→
  aA (zE (xs,()) (ys,())) F ((pre.length:Int),())=some (match r.find? fun c=>ys.contains c with | some c=>(3,c,()) | none=>zTp,())
 | [],pre,F,he,hF=>by
  obtain⟨F,rfl⟩:∃n,F=n+1:=⟨F - 1,by simp at hF;omega⟩
  rw[List.append_nil] at he
  rw[aD,zE,he]
  simp only[bB,cond_false,List.find?_nil]
 | c::r,pre,F,he,hF=>by
  obtain⟨F,rfl⟩:∃n,F=n+1:=⟨F - 1,by simp at hF;omega⟩
  have hk:pre.length<xs.length:=by rw[he,List.length_append];simp
  have hget:xs.getD pre.length 0=c:=by rw[he];simp
  have ih:=aED (l:=l) hx hy r (pre++[c]) F (by rw[he,List.append_assoc];rfl) (by simp only[List.length_cons] at hF;omega)
  simp only[List.length_append,List.length_cons,List.length_nil,Nat.zero_add] at ih
  rw[aD,zE]
  simp only[dlt hk,dge,Bool.and_self,cond_true,Int.toNat_natCast,hget,aJF (show ys.length<1000000000 by omega),Option.bind_some,aN hk (show _≤lenMax by simp only[lenMax];omega),List.find?_cons]
  cases ys.contains c <;> simp only[cond_true,cond_false]
  exact ih
theorem aQ2 (l:List Cl) (a b:Tp) (r) (h:aCw l a b=some r):∃k,aOW k l a b=some r:=by
 unfold aCw at h
 cases hb:okL l <;> simp only[hb,cond_true,cond_false] at h
 ·cases h
 injection h with h
 subst h
 have hl:=fR hb
 refine⟨1000003,?_⟩
 have hra:∀c,jC l c=some (aY l c,()):=fun c=>by unfold jC;rw[hb];rfl
 unfold aOW fG
 simp only[aMk hb,Option.bind_some,hra]
 cases cP l a b <;> simp only[cond_true,cond_false]
 cases cP l b a <;> simp only[cond_true,cond_false]
 cases h1:a.1 !=3 <;> simp only[cond_true,cond_false,Bool.true_or,Bool.false_or]
 cases h2:b.1 !=3 <;> simp only[cond_true,cond_false]
 by_cases hin:0≤a.2.1∧a.2.1<(l.length:Int)
 ·have hch:aY l a.2.1=a.2.1::bQ l (kup l a.2.1):=by
   unfold aY
   rw[decide_eq_true hin.2,cond_true,cF hin.1]
  have hlen:=mF l (a.2.1.toNat+1) a.2.1 (by omega)
  have hyb:(aY l b.2.1).length≤l.length:=by
   unfold aY
   by_cases h:b.2.1<(l.length:Int)
   ·simp only[h,decide_true,cond_true]
    by_cases h0:0≤b.2.1
    ·have:=mF l (b.2.1.toNat+1) b.2.1 (by omega)
     omega
    ·rw[bO (by omega)];simp
   ·simp[h]
  have hxa:(aY l a.2.1).length≤l.length:=by
   unfold aY
   rw[decide_eq_true hin.2,cond_true]
   omega
  have:=aED (l:=l) (xs:=aY l a.2.1) (ys:=aY l b.2.1) (by omega) (by omega) (bQ l (kup l a.2.1)) [a.2.1] 1000003 (by rw[hch];rfl) (by
   rw[hch,List.length_cons] at hxa
   omega)
  refine this.trans ?_
  have hp:∀c∈bQ l (kup l a.2.1),(aY l b.2.1).contains c=bZ l b.2.1 c:=by
   intro c hc
   have hcm:=iB _ _ (Nat.lt_succ_self _) hc
   have hk:=kC (l:=l) hin.1
   unfold aY bZ
   by_cases hbl:b.2.1<(l.length:Int)
   ·have c1:c<(l.length:Int):=by omega
    simp[hbl,hcm.1,c1]
   ·simp[hbl]
  have hf:(bQ l (kup l a.2.1)).find? (fun c=>(aY l b.2.1).contains c)=(bQ l (kup l a.2.1)).find? fun c=>bZ l b.2.1 c:=by
   generalize bQ l (kup l a.2.1)=cs at hp
   induction cs with
   | nil=>rfl
   | cons c cs ih=>
    rw[List.find?_cons,List.find?_cons,hp c (List.mem_cons_self ..),ih fun x hx=>hp x (List.mem_cons_of_mem _ hx)]
  rw[hf]
  rfl
 ·have hk:kup l a.2.1= -1:=by
   unfold kup
   by_cases h0:a.2.1<0
   ·simp[h0]
   ·have:a.2.1≥(l.length:Int):=by omega
    simp[this]
  rw[hk,bO (by omega)]
  have hnil:aY l a.2.1=[]:=by
   unfold aY
   by_cases h1:a.2.1<(l.length:Int)
   ·rw[decide_eq_true h1,cond_true,bO (by omega)]
   ·simp[h1]
  rw[hnil,show (1000003:Nat)=1000002+1 from rfl,aD,zE]
  rfl
theorem aSJ (x:Mt):pY x=some (bif x.2.2.1.1 !=5 then[x.2.2.1] else[],()):=by
 unfold pY
 cases h:x.2.2.1.1==5 <;> simp[bne,h]
theorem aNO {x:Mt} (h1:x.1.length<1000000) (h2:x.2.1.length<1000000) (n:Int):uE x n=some (lX x n,()):=by
 unfold uE lX
 have e1:decide (([]:List Tp).length+x.1.length<rowMax)=true:=decide_eq_true (by simp only[List.length_nil,rowMax];omega)
 have e2:decide ((([]:List Tp)++x.1).length+x.2.1.length<rowMax)=true:=decide_eq_true (by simp only[List.nil_append,rowMax];omega)
 rw[e1,cond_true,e2,cond_true]
 rw[List.nil_append]
 by_cases h0:n<0
 ·rw[decide_eq_true h0];rfl
 ·rw[decide_eq_false h0,cond_false,cond_false]
  by_cases h3:n≥((x.1++x.2.1).length:Int)
  ·rw[decide_eq_true h3,cond_true,dJ (by omega)]
  ·have h4:0≤n:=by omega
   have h5:n<((x.1++x.2.1).length:Int):=by omega
   rw[decide_eq_false h3,cond_false,decide_eq_true h4,decide_eq_true h5]
   rfl
theorem aTR {m:Im} (hs:aF m=true) {i:Ins} {f:Int} (hf:inM m f=true) (hi:bI m (aC m f) i=true):zB m f i=some ((iX m (aC m f) i).1,(iX m (aC m f) i).2.1,()):=by
 have hfit:=(aV hs).1
 have hcl:=oM hs
 obtain⟨f0,f1⟩:=aP.1 hf
 have hloc:=iE hs hf
 have fold:∀g:Int,m.2.2.2.1.getD g.toNat zMt=aC m g:=fun _=>rfl
 have hF:∀c,eU m c=some (cE m c,()):=fun c=>by unfold eU;rw[hfit];rfl
 unfold zB iX
 simp only[fold,aSJ,Option.bind_some,hF,f0,f1,decide_true,Bool.and_self,cond_true,aNO (x:=aC m f) (by omega) (by omega)]
 rcases i with⟨o,a,b,⟨⟩⟩
 simp only
 cases e:o==1
 case true=>obtain rfl:o=1:=by simpa using e
            rfl
 cases e:o==2
 case true=>obtain rfl:o=2:=by simpa using e
            rfl
 cases e:o==3
 case true=>obtain rfl:o=3:=by simpa using e
            rfl
 cases e:o==4
 case true=>obtain rfl:o=4:=by simpa using e
            rfl
 cases e:o==5
 case true=>obtain rfl:o=5:=by simpa using e
            rfl
 cases e:o==19
 case true=>obtain rfl:o=19:=by simpa using e
            rfl
 cases e:o==20
 case true=>obtain rfl:o=20:=by simpa using e
            rfl
 cases e:o==21
 case true=>obtain rfl:o=21:=by simpa using e
            rfl
 cases e:o==22
 case true=>obtain rfl:o=22:=by simpa using e
            rfl
 cases e:o==23
 case true=>obtain rfl:o=23:=by simpa using e
            rfl
 cases e:o==24
 case true=>obtain rfl:o=24:=by simpa using e
            rfl
 cases e:o==25
 case true=>obtain rfl:o=25:=by simpa using e
            rfl
 cases e:o==26
 case true=>obtain rfl:o=26:=by simpa using e
            rfl
 cases e:o==27
 case true=>
  obtain rfl:o=27:=by simpa using e
  have:sin a (m.1.length:Int)=true∧sin b (dR m a:Int)=true:=by simpa[bI] using hi
  obtain⟨h1,h2⟩:=this
  simp only[sin,Bool.and_eq_true,decide_eq_true_eq] at h1 h2
  rw[←lE h1.2] at h2
  have h64:=rE hfit a
  have hw:IntKind.i64.wrap (b+1)=b+1:=by rw[cD] <;> omega
  have c1:b≤b+1:=by omega
  have c2:b+1≤((cE m a).length:Int):=by omega
  have e1:((cE m a).take (b+1).toNat).drop b.toNat=[(cE m a).getD b.toNat zTp]:=by
   have hk:b.toNat<(cE m a).length:=by omega
   rw[show (b+1).toNat=b.toNat+1 by omega,List.take_add_one,List.drop_append,List.drop_of_length_le (by rw[List.length_take];omega),List.length_take,Nat.min_eq_left (by omega),Nat.sub_self]
   simp[hk]
  simp only[cond_true,hw,h2.1,c1,c2,decide_true,Bool.and_self,e1]
  rfl
 cases e:o==28
 case true=>
  obtain rfl:o=28:=by simpa using e
  have:sin a (m.1.length:Int)=true∧sin b (dR m a:Int)=true:=by simpa[bI] using hi
  obtain⟨h1,h2⟩:=this
  simp only[sin,Bool.and_eq_true,decide_eq_true_eq] at h1 h2
  rw[←lE h1.2] at h2
  simp only[cond_true,h2.1,h2.2,decide_true,Bool.and_self]
  rfl
 cases e:o==29
 case true=>
  obtain rfl:o=29:=by simpa using e
  have:sin a (m.2.1.length:Int)=true:=by simpa[bI] using hi
  simp only[sin,Bool.and_eq_true,decide_eq_true_eq] at this
  simp only[cond_true,this.1,this.2,decide_true,Bool.and_self]
  rfl
 cases e:o==30
 case true=>
  obtain rfl:o=30:=by simpa using e
  have:sin a (m.2.1.length:Int)=true:=by simpa[bI] using hi
  simp only[sin,Bool.and_eq_true,decide_eq_true_eq] at this
  simp only[cond_true,this.1,this.2,decide_true,Bool.and_self]
  rfl
 cases e:o==34
 case true=>obtain rfl:o=34:=by simpa using e
            rfl
 cases e:o==33
 case true=>
  obtain rfl:o=33:=by simpa using e
  simp only[cond_true]
  show _=some ((bif (aC m f).2.2.1.1 !=5 then (([(aC m f).2.2.1],[],()):Eff) else ([],[],())).1,(bif (aC m f).2.2.1.1 !=5 then (([(aC m f).2.2.1],[],()):Eff) else ([],[],())).2.1,())
  cases (aC m f).2.2.1.1 !=5 <;> rfl
 cases e:o==31
 case true=>
  obtain rfl:o=31:=by simpa using e
  have:sin a (m.2.2.2.1.length:Int)=true:=by simpa[bI] using hi
  simp only[sin,Bool.and_eq_true,decide_eq_true_eq] at this
  simp only[cond_true,this.1,this.2,decide_true,Bool.and_self]
  rfl
 cases e:o==32
 case true=>
  obtain rfl:o=32:=by simpa using e
  have:sin a (m.1.length:Int)=true∧sin b ((bH m a).2.2.1.length:Int)=true:=by simpa[bI] using hi
  have hsl:eZ m a b=true:=by unfold eZ;unfold sin at this;rw[this.1,this.2];rfl
  have h1:=yQ hsl
  simp only[sin,Bool.and_eq_true,decide_eq_true_eq] at this
  obtain⟨h2,h3⟩:=nY (mU hcl this.1.1 this.1.2) h1
  have hg:=iE hs (f:=(dK m a b).1) (aP.2 h2)
  have hr5:aB9 m a b=dK m a b:=rfl
  have c1:(1:Int)≤((aC m (dK m a b).1).1.length:Int):=by omega
  have c2:decide ([((3:Int),a,())].length+(((aC m (dK m a b).1).1.take ((aC m (dK m a b).1).1.length:Int).toNat).drop 1).length<rowMax)=true:=decide_eq_true (by simp only[List.length_cons,List.length_nil,List.length_drop,List.length_take,rowMax];omega)
  have c3:decide (((aC m (dK m a b).1).1.length:Int)≤((aC m (dK m a b).1).1.length:Int))=true:=decide_eq_true (by omega)
  simp only[cond_true,hr5,h2.1,h2.2,c1,c3,decide_true,Bool.and_self]
  rw[c2,cond_true,Int.toNat_natCast,List.take_length]
  rfl
 simp only[cond_false]
 by_cases h7:o≥7
 ·by_cases h17:o≤17
  ·have hn:oX o=true:=by unfold oX;rw[decide_eq_true h7,decide_eq_true h17];rfl
   have hp:dP o=(([tI,tI],[tI],()),true,()):=by
    unfold dP
    simp only[*,cond_false,cond_true]
    have e18:(o==18)=false:=beq_eq_false_iff_ne.2 (by omega)
    rw[e18]
    rfl
   rw[hp,decide_eq_true h7,decide_eq_true h17]
   rfl
  ·have hp:(dP o).1=([],[],())∧((dP o).2.1=true→True):=by
    have hn:oX o=false:=by unfold oX;rw[decide_eq_false h17];simp
    unfold dP
    simp only[*,cond_false]
    cases o==18 <;> exact⟨rfl,fun _=>trivial⟩
   rw[decide_eq_true h7,decide_eq_false h17,hp.1]
   cases (dP o).2.1 <;> rfl
 ·have hp:(dP o).1=([],[],()):=by
   have hn:oX o=false:=by unfold oX;rw[decide_eq_false h7];simp
   unfold dP
   simp only[*,cond_false]
   cases o==18 <;> rfl
  rw[decide_eq_false h7,hp]
  cases (dP o).2.1 <;> rfl
end Go.Pli

namespace Go.Pli
open Go Go.PM
def aEI (fuel:Nat) (m:Im) (f:Int) (pc:Int) (s:List Tp) (nx:List Int):Option (List Tp×List Int×Int×Unit):=
 (bif decide ((nx.length:Int)>0) then
  bif decide ((0:Int)<nx.length) then
   bif decide (0≤f)&&decide (f<m.2.2.2.1.length) then
    bif decide (nx.getD 0 0≥((m.2.2.2.1.getD f.toNat zMt).2.2.2.1.length:Int)) then
     some (.inr (([]:List Tp),(([]:List Int),((4:Int),()))))
    else some (.inl ())
   else none
  else none
 else some (.inl ()):Option (Unit⊕(List Tp×List Int×Int×Unit))).bind fun q=>match q with
 | .inr r8=>some r8
 | .inl _=>
  (zB m f ((m.2.2.2.1.getD f.toNat zMt).2.2.2.1.getD pc.toNat dN)).bind fun r9=>
  ((bif (((m.2.2.2.1.getD f.toNat zMt).2.2.2.1.getD pc.toNat dN).1)==6 then
   some (.inl (decide ((s.length:Int)>0),()))
  else some (.inl (false,())):Option ((Bool×Unit)⊕((List Tp×List Tp×Unit)⊕(List Tp×List Int×Int×Unit)))).bind fun q=>match q with
  | .inr r13=>some r13
  | .inl s12=>
   bif s12.1 then
    bif decide (0≤IntKind.i64.wrap ((s.length:Int) - 1))&&decide (IntKind.i64.wrap ((s.length:Int) - 1)<s.length) then
     some (.inl ([((0:Int),((0:Int),()))],([s.getD (IntKind.i64.wrap ((s.length:Int) - 1)).toNat zTp,s.getD (IntKind.i64.wrap ((s.length:Int) - 1)).toNat zTp],())))
    else none
   else some (.inl (r9.1,r9.2.1,())):Option ((List Tp×List Tp×Unit)⊕(List Tp×List Int×Int×Unit))).bind fun q=>match q with
  | .inr r11=>some r11
  | .inl s10=>
   (bif (((m.2.2.2.1.getD f.toNat zMt).2.2.2.1.getD pc.toNat dN).1)==6 then
    bif (s.length:Int)==0 then
     some (.inr (([]:List Tp),(([]:List Int),((4:Int),()))))
    else bif decide ((s10.1.length:Int)>(s.length:Int)) then
     some (.inr (([]:List Tp),(([]:List Int),((4:Int),()))))
    else bif decide (IntKind.i64.wrap ((IntKind.i64.wrap ((s.length:Int) - (s10.1.length:Int)))+(s10.2.1.length:Int))>8) then
     some (.inr (([]:List Tp),(([]:List Int),((4:Int),()))))
    else some (.inl ())
   else bif decide ((s10.1.length:Int)>(s.length:Int)) then
    some (.inr (([]:List Tp),(([]:List Int),((4:Int),()))))
   else bif decide (IntKind.i64.wrap ((IntKind.i64.wrap ((s.length:Int) - (s10.1.length:Int)))+(s10.2.1.length:Int))>8) then
    some (.inr (([]:List Tp),(([]:List Int),((4:Int),()))))
   else some (.inl ()):Option (Unit⊕(List Tp×List Int×Int×Unit))).bind fun q=>match q with
   | .inr r15=>some r15
   | .inl _=>
    aA (uK m f pc s (nx,()) s10) fuel ((0:Int),())
theorem aTN {n:Nat} (h:0<n) (h2:n<1000000):IntKind.i64.wrap ((n:Int) - 1)=((n - 1:Nat):Int):=by
 rw[cD] <;> omega
theorem aHf {m:Im} (hs:aF m=true) {f pc:Int} {s:List Tp} (hsl:s.length<1000000) {nx:List Int} {T Gv:List Tp} (hT:T.length≤s.length) (hT2:T.length≤12) (hG:Gv.length≤12) {F:Nat} (hF:100<F):
  aA (uK m f pc s (nx,()) (T,Gv,())) F ((0:Int),())=some (bif ((s.drop (s.length - T.length)).zip T).all (fun p=>dT m (aH m f pc).1 p.1 p.2) then (s.take (s.length - T.length)++Gv,nx,0,()) else ([],[],4,())):=by
 have hok:okL m.1=true:=dZ (by have:=(bE (aV hs).1).classes;omega)
 have fold:∀g:Int,m.2.2.2.1.getD g.toNat zMt=aC m g:=fun _=>rfl
 have fold2:(aC m f).2.2.2.1.getD pc.toNat dN=aH m f pc:=rfl
 have hzip:=aBw (fun a b=>dT m (aH m f pc).1 a b) zTp zTp (s.drop (s.length - T.length)) T (by rw[List.length_drop];omega)
 rw[hzip]
 generalize hD:s.length - T.length=D at*
 have hDi:(s.length:Int) - (T.length:Int)=(D:Int):=by omega
 have w4:IntKind.i64.wrap (D:Int)=(D:Int):=by rw[cD] <;> omega
 rw[show (T.zipIdx.all fun q=>dT m (aH m f pc).1 ((s.drop D).getD q.2 zTp) q.1)=mX (fun k x=>dT m (aH m f pc).1 ((s.drop D).getD k zTp) x) 0 T by
  rw[Bool.eq_iff_iff,wO,List.all_eq_true]
  constructor
  ·intro hh j x hx
   have:=hh (x,j) (by rw[List.mem_zipIdx_iff_getElem?];exact hx)
   simpa using this
  ·rintro hh ⟨x,j⟩ hx
   rw[List.mem_zipIdx_iff_getElem?] at hx
   have:=hh j x hx
   simpa using this]
 refine (vU (xs:=T) (st:=fun k=>((k:Int),())) (p:=fun k x=>dT m (aH m f pc).1 ((s.drop D).getD k zTp) x) (ex:=some ([],[],4,())) (fin:=some (s.take D++Gv,nx,0,())) (fun k x rec hk hlt=>?_) (fun rec=>?_) F (by omega)).trans ?_
 ·have hx:(s.drop D).getD k zTp=s.getD (D+k) zTp:=by simp[List.getElem?_drop]
  have w3:IntKind.i64.wrap ((D:Int)+(k:Int))=((D+k:Nat):Int):=by rw[cD] <;> omega
  have hw:=aN hlt (show _≤lenMax by simp only[lenMax];omega)
  rw[uK]
  simp only[w4,hDi,w3,fold,fold2,dlt hlt,dge,dlt (show D+k<s.length by omega),Bool.and_self,cond_true,Int.toNat_natCast,getD_some hk,hx,hw,aMk hok,Option.bind_some,dT,vK,bne]
  generalize s.getD (D+k) zTp=t
  cases x.1==0 <;> simp only[cond_true,cond_false]
  cases x.1==4 <;> simp only[cond_true,cond_false]
  ·cases cP m.1 t x <;> rfl
  ·cases gW t <;> simp only[Bool.not_true,Bool.not_false,cond_true,cond_false,Bool.false_and,Bool.true_and]
   cases (aH m f pc).1==34 <;> simp only[Bool.not_true,Bool.not_false,cond_true,cond_false,Bool.false_or,Bool.true_or]
   cases t.1==2 <;> simp only[Bool.not_true,Bool.not_false,cond_true,cond_false]
 ·have l3:(D:Int)≤(s.length:Int):=by omega
  have r1:decide (([]:List Tp).length+(s.take D).length<rowMax)=true:=decide_eq_true (by simp only[List.length_nil,List.length_take,rowMax];omega)
  have r2:decide ((([]:List Tp)++s.take D).length+Gv.length<rowMax)=true:=decide_eq_true (by simp only[List.nil_append,List.length_take,rowMax];omega)
  rw[uK]
  simp only[w4,hDi,bB,cond_false,dge,l3,decide_true,Bool.and_self,cond_true,Int.toNat_natCast,List.drop_zero,r1,r2]
  rw[List.nil_append]
 ·cases mX (fun k x=>dT m (aH m f pc).1 ((s.drop D).getD k zTp) x) 0 T <;> rfl
theorem aRv {m:Im} (hs:aF m=true) {f pc:Int} {s:List Tp} (hsl:s.length<1000000) (hf:inM m f=true) (hp:sin pc (aB m f:Int)=true) {F:Nat} (hF:100<F):aEI F m f pc s (cV (aH m f pc) pc)=some (aM m f pc s):=by
 obtain⟨f0,f1⟩:=aP.1 hf
 have hp':=hp
 simp only[sin,Bool.and_eq_true,decide_eq_true_eq] at hp'
 have hc:=cN hs hf
 have hi:=kQ hs hf hp
 have fold:∀g:Int,m.2.2.2.1.getD g.toNat zMt=aC m g:=fun _=>rfl
 have fold2:(aC m f).2.2.2.1.getD pc.toNat dN=aH m f pc:=rfl
 have fold3:(aC m f).2.2.2.1.length=aB m f:=rfl
 have hw:IntKind.i64.wrap (pc+1)=pc+1:=by rw[cD] <;> omega
 have hcnd:(bif decide (((cV (aH m f pc) pc).length:Int)>0) then decide ((cV (aH m f pc) pc).getD 0 0≥(aB m f:Int)) else false)=(cV (aH m f pc) pc).contains (aB m f:Int):=by
  have hj:((aH m f pc).1==18 || (aH m f pc).1==19)=true→(aH m f pc).2.1<(aB m f:Int):=by
   intro hh
   have:sin (aH m f pc).2.1 (aB m f:Int)=true:=by
    rw[Bool.or_eq_true] at hh
    unfold bI at hi
    rcases hh with hh | hh <;> (have e:=eq_of_beq hh;rw[e] at hi;exact hi)
   simp only[sin,Bool.and_eq_true,decide_eq_true_eq] at this
   exact this.2
  have hpc:decide (pc+1≥(aB m f:Int))=(pc+1==(aB m f:Int)):=by
   rw[Bool.eq_iff_iff,decide_eq_true_eq,beq_iff_eq];omega
  have hpc2:((aB m f:Int)==pc+1)=(pc+1==(aB m f:Int)):=by
   rw[Bool.eq_iff_iff,beq_iff_eq,beq_iff_eq];omega
  unfold cV
  rw[hw]
  cases h1:(aH m f pc).1==18 <;> simp only[cond_true,cond_false]
  ·cases h2:(aH m f pc).1==19 <;> simp only[cond_true,cond_false]
   ·cases (aH m f pc).1==33 <;> simp only[cond_true,cond_false]
    ·simp only[List.length_cons,List.length_nil,List.getD_cons_zero,List.contains_cons,List.contains_nil,Bool.or_false,hpc,hpc2]
     rfl
    ·rfl
   ·have:=hj (by rw[h2,Bool.or_true])
    have e:((aB m f:Int)==(aH m f pc).2.1)=false:=beq_eq_false_iff_ne.2 (by omega)
    simp only[List.length_cons,List.length_nil,List.getD_cons_zero,List.contains_cons,List.contains_nil,Bool.or_false,hpc,hpc2,e]
    rfl
  ·have:=hj (by rw[h1,Bool.true_or])
   have e:((aB m f:Int)==(aH m f pc).2.1)=false:=beq_eq_false_iff_ne.2 (by omega)
   have e2:decide ((aH m f pc).2.1≥(aB m f:Int))=false:=decide_eq_false (by omega)
   simp only[List.length_cons,List.length_nil,List.getD_cons_zero,List.contains_cons,List.contains_nil,Bool.or_false,e,e2]
   rfl
 unfold aEI aM
 simp only[fold,fold2,fold3,aTR hs hf hi,f0,f1,hf,hp,decide_true,Bool.and_self,Bool.not_true,cond_true,cond_false]
 rw[←hcnd]
 have hsm:=aHF hs (f:=f) hi
 generalize iX m (aC m f) (aH m f pc)=E at hsm⊢
 generalize cV (aH m f pc) pc=nx
 obtain⟨hE1,hE2⟩:=hsm
 have e1:(bif decide ((nx.length:Int)>0) then bif decide ((0:Int)<nx.length) then bif decide (nx.getD 0 0≥(aB m f:Int)) then (some (.inr (([]:List Tp),(([]:List Int),((4:Int),())))):Option (Unit⊕St4)) else some (.inl ()) else none else some (.inl ()))=
   some (bif (bif decide ((nx.length:Int)>0) then decide (nx.getD 0 0≥(aB m f:Int)) else false) then .inr ([],[],4,()) else .inl ()):=by
  by_cases h:(nx.length:Int)>0
  ·rw[decide_eq_true h,cond_true,cond_true,cond_true]
   cases decide (nx.getD 0 0≥(aB m f:Int)) <;> rfl
  ·rw[decide_eq_false h];rfl
 rw[e1]
 cases (bif decide ((nx.length:Int)>0) then decide (nx.getD 0 0≥(aB m f:Int)) else false) <;> simp only[cond_true,cond_false,Option.bind_some]
 cases h6:(aH m f pc).1==6 <;> simp only[cond_true,cond_false,Option.bind_some]
 ·unfold qU
  by_cases l1:s.length<E.1.length
  ·have:(E.1.length:Int)>(s.length:Int):=by omega
   rw[decide_eq_true this,decide_eq_true l1]
   rfl
  have l1':¬(E.1.length:Int)>(s.length:Int):=by omega
  rw[decide_eq_false l1',decide_eq_false l1,cond_false,Bool.false_or]
  have w1:IntKind.i64.wrap ((s.length:Int) - (E.1.length:Int))=(s.length:Int) - (E.1.length:Int):=by rw[cD] <;> omega
  have w2:IntKind.i64.wrap ((s.length:Int) - (E.1.length:Int)+(E.2.1.length:Int))=(s.length:Int) - (E.1.length:Int)+(E.2.1.length:Int):=by rw[cD] <;> omega
  rw[w1,w2]
  by_cases l2:s.length - E.1.length+E.2.1.length>8
  ·have:(s.length:Int) - (E.1.length:Int)+(E.2.1.length:Int)>8:=by omega
   rw[decide_eq_true this,decide_eq_true l2]
   rfl
  have l2':¬(s.length:Int) - (E.1.length:Int)+(E.2.1.length:Int)>8:=by omega
  rw[decide_eq_false l2,decide_eq_false l2',cond_false,cond_false]
  simp only[Option.bind_some]
  exact aHf hs hsl (f:=f) (pc:=pc) (nx:=nx) (T:=E.1) (Gv:=E.2.1) (by omega) hE1 (by omega) hF
 ·by_cases s0:s.length=0
  ·have g1:decide ((s.length:Int)>0)=false:=decide_eq_false (by omega)
   have g2:((s.length:Int)==0)=true:=by rw[s0];rfl
   rw[g1,g2,decide_eq_true s0]
   rfl
  ·have g1:decide ((s.length:Int)>0)=true:=decide_eq_true (by omega)
   have g2:((s.length:Int)==0)=false:=beq_eq_false_iff_ne.2 (by omega)
   have hw1:=aTN (show 0<s.length by omega) hsl
   rw[g1,g2,decide_eq_false s0,hw1]
   have hlt:s.length - 1<s.length:=by omega
   simp only[cond_true,cond_false,Bool.false_or,dge,dlt hlt,Bool.and_self,Int.toNat_natCast,Option.bind_some]
   have a1:¬(([((0:Int),((0:Int),()))]:List Tp).length:Int)>(s.length:Int):=by
    show ¬((1:Nat):Int)>_
    omega
   have a2:IntKind.i64.wrap ((s.length:Int) - (([((0:Int),((0:Int),()))]:List Tp).length:Int))=(s.length:Int) - 1:=by
    show IntKind.i64.wrap ((s.length:Int) - ((1:Nat):Int))=_
    rw[cD] <;> omega
   have a3:IntKind.i64.wrap ((s.length:Int) - 1+(([s.getD (s.length - 1) zTp,s.getD (s.length - 1) zTp]:List Tp).length:Int))=(s.length:Int)+1:=by
    show IntKind.i64.wrap ((s.length:Int) - 1+((2:Nat):Int))=_
    rw[cD] <;> omega
   rw[decide_eq_false a1,a2,a3]
   by_cases s8:s.length≥8
   ·have:(s.length:Int)+1>8:=by omega
    rw[decide_eq_true this,decide_eq_true s8]
    rfl
   ·have:¬(s.length:Int)+1>8:=by omega
    rw[decide_eq_false this,decide_eq_false s8]
    simp only[cond_false,Option.bind_some]
    have hfl:=aHf hs hsl (f:=f) (pc:=pc) (nx:=nx) (T:=[zTp]) (Gv:=[s.getD (s.length - 1) zTp,s.getD (s.length - 1) zTp]) (F:=F) (by simp;omega) (by simp) (by simp) hF
    refine hfl.trans ?_
    have hall:((s.drop (s.length - [zTp].length)).zip [zTp]).all (fun p=>dT m (aH m f pc).1 p.1 p.2)=true:=by
     rw[List.all_eq_true]
     rintro ⟨x,y⟩ hxy
     have:=(List.of_mem_zip hxy).2
     rw[List.mem_singleton] at this
     subst this
     rfl
    rw[hall]
    have hd:s.drop (s.length - 1)=[s.getD (s.length - 1) zTp]:=by
     rw[List.drop_eq_getElem_cons hlt,List.drop_of_length_le (by omega)]
     simp[hlt]
    simp only[cond_true,List.length_cons,List.length_nil,Nat.zero_add]
    rw[hd]
    have hs':s=s.take (s.length - 1)++[s.getD (s.length - 1) zTp]:=by
     rw[←hd,List.take_append_drop]
    rw[show s.take (s.length - 1)++[s.getD (s.length - 1) zTp,s.getD (s.length - 1) zTp]=(s.take (s.length - 1)++[s.getD (s.length - 1) zTp])++[s.getD (s.length - 1) zTp] by simp,←hs']
theorem aQg (m:Im) (f pc:Int) (s:List Tp) (r) (h:oS m f pc s=some r):∃k,tY k m f pc s=some r:=by
 unfold oS at h
 cases hb:aF m&&okL s <;> simp only[hb,cond_true,cond_false] at h
 ·cases h
 injection h with h
 subst h
 simp only[Bool.and_eq_true] at hb
 obtain⟨hs,hsl⟩:=hb
 have hsl:=fR hsl
 obtain⟨F,hF⟩:∃F:Nat,100<F:=⟨101,by omega⟩
 refine⟨F,?_⟩
 have fold:∀g:Int,m.2.2.2.1.getD g.toNat zMt=aC m g:=fun _=>rfl
 have fold2:(aC m f).2.2.2.1.getD pc.toNat dN=aH m f pc:=rfl
 have fold3:(aC m f).2.2.2.1.length=aB m f:=rfl
 cases hf:inM m f
 ·unfold tY aM
  rw[hf]
  have:¬(0≤f∧f<(m.2.2.2.1.length:Int)):=fun hh=>by rw[aP.2 hh] at hf;cases hf
  by_cases h0:f<0
  ·rw[decide_eq_true h0];rfl
  ·have h1:f≥(m.2.2.2.1.length:Int):=by omega
   rw[decide_eq_false h0,decide_eq_true h1];rfl
 obtain⟨f0,f1⟩:=aP.1 hf
 have f2:¬f<0:=by omega
 have f3:¬f≥(m.2.2.2.1.length:Int):=by omega
 have hc:=cN hs hf
 by_cases p0:pc<0
 ·have:¬0≤pc:=by omega
  unfold tY aM sin
  rw[decide_eq_false f2,decide_eq_false f3,decide_eq_true p0,hf,decide_eq_false this];rfl
 have p0':0≤pc:=by omega
 by_cases p1:pc≥(aB m f:Int)
 ·have:¬pc<(aB m f:Int):=by omega
  unfold tY aM sin
  simp only[fold,fold3]
  rw[decide_eq_false f2,decide_eq_false f3,decide_eq_false p0,decide_eq_true f0,decide_eq_true f1,decide_eq_true p1,hf,decide_eq_false this,decide_eq_true p0'];rfl
 have p1':pc<(aB m f:Int):=by omega
 have hp:sin pc (aB m f:Int)=true:=by simp[sin,p0',p1']
 rw[←aRv hs hsl hf hp hF]
 have hi:=kQ hs hf hp
 have hroom:∀x:Int,decide (([IntKind.i64.wrap (pc+1)]:List Int).length+[x].length<rowMax)=true:=fun x=>decide_eq_true (by simp only[List.length_cons,List.length_nil,rowMax];omega)
 have hend:∀nx:List Int,_=aEI F m f pc s nx:=fun nx=>by
  unfold aEI
  simp only[fold,fold2,fold3]
  rw[decide_eq_true f0,decide_eq_true f1]
 have hred:∀nx:List Int,nx=cV (aH m f pc) pc→tY F m f pc s=aEI F m f pc s nx:=by
  intro nx hnx
  unfold tY
  simp only[fold,fold2,fold3]
  rw[decide_eq_false f2,decide_eq_false f3,decide_eq_false p0,decide_eq_true f0,decide_eq_true f1,decide_eq_false p1,decide_eq_true p0',decide_eq_true p1']
  simp only[cond_true,cond_false,Bool.and_self]
  unfold cV at hnx
  cases h18:(aH m f pc).1==18
  ·rw[h18] at hnx
   simp only[cond_false,Option.bind_some] at hnx⊢
   cases h19:(aH m f pc).1==19
   ·rw[h19] at hnx
    simp only[cond_false,Option.bind_some] at hnx⊢
    cases h33:(aH m f pc).1==33
    ·rw[h33] at hnx
     simp only[cond_false,Option.bind_some] at hnx⊢
     rw[hnx]
     exact hend _
    ·rw[h33] at hnx
     simp only[cond_true,Option.bind_some] at hnx⊢
     rw[hnx]
     exact hend _
   ·rw[h19] at hnx
    have h33:((aH m f pc).1==33)=false:=by
     have:=eq_of_beq h19
     rw[this];rfl
    simp only[cond_true,hroom,Option.bind_some,h33,cond_false] at hnx⊢
    rw[hnx]
    exact hend _
  ·rw[h18] at hnx
   have h19:((aH m f pc).1==19)=false:=by
    have:=eq_of_beq h18
    rw[this];rfl
   have h33:((aH m f pc).1==33)=false:=by
    have:=eq_of_beq h18
    rw[this];rfl
   simp only[cond_true,Option.bind_some,h19,h33,cond_false] at hnx⊢
   rw[hnx]
   exact hend _
 exact hred _ rfl
end Go.Pli

namespace Go.Pli
open Go Go.PM
def pA (N:Nat) (h:List Sh):Prop:=h.length=N∧∀s∈h,s.2.1.length≤8
theorem aIZ {N:Nat} {h:List Sh} (hh:pA N h) (k:Nat):(h.getD k zSh).2.1.length≤8:=by
 by_cases hk:k<h.length
 ·rw[getD_some (List.getElem?_eq_getElem hk)];exact hh.2 _ (List.getElem_mem hk)
 ·rw[dJ (by omega)];exact Nat.zero_le _
theorem aQB {l:List Cl} {o:Sh} {s:List Tp} (ho:o.2.1.length≤8) (hs:s.length≤8):(bJ l o s).1.2.1.length≤8:=by
 unfold bJ
 cases !o.1 <;> simp only[cond_true,cond_false]
 ·cases h2:decide (o.2.1.length≠s.length) <;> simp only[cond_true,cond_false]
  ·have hlen:o.2.1.length=s.length:=by simpa using h2
   cases (aU l o.2.1 s).any fun t=>t.1==0 <;> simp only[cond_true,cond_false]
   ·rw[kL l hlen];exact hs
   ·exact ho
  ·exact ho
 ·exact hs
theorem aJB {N:Nat} {h:List Sh} (hh:pA N h) (k:Nat) {s:Sh} (hs:s.2.1.length≤8):pA N (h.set k s):=
 ⟨by rw[List.length_set];exact hh.1,fun x hx=>by
  rcases List.mem_or_eq_of_mem_set hx with hx | rfl
  ·exact hh.2 x hx
  ·exact hs⟩
theorem aBe {l:List Cl} {a:List Tp} (ha:a.length≤8) {N:Nat}:∀(ts:List Int) (t:Bool) (h:List Sh) (r),pA N h→mK l a ts t h=some r→pA N r.2
 | [],t,h,r,hh,he=>by
  unfold mK at he
  injection he with he
  subst he
  exact hh
 | to::ts,t,h,r,hh,he=>by
  unfold mK at he
  cases h1:(bJ l (h.getD to.toNat zSh) a).2.2.1 <;> simp only[h1,Bool.not_true,Bool.not_false,cond_true,cond_false] at he
  ·cases he
  ·cases h2:(bJ l (h.getD to.toNat zSh) a).2.1 <;> simp only[h2,cond_true,cond_false] at he
   ·exact aBe ha ts _ _ _ hh he
   ·exact aBe ha ts _ _ _ (aJB hh _ (aQB (aIZ hh _) ha)) he
theorem aRI {m:Im} (hok:okL m.1=true) {s6:Bool×Int×List Sh×Unit} {rec7:(Bool×Int×List Sh×Unit)→Option (List Sh×Bool×Unit)} {r5:St4} {to:Int} {k:Nat} (hto:r5.2.1.getD s6.2.1.toNat 0=to) (hk:s6.2.1=(k:Int)) (hk2:k<1000) (t0:0≤to) (t1:to<(s6.2.2.1.length:Int)) (ha:r5.1.length≤8) (hl:(s6.2.2.1.getD to.toNat zSh).2.1.length=r5.1.length) {F:Nat} (hF:100<F):
  aA (oW m s6 rec7 r5) F (([]:List Tp),((0:Int),()))=
   bif (aU m.1 (s6.2.2.1.getD to.toNat zSh).2.1 r5.1).any fun t=>t.1==0 then some ([],false,())
   else bif !(aU m.1 (s6.2.2.1.getD to.toNat zSh).2.1 r5.1==(s6.2.2.1.getD to.toNat zSh).2.1) then rec7 (true,((k+1:Nat):Int),s6.2.2.1.set to.toNat (true,aU m.1 (s6.2.2.1.getD to.toNat zSh).2.1 r5.1,()),())
   else rec7 (s6.1,((k+1:Nat):Int),s6.2.2.1,()):=by
 generalize hO:(s6.2.2.1.getD to.toNat zSh).2.1=O at hl⊢
 have hto':r5.2.1.getD k 0=to:=by rw[hk] at hto;simpa using hto
 have hml:=kL m.1 hl
 have hw:IntKind.i64.wrap ((k:Int)+1)=((k+1:Nat):Int):=by rw[cD] <;> omega
 have key:=dD (L:=oW m s6 rec7 r5) (xs:=aU m.1 O r5.1) (st:=fun j=>((aU m.1 O r5.1).take j,(j:Int),())) (p:=fun x=> !(x.1==0)) (ex:=some ([],false,()))
  (fin:=bif !(aU m.1 O r5.1==O) then rec7 (true,((k+1:Nat):Int),s6.2.2.1.set to.toNat (true,aU m.1 O r5.1,()),()) else rec7 (s6.1,((k+1:Nat):Int),s6.2.2.1,()))
  (fun j x rec hj hjl=>by
   have j1:j<r5.1.length:=by omega
   have j2:j<O.length:=by omega
   have hx:=aE4 m.1 j2 j1
   rw[hj] at hx
   have hx:=Option.some.inj hx
   have hrj:aCw m.1 (O.getD j zTp) (r5.1.getD j zTp)=some (x,()):=by unfold aCw;rw[hok,hx];rfl
   have hroom:decide (((aU m.1 O r5.1).take j).length+(0+1)<rowMax)=true:=iM (by rw[List.length_take];omega)
   have htk:(aU m.1 O r5.1).take (j+1)=(aU m.1 O r5.1).take j++[x]:=by rw[List.take_add_one,hj];rfl
   rw[oW]
   simp only[hk,Int.toNat_natCast,hto',hO,t0,t1,dlt j1,dlt j2,dge,decide_true,Bool.and_self,cond_true,hrj,Option.bind_some,List.length_cons,List.length_nil,hroom,aN j1 (show _≤lenMax by simp only[lenMax];omega),htk]
   cases x.1==0 <;> rfl)
  (fun rec=>by
   rw[oW]
   simp only[hml,bB,cond_false,hk,Int.toNat_natCast,hto',hO,t0,t1,decide_true,Bool.and_self,cond_true,yY,hw]
   rw[←hml,List.take_length]) F (by omega)
 rw[List.take_zero] at key
 refine key.trans ?_
 rw[←List.not_any_eq_all_not]
 cases (aU m.1 O r5.1).any fun t=>t.1==0 <;> rfl
theorem aFg {m:Im} (hok:okL m.1=true) {s3:Bool×Int×List Sh×Unit} {rec4:(Bool×Int×List Sh×Unit)→Option (List Sh×Bool×Unit)} {r5:St4} (ha:r5.1.length≤8) {N:Nat} {F0:Nat} (hF0:100<F0) (hnl:r5.2.1.length≤2) (hto:∀to∈r5.2.1,0≤to∧to<(N:Int)):
  ∀(l pre:List Int) (t:Bool) (h:List Sh) (F:Nat),r5.2.1=pre++l→l.length<F→pA N h→aA (pO m F0 s3 rec4 r5) F (t,(pre.length:Int),h,())=
   match mK m.1 r5.1 l t h with
   | none=>some ([],false,())
   | some r=>rec4 (r.1,IntKind.i64.wrap (s3.2.1 - 1),r.2,())
 | [],pre,t,h,F,he,hF,hh=>by
  obtain⟨F,rfl⟩:∃n,F=n+1:=⟨F - 1,by simp at hF;omega⟩
  rw[List.append_nil] at he
  rw[aD,pO,he]
  simp only[bB,cond_false,mK]
 | to::l,pre,t,h,F,he,hF,hh=>by
  obtain⟨F,rfl⟩:∃n,F=n+1:=⟨F - 1,by simp at hF;omega⟩
  have hk:pre.length<r5.2.1.length:=by rw[he,List.length_append];simp
  have hget:r5.2.1.getD pre.length 0=to:=by rw[he];simp
  obtain⟨t0,t1⟩:=hto to (by rw[he];simp)
  have t2:to<(h.length:Int):=by rw[hh.1];exact t1
  have hw:=aN hk (show _≤lenMax by simp only[lenMax];omega)
  have ih:=fun t' h' hh'=>aFg hok (s3:=s3) (rec4:=rec4) ha hF0 hnl hto l (pre++[to]) t' h' F (by rw[he,List.append_assoc];rfl) (by simp only[List.length_cons] at hF;omega) hh'
  simp only[List.length_append,List.length_cons,List.length_nil,Nat.zero_add] at ih
  have hset:∀s:Sh,s.2.1.length≤8→pA N (h.set to.toNat s):=fun s hs=>aJB hh _ hs
  rw[aD,pO]
  simp only[dlt hk,dge,Bool.and_self,cond_true,Int.toNat_natCast,hget,t0,t2,decide_true,hw]
  unfold mK bJ
  cases h1:(h.getD to.toNat zSh).1 <;> simp only[Bool.not_true,Bool.not_false,cond_true,cond_false]
  ·exact ih _ _ (hset _ ha)
  ·by_cases hl:(h.getD to.toNat zSh).2.1.length=r5.1.length
   ·have e1:(((h.getD to.toNat zSh).2.1.length:Int) !=(r5.1.length:Int))=false:=by rw[hl];simp
    have e2:decide ((h.getD to.toNat zSh).2.1.length≠r5.1.length)=false:=decide_eq_false fun hh=>hh hl
    rw[e1,e2,cond_false,cond_false]
    have:=aRI hok (s6:=(t,(pre.length:Int),h,())) (rec7:=aA (pO m F0 s3 rec4 r5) F) (r5:=r5) (to:=to) (k:=pre.length) (by simpa using hget) rfl (by omega) t0 t2 ha hl hF0
    rw[this]
    cases (aU m.1 (h.getD to.toNat zSh).2.1 r5.1).any fun t=>t.1==0 <;> simp only[Bool.not_true,Bool.not_false,cond_true,cond_false]
    cases aU m.1 (h.getD to.toNat zSh).2.1 r5.1==(h.getD to.toNat zSh).2.1 <;> simp only[Bool.not_true,Bool.not_false,cond_true,cond_false]
    ·exact ih _ _ (hset _ (by rw[kL m.1 hl];exact ha))
    ·exact ih _ _ hh
   ·have e1:(((h.getD to.toNat zSh).2.1.length:Int) !=(r5.1.length:Int))=true:=bne_iff_ne.2 (by omega)
    have e2:decide ((h.getD to.toNat zSh).2.1.length≠r5.1.length)=true:=decide_eq_true hl
    rw[e1,e2,cond_true,cond_true]
    rfl
theorem aG6 {m:Im} (hs:aF m=true) {f:Int} {N:Nat} {pc:Nat} {t:Bool} {h:List Sh} {r} (hh:pA N h) (he:qV m f pc t h=some r):pA N r.2:=by
 unfold qV at he
 cases h1:(h.getD pc zSh).1 <;> simp only[h1,Bool.not_true,Bool.not_false,cond_true,cond_false] at he
 ·injection he with he;subst he;exact hh
 ·cases h2:(aM m f (pc:Int) (h.getD pc zSh).2.1).2.2.1 !=0 <;> simp only[h2,cond_true,cond_false] at he
  ·obtain⟨-,-,h8,-⟩:=fE hs (f:=f) (pc:=(pc:Int)) (s:=(h.getD pc zSh).2.1) (by simpa using h2)
   exact aBe h8 _ _ _ _ hh he
  ·cases he
theorem aGP {m:Im} (hs:aF m=true) {f:Int} {N:Nat}:∀(n:Nat) (t:Bool) (h:List Sh) (r),pA N h→kM m f n t h=some r→pA N r.2
 | 0,t,h,r,hh,he=>by
  unfold kM at he
  injection he with he;subst he;exact hh
 | n+1,t,h,r,hh,he=>by
  unfold kM at he
  cases hp:qV m f n t h with
  | none=>rw[hp] at he;cases he
  | some q=>
   rw[hp] at he
   exact aGP hs n _ _ _ (aG6 hs hh hp) he
theorem aFR {m:Im} (hs:aF m=true) {f:Int} (hf:inM m f=true) {F0:Nat} (hF0:1000<F0) {s1:Int×List Sh×Unit} {rec2:(Int×List Sh×Unit)→Option (List Sh×Bool×Unit)}:
  ∀(n:Nat) (t:Bool) (h:List Sh) (F:Nat),n≤aB m f→n<F→pA (aB m f) h→aA (pK m f F0 s1 rec2) F (t,(n:Int) - 1,h,())=
   match kM m f n t h with
   | none=>some ([],false,())
   | some r=>bif !r.1 then some (r.2,true,()) else rec2 (IntKind.i64.wrap (s1.1+1),r.2,())
 | 0,t,h,F,hn,hF,hh=>by
  obtain⟨F,rfl⟩:∃n,F=n+1:=⟨F - 1,by omega⟩
  rw[aD,pK]
  have:¬(((0:Nat):Int) - 1≥0):=by omega
  simp only[this,decide_false,cond_false,kM]
 | n+1,t,h,F,hn,hF,hh=>by
  obtain⟨F,rfl⟩:∃n,F=n+1:=⟨F - 1,by omega⟩
  have hok:okL m.1=true:=dZ (by have:=(bE (aV hs).1).classes;omega)
  have hc:=cN hs hf
  have e:(((n+1:Nat):Int) - 1)=(n:Int):=by omega
  have g0:decide ((n:Int)≥0)=true:=decide_eq_true (by omega)
  have hnl:n<h.length:=by rw[hh.1];omega
  have hw:IntKind.i64.wrap ((n:Int) - 1)=(n:Int) - 1:=by rw[cD] <;> omega
  have h8:=aIZ hh n
  have hst:oS m f (n:Int) (h.getD n zSh).2.1=some (aM m f (n:Int) (h.getD n zSh).2.1):=by unfold oS;rw[hs,dZ (by omega)];rfl
  have ih:=fun t' h' hh'=>aFR hs hf hF0 (s1:=s1) (rec2:=rec2) n t' h' F (by omega) (by omega) hh'
  rw[aD,pK,e]
  simp only[g0,dge,dlt hnl,Bool.and_self,cond_true,Int.toNat_natCast,hw,hst,Option.bind_some]
  unfold kM
  have hfl:=fun q=>aG6 hs (f:=f) (pc:=n) (t:=t) (r:=q) hh
  unfold qV at hfl⊢
  cases h1:(h.getD n zSh).1 <;> simp only[h1,Bool.not_true,Bool.not_false,cond_true,cond_false] at hfl⊢
  ·exact ih _ _ hh
  ·cases h2:(aM m f (n:Int) (h.getD n zSh).2.1).2.2.1 !=0 <;> simp only[h2,cond_true,cond_false] at hfl⊢
   ·obtain⟨-,-,h8,hto⟩:=fE hs (f:=f) (pc:=(n:Int)) (s:=(h.getD n zSh).2.1) (by simpa using h2)
    have:=aFg hok (s3:=(t,(n:Int),h,())) (rec4:=aA (pK m f F0 s1 rec2) F) (r5:=aM m f (n:Int) (h.getD n zSh).2.1) h8 (N:=aB m f) (F0:=F0) (by omega) (qS ..) hto (aM m f (n:Int) (h.getD n zSh).2.1).2.1 [] t h F0 rfl (by have:(aM m f (n:Int) (h.getD n zSh).2.1).2.1.length≤2:=qS ..;omega) hh
    simp only[List.length_nil] at this
    refine this.trans ?_
    cases hE:mK m.1 (aM m f (n:Int) (h.getD n zSh).2.1).1 (aM m f (n:Int) (h.getD n zSh).2.1).2.1 t h with
    | none=>rfl
    | some q=>
     simp only[hw,Option.bind_some]
     exact ih _ _ (hfl q hE)
   ·rfl
theorem aDj {m:Im} (hs:aF m=true) {f:Int} (hf:inM m f=true) {F0:Nat} (hF0:1000<F0):∀(n k:Nat) (h:List Sh) (F:Nat),k+n=4000→n<F→pA (aB m f) h→aA (sU m f F0) F ((k:Int),h,())=some (eK m f n h)
 | 0,k,h,F,hk,hF,hh=>by
  obtain⟨F,rfl⟩:∃n,F=n+1:=⟨F - 1,by omega⟩
  have:¬((k:Int)<4000):=by omega
  rw[aD,sU]
  simp only[this,decide_false,cond_false]
  rfl
 | n+1,k,h,F,hk,hF,hh=>by
  obtain⟨F,rfl⟩:∃n,F=n+1:=⟨F - 1,by omega⟩
  have hlt:(k:Int)<4000:=by omega
  have hc:=cN hs hf
  have fold:∀g:Int,m.2.2.2.1.getD g.toNat zMt=aC m g:=fun _=>rfl
  have fold3:(aC m f).2.2.2.1.length=aB m f:=rfl
  have hw:IntKind.i64.wrap ((aB m f:Int) - 1)=(aB m f:Int) - 1:=by rw[cD] <;> omega
  have hw2:IntKind.i64.wrap ((k:Int)+1)=((k+1:Nat):Int):=by rw[cD] <;> omega
  rw[aD,sU]
  simp only[hlt,decide_true,cond_true,fold,fold3,hw]
  refine (aFR hs hf hF0 (aB m f) false h F0 (Nat.le_refl _) (by omega) hh).trans ?_
  unfold eK
  cases hr:kM m f (aB m f) false h with
  | none=>rfl
  | some r=>
   have hl:=aGP hs _ _ _ _ hh hr
   simp only[hw2]
   cases r.1 <;> simp only[Bool.not_true,Bool.not_false,cond_true,cond_false]
   exact aDj hs hf hF0 n (k+1) r.2 F (by omega) (by omega) hl
theorem aPU (m:Im) (f:Int):pA (aB m f) (fS m f):=by
 unfold fS
 refine⟨by simp,fun s hs=>?_⟩
 rcases List.mem_or_eq_of_mem_set hs with h | rfl
 ·rw[List.mem_replicate] at h;rw[h.2];exact Nat.zero_le _
 ·exact Nat.zero_le _
theorem aLc (m:Im) (f:Int) (r) (h:pQ m f=some r):∃k,aHb k m f=some r:=by
 unfold pQ at h
 cases hb:aF m&&inM m f <;> simp only[hb,cond_true,cond_false] at h
 ·cases h
 injection h with h
 subst h
 simp only[Bool.and_eq_true] at hb
 obtain⟨hs,hf⟩:=hb
 obtain⟨f0,f1⟩:=aP.1 hf
 have hc:=cN hs hf
 obtain⟨F,hF⟩:∃F:Nat,5000<F:=⟨5001,by omega⟩
 refine⟨F,?_⟩
 have fold:∀g:Int,m.2.2.2.1.getD g.toNat zMt=aC m g:=fun _=>rfl
 have fold3:(aC m f).2.2.2.1.length=aB m f:=rfl
 have e0:decide ((0:Int)≤(aB m f:Int))=true:=decide_eq_true (by omega)
 have e1:decide ((aB m f:Int)<(rowMax:Int))=true:=decide_eq_true (by simp only[rowMax];omega)
 have e2:((aB m f:Int)==0)=false:=beq_eq_false_iff_ne.2 (by omega)
 have e3:decide ((0:Int)<(aB m f:Int))=true:=decide_eq_true (by omega)
 have e4:decide ((aB m f:Int)≤(aB m f:Int))=true:=decide_eq_true (by omega)
 have e5:((List.replicate (aB m f) zSh).getD 0 zSh).2=([],()):=by
  obtain⟨n,hn⟩:∃n,aB m f=n+1:=⟨aB m f - 1,by omega⟩
  rw[hn];rfl
 unfold aHb
 simp only[fold,fold3,f0,f1,decide_true,Bool.and_self,cond_true,cond_false,e0,e1,e2,e3,e4,e5,Int.toNat_natCast,List.length_replicate]
 exact aDj hs hf (by omega) 4000 0 _ F (by omega) (by omega) (aPU m f)
theorem aKs {m:Im} (hs:aF m=true):∀(j k:Nat) (out:List (List Sh)) (F:Nat),k+j=m.2.2.2.1.length→j<F→out.length≤k→aA (aCt m) F (out,(k:Int),())=some (aEr m ((List.range' k j).map fun n:Nat=>(n:Int)) out)
 | 0,k,out,F,hk,hF,_=>by
  obtain⟨F,rfl⟩:∃n,F=n+1:=⟨F - 1,by omega⟩
  have:k=m.2.2.2.1.length:=by omega
  subst this
  rw[aD,aCt]
  simp only[bB,cond_false]
  rfl
 | j+1,k,out,F,hk,hF,ho=>by
  obtain⟨F,rfl⟩:∃n,F=n+1:=⟨F - 1,by omega⟩
  have h12:=(bE (aV hs).1).methods
  have hlt:k<m.2.2.2.1.length:=by omega
  have hin:inM m (k:Int)=true:=aP.2 ⟨by omega,by omega⟩
  have hsh:pQ m (k:Int)=some (eK m (k:Int) 4000 (fS m (k:Int))):=by unfold pQ;rw[hs,hin];rfl
  rw[aD,aCt]
  rw[List.range'_succ,List.map_cons,aEr]
  simp only[dlt hlt,cond_true,hsh,Option.bind_some]
  cases (eK m (k:Int) 4000 (fS m (k:Int))).2.1 <;> simp only[Bool.not_true,Bool.not_false,cond_true,cond_false]
  simp only[List.length_cons,List.length_nil,iM (show out.length+(0+1)<549755813888 by omega),cond_true,aN hlt (show _≤lenMax by simp only[lenMax];omega)]
  exact aKs hs j (k+1) _ F (by omega) (by omega) (by simp;omega)
theorem aRT (m:Im) (r) (h:qX m=some r):∃k,aQl k m=some r:=by
 unfold qX at h
 cases hs:aF m <;> simp only[hs,cond_true,cond_false] at h
 ·cases h
 injection h with h
 subst h
 have h12:=(bE (aV hs).1).methods
 refine⟨m.2.2.2.1.length+1,?_⟩
 unfold aQl
 rw[show ints m.2.2.2.1.length=(List.range' 0 m.2.2.2.1.length).map fun n:Nat=>(n:Int) by rw[←List.range_eq_range'];rfl]
 exact aKs hs m.2.2.2.1.length 0 [] _ (by omega) (by omega) (by simp)
end Go.Pli
