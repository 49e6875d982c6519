/- Sums: the printed functions come to what is told in plain Lean. -/
import Derived.Test.YtcofionghgmldaaGreatPliL11
import Derived.Lib.Mul64
namespace Go.Pli
open Go Go.PM
theorem aTQ (n:Nat):IntKind.u64.wrap (n:Int)=((n % 18446744073709551616:Nat):Int):=by
 rw[IntKind.wrap_u64];omega
theorem aSr (n:Nat):(n:Int).fdiv 4294967296=((n/4294967296:Nat):Int):=by
 rw[Int.fdiv_eq_ediv_of_nonneg _ (by omega)];rfl
theorem aSv (n:Nat):(((BitVec.ofInt 64 (n:Int)&&&BitVec.ofInt 64 4294967295).toNat:Nat):Int)=((n % 4294967296:Nat):Int):=by
 have h1:(BitVec.ofInt 64 (n:Int)).toNat=n % 18446744073709551616:=by
  rw[BitVec.toNat_ofInt];omega
 have h2:(BitVec.ofInt 64 4294967295).toNat=2 ^ 32 - 1:=by decide
 rw[BitVec.toNat_and,h1,h2,Nat.and_two_pow_sub_one_eq_mod]
 congr 1
 omega
theorem aQ4 (x y:Int) (r) (h:aCu x y=some r):aOS x y=some r:=by
 unfold aCu at h
 cases hb:inU x&&inU y <;> simp only[hb,cond_true,cond_false] at h
 ·cases h
 injection h with h
 subst h
 simp only[inU,Bool.and_eq_true,decide_eq_true_eq] at hb
 obtain⟨⟨x0,x1⟩,y0,y1⟩:=hb
 obtain⟨a,rfl⟩:∃a:Nat,x=a:=⟨x.toNat,by omega⟩
 obtain⟨b,rfl⟩:∃b:Nat,y=b:=⟨y.toNat,by omega⟩
 have ha:a<18446744073709551616:=by omega
 have hb:b<18446744073709551616:=by omega
 obtain⟨h1,h2,h3,h4⟩:=Lib.mul64_hi a b ha hb
 have ma:a % 4294967296 % 18446744073709551616=a % 4294967296:=Nat.mod_eq_of_lt (by omega)
 have mb:b % 4294967296 % 18446744073709551616=b % 4294967296:=Nat.mod_eq_of_lt (by omega)
 unfold aOS
 simp only[aSr,aSv,aTQ,←Int.natCast_mul,←Int.natCast_add,ma,mb]
 have e1:a % 4294967296*(b % 4294967296) % 18446744073709551616=a % 4294967296*(b % 4294967296):=Nat.mod_eq_of_lt h1
 simp only[e1]
 have p1:=Lib.half_mul_le (a:=a/4294967296) (b:=b % 4294967296) (by omega) (by omega)
 have e2:a/4294967296*(b % 4294967296) % 18446744073709551616=a/4294967296*(b % 4294967296):=Nat.mod_eq_of_lt (by omega)
 simp only[e2]
 have e3:=Nat.mod_eq_of_lt h2
 simp only[e3]
 have p2:=Lib.half_mul_le (a:=a % 4294967296) (b:=b/4294967296) (by omega) (by omega)
 have e4:a % 4294967296*(b/4294967296) % 18446744073709551616=a % 4294967296*(b/4294967296):=Nat.mod_eq_of_lt (by omega)
 have e5:∀t:Nat,t % 4294967296 % 18446744073709551616=t % 4294967296:=fun t=>Nat.mod_eq_of_lt (by omega)
 simp only[e4,e5]
 have e6:=Nat.mod_eq_of_lt h3
 simp only[e6]
 have p3:=Lib.half_mul_le (a:=a/4294967296) (b:=b/4294967296) (by omega) (by omega)
 have e7:a/4294967296*(b/4294967296) % 18446744073709551616=a/4294967296*(b/4294967296):=Nat.mod_eq_of_lt (by omega)
 simp only[e7]
 have hq:a*b/18446744073709551616<18446744073709551616:=by
  have:=Nat.mul_le_mul (show a≤18446744073709551615 by omega) (show b≤18446744073709551615 by omega)
  omega
 have e8:(a/4294967296*(b/4294967296)+(a/4294967296*(b % 4294967296)+a % 4294967296*(b % 4294967296)/4294967296)/4294967296) % 18446744073709551616=a/4294967296*(b/4294967296)+(a/4294967296*(b % 4294967296)+a % 4294967296*(b % 4294967296)/4294967296)/4294967296:=Nat.mod_eq_of_lt (by omega)
 simp only[e8,h4]
 rw[Nat.mod_eq_of_lt hq]
 rfl
theorem aUL (n:Int):aUA n=some (lof n,()):=by
 unfold aUA lof
 cases decide (n> -4611686018427387904) <;> rfl
theorem aSk (n:Int):aPG n=some (dO n,()):=by
 unfold aPG dO
 cases decide (n<0) <;> rfl
theorem aQT (a b:Sure) (r) (h:aEN a b=some r):aOV a b=some r:=by
 rw[←h]
 unfold aOV aEN aCJ
 cases a.2.1 <;> cases b.2.1 <;> rfl
theorem aKw (n:Int):inU (dO n)=true:=by
 unfold dO inU
 cases decide (n<0) <;> simp only[cond_true,cond_false,Bool.and_eq_true,decide_eq_true_eq,IntKind.wrap_u64] <;> omega
theorem aOJ (a b:Sure) (r) (h:aBm a b=some r):aMK a b=some r:=by
 rw[←h]
 have hm:aCu (dO a.1) (dO b.1)=some (dO a.1*dO b.1/18446744073709551616,dO a.1*dO b.1 % 18446744073709551616,()):=by
  unfold aCu;rw[aKw,aKw];rfl
 unfold aMK aBm yP
 rw[hm]
 generalize dO a.1*dO b.1/18446744073709551616=u
 generalize dO a.1*dO b.1 % 18446744073709551616=v
 cases a.2.1 <;> cases b.2.1 <;> simp only[Bool.not_true,Bool.not_false,Bool.and_self,Bool.and_true,Bool.and_false,cond_true,cond_false,Option.bind_some]
 by_cases hu:u=0
 ·have:(u !=0)=false:=by simp[hu]
  simp only[hu,ne_eq,not_true_eq_false,decide_false,Bool.false_or]
  cases decide (v≥4611686018427387904) <;> rfl
 ·have:(u !=0)=true:=by simp[hu]
  simp only[this,hu,ne_eq,not_false_eq_true,decide_true,Bool.true_or,cond_true]
theorem aGR (p:Int×Int):∀(l:List (Int×Int)) (a:Sure),vC (l++[p]) a=aCJ (vC l a) (yP (lof p.1) (lof p.2))
 | [],_=>rfl
 | _::l,_=>aGR p l _
theorem aPR (q:Iq) (v:List Int) (r) (h:xT q v=some r):∃k,aL9 k q v=some r:=by
 unfold xT at h
 cases hb:okL q.1 <;> simp only[hb,cond_true,cond_false] at h
 ·cases h
 injection h with h
 subst h
 have hl:=fR hb
 refine⟨q.1.length+1,?_⟩
 unfold aL9 mB
 by_cases he:q.1.length=v.length
 ·have e1:((q.1.length:Int) !=(v.length:Int))=false:=by rw[he];simp
  have e2:decide (q.1.length≠v.length)=false:=by simp[he]
  simp only[e1,e2,cond_false]
  have:=fJ (L:=aAn q v) (n:=q.1.length) (st:=fun k=>((k:Int),vC ((q.1.zip v).take k) (lof 0),())) (fin:=some (aEP q.2.1 (vC (q.1.zip v) (lof 0))))
   (fun k rec hk=>by
    have hv:k<v.length:=by omega
    have hz:(q.1.zip v)[k]? =some (q.1.getD k 0,v.getD k 0):=by
     rw[List.getElem?_eq_getElem (show k<(q.1.zip v).length by rw[List.length_zip];omega)]
     simp[hk,hv]
    rw[aAn]
    simp only[dlt hk,dlt hv,dge,Bool.and_self,cond_true,Int.toNat_natCast,aN hk (show _≤lenMax by simp only[lenMax];omega),aBm,aEN,Option.bind_some]
    rw[List.take_add_one,hz]
    show _=rec (_,vC ((q.1.zip v).take k++[(q.1.getD k 0,v.getD k 0)]) (lof 0),())
    rw[aGR])
   (fun rec=>by
    have:(q.1.zip v).take q.1.length=q.1.zip v:=List.take_of_length_le (by rw[List.length_zip];omega)
    rw[aAn]
    simp only[bB,cond_false,this,aEP]
    cases (vC (q.1.zip v) (lof 0)).2.1 <;> rfl) (q.1.length+1) (by omega)
  exact this
 ·have e1:((q.1.length:Int) !=(v.length:Int))=true:=by simp;omega
  have e2:decide (q.1.length≠v.length)=true:=by simp[he]
  simp only[e1,e2,cond_true]
end Go.Pli

namespace Go.Pli
open Go Go.PM
theorem aQf (l:List (List Sh)) (f pc:Int) (r) (h:yE l f pc=some r):aLW l f pc=some r:=by
 unfold yE at h
 cases hb:decide (0≤f)&&decide (0≤pc) <;> simp only[hb,cond_true,cond_false] at h
 ·cases h
 injection h with h
 subst h
 simp only[Bool.and_eq_true,decide_eq_true_eq] at hb
 unfold aLW bY
 by_cases h1:f≥(l.length:Int)
 ·have e:l.getD f.toNat []=[]:=dJ (by omega)
  simp only[h1,decide_true,cond_true,e]
  rfl
 ·have h1':f<(l.length:Int):=by omega
  simp only[h1,h1',hb.1,decide_true,decide_false,Bool.and_self,cond_true,cond_false]
  by_cases h2:pc≥((l.getD f.toNat []).length:Int)
  ·have e:(l.getD f.toNat []).getD pc.toNat zSh=zSh:=dJ (by omega)
   simp only[h2,decide_true,cond_true,e]
  ·have h2':pc<((l.getD f.toNat []).length:Int):=by omega
   simp only[h2,h2',hb.2,decide_true,decide_false,Bool.and_self,cond_true,cond_false]
theorem aSl (m:Im) (i:Ins) (r) (h:aCX m i=some r):∃k,aPr k m i=some r:=by
 unfold aCX at h
 cases hi:bC m <;> simp only[hi,cond_true,cond_false] at h
 ·cases h
 injection h with h
 subst h
 have htl:=jT hi i
 have h12:=(bE hi).methods
 have hfl:=rE hi i.2.1
 have ht:kK m i=some (aT m i,()):=by unfold kK;rw[hi];rfl
 refine⟨1001,?_⟩
 have hc:aCI m i.2.1=some (vR m i.2.1,()):=by unfold aCI;rw[hi];rfl
 unfold aPr rB
 rw[hc,ht]
 cases i.1==22 <;> cases i.1==23 <;> simp only[cond_true,cond_false,Option.bind_some]
 have:=fJ (L:=aCF m (aT m i,())) (n:=(aT m i).length) (st:=fun k=>(iT ((((aT m i).take k).filter (inM m)).map (dF m)),(k:Int),())) (fin:=some (iT (((aT m i).filter (inM m)).map (dF m)),()))
  (fun k rec hk=>by
   have hw:=aN hk (show _≤lenMax by simp only[lenMax];omega)
   have hx:(aT m i)[k]? =some (aT m i)[k]:=List.getElem?_eq_getElem hk
   have fold:∀g:Int,m.2.2.2.1.getD g.toNat zMt=aC m g:=fun _=>rfl
   rw[aCF]
   simp only[dlt hk,dge,Bool.and_self,cond_true,Int.toNat_natCast,getD_some hx,hw,fold]
   rw[List.take_add_one,hx]
   generalize (aT m i)[k]=g
   by_cases h0:g≥0
   ·by_cases h1:g<(m.2.2.2.1.length:Int)
    ·have hin:inM m g=true:=aP.2 ⟨h0,h1⟩
     have h0':0≤g:=h0
     simp only[h0,h1,decide_true,Bool.and_self,cond_true,Option.toList_some,List.filter_append,List.filter_cons,List.filter_nil,hin,if_true,List.map_append,List.map_cons,List.map_nil]
     unfold iT
     rw[List.foldl_append]
     rfl
    ·have hin:inM m g=false:=by
      cases hh:inM m g
      ·rfl
      ·exact absurd (aP.1 hh).2 h1
     simp only[h0,h1,decide_true,decide_false,cond_true,cond_false,Option.toList_some,List.filter_append,List.filter_cons,List.filter_nil,hin,Bool.false_eq_true,if_false,List.append_nil]
   ·have hin:inM m g=false:=by
     cases hh:inM m g
     ·rfl
     ·exact absurd (aP.1 hh).1 h0
    simp only[h0,decide_false,cond_false,Option.toList_some,List.filter_append,List.filter_cons,List.filter_nil,hin,Bool.false_eq_true,if_false,List.append_nil])
  (fun rec=>by
   rw[aCF]
   simp only[bB,cond_false,List.take_length]) 1001 (by omega)
 exact this
theorem aGg {n a b c:Int} (h0:0≤n) (h1:n<1000000) (ha:a<n) (hb:b<n):aB7 n a b c=some (eT n a b c,()):=by
 unfold aB7
 rw[decide_eq_true h0,decide_eq_true ha,decide_eq_true hb,aP8 (show n.toNat<1000000 by omega)]
 rfl
theorem aUq (n a b c:Int) (r) (h:aB7 n a b c=some r):aSP n a b c=some r:=by
 unfold aB7 at h
 cases hh:decide (0≤n)&&(Nat.blt n.toNat 1000000&&(decide (a<n)&&decide (b<n))) <;> simp only[hh,cond_true,cond_false] at h
 ·cases h
 injection h with h
 subst h
 simp only[Bool.and_eq_true,decide_eq_true_eq,Nat.blt_eq] at hh
 obtain⟨n0,n1,an,bn⟩:=hh
 have e0:decide (n≤n)=true:=decide_eq_true (by omega)
 have e1:decide (n<(rowMax:Int))=true:=decide_eq_true (by simp only[rowMax];omega)
 have en:((n.toNat:Nat):Int)=n:=by omega
 unfold aSP eT mA
 simp only[n0,e0,e1,decide_true,Bool.and_self,cond_true,List.length_set,List.length_replicate,en,an,bn,Bool.and_true]
 by_cases ha:a≥0 <;> by_cases hb:b≥0
 ·have ha':0≤a:=ha
  have hb':0≤b:=hb
  simp only[ha,hb,decide_true,cond_true]
  rfl
 ·have ha':0≤a:=ha
  simp only[ha,hb,decide_true,decide_false,cond_true,cond_false]
  rfl
 ·have hb':0≤b:=hb
  simp only[ha,hb,decide_true,decide_false,cond_true,cond_false]
 ·simp only[ha,hb,decide_false,cond_false]
theorem aLp (l:List Int) (c:Unit) (h:aLi l c):∃k,aQs k l c=some (aAq l c,()):=by
 refine⟨l.length+1,jG (st:=fun k=>((k:Int),())) (p:=aAX) (fun k x rec hk hlt=>?_) (fun rec=>?_) _ (Nat.lt_succ_self _)⟩
 ·unfold aAA
  simp only[dlt hlt,dge,Bool.and_self,cond_true,Int.toNat_natCast,getD_some hk,aN hlt h.1.1]
  rfl
 ·unfold aAA
  simp only[bB,cond_false]
theorem aGq (l:List Int) (c:Unit) (_:aGi l c):aBR l c=some (nG l c,()):=by
 unfold aBR aAq nG
 rw[iA]
theorem aEu (m:Im) (l:List (List Sh)) (f pc:Int):(kW m l f pc).length≤3:=by
 have h2:(aM m f pc (bY l f pc).2.1).2.1.length≤2:=qS ..
 unfold kW
 cases !(bY l f pc).1 <;> simp only[cond_true,cond_false]
 ·cases (aM m f pc (bY l f pc).2.1).2.2.1 !=0 <;> simp only[cond_true,cond_false]
  ·rw[List.length_append,List.length_map]
   cases decide ((aM m f pc (bY l f pc).2.1).2.1.length=0) <;> simp only[cond_true,cond_false,List.length_cons,List.length_nil] <;> omega
  ·simp
 ·simp
theorem aRe {l:List (List Sh)} (h:eS l=true) (f pc:Int):okL (bY l f pc).2.1=true:=by
 unfold bY
 by_cases h1:f.toNat<l.length
 ·obtain⟨-,h2⟩:=vJ h h1
  by_cases h3:pc.toNat<(l.getD f.toNat []).length
  ·rw[getD_some (List.getElem?_eq_getElem h3)]
   exact dZ (h2 _ (List.getElem_mem h3))
  ·rw[dJ (by omega)];rfl
 ·rw[dJ (show l.length≤f.toNat by omega)];rfl
theorem aLC {m:Im} (hs:aF m=true) {f:Int} (hf:inM m f=true) {k:Nat} (hk:k<aB m f) {S:St4} (h2:S.2.1.length≤2) (hto:∀to∈S.2.1,0≤to∧to<(aB m f:Int)) {o:List Iq} {rec:(List Iq×Int×Unit)→Option (List Iq×Unit)} {F:Nat} (hF:1000<F) (pre:List Iq) (hpre:pre.length<1000000):
  aA (uQ m f S (o,(k:Int),()) rec) F (pre,(0:Int),())=rec (pre++S.2.1.map (fun to=>eT (aB m f:Int) (k:Int) to (IntKind.i64.wrap (0 - rB m (aH m f (k:Int))))),((k+1:Nat):Int),()):=by
 have hc:=cN hs hf
 have hw:=aN hk (show _≤lenMax by simp only[lenMax];omega)
 have fold:∀g:Int,m.2.2.2.1.getD g.toNat zMt=aC m g:=fun _=>rfl
 have fold3:(aC m f).2.2.2.1.length=aB m f:=rfl
 have fold2:(aC m f).2.2.2.1.getD k dN=aH m f (k:Int):=rfl
 have hcost:aCX m (aH m f (k:Int))=some (rB m (aH m f (k:Int)),()):=by unfold aCX;rw[(aV hs).1];rfl
 generalize hR:S.2.1.map (fun to=>eT (aB m f:Int) (k:Int) to (IntKind.i64.wrap (0 - rB m (aH m f (k:Int)))))=R
 have hRl:R.length=S.2.1.length:=by rw[←hR,List.length_map]
 have:=fJ (L:=uQ m f S (o,(k:Int),()) rec) (n:=S.2.1.length) (st:=fun j=>(pre++R.take j,(j:Int),()))
  (fin:=rec (pre++R,((k+1:Nat):Int),()))
  (fun j rec2 hj=>by
   have hx:S.2.1[j]? =some S.2.1[j]:=List.getElem?_eq_getElem hj
   obtain⟨t0,t1⟩:=hto _ (List.getElem_mem hj)
   have hxR:R[j]? =some (eT (aB m f:Int) (k:Int) S.2.1[j] (IntKind.i64.wrap (0 - rB m (aH m f (k:Int))))):=by
    rw[←hR,List.getElem?_map,hx]
    rfl
   have hroom:decide ((pre++R.take j).length+(0+1)<rowMax)=true:=iM (by rw[List.length_append,List.length_take];omega)
   rw[uQ]
   simp only[fold,fold3,Int.toNat_natCast,fold2,dlt hj,dge,Bool.and_self,cond_true,getD_some hx]
   rw[hcost,Option.bind_some,aGg (by omega) (by omega) (by omega) (by omega),Option.bind_some]
   simp only[List.length_cons,List.length_nil,hroom,cond_true,aN hj (show _≤lenMax by simp only[lenMax];omega)]
   rw[List.take_add_one,hxR,List.append_assoc]
   rfl)
  (fun rec2=>by
   rw[uQ]
   simp only[bB,cond_false,hw]
   rw[List.take_of_length_le (by omega)]) F (by omega)
 rw[List.take_zero,List.append_nil] at this
 exact this
theorem aON (m:Im) (l:List (List Sh)) (f:Int) (r) (h:yH m l f=some r):∃k,aMx k m l f=some r:=by
 unfold yH at h
 cases hb:aF m&&eS l <;> simp only[hb,cond_true,cond_false] at h
 ·cases h
 injection h with h
 subst h
 simp only[Bool.and_eq_true] at hb
 obtain⟨hs,hl⟩:=hb
 obtain⟨F,hF⟩:∃F:Nat,1000<F:=⟨1001,by omega⟩
 refine⟨F,?_⟩
 have fold:∀g:Int,m.2.2.2.1.getD g.toNat zMt=aC m g:=fun _=>rfl
 have fold3:(aC m f).2.2.2.1.length=aB m f:=rfl
 have fold4:(aC m f).2.2.2.2.2.1=dF m f:=rfl
 unfold aMx iO
 simp only[fold,fold3,fold4]
 cases hf:inM m f
 ·simp only[cond_false]
  have:¬(0≤f∧f<(m.2.2.2.1.length:Int)):=fun hh=>by rw[aP.2 hh] at hf;cases hf
  by_cases h0:f<0
  ·simp only[h0,decide_true,cond_true]
  ·have h1:f≥(m.2.2.2.1.length:Int):=by omega
   simp only[h0,h1,decide_true,decide_false,cond_true,cond_false]
 obtain⟨f0,f1⟩:=aP.1 hf
 have f2:¬f<0:=by omega
 have f3:¬f≥(m.2.2.2.1.length:Int):=by omega
 have hc:=cN hs hf
 have hc0:((aB m f:Int)==0)=false:=beq_eq_false_iff_ne.2 (by omega)
 rw[decide_eq_false f2,cond_false,decide_eq_false f3,cond_false,decide_eq_true f0,decide_eq_true f1,Bool.and_self,cond_true,hc0,cond_false,cond_true,cond_true,cond_true]
 rw[aGg (by omega) (by omega) (by omega) (by omega),Option.bind_some]
 have:=mI (L:=aA0 m l f F) (n:=aB m f) (B:=3) (st:=fun k out=>(eT (aB m f:Int) (-1) 0 (dF m f)::out,(k:Int),())) (f:=fun k=>kW m l f (k:Int)) (fin:=fun out=>some (eT (aB m f:Int) (-1) 0 (dF m f)::out,()))
  (fun k _=>aEu ..)
  (fun k out rec hk ho=>by
   have hw:=aN hk (show _≤lenMax by simp only[lenMax];omega)
   have hp:yE l f (k:Int)=some (bY l f (k:Int),()):=by unfold yE;simp only[f0,dge,decide_true,Bool.and_self,cond_true]
   have hst:sY m f (k:Int) (bY l f (k:Int)).2.1=some (aM m f (k:Int) (bY l f (k:Int)).2.1):=by unfold sY;rw[hs,aRe hl];rfl
   have fold2:(aC m f).2.2.2.1.getD k dN=aH m f (k:Int):=rfl
   have d1:decide ((k:Int)<(((aC m f).2.2.2.1.length:Nat):Int))=true:=dlt hk
   rw[aA0]
   dsimp only
   rw[fold,d1,cond_true,dge,Bool.and_true,cond_true,hp,Option.bind_some]
   dsimp only
   cases h1:(bY l f (k:Int)).1
   case false=>
    rw[Bool.not_false,cond_true,hw]
    simp only[kW,h1,Bool.not_false,cond_true,List.append_nil]
   rw[Bool.not_true,cond_false,hst,Option.bind_some]
   have h2:(aM m f (k:Int) (bY l f (k:Int)).2.1).2.1.length≤2:=qS ..
   cases h3:(aM m f (k:Int) (bY l f (k:Int)).2.1).2.2.1 !=0
   case true=>
    rw[cond_true,hw]
    simp only[kW,h1,h3,Bool.not_true,cond_false,cond_true,List.append_nil]
   obtain⟨-,-,-,hto⟩:=fE hs (f:=f) (pc:=(k:Int)) (s:=(bY l f (k:Int)).2.1) (by simpa using h3)
   rw[cond_false]
   have hrule:kW m l f (k:Int)=(bif decide ((aM m f (k:Int) (bY l f (k:Int)).2.1).2.1.length=0) then[eT (aB m f:Int) (k:Int) (-1) 0] else[])++(aM m f (k:Int) (bY l f (k:Int)).2.1).2.1.map fun to=>eT (aB m f:Int) (k:Int) to (IntKind.i64.wrap (0 - rB m (aH m f (k:Int)))):=by simp only[kW,h1,h3,Bool.not_true,cond_false]
   rw[hrule]
   generalize hS:aM m f (k:Int) (bY l f (k:Int)).2.1=S at h2 h3 hto
   have inner:=aLC hs hf hk h2 hto (o:=eT (aB m f:Int) (-1) 0 (dF m f)::out) (rec:=rec) hF
   by_cases h0:S.2.1.length=0
   ·have e1:((S.2.1.length:Int)==0)=true:=by rw[h0];rfl
    have e2:decide (S.2.1.length=0)=true:=decide_eq_true h0
    have hroom:decide ((eT (aB m f:Int) (-1) 0 (dF m f)::out).length+(0+1)<rowMax)=true:=iM (by simp only[List.length_cons];omega)
    rw[e1,e2,cond_true,cond_true]
    rw[fold3,aGg (by omega) (by omega) (by omega) (by omega),Option.bind_some]
    have e3:∀q:Iq,([q]:List Iq).length=0+1:=fun _=>rfl
    rw[e3,hroom,cond_true,Option.bind_some]
    refine (inner (eT (aB m f:Int) (-1) 0 (dF m f)::out++[eT (aB m f:Int) (k:Int) (-1) 0]) (by rw[List.length_append,List.length_cons,List.length_cons,List.length_nil];omega)).trans ?_
    rw[List.append_assoc,List.cons_append]
   ·have e1:((S.2.1.length:Int)==0)=false:=beq_eq_false_iff_ne.2 (by omega)
    have e2:decide (S.2.1.length=0)=false:=decide_eq_false h0
    rw[e1,e2,cond_false,cond_false,Option.bind_some]
    refine (inner (eT (aB m f:Int) (-1) 0 (dF m f)::out) (by rw[List.length_cons];omega)).trans ?_
    rw[List.cons_append,List.nil_append])
  (fun out rec _=>by
   rw[aA0]
   simp only[fold,fold3,bB,cond_false,idL]) F (by omega)
 exact this
theorem aMZ {m:Im} (hs:aF m=true) (l:List (List Sh)) (f:Int):(iO m l f).length≤1000:=by
 unfold iO
 cases hf:inM m f <;> simp only[cond_true,cond_false]
 ·simp
 have hc:=cN hs hf
 have key:∀n:Nat,(((List.range n).map fun k:Nat=>kW m l f (k:Int)).flatten).length≤3*n:=by
  intro n
  induction n with
  | zero=>simp
  | succ n ih=>
   have:=aEu m l f (n:Int)
   rw[List.range_succ,List.map_append,List.flatten_append,List.length_append]
   simp only[List.map_cons,List.map_nil,List.flatten_cons,List.flatten_nil,List.append_nil]
   omega
 have:=key (aB m f)
 rw[List.length_cons]
 omega
theorem aLo {m:Im} (l:List (List Sh)) (f:Int):∀q∈iO m l f,q.1.length=aB m f:=by
 have hr:∀a b c:Int,(eT (aB m f:Int) a b c).1.length=aB m f:=by
  intro a b c
  unfold eT mA
  cases decide (a≥0) <;> cases decide (b≥0) <;> simp
 intro q hq
 unfold iO at hq
 cases hf:inM m f <;> simp only[hf,cond_true,cond_false] at hq
 ·cases hq
 rcases List.mem_cons.1 hq with rfl | hq
 ·exact hr ..
 simp only[List.mem_flatten,List.mem_map] at hq
 obtain⟨x,⟨k,-,rfl⟩,hq⟩:=hq
 unfold kW at hq
 cases h1: !(bY l f (k:Int)).1 <;> simp only[h1,cond_true,cond_false] at hq
 ·cases h2:(aM m f (k:Int) (bY l f (k:Int)).2.1).2.2.1 !=0 <;> simp only[h2,cond_true,cond_false] at hq
  ·rw[List.mem_append] at hq
   rcases hq with hq | hq
   ·cases h3:decide ((aM m f (k:Int) (bY l f (k:Int)).2.1).2.1.length=0) <;> simp only[h3,cond_true,cond_false] at hq
    ·cases hq
    ·rw[List.mem_singleton] at hq;subst hq;exact hr ..
   ·obtain⟨t,-,rfl⟩:=List.mem_map.1 hq
    exact hr ..
  ·cases hq
 ·cases hq
theorem aDs {m:Im} {l:List (List Sh)} (hs:aF m=true) (hl:eS l=true):∀(j k F:Nat),k+j=m.2.2.2.1.length→j<F→aA (qG m l 1001) F ((k:Int),())=some (qJ m l ((List.range' k j).map fun n:Nat=>(n:Int)))
 | 0,k,F,hk,hF=>by
  obtain⟨F,rfl⟩:∃n,F=n+1:=⟨F - 1,by omega⟩
  have:k=m.2.2.2.1.length:=by omega
  subst this
  rw[aD,qG]
  simp only[bB,cond_false]
  rfl
 | j+1,k,F,hk,hF=>by
  obtain⟨F,rfl⟩:∃n,F=n+1:=⟨F - 1,by omega⟩
  have h12:=(bE (aV hs).1).methods
  have hlt:k<m.2.2.2.1.length:=by omega
  have hin:inM m (k:Int)=true:=aP.2 ⟨by omega,by omega⟩
  have hc:=cN hs hin
  have hw:=aN hlt (show _≤lenMax by simp only[lenMax];omega)
  have fold:∀g:Nat,m.2.2.2.1.getD g zMt=aC m (g:Int):=fun _=>rfl
  have fold4:(aC m (k:Int)).2.2.2.2.2.2.1=cS m (k:Int):=rfl
  have hr:yH m l (k:Int)=some (iO m l (k:Int),()):=by unfold yH;rw[hs,hl];rfl
  have hrl:=aMZ hs l (k:Int)
  rw[aD,qG]
  simp only[dlt hlt,dge,Bool.and_self,cond_true,hr,Option.bind_some]
  have key:=dD (L:=aAh m ((k:Int),()) (aA (qG m l 1001) F) (iO m l (k:Int),())) (xs:=iO m l (k:Int)) (st:=fun j=>((j:Int),())) (p:=nV m (k:Int)) (ex:=some ((k:Int),6,())) (fin:=bif (cS m (k:Int)).any aAX then some ((k:Int),6,()) else aA (qG m l 1001) F (((k+1:Nat):Int),()))
   (fun j q rec hj hjl=>by
    have hh:xT q (cS m (k:Int))=some (mB q (cS m (k:Int))):=by
     have:=aLo (m:=m) l (k:Int) q (List.mem_of_getElem? hj)
     unfold xT;rw[dZ (by omega)];rfl
    rw[aAh]
    simp only[dlt hjl,dge,Bool.and_self,cond_true,Int.toNat_natCast,getD_some hj,fold,fold4,hh,Option.bind_some,aN hjl (show _≤lenMax by simp only[lenMax];omega),nV]
    by_cases he:(mB q (cS m (k:Int))).2.1=0
    ·have:((mB q (cS m (k:Int))).2.1 !=0)=false:=by simp[he]
     simp only[he,decide_true,Bool.true_and]
     cases (mB q (cS m (k:Int))).1 <;> rfl
    ·have:((mB q (cS m (k:Int))).2.1 !=0)=true:=by simp[he]
     simp only[this,he,decide_false,Bool.false_and,cond_true,cond_false])
   (fun rec=>by
    rw[aAh]
    simp only[bB,cond_false,Int.toNat_natCast,fold,fold4,nG,hw]) 1001 (by omega)
  refine key.trans ?_
  rw[List.range'_succ,List.map_cons,qJ]
  cases (iO m l (k:Int)).all (nV m (k:Int)) <;> simp only[cond_true,cond_false]
  cases (cS m (k:Int)).any aAX <;> simp only[cond_true,cond_false]
  exact aDs hs hl j (k+1) F (by omega) (by omega)
theorem aOF (m:Im) (l:List (List Sh)) (r) (h:lR m l=some r):∃k,aL4 k m l=some r:=by
 unfold lR at h
 cases hb:aF m&&eS l <;> simp only[hb,cond_true,cond_false] at h
 ·cases h
 injection h with h
 subst h
 simp only[Bool.and_eq_true] at hb
 have h12:=(bE (aV hb.1).1).methods
 refine⟨1001,?_⟩
 unfold aL4
 rw[show ints m.2.2.2.1.length=(List.range' 0 m.2.2.2.1.length).map fun n:Nat=>(n:Int) by rw[←List.range_eq_range'];rfl]
 exact aDs hb.1 hb.2 m.2.2.2.1.length 0 1001 (by omega) (by omega)
theorem aNS (m:Im) (i:Ins) (r) (h:qN m i=some r):∃k,aJc k m i=some r:=by
 unfold qN at h
 cases hb:bC m&&(aT m i).all (inM m) <;> simp only[hb,cond_true,cond_false] at h
 ·cases h
 injection h with h
 subst h
 simp only[Bool.and_eq_true,List.all_eq_true] at hb
 obtain⟨hi,hin⟩:=hb
 have htl:=jT hi i
 have h12:=(bE hi).methods
 have hfl:=rE hi i.2.1
 have ht:jE m i=some (aT m i,()):=by unfold jE;rw[hi];rfl
 have hc:eU m i.2.1=some (cE m i.2.1,()):=by unfold eU;rw[hi];rfl
 refine⟨1001,?_⟩
 unfold aJc gU
 rw[hc,ht]
 cases i.1==22 <;> cases i.1==23 <;> simp only[cond_true,cond_false,Option.bind_some]
 ·have:=fJ (L:=wN m (aT m i,())) (n:=(aT m i).length) (st:=fun k=>(iT (((aT m i).take k).map (dF m)),(k:Int),())) (fin:=some (iT ((aT m i).map (dF m)),()))
   (fun k rec hk=>by
    have hw:=aN hk (show _≤lenMax by simp only[lenMax];omega)
    have hx:(aT m i)[k]? =some (aT m i)[k]:=List.getElem?_eq_getElem hk
    obtain⟨g0,g1⟩:=aP.1 (hin _ (List.getElem_mem hk))
    have fold:∀g:Int,m.2.2.2.1.getD g.toNat zMt=aC m g:=fun _=>rfl
    have fold4:∀g,(aC m g).2.2.2.2.2.1=dF m g:=fun _=>rfl
    rw[wN]
    simp only[dlt hk,dge,Bool.and_self,cond_true,Int.toNat_natCast,getD_some hx,hw,fold,fold4,g0,g1,decide_true]
    rw[List.take_add_one,hx]
    generalize (aT m i)[k]=g
    have hm:iT (((aT m i).take k++(some g).toList).map (dF m))=max (iT (((aT m i).take k).map (dF m))) (dF m g):=by
     unfold iT
     rw[List.map_append,List.foldl_append]
     rfl
    rw[hm]
    by_cases hgt:dF m g>iT (((aT m i).take k).map (dF m))
    ·rw[decide_eq_true hgt,Int.max_eq_right (by omega)];rfl
    ·rw[decide_eq_false hgt,Int.max_eq_left (by omega)];rfl)
   (fun rec=>by
    rw[wN]
    simp only[bB,cond_false,List.take_length]) 1001 (by omega)
  exact this
 ·unfold vR
  rw[cD (by omega) (by omega)]
  simp
 ·unfold vR
  rw[cD (by omega) (by omega)]
  simp
theorem aJZ (m:Im) (h:aFJ m):∀F,m.2.2.2.1.length<F→aA (rO m) F ((0:Int),())=some (m.2.2.2.1.all fun x=>decide (x.1.length+x.2.1.length+x.2.2.2.1.length+x.2.2.2.2.2.2.1.length≤300),()):=by
 intro F hF
 have hm:=h.1.2.2.2.1
 have key:aA (rO m) F ((0:Int),())=bif m.2.2.2.1.all (fun x=>decide (x.1.length+x.2.1.length+x.2.2.2.1.length+x.2.2.2.2.2.2.1.length≤300)) then some (true,()) else some (false,()):=by
  refine dD (st:=fun k=>((k:Int),())) (p:=fun x:Mt=>decide (x.1.length+x.2.1.length+x.2.2.2.1.length+x.2.2.2.2.2.2.1.length≤300)) (fun k x rec hk hlt=>?_) (fun rec=>?_) _ hF
  ·rw[rO]
   obtain⟨⟨l1,_⟩,⟨l2,_⟩,_,⟨l4,_⟩,_,_,⟨l7,_⟩,_⟩:=hm.2 x (List.mem_of_getElem? hk)
   simp only[lenMax] at l1 l2 l4 l7
   simp only[dlt hlt,dge,Bool.and_self,cond_true,Int.toNat_natCast,getD_some hk,aN hlt hm.1]
   rw[cD (n:=(x.1.length:Int)+(x.2.1.length:Int)) (by omega) (by omega),cD (n:=(x.1.length:Int)+(x.2.1.length:Int)+(x.2.2.2.1.length:Int)) (by omega) (by omega),cD (by omega) (by omega)]
   by_cases hc:x.1.length+x.2.1.length+x.2.2.2.1.length+x.2.2.2.2.2.2.1.length≤300
   ·have:¬((x.1.length:Int)+(x.2.1.length:Int)+(x.2.2.2.1.length:Int)+(x.2.2.2.2.2.2.1.length:Int)>300):=by omega
    simp[hc,this]
   ·have:((x.1.length:Int)+(x.2.1.length:Int)+(x.2.2.2.1.length:Int)+(x.2.2.2.2.2.2.1.length:Int)>300):=by omega
    simp[hc,this]
  ·rw[rO]
   simp only[bB,cond_false]
 rw[key]
 cases m.2.2.2.1.all (fun x=>decide (x.1.length+x.2.1.length+x.2.2.2.1.length+x.2.2.2.2.2.2.1.length≤300)) <;> rfl
theorem aOa (m:Im) (h:aFJ m):∃k,aIK k m=some (zC m,()):=by
 refine⟨m.2.2.2.1.length+1,?_⟩
 unfold aIK zC
 rw[aJZ m h _ (by omega)]
 obtain⟨⟨⟨l1,_⟩,⟨l2,_⟩,⟨l3,_⟩,⟨l4,_⟩,⟨l5,_⟩,_⟩,_⟩:=h
 simp only[lenMax] at l1 l2 l3 l4 l5
 rw[cD (n:=(m.1.length:Int)+(m.2.1.length:Int)) (by omega) (by omega),cD (n:=(m.1.length:Int)+(m.2.1.length:Int)+(m.2.2.1.length:Int)) (by omega) (by omega),
  cD (n:=(m.1.length:Int)+(m.2.1.length:Int)+(m.2.2.1.length:Int)+(m.2.2.2.1.length:Int)) (by omega) (by omega),cD (by omega) (by omega)]
 unfold aPW
 by_cases hc:m.1.length+m.2.1.length+m.2.2.1.length+m.2.2.2.1.length+m.2.2.2.2.1.length≤100
 ·have:¬((m.1.length:Int)+(m.2.1.length:Int)+(m.2.2.1.length:Int)+(m.2.2.2.1.length:Int)+(m.2.2.2.2.1.length:Int)>100):=by omega
  simp only[hc,this,decide_true,decide_false,Bool.true_and,cond_false]
 ·have:((m.1.length:Int)+(m.2.1.length:Int)+(m.2.2.1.length:Int)+(m.2.2.2.1.length:Int)+(m.2.2.2.2.1.length:Int)>100):=by omega
  simp only[hc,this,decide_true,decide_false,Bool.false_and,cond_true]
end Go.Pli

/- All of layer 13 to 16's functions. -/
