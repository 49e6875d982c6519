/- Sums: the printed functions come to what is told in plain Lean. -/
import Derived.Test.YtcofionghgmldaaGreatPliL11
import Derived.Lib.Mul64
namespace Go.Pli
open Go Go.PM
theorem aTp (n:Nat):IntKind.u64.wrap (n:Int)=((n % 18446744073709551616:Nat):Int):=by
 rw[IntKind.wrap_u64];omega
theorem aRP (n:Nat):(n:Int).fdiv 4294967296=((n/4294967296:Nat):Int):=by
 rw[Int.fdiv_eq_ediv_of_nonneg _ (by omega)];rfl
theorem aRT (n:Nat):(((BitVec.ofInt 64 (n:Int)&&&BitVec.ofInt 64 4294967295).toNat:Nat):Int)=((n % 4294967296:Nat):Int):=by
 have h1:(BitVec.ofInt 64 (n:Int)).toNat=n % 18446744073709551616:=by
  rw[BitVec.toNat_ofInt];omega
 have h2:(BitVec.ofInt 64 4294967295).toNat=2 ^ 32 - 1:=by decide
 rw[BitVec.toNat_and,h1,h2,Nat.and_two_pow_sub_one_eq_mod]
 congr 1
 omega
theorem aSE (x y:Int) (r) (h:aCR x y=some r):aPP x y=some r:=by
 unfold aCR at h
 cases hb:inU x&&inU y <;> simp only[hb,cond_true,cond_false] at h
 ·cases h
 injection h with h
 subst h
 simp only[inU,Bool.and_eq_true,decide_eq_true_eq] at hb
 obtain⟨⟨x0,x1⟩,y0,y1⟩:=hb
 obtain⟨a,rfl⟩:∃a:Nat,x=a:=⟨x.toNat,by omega⟩
 obtain⟨b,rfl⟩:∃b:Nat,y=b:=⟨y.toNat,by omega⟩
 have ha:a<18446744073709551616:=by omega
 have hb:b<18446744073709551616:=by omega
 obtain⟨h1,h2,h3,h4⟩:=Lib.mul64_hi a b ha hb
 have ma:a % 4294967296 % 18446744073709551616=a % 4294967296:=Nat.mod_eq_of_lt (by omega)
 have mb:b % 4294967296 % 18446744073709551616=b % 4294967296:=Nat.mod_eq_of_lt (by omega)
 unfold aPP
 simp only[aRP,aRT,aTp,←Int.natCast_mul,←Int.natCast_add,ma,mb]
 have e1:a % 4294967296*(b % 4294967296) % 18446744073709551616=a % 4294967296*(b % 4294967296):=Nat.mod_eq_of_lt h1
 simp only[e1]
 have p1:=Lib.half_mul_le (a:=a/4294967296) (b:=b % 4294967296) (by omega) (by omega)
 have e2:a/4294967296*(b % 4294967296) % 18446744073709551616=a/4294967296*(b % 4294967296):=Nat.mod_eq_of_lt (by omega)
 simp only[e2]
 have e3:=Nat.mod_eq_of_lt h2
 simp only[e3]
 have p2:=Lib.half_mul_le (a:=a % 4294967296) (b:=b/4294967296) (by omega) (by omega)
 have e4:a % 4294967296*(b/4294967296) % 18446744073709551616=a % 4294967296*(b/4294967296):=Nat.mod_eq_of_lt (by omega)
 have e5:∀t:Nat,t % 4294967296 % 18446744073709551616=t % 4294967296:=fun t=>Nat.mod_eq_of_lt (by omega)
 simp only[e4,e5]
 have e6:=Nat.mod_eq_of_lt h3
 simp only[e6]
 have p3:=Lib.half_mul_le (a:=a/4294967296) (b:=b/4294967296) (by omega) (by omega)
 have e7:a/4294967296*(b/4294967296) % 18446744073709551616=a/4294967296*(b/4294967296):=Nat.mod_eq_of_lt (by omega)
 simp only[e7]
 have hq:a*b/18446744073709551616<18446744073709551616:=by
  have:=Nat.mul_le_mul (show a≤18446744073709551615 by omega) (show b≤18446744073709551615 by omega)
  omega
 have e8:(a/4294967296*(b/4294967296)+(a/4294967296*(b % 4294967296)+a % 4294967296*(b % 4294967296)/4294967296)/4294967296) % 18446744073709551616=a/4294967296*(b/4294967296)+(a/4294967296*(b % 4294967296)+a % 4294967296*(b % 4294967296)/4294967296)/4294967296:=Nat.mod_eq_of_lt (by omega)
 simp only[e8,h4]
 rw[Nat.mod_eq_of_lt hq]
 rfl
theorem aUB (n:Int):aUu n=some (lof n,()):=by
 unfold aUu lof
 cases decide (n> -4611686018427387904) <;> rfl
theorem aRf (n:Int):aPB n=some (dH n,()):=by
 unfold aPB dH
 cases decide (n<0) <;> rfl
theorem aRA (a b:Sure) (r) (h:aFn a b=some r):aOH a b=some r:=by
 rw[←h]
 unfold aOH aFn aCu
 cases a.2.1 <;> cases b.2.1 <;> rfl
theorem aKg (n:Int):inU (dH n)=true:=by
 unfold dH inU
 cases decide (n<0) <;> simp only[cond_true,cond_false,Bool.and_eq_true,decide_eq_true_eq,IntKind.wrap_u64] <;> omega
theorem aPs (a b:Sure) (r) (h:aCf a b=some r):aMG a b=some r:=by
 rw[←h]
 have hm:aCR (dH a.1) (dH b.1)=some (dH a.1*dH b.1/18446744073709551616,dH a.1*dH b.1 % 18446744073709551616,()):=by
  unfold aCR;rw[aKg,aKg];rfl
 unfold aMG aCf zB
 rw[hm]
 generalize dH a.1*dH b.1/18446744073709551616=u
 generalize dH a.1*dH b.1 % 18446744073709551616=v
 cases a.2.1 <;> cases b.2.1 <;> simp only[Bool.not_true,Bool.not_false,Bool.and_self,Bool.and_true,Bool.and_false,cond_true,cond_false,Option.bind_some]
 by_cases hu:u=0
 ·have:(u !=0)=false:=by simp[hu]
  simp only[hu,ne_eq,not_true_eq_false,decide_false,Bool.false_or]
  cases decide (v≥4611686018427387904) <;> rfl
 ·have:(u !=0)=true:=by simp[hu]
  simp only[this,hu,ne_eq,not_false_eq_true,decide_true,Bool.true_or,cond_true]
theorem aHf (p:Int×Int):∀(l:List (Int×Int)) (a:Sure),vB (l++[p]) a=aCu (vB l a) (zB (lof p.1) (lof p.2))
 | [],_=>rfl
 | _::l,_=>aHf p l _
theorem aPh (q:Iq) (v:List Int) (r) (h:zA q v=some r):∃k,aLA k q v=some r:=by
 unfold zA at h
 cases hb:okL q.1 <;> simp only[hb,cond_true,cond_false] at h
 ·cases h
 injection h with h
 subst h
 have hl:=fC hb
 refine⟨q.1.length+1,?_⟩
 unfold aLA mC
 by_cases he:q.1.length=v.length
 ·have e1:((q.1.length:Int) !=(v.length:Int))=false:=by rw[he];simp
  have e2:decide (q.1.length≠v.length)=false:=by simp[he]
  simp only[e1,e2,cond_false]
  have:=fB (L:=aAD q v) (n:=q.1.length) (st:=fun k=>((k:Int),vB ((q.1.zip v).take k) (lof 0),())) (fin:=some (aFy q.2.1 (vB (q.1.zip v) (lof 0))))
   (fun k rec hk=>by
    have hv:k<v.length:=by omega
    have hz:(q.1.zip v)[k]? =some (q.1.getD k 0,v.getD k 0):=by
     rw[List.getElem?_eq_getElem (show k<(q.1.zip v).length by rw[List.length_zip];omega)]
     simp[hk,hv]
    rw[aAD]
    simp only[dlt hk,dlt hv,dge,Bool.and_self,cond_true,Int.toNat_natCast,aL hk (show _≤lenMax by simp only[lenMax];omega),aCf,aFn,Option.bind_some]
    rw[List.take_add_one,hz]
    show _=rec (_,vB ((q.1.zip v).take k++[(q.1.getD k 0,v.getD k 0)]) (lof 0),())
    rw[aHf])
   (fun rec=>by
    have:(q.1.zip v).take q.1.length=q.1.zip v:=List.take_of_length_le (by rw[List.length_zip];omega)
    rw[aAD]
    simp only[aW,cond_false,this,aFy]
    cases (vB (q.1.zip v) (lof 0)).2.1 <;> rfl) (q.1.length+1) (by omega)
  exact this
 ·have e1:((q.1.length:Int) !=(v.length:Int))=true:=by simp;omega
  have e2:decide (q.1.length≠v.length)=true:=by simp[he]
  simp only[e1,e2,cond_true]
end Go.Pli

namespace Go.Pli
open Go Go.PM
theorem aPg (l:List (List Sh)) (f pc:Int) (r) (h:yE l f pc=some r):aL7 l f pc=some r:=by
 unfold yE at h
 cases hb:decide (0≤f)&&decide (0≤pc) <;> simp only[hb,cond_true,cond_false] at h
 ·cases h
 injection h with h
 subst h
 simp only[Bool.and_eq_true,decide_eq_true_eq] at hb
 unfold aL7 bZ
 by_cases h1:f≥(l.length:Int)
 ·have e:l.getD f.toNat []=[]:=dK (by omega)
  simp only[h1,decide_true,cond_true,e]
  rfl
 ·have h1':f<(l.length:Int):=by omega
  simp only[h1,h1',hb.1,decide_true,decide_false,Bool.and_self,cond_true,cond_false]
  by_cases h2:pc≥((l.getD f.toNat []).length:Int)
  ·have e:(l.getD f.toNat []).getD pc.toNat zSh=zSh:=dK (by omega)
   simp only[h2,decide_true,cond_true,e]
  ·have h2':pc<((l.getD f.toNat []).length:Int):=by omega
   simp only[h2,h2',hb.2,decide_true,decide_false,Bool.and_self,cond_true,cond_false]
theorem aRp (m:Im) (i:Ins) (r) (h:aCW m i=some r):∃k,aOe k m i=some r:=by
 unfold aCW at h
 cases hi:bD m <;> simp only[hi,cond_true,cond_false] at h
 ·cases h
 injection h with h
 subst h
 have htl:=jV hi i
 have h12:=(bC hi).methods
 have hfl:=qS hi i.2.1
 have ht:kF m i=some (aS m i,()):=by unfold kF;rw[hi];rfl
 refine⟨1001,?_⟩
 have hc:aCz m i.2.1=some (wX m i.2.1,()):=by unfold aCz;rw[hi];rfl
 unfold aOe qR
 rw[hc,ht]
 cases i.1==22 <;> cases i.1==23 <;> simp only[cond_true,cond_false,Option.bind_some]
 have:=fB (L:=aCY m (aS m i,())) (n:=(aS m i).length) (st:=fun k=>(iN ((((aS m i).take k).filter (inM m)).map (dD m)),(k:Int),())) (fin:=some (iN (((aS m i).filter (inM m)).map (dD m)),()))
  (fun k rec hk=>by
   have hw:=aL hk (show _≤lenMax by simp only[lenMax];omega)
   have hx:(aS m i)[k]? =some (aS m i)[k]:=List.getElem?_eq_getElem hk
   have fold:∀g:Int,m.2.2.2.1.getD g.toNat zMt=aC m g:=fun _=>rfl
   rw[aCY]
   simp only[dlt hk,dge,Bool.and_self,cond_true,Int.toNat_natCast,getD_some hx,hw,fold]
   rw[List.take_add_one,hx]
   generalize (aS m i)[k]=g
   by_cases h0:g≥0
   ·by_cases h1:g<(m.2.2.2.1.length:Int)
    ·have hin:inM m g=true:=aP.2 ⟨h0,h1⟩
     have h0':0≤g:=h0
     simp only[h0,h1,decide_true,Bool.and_self,cond_true,Option.toList_some,List.filter_append,List.filter_cons,List.filter_nil,hin,if_true,List.map_append,List.map_cons,List.map_nil]
     unfold iN
     rw[List.foldl_append]
     rfl
    ·have hin:inM m g=false:=by
      cases hh:inM m g
      ·rfl
      ·exact absurd (aP.1 hh).2 h1
     simp only[h0,h1,decide_true,decide_false,cond_true,cond_false,Option.toList_some,List.filter_append,List.filter_cons,List.filter_nil,hin,Bool.false_eq_true,if_false,List.append_nil]
   ·have hin:inM m g=false:=by
     cases hh:inM m g
     ·rfl
     ·exact absurd (aP.1 hh).1 h0
    simp only[h0,decide_false,cond_false,Option.toList_some,List.filter_append,List.filter_cons,List.filter_nil,hin,Bool.false_eq_true,if_false,List.append_nil])
  (fun rec=>by
   rw[aCY]
   simp only[aW,cond_false,List.take_length]) 1001 (by omega)
 exact this
theorem aGp {n a b c:Int} (h0:0≤n) (h1:n<1000000) (ha:a<n) (hb:b<n):aBQ n a b c=some (eO n a b c,()):=by
 unfold aBQ
 rw[decide_eq_true h0,decide_eq_true ha,decide_eq_true hb,aOY (show n.toNat<1000000 by omega)]
 rfl
theorem aS0 (n a b c:Int) (r) (h:aBQ n a b c=some r):aST n a b c=some r:=by
 unfold aBQ at h
 cases hh:decide (0≤n)&&(Nat.blt n.toNat 1000000&&(decide (a<n)&&decide (b<n))) <;> simp only[hh,cond_true,cond_false] at h
 ·cases h
 injection h with h
 subst h
 simp only[Bool.and_eq_true,decide_eq_true_eq,Nat.blt_eq] at hh
 obtain⟨n0,n1,an,bn⟩:=hh
 have e0:decide (n≤n)=true:=decide_eq_true (by omega)
 have e1:decide (n<(rowMax:Int))=true:=decide_eq_true (by simp only[rowMax];omega)
 have en:((n.toNat:Nat):Int)=n:=by omega
 unfold aST eO lO
 simp only[n0,e0,e1,decide_true,Bool.and_self,cond_true,List.length_set,List.length_replicate,en,an,bn,Bool.and_true]
 by_cases ha:a≥0 <;> by_cases hb:b≥0
 ·have ha':0≤a:=ha
  have hb':0≤b:=hb
  simp only[ha,hb,decide_true,cond_true]
  rfl
 ·have ha':0≤a:=ha
  simp only[ha,hb,decide_true,decide_false,cond_true,cond_false]
  rfl
 ·have hb':0≤b:=hb
  simp only[ha,hb,decide_true,decide_false,cond_true,cond_false]
 ·simp only[ha,hb,decide_false,cond_false]
theorem aLm (l:List Int) (c:Unit) (h:aLj l c):∃k,aQt k l c=some (zP l c,()):=by
 refine⟨l.length+1,iZ (st:=fun k=>((k:Int),())) (p:=zU) (fun k x rec hk hlt=>?_) (fun rec=>?_) _ (Nat.lt_succ_self _)⟩
 ·unfold zZ
  simp only[dlt hlt,dge,Bool.and_self,cond_true,Int.toNat_natCast,getD_some hk,aL hlt h.1.1]
  rfl
 ·unfold zZ
  simp only[aW,cond_false]
theorem aGH (l:List Int) (c:Unit) (_:aF4 l c):aBn l c=some (mY l c,()):=by
 unfold aBn zP mY
 rw[gY]
theorem aEI (m:Im) (l:List (List Sh)) (f pc:Int):(kU m l f pc).length≤3:=by
 have h2:(aM m f pc (bZ l f pc).2.1).2.1.length≤2:=pS ..
 unfold kU
 cases !(bZ l f pc).1 <;> simp only[cond_true,cond_false]
 ·cases (aM m f pc (bZ l f pc).2.1).2.2.1 !=0 <;> simp only[cond_true,cond_false]
  ·rw[List.length_append,List.length_map]
   cases decide ((aM m f pc (bZ l f pc).2.1).2.1.length=0) <;> simp only[cond_true,cond_false,List.length_cons,List.length_nil] <;> omega
  ·simp
 ·simp
theorem aRz {l:List (List Sh)} (h:dM l=true) (f pc:Int):okL (bZ l f pc).2.1=true:=by
 unfold bZ
 by_cases h1:f.toNat<l.length
 ·obtain⟨-,h2⟩:=pP h h1
  by_cases h3:pc.toNat<(l.getD f.toNat []).length
  ·rw[getD_some (List.getElem?_eq_getElem h3)]
   exact eA (h2 _ (List.getElem_mem h3))
  ·rw[dK (by omega)];rfl
 ·rw[dK (show l.length≤f.toNat by omega)];rfl
theorem aKu {m:Im} (hs:aF m=true) {f:Int} (hf:inM m f=true) {k:Nat} (hk:k<aB m f) {S:St4} (h2:S.2.1.length≤2) (hto:∀to∈S.2.1,0≤to∧to<(aB m f:Int)) {o:List Iq} {rec:(List Iq×Int×Unit)→Option (List Iq×Unit)} {F:Nat} (hF:1000<F) (pre:List Iq) (hpre:pre.length<1000000):
  aA (uO m f S (o,(k:Int),()) rec) F (pre,(0:Int),())=rec (pre++S.2.1.map (fun to=>eO (aB m f:Int) (k:Int) to (IntKind.i64.wrap (0 - qR m (aH m f (k:Int))))),((k+1:Nat):Int),()):=by
 have hc:=cM hs hf
 have hw:=aL hk (show _≤lenMax by simp only[lenMax];omega)
 have fold:∀g:Int,m.2.2.2.1.getD g.toNat zMt=aC m g:=fun _=>rfl
 have fold3:(aC m f).2.2.2.1.length=aB m f:=rfl
 have fold2:(aC m f).2.2.2.1.getD k dJ=aH m f (k:Int):=rfl
 have hcost:aCW m (aH m f (k:Int))=some (qR m (aH m f (k:Int)),()):=by unfold aCW;rw[(aU hs).1];rfl
 generalize hR:S.2.1.map (fun to=>eO (aB m f:Int) (k:Int) to (IntKind.i64.wrap (0 - qR m (aH m f (k:Int)))))=R
 have hRl:R.length=S.2.1.length:=by rw[←hR,List.length_map]
 have:=fB (L:=uO m f S (o,(k:Int),()) rec) (n:=S.2.1.length) (st:=fun j=>(pre++R.take j,(j:Int),()))
  (fin:=rec (pre++R,((k+1:Nat):Int),()))
  (fun j rec2 hj=>by
   have hx:S.2.1[j]? =some S.2.1[j]:=List.getElem?_eq_getElem hj
   obtain⟨t0,t1⟩:=hto _ (List.getElem_mem hj)
   have hxR:R[j]? =some (eO (aB m f:Int) (k:Int) S.2.1[j] (IntKind.i64.wrap (0 - qR m (aH m f (k:Int))))):=by
    rw[←hR,List.getElem?_map,hx]
    rfl
   have hroom:decide ((pre++R.take j).length+(0+1)<rowMax)=true:=iH (by rw[List.length_append,List.length_take];omega)
   rw[uO]
   simp only[fold,fold3,Int.toNat_natCast,fold2,dlt hj,dge,Bool.and_self,cond_true,getD_some hx]
   rw[hcost,Option.bind_some,aGp (by omega) (by omega) (by omega) (by omega),Option.bind_some]
   simp only[List.length_cons,List.length_nil,hroom,cond_true,aL hj (show _≤lenMax by simp only[lenMax];omega)]
   rw[List.take_add_one,hxR,List.append_assoc]
   rfl)
  (fun rec2=>by
   rw[uO]
   simp only[aW,cond_false,hw]
   rw[List.take_of_length_le (by omega)]) F (by omega)
 rw[List.take_zero,List.append_nil] at this
 exact this
theorem aPq (m:Im) (l:List (List Sh)) (f:Int) (r) (h:yJ m l f=some r):∃k,aL0 k m l f=some r:=by
 unfold yJ at h
 cases hb:aF m&&dM l <;> simp only[hb,cond_true,cond_false] at h
 ·cases h
 injection h with h
 subst h
 simp only[Bool.and_eq_true] at hb
 obtain⟨hs,hl⟩:=hb
 obtain⟨F,hF⟩:∃F:Nat,1000<F:=⟨1001,by omega⟩
 refine⟨F,?_⟩
 have fold:∀g:Int,m.2.2.2.1.getD g.toNat zMt=aC m g:=fun _=>rfl
 have fold3:(aC m f).2.2.2.1.length=aB m f:=rfl
 have fold4:(aC m f).2.2.2.2.2.1=dD m f:=rfl
 unfold aL0 jW
 simp only[fold,fold3,fold4]
 cases hf:inM m f
 ·simp only[cond_false]
  have:¬(0≤f∧f<(m.2.2.2.1.length:Int)):=fun hh=>by rw[aP.2 hh] at hf;cases hf
  by_cases h0:f<0
  ·simp only[h0,decide_true,cond_true]
  ·have h1:f≥(m.2.2.2.1.length:Int):=by omega
   simp only[h0,h1,decide_true,decide_false,cond_true,cond_false]
 obtain⟨f0,f1⟩:=aP.1 hf
 have f2:¬f<0:=by omega
 have f3:¬f≥(m.2.2.2.1.length:Int):=by omega
 have hc:=cM hs hf
 have hc0:((aB m f:Int)==0)=false:=beq_eq_false_iff_ne.2 (by omega)
 rw[decide_eq_false f2,cond_false,decide_eq_false f3,cond_false,decide_eq_true f0,decide_eq_true f1,Bool.and_self,cond_true,hc0,cond_false,cond_true,cond_true,cond_true]
 rw[aGp (by omega) (by omega) (by omega) (by omega),Option.bind_some]
 have:=lW (L:=zL m l f F) (n:=aB m f) (B:=3) (st:=fun k out=>(eO (aB m f:Int) (-1) 0 (dD m f)::out,(k:Int),())) (f:=fun k=>kU m l f (k:Int)) (fin:=fun out=>some (eO (aB m f:Int) (-1) 0 (dD m f)::out,()))
  (fun k _=>aEI ..)
  (fun k out rec hk ho=>by
   have hw:=aL hk (show _≤lenMax by simp only[lenMax];omega)
   have hp:yE l f (k:Int)=some (bZ l f (k:Int),()):=by unfold yE;simp only[f0,dge,decide_true,Bool.and_self,cond_true]
   have hst:sQ m f (k:Int) (bZ l f (k:Int)).2.1=some (aM m f (k:Int) (bZ l f (k:Int)).2.1):=by unfold sQ;rw[hs,aRz hl];rfl
   have fold2:(aC m f).2.2.2.1.getD k dJ=aH m f (k:Int):=rfl
   have d1:decide ((k:Int)<(((aC m f).2.2.2.1.length:Nat):Int))=true:=dlt hk
   rw[zL]
   dsimp only
   rw[fold,d1,cond_true,dge,Bool.and_true,cond_true,hp,Option.bind_some]
   dsimp only
   cases h1:(bZ l f (k:Int)).1
   case false=>
    rw[Bool.not_false,cond_true,hw]
    simp only[kU,h1,Bool.not_false,cond_true,List.append_nil]
   rw[Bool.not_true,cond_false,hst,Option.bind_some]
   have h2:(aM m f (k:Int) (bZ l f (k:Int)).2.1).2.1.length≤2:=pS ..
   cases h3:(aM m f (k:Int) (bZ l f (k:Int)).2.1).2.2.1 !=0
   case true=>
    rw[cond_true,hw]
    simp only[kU,h1,h3,Bool.not_true,cond_false,cond_true,List.append_nil]
   obtain⟨-,-,-,hto⟩:=eZ hs (f:=f) (pc:=(k:Int)) (s:=(bZ l f (k:Int)).2.1) (by simpa using h3)
   rw[cond_false]
   have hrule:kU m l f (k:Int)=(bif decide ((aM m f (k:Int) (bZ l f (k:Int)).2.1).2.1.length=0) then[eO (aB m f:Int) (k:Int) (-1) 0] else[])++(aM m f (k:Int) (bZ l f (k:Int)).2.1).2.1.map fun to=>eO (aB m f:Int) (k:Int) to (IntKind.i64.wrap (0 - qR m (aH m f (k:Int)))):=by simp only[kU,h1,h3,Bool.not_true,cond_false]
   rw[hrule]
   generalize hS:aM m f (k:Int) (bZ l f (k:Int)).2.1=S at h2 h3 hto
   have inner:=aKu hs hf hk h2 hto (o:=eO (aB m f:Int) (-1) 0 (dD m f)::out) (rec:=rec) hF
   by_cases h0:S.2.1.length=0
   ·have e1:((S.2.1.length:Int)==0)=true:=by rw[h0];rfl
    have e2:decide (S.2.1.length=0)=true:=decide_eq_true h0
    have hroom:decide ((eO (aB m f:Int) (-1) 0 (dD m f)::out).length+(0+1)<rowMax)=true:=iH (by simp only[List.length_cons];omega)
    rw[e1,e2,cond_true,cond_true]
    rw[fold3,aGp (by omega) (by omega) (by omega) (by omega),Option.bind_some]
    have e3:∀q:Iq,([q]:List Iq).length=0+1:=fun _=>rfl
    rw[e3,hroom,cond_true,Option.bind_some]
    refine (inner (eO (aB m f:Int) (-1) 0 (dD m f)::out++[eO (aB m f:Int) (k:Int) (-1) 0]) (by rw[List.length_append,List.length_cons,List.length_cons,List.length_nil];omega)).trans ?_
    rw[List.append_assoc,List.cons_append]
   ·have e1:((S.2.1.length:Int)==0)=false:=beq_eq_false_iff_ne.2 (by omega)
    have e2:decide (S.2.1.length=0)=false:=decide_eq_false h0
    rw[e1,e2,cond_false,cond_false,Option.bind_some]
    refine (inner (eO (aB m f:Int) (-1) 0 (dD m f)::out) (by rw[List.length_cons];omega)).trans ?_
    rw[List.cons_append,List.nil_append])
  (fun out rec _=>by
   rw[zL]
   simp only[fold,fold3,aW,cond_false,idL]) F (by omega)
 exact this
theorem aM1 {m:Im} (hs:aF m=true) (l:List (List Sh)) (f:Int):(jW m l f).length≤1000:=by
 unfold jW
 cases hf:inM m f <;> simp only[cond_true,cond_false]
 ·simp
 have hc:=cM hs hf
 have key:∀n:Nat,(((List.range n).map fun k:Nat=>kU m l f (k:Int)).flatten).length≤3*n:=by
  intro n
  induction n with
  | zero=>simp
  | succ n ih=>
   have:=aEI m l f (n:Int)
   rw[List.range_succ,List.map_append,List.flatten_append,List.length_append]
   simp only[List.map_cons,List.map_nil,List.flatten_cons,List.flatten_nil,List.append_nil]
   omega
 have:=key (aB m f)
 rw[List.length_cons]
 omega
theorem aK3 {m:Im} (l:List (List Sh)) (f:Int):∀q∈jW m l f,q.1.length=aB m f:=by
 have hr:∀a b c:Int,(eO (aB m f:Int) a b c).1.length=aB m f:=by
  intro a b c
  unfold eO lO
  cases decide (a≥0) <;> cases decide (b≥0) <;> simp
 intro q hq
 unfold jW at hq
 cases hf:inM m f <;> simp only[hf,cond_true,cond_false] at hq
 ·cases hq
 rcases List.mem_cons.1 hq with rfl | hq
 ·exact hr ..
 simp only[List.mem_flatten,List.mem_map] at hq
 obtain⟨x,⟨k,-,rfl⟩,hq⟩:=hq
 unfold kU at hq
 cases h1: !(bZ l f (k:Int)).1 <;> simp only[h1,cond_true,cond_false] at hq
 ·cases h2:(aM m f (k:Int) (bZ l f (k:Int)).2.1).2.2.1 !=0 <;> simp only[h2,cond_true,cond_false] at hq
  ·rw[List.mem_append] at hq
   rcases hq with hq | hq
   ·cases h3:decide ((aM m f (k:Int) (bZ l f (k:Int)).2.1).2.1.length=0) <;> simp only[h3,cond_true,cond_false] at hq
    ·cases hq
    ·rw[List.mem_singleton] at hq;subst hq;exact hr ..
   ·obtain⟨t,-,rfl⟩:=List.mem_map.1 hq
    exact hr ..
  ·cases hq
 ·cases hq
theorem aDB {m:Im} {l:List (List Sh)} (hs:aF m=true) (hl:dM l=true):∀(j k F:Nat),k+j=m.2.2.2.1.length→j<F→aA (qM m l 1001) F ((k:Int),())=some (xC m l ((List.range' k j).map fun n:Nat=>(n:Int)))
 | 0,k,F,hk,hF=>by
  obtain⟨F,rfl⟩:∃n,F=n+1:=⟨F - 1,by omega⟩
  have:k=m.2.2.2.1.length:=by omega
  subst this
  rw[aD,qM]
  simp only[aW,cond_false]
  rfl
 | j+1,k,F,hk,hF=>by
  obtain⟨F,rfl⟩:∃n,F=n+1:=⟨F - 1,by omega⟩
  have h12:=(bC (aU hs).1).methods
  have hlt:k<m.2.2.2.1.length:=by omega
  have hin:inM m (k:Int)=true:=aP.2 ⟨by omega,by omega⟩
  have hc:=cM hs hin
  have hw:=aL hlt (show _≤lenMax by simp only[lenMax];omega)
  have fold:∀g:Nat,m.2.2.2.1.getD g zMt=aC m (g:Int):=fun _=>rfl
  have fold4:(aC m (k:Int)).2.2.2.2.2.2.1=cX m (k:Int):=rfl
  have hr:yJ m l (k:Int)=some (jW m l (k:Int),()):=by unfold yJ;rw[hs,hl];rfl
  have hrl:=aM1 hs l (k:Int)
  rw[aD,qM]
  simp only[dlt hlt,dge,Bool.and_self,cond_true,hr,Option.bind_some]
  have key:=dB (L:=aAv m ((k:Int),()) (aA (qM m l 1001) F) (jW m l (k:Int),())) (xs:=jW m l (k:Int)) (st:=fun j=>((j:Int),())) (p:=qT m (k:Int)) (ex:=some ((k:Int),6,())) (fin:=bif (cX m (k:Int)).any zU then some ((k:Int),6,()) else aA (qM m l 1001) F (((k+1:Nat):Int),()))
   (fun j q rec hj hjl=>by
    have hh:zA q (cX m (k:Int))=some (mC q (cX m (k:Int))):=by
     have:=aK3 (m:=m) l (k:Int) q (List.mem_of_getElem? hj)
     unfold zA;rw[eA (by omega)];rfl
    rw[aAv]
    simp only[dlt hjl,dge,Bool.and_self,cond_true,Int.toNat_natCast,getD_some hj,fold,fold4,hh,Option.bind_some,aL hjl (show _≤lenMax by simp only[lenMax];omega),qT]
    by_cases he:(mC q (cX m (k:Int))).2.1=0
    ·have:((mC q (cX m (k:Int))).2.1 !=0)=false:=by simp[he]
     simp only[he,decide_true,Bool.true_and]
     cases (mC q (cX m (k:Int))).1 <;> rfl
    ·have:((mC q (cX m (k:Int))).2.1 !=0)=true:=by simp[he]
     simp only[this,he,decide_false,Bool.false_and,cond_true,cond_false])
   (fun rec=>by
    rw[aAv]
    simp only[aW,cond_false,Int.toNat_natCast,fold,fold4,mY,hw]) 1001 (by omega)
  refine key.trans ?_
  rw[List.range'_succ,List.map_cons,xC]
  cases (jW m l (k:Int)).all (qT m (k:Int)) <;> simp only[cond_true,cond_false]
  cases (cX m (k:Int)).any zU <;> simp only[cond_true,cond_false]
  exact aDB hs hl j (k+1) F (by omega) (by omega)
theorem aO3 (m:Im) (l:List (List Sh)) (r) (h:rT m l=some r):∃k,aMm k m l=some r:=by
 unfold rT at h
 cases hb:aF m&&dM l <;> simp only[hb,cond_true,cond_false] at h
 ·cases h
 injection h with h
 subst h
 simp only[Bool.and_eq_true] at hb
 have h12:=(bC (aU hb.1).1).methods
 refine⟨1001,?_⟩
 unfold aMm
 rw[show ints m.2.2.2.1.length=(List.range' 0 m.2.2.2.1.length).map fun n:Nat=>(n:Int) by rw[←List.range_eq_range'];rfl]
 exact aDB hb.1 hb.2 m.2.2.2.1.length 0 1001 (by omega) (by omega)
theorem aMS (m:Im) (i:Ins) (r) (h:qK m i=some r):∃k,aIz k m i=some r:=by
 unfold qK at h
 cases hb:bD m&&(aS m i).all (inM m) <;> simp only[hb,cond_true,cond_false] at h
 ·cases h
 injection h with h
 subst h
 simp only[Bool.and_eq_true,List.all_eq_true] at hb
 obtain⟨hi,hin⟩:=hb
 have htl:=jV hi i
 have h12:=(bC hi).methods
 have hfl:=qS hi i.2.1
 have ht:iV m i=some (aS m i,()):=by unfold iV;rw[hi];rfl
 have hc:eQ m i.2.1=some (cD m i.2.1,()):=by unfold eQ;rw[hi];rfl
 refine⟨1001,?_⟩
 unfold aIz gK
 rw[hc,ht]
 cases i.1==22 <;> cases i.1==23 <;> simp only[cond_true,cond_false,Option.bind_some]
 ·have:=fB (L:=vU m (aS m i,())) (n:=(aS m i).length) (st:=fun k=>(iN (((aS m i).take k).map (dD m)),(k:Int),())) (fin:=some (iN ((aS m i).map (dD m)),()))
   (fun k rec hk=>by
    have hw:=aL hk (show _≤lenMax by simp only[lenMax];omega)
    have hx:(aS m i)[k]? =some (aS m i)[k]:=List.getElem?_eq_getElem hk
    obtain⟨g0,g1⟩:=aP.1 (hin _ (List.getElem_mem hk))
    have fold:∀g:Int,m.2.2.2.1.getD g.toNat zMt=aC m g:=fun _=>rfl
    have fold4:∀g,(aC m g).2.2.2.2.2.1=dD m g:=fun _=>rfl
    rw[vU]
    simp only[dlt hk,dge,Bool.and_self,cond_true,Int.toNat_natCast,getD_some hx,hw,fold,fold4,g0,g1,decide_true]
    rw[List.take_add_one,hx]
    generalize (aS m i)[k]=g
    have hm:iN (((aS m i).take k++(some g).toList).map (dD m))=max (iN (((aS m i).take k).map (dD m))) (dD m g):=by
     unfold iN
     rw[List.map_append,List.foldl_append]
     rfl
    rw[hm]
    by_cases hgt:dD m g>iN (((aS m i).take k).map (dD m))
    ·rw[decide_eq_true hgt,Int.max_eq_right (by omega)];rfl
    ·rw[decide_eq_false hgt,Int.max_eq_left (by omega)];rfl)
   (fun rec=>by
    rw[vU]
    simp only[aW,cond_false,List.take_length]) 1001 (by omega)
  exact this
 ·unfold wX
  rw[cC (by omega) (by omega)]
  simp
 ·unfold wX
  rw[cC (by omega) (by omega)]
  simp
theorem aKe (m:Im) (h:aEu m):∀F,m.2.2.2.1.length<F→aA (rO m) F ((0:Int),())=some (m.2.2.2.1.all fun x=>decide (x.1.length+x.2.1.length+x.2.2.2.1.length+x.2.2.2.2.2.2.1.length≤300),()):=by
 intro F hF
 have hm:=h.1.2.2.2.1
 have key:aA (rO m) F ((0:Int),())=bif m.2.2.2.1.all (fun x=>decide (x.1.length+x.2.1.length+x.2.2.2.1.length+x.2.2.2.2.2.2.1.length≤300)) then some (true,()) else some (false,()):=by
  refine dB (st:=fun k=>((k:Int),())) (p:=fun x:Mt=>decide (x.1.length+x.2.1.length+x.2.2.2.1.length+x.2.2.2.2.2.2.1.length≤300)) (fun k x rec hk hlt=>?_) (fun rec=>?_) _ hF
  ·rw[rO]
   obtain⟨⟨l1,_⟩,⟨l2,_⟩,_,⟨l4,_⟩,_,_,⟨l7,_⟩,_⟩:=hm.2 x (List.mem_of_getElem? hk)
   simp only[lenMax] at l1 l2 l4 l7
   simp only[dlt hlt,dge,Bool.and_self,cond_true,Int.toNat_natCast,getD_some hk,aL hlt hm.1]
   rw[cC (n:=(x.1.length:Int)+(x.2.1.length:Int)) (by omega) (by omega),cC (n:=(x.1.length:Int)+(x.2.1.length:Int)+(x.2.2.2.1.length:Int)) (by omega) (by omega),cC (by omega) (by omega)]
   by_cases hc:x.1.length+x.2.1.length+x.2.2.2.1.length+x.2.2.2.2.2.2.1.length≤300
   ·have:¬((x.1.length:Int)+(x.2.1.length:Int)+(x.2.2.2.1.length:Int)+(x.2.2.2.2.2.2.1.length:Int)>300):=by omega
    simp[hc,this]
   ·have:((x.1.length:Int)+(x.2.1.length:Int)+(x.2.2.2.1.length:Int)+(x.2.2.2.2.2.2.1.length:Int)>300):=by omega
    simp[hc,this]
  ·rw[rO]
   simp only[aW,cond_false]
 rw[key]
 cases m.2.2.2.1.all (fun x=>decide (x.1.length+x.2.1.length+x.2.2.2.1.length+x.2.2.2.2.2.2.1.length≤300)) <;> rfl
theorem aMU (m:Im) (h:aEu m):∃k,aKp k m=some (yD m,()):=by
 refine⟨m.2.2.2.1.length+1,?_⟩
 unfold aKp yD
 rw[aKe m h _ (by omega)]
 obtain⟨⟨⟨l1,_⟩,⟨l2,_⟩,⟨l3,_⟩,⟨l4,_⟩,⟨l5,_⟩,_⟩,_⟩:=h
 simp only[lenMax] at l1 l2 l3 l4 l5
 rw[cC (n:=(m.1.length:Int)+(m.2.1.length:Int)) (by omega) (by omega),cC (n:=(m.1.length:Int)+(m.2.1.length:Int)+(m.2.2.1.length:Int)) (by omega) (by omega),
  cC (n:=(m.1.length:Int)+(m.2.1.length:Int)+(m.2.2.1.length:Int)+(m.2.2.2.1.length:Int)) (by omega) (by omega),cC (by omega) (by omega)]
 unfold aQc
 by_cases hc:m.1.length+m.2.1.length+m.2.2.1.length+m.2.2.2.1.length+m.2.2.2.2.1.length≤100
 ·have:¬((m.1.length:Int)+(m.2.1.length:Int)+(m.2.2.1.length:Int)+(m.2.2.2.1.length:Int)+(m.2.2.2.2.1.length:Int)>100):=by omega
  simp only[hc,this,decide_true,decide_false,Bool.true_and,cond_false]
 ·have:((m.1.length:Int)+(m.2.1.length:Int)+(m.2.2.1.length:Int)+(m.2.2.2.1.length:Int)+(m.2.2.2.2.1.length:Int)>100):=by omega
  simp only[hc,this,decide_true,decide_false,Bool.false_and,cond_true]
theorem aQd (a b:List (List Sh)) (r) (h:yH a b=some r):∃k,aMx k a b=some r:=by
 unfold yH at h
 cases hb:dM a&&dM b <;> simp only[hb,cond_true,cond_false] at h
 ·cases h
 injection h with h
 subst h
 simp only[Bool.and_eq_true] at hb
 obtain⟨ha,hb⟩:=hb
 have hal:a.length<1000000:=fC (by simp only[dM,Bool.and_eq_true] at ha;exact ha.1)
 refine⟨1000001,?_⟩
 unfold aMx
 by_cases hl:a.length=b.length
 ·have e1:((a.length:Int) !=(b.length:Int))=false:=by rw[hl];simp
  simp only[e1,cond_false]
  have key:=oM (L:=aAe a b 1000001) (xs:=a) (st:=fun k=>((k:Int),())) (p:=fun k x=>x==b.getD k []) (ex:=some (false,())) (fin:=some (true,()))
   (fun k x rec hk hlt=>by
    have hlb:k<b.length:=by omega
    obtain⟨hxl,-⟩:=pP ha hlt
    rw[getD_some hk] at hxl
    have hw:=aL hlt (show _≤lenMax by simp only[lenMax];omega)
    rw[aAe]
    simp only[dlt hlt,dlt hlb,dge,Bool.and_self,cond_true,Int.toNat_natCast,getD_some hk]
    generalize hy:b.getD k []=y
    by_cases hxy:x.length=y.length
    ·have e2:((x.length:Int) !=(y.length:Int))=false:=by rw[hxy];simp
     simp only[e2,cond_false]
     have inner:=oM (L:=zW a b ((k:Int),()) rec) (xs:=x) (st:=fun j=>((j:Int),())) (p:=fun j s=>s==y.getD j zSh) (ex:=some (false,())) (fin:=rec (((k+1:Nat):Int),()))
      (fun j s rec2 hj hjl=>by
       have hjy:j<y.length:=by omega
       have hw2:=aL hjl (show _≤lenMax by simp only[lenMax];omega)
       rw[zW]
       simp only[dlt hlt,dlt hlb,dlt hjl,dlt hjy,dge,Bool.and_self,cond_true,Int.toNat_natCast,getD_some hk,hy,getD_some hj,hw2,rW]
       have e:(s==y.getD j zSh)=(s.1==(y.getD j zSh).1&&s.2.1==(y.getD j zSh).2.1):=by
        generalize y.getD j zSh=t
        obtain⟨s1,s2,⟨⟩⟩:=s
        obtain⟨t1,t2,⟨⟩⟩:=t
        rw[Bool.eq_iff_iff]
        simp
       rw[e]
       cases s.1==(y.getD j zSh).1 <;> cases s.2.1==(y.getD j zSh).2.1 <;> rfl)
      (fun rec2=>by
       rw[zW]
       simp only[dlt hlt,dge,Bool.and_self,cond_true,Int.toNat_natCast,getD_some hk,aW,cond_false,hw]) 1000001 (by omega)
     refine inner.trans ?_
     have e:lG (fun j s=>s==y.getD j zSh) 0 x=(x==y):=by
      rw[Bool.eq_iff_iff,oJ]
      constructor
      ·intro hh
       have:x=y:=aFs zSh x y hxy fun j hj=>by
        have:=hh j x[j] (List.getElem?_eq_getElem hj)
        rw[Nat.zero_add] at this
        rw[getD_some (List.getElem?_eq_getElem hj)]
        exact this
       rw[this];simp
      ·intro hh j s hj
       have:x=y:=by simpa using hh
       subst this
       rw[Nat.zero_add,getD_some hj];simp
     rw[e]
    ·have e2:((x.length:Int) !=(y.length:Int))=true:=by simp;omega
     have e3:(x==y)=false:=by
      cases hh:x==y
      ·rfl
      ·exact absurd (congrArg List.length (by simpa using hh)) hxy
     simp only[e2,e3,cond_true,cond_false])
   (fun rec=>by rw[aAe];simp only[aW,cond_false]) 1000001 (by omega)
  refine key.trans ?_
  have e:lG (fun j s=>s==b.getD j []) 0 a=(a==b):=by
   rw[Bool.eq_iff_iff,oJ]
   constructor
   ·intro hh
    have:a=b:=aFs [] a b hl fun j hj=>by
     have:=hh j a[j] (List.getElem?_eq_getElem hj)
     rw[Nat.zero_add] at this
     rw[getD_some (List.getElem?_eq_getElem hj)]
     exact this
    rw[this];simp
   ·intro hh j s hj
    have:a=b:=by simpa using hh
    subst this
    rw[Nat.zero_add,getD_some hj];simp
  rw[e]
  cases a==b <;> rfl
 ·have e1:((a.length:Int) !=(b.length:Int))=true:=by simp;omega
  have e3:(a==b)=false:=by
   cases hh:a==b
   ·rfl
   ·exact absurd (congrArg List.length (by simpa using hh)) hl
  simp only[e1,e3,cond_true]
end Go.Pli

/- All of layer 13 to 16's functions. -/
