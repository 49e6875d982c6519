/- PM: each operation, sound: the seventh part: choices, lengths, append as an operation. -/
import Derived.Test.YtcofionghgmldaaGreatPMOpsF
import Derived.Laws.Small
namespace Go.PM
open Go
section
variable {P:Program} {G:Ctx} {w0:World} {T:Nat→Prop} {f0:F0} {n:Nat} {e:Env} {a:Act} {W:World} {g:Gh} {o:Oper}
theorem aS3 {fix:Nat→Nat→Prop} {W:World} {b:Bool} {v:Value} (h:VRep fix W .bool b v):v= .bool b:=by
 have h1:=h.1
 have h2:=h.2
 rw[kS h1] at h2
 simpa[Rep] using h2
theorem aLT {c x y:Operand} (ho:o.op= .pick c x y):eR P G w0 T f0 o:=by
 intro e e' a W g K Q h hd hr hK
 simp only[opV,ho] at hr
 obtain⟨b,hr1,hb⟩:=fM h hr
 obtain⟨p,hr2,hdx,hpx⟩:=bT h hr1
 obtain⟨q,hr3,hdy,hpy⟩:=bT h hr2
 clear hr hr1 hr2
 have hc:=aS3 hb
 have hex:(execOp a.eval o).run P W= .ok (.value (if b then a.eval x else a.eval y)) W:=by
  simp[execOp,ho,hc,asBool]
 split at hr3
 ·rename_i b1 t1 b2 t2 bb
  have hx:=xE hdx
  have hy:=xE hdy
  refine cU h hd hr3 rfl rfl ?_ hex hK
  cases b
  ·simp only[iY,cO,aB,hy];exact kW g W _
  ·simp only[cD,aA,hx];exact kW g W _
 ·rw[cI hr3] at hK
  exact cL hex (hK _ _ _ (h.putDat hd (by
   simp only[iY,cO]
   unfold Dat at hdy⊢
   rwa [PV.clear_clear]) (PV.clear_clear _) (aEN hpy)))
 ·rw[cI hr3] at hK
  exact cL hex (hK _ _ _ (h.putDat hd (by
   simp only[cD]
   unfold Dat at hdx⊢
   rwa [PV.clear_clear]) (PV.clear_clear _) (aEN hpx)))
 ·simp[Prog.run] at hr3
theorem aLn {fix:Nat→Nat→Prop} {W:World} {s:ByteArray} {v:Value} (h:VRep fix W .str s v):v= .string s:=by
 have h1:=h.1
 have h2:=h.2
 rw[kS h1] at h2
 simpa[Rep] using h2
theorem TyOk.str_und {t:TypeId} (h:TyOk P t .str):P.underlying t=some .string:=by
 unfold TyOk at h
 simp only[aS,aC] at h
 have h2:=h.2
 split at h2
 ·assumption
 ·simp at h2
theorem aEU {A:Array Operand} {x:Operand} (h:A.toList=[x]):A=#[x]:=by
 apply nJ;rw[h]
theorem xG {A:Array Operand} {x y:Operand} (h:A.toList=[x,y]):A=#[x,y]:=by
 apply nJ;rw[h]
theorem aFe {A:Array TypeId} {x:TypeId} (h:A.toList=[x]):A=#[x]:=by
 apply nJ;rw[h]
theorem aAz {A:Array TypeId} {x y:TypeId} (h:A.toList=[x,y]):A=#[x,y]:=by
 apply nJ;rw[h]
theorem aL8 {c:Call} (hG:cE P G) (ho:o.op= .call c) (hc:c.callee= .builtin .len):eR P G w0 T f0 o:=by
 intro e e' a W g K Q h hd hr hK
 simp only[opV,ho,hc] at hr
 split at hr
 ·rename_i x t hx ht
  have hargs:=aEU hx
  have htys:=aFe ht
  split at hr
  ·rename_i el r hty
   have htk:=hG _ _ hty
   obtain⟨xs,hr1,hxs⟩:=fM h hr
   obtain⟨A,cp,hv,_,_⟩:=aCW hxs
   exact cU h hd hr1 rfl rfl (pN g W .i64 xs.length) (by simp[execOp,ho,resolve,hc,hargs,htys,invoke,builtin,hv,Builtin.len_,run_underlying htk.sl_und,goInt]) hK
  ·rename_i hty
   have htk:=hG _ _ hty
   obtain⟨s,hr1,hs⟩:=fM h hr
   have hv:=aLn hs
   exact cU h hd hr1 rfl rfl (pN g W .i64 s.size) (by simp[execOp,ho,resolve,hc,hargs,htys,invoke,builtin,hv,Builtin.len_,run_underlying htk.str_und,goInt]) hK
  ·simp[Prog.run] at hr
 ·simp[Prog.run] at hr
theorem aQr (a b:Int):max a b=if b>a then b else a:=by
 rw[Int.max_def];split <;> split <;> omega
theorem aQq (a b:Int):min a b=if b<a then b else a:=by
 rw[Int.min_def];split <;> split <;> omega
theorem aLY {c:Call} (ho:o.op= .call c) (hc:c.callee= .builtin .max):eR P G w0 T f0 o:=by
 intro e e' a W g K Q h hd hr hK
 simp only[opV,ho,hc] at hr
 split at hr
 ·rename_i x y hx
  have hargs:=xG hx
  obtain⟨p,hr1,hdx,-⟩:=bT h hr
  obtain⟨q,hr2,hdy,-⟩:=bT h hr1
  clear hr hr1
  split at hr2
  ·rename_i k m _ k' m' _
   split at hr2
   ·rename_i hk
    subst hk
    have h1:=rG hdx
    have h2:=rG hdy
    have hmx:max m m'=(if m'>m then m' else m):=aQr m m'
    refine cU h hd hr2 rfl rfl (pN g W k (max m m')) ?_ hK
    rw[hmx]
    simp[execOp,ho,resolve,hc,hargs,invoke,builtin,h1,h2,run_max_int2]
   ·simp[Prog.run] at hr2
  ·simp[Prog.run] at hr2
 ·simp[Prog.run] at hr
theorem aLX {c:Call} (ho:o.op= .call c) (hc:c.callee= .builtin .min):eR P G w0 T f0 o:=by
 intro e e' a W g K Q h hd hr hK
 simp only[opV,ho,hc] at hr
 split at hr
 ·rename_i x y hx
  have hargs:=xG hx
  obtain⟨p,hr1,hdx,-⟩:=bT h hr
  obtain⟨q,hr2,hdy,-⟩:=bT h hr1
  clear hr hr1
  split at hr2
  ·rename_i k m _ k' m' _
   split at hr2
   ·rename_i hk
    subst hk
    have h1:=rG hdx
    have h2:=rG hdy
    have hmx:min m m'=(if m'<m then m' else m):=aQq m m'
    refine cU h hd hr2 rfl rfl (pN g W k (min m m')) ?_ hK
    rw[hmx]
    simp[execOp,ho,resolve,hc,hargs,invoke,builtin,h1,h2,run_min_int2]
   ·simp[Prog.run] at hr2
  ·simp[Prog.run] at hr2
 ·simp[Prog.run] at hr
theorem aMz {c:Call} (hG:cE P G) (ho:o.op= .call c) (hc:c.callee= .builtin .append):eR P G w0 T f0 o:=by
 intro e e' a W g K Q h hd hr hK
 simp only[opV,ho,hc] at hr
 split at hr
 ·rename_i x y t t' hx ht
  have hargs:=xG hx
  have htys:=aAz ht
  split at hr
  ·rename_i htt
   subst htt
   split at hr
   ·rename_i el r hty
    have htk:=hG _ _ hty
    have hx2:c.args.map a.eval=#[a.eval x,a.eval y]:=by rw[hargs];simp
    -- the value handed on, in a state that has lost it
    have fin:∀(e1:Env) (xs:List r.D),St w0 T f0 G.n e1 a W g→Rep g.fix W (.sl el r) xs [a.eval x]→(∃q,Tip g.fix g.own W q (.sl el r) (a.eval x)∧(a.eval x≠.slice none 0 0→dZ e1 q))→
      ((getD (.sl el r) y fun ys=> .chk (decide (xs.length+ys.length<rowMax)) (put o.dst (.val ⟨.sl el r,xs++ys,true⟩) .done))).run e1 some=some e'→o.wp P a W K Q:=by
     intro e1 xs h1 hrep ⟨q,htip,hfree⟩ hr
     obtain⟨ys,hr1,hys⟩:=fM h1 hr
     obtain⟨hb,hr2⟩:=aO hr1
     obtain⟨v',W',g',k1,k2,k3,k4,k5⟩:=h1.append (P:=P) (t:=t) (ty:=o.type) htk hrep htip hfree (kH hys rfl) (qX hb) (.slot (o.dst.getD 0))
     rw[cI hr2] at hK
     refine cL (v:=v') (W':=W') (by simp[execOp,ho,resolve,hc,htys,hx2,invoke,builtin,k1]) (hK _ _ _ (k2.putDst hd (fun d hd'=>⟨k3,k4,fun _=>?_⟩) (dU rfl _)))
     rw[hd'] at k5
     exact k5
    rcases aBO h hr with⟨pv,hr1,hcl,hdat,_⟩ | ⟨s,ty,z,hxs,hes,hr1,h',hdat,htip⟩
    ·rcases oU (some (.sl el r)) pv with he | ⟨he,⟨el',r',hT,hty'⟩ | hty'⟩
     ·rw[he] at hr1
      split at hr1
      ·rename_i te zs _
       simp[PV.clear,DV.clear] at hcl
      ·simp[Prog.run] at hr1
     ·rw[hty'] at hr1
      subst he
      injection hT with hT
      injection hT with hT1 hT2
      subst hT1;subst hT2
      have hv:a.eval x= .slice none 0 0:=hdat
      split at hr1
      ·rename_i te zs heq
       injection heq with heq
       injection heq with q1 q2 q3
       subst q1
       have q2:=gY q2
       subst q2
       split at hr1
       ·rename_i xs hxs
        obtain⟨tp,hxs⟩:=DV.as_eq hxs
        injection hxs with _ hxs _
        subst hxs
        refine fin e _ h ?_ ⟨.arg 0,.inl ⟨none,0,hv⟩,fun hn=>absurd hv hn⟩ hr1
        rw[hv]
        exact⟨none,0,rfl,⟨aU _,dL _⟩,fun hh=>absurd rfl hh⟩
       ·simp[Prog.run] at hr1
      ·(first | (rename_i hne;exact (hne _ _ rfl).elim) | cases hr1)
     ·rw[hty'] at hr1
      cases hr1
    ·simp only[fE] at hr1
     split at hr1
     ·rename_i xs hxs'
      obtain⟨tp,hxs'⟩:=DV.as_eq hxs'
      injection hxs' with q1 q2 q3
      subst q1
      have q2:=gY q2
      subst q2
      exact fin _ _ h' hdat.2.1 ⟨.slot s,htip,fun _=>zV rfl⟩ hr1
     ·simp[Prog.run] at hr1
   ·simp[Prog.run] at hr
  ·simp[Prog.run] at hr
 ·simp[Prog.run] at hr
end
end Go.PM
