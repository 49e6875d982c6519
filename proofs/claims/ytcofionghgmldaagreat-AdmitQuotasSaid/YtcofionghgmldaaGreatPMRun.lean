/- PM: code, sound: loops and the rest. -/
import Derived.Test.YtcofionghgmldaaGreatPMDrawB
import Derived.Scope
namespace Go.PM
open Go
section
variable {P:Program} {G:Ctx} {w0:World} {T:Nat→Prop} {f0:F0}
theorem aGr (bxs Ws:List Nat) (L:List LD) (e:Env):iH bxs Ws L e e=true:=by
 simp[iH]
theorem gE (hG:hJ P G) {A:Ann} {fuel:Nat}:∀(c:Code) {R:Type} {e:Env} {a:Act} {W:World} {g:Gh} {k:Ex→Env→Option R} {r:R} {Q:Exit→Act→World→Prop},St w0 T f0 G.n e a W g→iW G A fuel c e k=some r→
  (∀x e' a' W' g',k x e'=some r→Pres (bN G c) G.bxs e e'→St w0 T f0 G.n e' a' W' g'→Q (aQF x) a' W')→c.wp P Q a W
 | .skip,R,e,a,W,g,k,r,Q,h,hr,hQ=>wp_skip (hQ .normal e a W g hr (.refl _ _ _) h)
 | .scope b,R,e,a,W,g,k,r,Q,h,hr,hQ=>by
  simp only[iW] at hr
  refine wp_scope_straight (gE hG b h hr fun ex e' a' W' g' hk hp h'=>?_)
  have:=hQ ex e' a' W' g' hk hp h'
  cases ex <;> exact this
 | .label _,R,e,a,W,g,k,r,Q,h,hr,hQ=>wp_label (hQ .normal e a W g hr (.refl _ _ _) h)
 | .ret,R,e,a,W,g,k,r,Q,h,hr,hQ=>wp_ret (hQ .ret e a W g hr (.refl _ _ _) h)
 | .exit id,R,e,a,W,g,k,r,Q,h,hr,hQ=>wp_exit (hQ (.exit id) e a W g hr (.refl _ _ _) h)
 | .region id ops draw,R,e,a,W,g,k,r,Q,h,hr,hQ=>by
  have hWg:∀(j:Nat) (d:Nat),(ops[j]?).bind (fun o:Oper=>o.dst)=some d→d∈bN G (.region id ops draw):=fun j d hj=>by
   simp only[bN,List.mem_flatMap]
   cases hj2:ops[j]? with
   | none=>rw[hj2] at hj;cases hj
   | some o=>
    rw[hj2] at hj
    exact⟨o,by simpa using Array.mem_of_getElem? hj2,by simp only[Option.bind_some] at hj;simp[bF,hj]⟩
  have hW:∀o∈ops.toList,∀t∈bF G o,t∈bN G (.region id ops draw):=fun o ho t ht=>by
   simp only[bN,List.mem_flatMap]
   exact⟨o,ho,ht⟩
  simp only[iW] at hr
  cases draw <;> simp only[cond_true,cond_false] at hr
  ·exact wp_region_list (aB5 (Ws:=bN G (.region id ops false)) hG hWg ops.toList h hr hW fun e' a' W' g' hc hp h'=>hQ .normal e' a' W' g' hc hp h')
  ·split at hr
   ·rename_i F hF
    cases hd:nK (aMt A id) F 0 F ops.toList <;> simp only[hd,cond_true,cond_false] at hr
    ·cases hr
    ·exact aMO hG h hd hr hW hWg fun e' a' W' g' hc hp h'=>hQ .normal e' a' W' g' hc hp h'
   ·cases hr
 | .seq x y,R,e,a,W,g,k,r,Q,h,hr,hQ=>by
  simp only[iW] at hr
  refine wp_seq ?_
  split at hr
  ·refine gE hG x h hr fun ex e' a' W' g' hk hp h'=>?_
   cases ex with
   | normal=>
    exact gE hG y h' hk fun ex2 e2 a2 W2 g2 hk2 hp2 h2=>hQ ex2 e2 a2 W2 g2 hk2 ((hp.mono (by simp[bN];exact fun t ht=> .inl ht)).trans (hp2.mono (by simp[bN];exact fun t ht=> .inr ht))) h2
   | exit id=>exact hQ (.exit id) e' a' W' g' hk (hp.mono (by simp[bN];exact fun t ht=> .inl ht)) h'
   | ret=>exact hQ .ret e' a' W' g' hk (hp.mono (by simp[bN];exact fun t ht=> .inl ht)) h'
  ·rename_i L hL
   cases hok2:(lU G.bxs (bN G x) L&&jW L e) <;> simp only[hok2,Bool.not_true,Bool.not_false,cond_true,cond_false] at hr
   ·cases hr
   simp only[Bool.and_eq_true] at hok2
   obtain⟨hok,hra⟩:=hok2
   generalize hm:iW (R:=(kZ L).D⊕R) G A fuel x e (fun x_1 e'=>match x_1 with
     | .normal=>bif iH G.bxs (bN G x) L e e' then (gR L e').map .inl else none
     | x_1=>(k x_1 e').map .inr)=m at hr
   cases m with
   | none=>cases hr
   | some sr=>
    refine gE hG x h hm fun ex e' a' W' g' hk hp h'=>?_
    cases ex with
    | normal=>
     simp only at hk
     cases hsb:iH G.bxs (bN G x) L e e' <;> simp only[hsb,cond_true,cond_false] at hk
     ·cases hk
     cases ht:gR L e' with
     | none=>rw[ht] at hk;cases hk
     | some s=>
      rw[ht] at hk
      simp only[Option.map_some,Option.some.injEq] at hk
      subst hk
      simp only[Option.bind_some] at hr
      have hh:=h'.head hp hsb hra hok ht
      exact gE hG y hh hr fun ex2 e2 a2 W2 g2 hk2 hp2 h2=>hQ ex2 e2 a2 W2 g2 hk2 (((aHE hok hra).mono (by simp[bN];exact fun t ht=> .inl ht)).trans (hp2.mono (by simp[bN];exact fun t ht=> .inr ht))) h2
    | exit id=>
     simp only at hk
     cases hkk:k (.exit id) e' with
     | none=>rw[hkk] at hk;cases hk
     | some r'=>
      rw[hkk] at hk
      simp only[Option.map_some,Option.some.injEq] at hk
      subst hk
      simp only[Option.bind_some,Option.some.injEq] at hr
      subst hr
      exact hQ (.exit id) e' a' W' g' hkk (hp.mono (by simp[bN];exact fun t ht=> .inl ht)) h'
    | ret=>
     simp only at hk
     cases hkk:k .ret e' with
     | none=>rw[hkk] at hk;cases hk
     | some r'=>
      rw[hkk] at hk
      simp only[Option.map_some,Option.some.injEq] at hk
      subst hk
      simp only[Option.bind_some,Option.some.injEq] at hr
      subst hr
      exact hQ .ret e' a' W' g' hkk (hp.mono (by simp[bN];exact fun t ht=> .inl ht)) h'
 | .cond c x y,R,e,a,W,g,k,r,Q,h,hr,hQ=>by
  simp only[iW] at hr
  split at hr
  ·rename_i t
   split at hr
   ·rename_i v tip he
    have hs:=h.slots t
    rw[he] at hs
    have hv:a.tmps.getD t undef= .bool v:=lK hs.dat
    have hmem:t∈bN G (.cond (.tmp t) x y):=by simp[bN,gJ]
    cases v <;> simp only[cond_true,cond_false] at hr
    ·refine wp_cond_false hv (gE hG y (h.setSlot (t:=t) (pv:= .val ⟨.bool,false,false⟩) (by rw[hv];exact⟨rfl,rfl,fun hh=>by simp at hh⟩) (cH rfl e)) hr fun ex e' a' W' g' hk hp h'=>hQ ex e' a' W' g' hk ((Pres.setSlot hmem _).trans (hp.mono (by simp[bN];exact fun t ht=> .inr (.inr ht)))) h')
    ·refine wp_cond_true hv (gE hG x (h.setSlot (t:=t) (pv:= .val ⟨.bool,true,false⟩) (by rw[hv];exact⟨rfl,rfl,fun hh=>by simp at hh⟩) (cH rfl e)) hr fun ex e' a' W' g' hk hp h'=>hQ ex e' a' W' g' hk ((Pres.setSlot hmem _).trans (hp.mono (by simp[bN];exact fun t ht=> .inr (.inl ht)))) h')
   ·cases hr
  ·cases hr
 | .block id x,R,e,a,W,g,k,r,Q,h,hr,hQ=>by
  simp only[iW] at hr
  refine wp_block (gE hG x h hr fun ex e' a' W' g' hk hp h'=>?_)
  cases ex with
  | normal=>exact hQ .normal e' a' W' g' hk hp h'
  | exit j=>
   simp only at hk
   simp only[aQF,Exit.inBlock]
   split at hk
   ·rename_i hj;rw[if_pos hj];exact hQ .normal e' a' W' g' hk hp h'
   ·rename_i hj;rw[if_neg hj];exact hQ (.exit j) e' a' W' g' hk hp h'
  | ret=>exact hQ .ret e' a' W' g' hk hp h'
 | .loop b,R,e,a,W,g,k,r,Q,h,hr,hQ=>by
  simp only[iW] at hr
  split at hr
  ·cases hr
  ·rename_i L hL
   cases hok2:(lU G.bxs (bN G b) L&&jW L e) <;> simp only[hok2,Bool.not_true,Bool.not_false,cond_true,cond_false] at hr
   ·cases hr
   simp only[Bool.and_eq_true] at hok2
   obtain⟨hok,hra⟩:=hok2
   split at hr
   ·cases hr
   ·rename_i s hs
    refine wp_loop_rounds fuel ?_
    have key:∀(m:Nat) (s:(kZ L).D) (a:Act) (W:World) (g:Gh),St w0 T f0 G.n (dC L s (drop (bN G b) (hZ G.bxs (bN G b) L) e)) a W g→
      aA (fun s rec=>iW G A fuel b (dC L s (drop (bN G b) (hZ G.bxs (bN G b) L) e)) fun x e'=>match x with
       | .normal=>bif iH G.bxs (bN G b) L e e' then (match gR L e' with
        | some s'=>rec s'
        | none=>none) else none
       | x=>k x e') m s=some r→Code.rounds P b Q m a W:=by
     intro m
     induction m with
     | zero=>intro s a W g _ hr;cases hr
     | succ m ih=>
      intro s a W g h hr
      simp only[aA] at hr
      rw[rounds_succ]
      refine gE hG b h hr fun ex e' a' W' g' hk hp h'=>?_
      have hpe:Pres (bN G b) G.bxs e e':=(aHE hok hra).trans hp
      cases ex with
      | normal=>
       simp only at hk
       cases hsb:iH G.bxs (bN G b) L e e' <;> simp only[hsb,cond_true,cond_false] at hk
       ·cases hk
       split at hk
       ·rename_i s' hs'
        exact ih s' a' W' g' (h'.head hpe hsb hra hok hs') hk
       ·cases hk
      | exit id=>exact hQ (.exit id) e' a' W' g' hk hpe h'
      | ret=>exact hQ .ret e' a' W' g' hk hpe h'
    exact key fuel s a W g (h.head (bxs:=G.bxs) (Pres.refl _ G.bxs _) (aGr G.bxs _ L e) hra hok hs) hr
 | .rangeFunc _ _ _ _,_,_,_,_,_,_,_,_,_,hr,_=>by simp[iW] at hr
 | .goto _,_,_,_,_,_,_,_,_,_,hr,_=>by simp[iW] at hr
 | .refuse _,_,_,_,_,_,_,_,_,_,hr,_=>by simp[iW] at hr
end
end Go.PM
