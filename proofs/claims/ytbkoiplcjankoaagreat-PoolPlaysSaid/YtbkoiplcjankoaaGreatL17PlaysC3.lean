/- Contracts of this program's functions, and their proofs, printed by a program of the prover's own (see the claim's other texts for what the words mean). -/
import Derived.Test.YtbkoiplcjankoaaGreatL17PlaysC2
set_option linter.unusedVariables false
set_option linter.unusedSimpArgs false
set_option maxRecDepth 100000
namespace Go.Proofs
open Go.Sx
theorem kD (b bj r:Nat) (row:Rw) (m:KV) (k0 k1:Int) (hk:Xr Qt m) (hl:(QS row).length<=1073741824):QC Tryz.prog 76 #[pp b 0, .agg #[.int .u8 k0, .int .u8 k1]] [.blk b (.cells #[.map (some r),pp bj 0, .func (.func 18) #[] #[]] 108 (0,0)),(mo r m),bk bj #[sv row] 27,(ss 1 row)] (QK×N4×Int×Bool) (fun J=> .tuple #[]) (fun J=> [.blk b (.cells #[.map (some r),pp bj 0, .func (.func 18) #[] #[]] 108 (0,0)),(mo r m),bk bj #[sv J.1] 27,(ss 1 J.1),bk J.2.1.1 #[.bool J.2.2.2] 4,bk J.2.1.2.1 (nC J.2.2.1) 35,bk J.2.1.2.2.1 #[pp b 0] 70,bk J.2.1.2.2.2 #[.int .u8 k0, .int .u8 k1] 63]) (fun J=>(QS J.1=QS row++ [(Zm b m (Value.agg #[.int .u8 k0, .int .u8 k1])).fn J.2.1]/\J.2.2.2=(Q1 m (Value.agg #[.int .u8 k0, .int .u8 k1])).isSome/\vI J.2.2.1=(Q1 m (Value.agg #[.int .u8 k0, .int .u8 k1])).getD (vI 0))):=by
  refine Qx (c:=Qk Tryz.f76) (n:=31) (fn:=Tryz.f76) QF Tryz.func76 (by kernel_rfl) (by kernel_rfl) (by kernel_rfl) 2000 _ [] [0,1,2,3,30,31,32,33] rfl rfl (Eq.mpr (qY b bj r row m k0 k1) ?_)
  intro b1
  intro b2
  refine Qa 1 _ (Qa 1 _ (Qa 2 _ (Qy (Qa5 xz hk ⟨_,_,rfl⟩) (gO xz hk _) fun x3 h1=> ?_)))
  have hx:=h1
  intro b4
  intro b5
  refine Qa 4 _ (Qa 1 _ (Qa 1 _ (Qa 1 _ (Qa 1 _ (Qa 1 _ (Qa 1 _ (fun b6=>QG (Zv xU 25 row (by rw [ZE];omega) b6 1 (Value.func (.func 98) #[] #[pp b5 0,pp b4 0,pp b1 0,pp b2 0]) rfl) (ZU _) fun x7 h2=> ?_)))))))
  rw [Zd] at h2
  have ha:=h2
  exact QG (Qbe (b:=bj) (cs:= #[sv row]) (ty:=27) (te:=25) (fun w=>by kernel_rfl) 0 (sv x7) (GC _) (dY _) (by show 0<1;decide)) (⟨(),trivial⟩) fun _ _=>⟨(x7,(b5,b4,b1,b2),x3),⟨ha,hx.2.1,hx.2.2⟩,rfl,rfl,rfl,rfl,rfl,rfl,rfl,rfl,rfl,trivial⟩
noncomputable def Wk:List Value->List Qf->ZB:=fun vs hs=>⟨List Zf,fun J=> .tuple #[],fun J=> [.blk (QJ (Qd vs 1)) (.cells #[.map (some (XI (Qh hs 1) 0)), .pointer (some ⟨(QJ (Qw (Qh hs 0) 1)),0,none⟩), .func (.func 18) #[] #[]] 108 (0,0)),(mo (XI (Qh hs 1) 0) (V8 (Qh hs 1))),(jS QD (QJ (Qw (Qh hs 0) 1)) J)],fun J=>J=(KH (Qh hs 2))++ [(Zm (QJ (Qd vs 1)) (V8 (Qh hs 1)) (Qd vs 2))]⟩
theorem Fi (b bj r:Nat) (m:KV) (L:List Zf) (k0 k1:Int) (hk:Xr Qt m) (hl:L.length<=1073741824):QC Tryz.prog 76 #[.pointer (some ⟨b,0,none⟩), .agg #[.int .u8 k0, .int .u8 k1]] [.blk b (.cells #[.map (some r), .pointer (some ⟨bj,0,none⟩), .func (.func 18) #[] #[]] 108 (0,0)),(mo r m),(jS QD bj L)] (List Zf) (fun J=> .tuple #[]) (fun J=> [.blk b (.cells #[.map (some r), .pointer (some ⟨bj,0,none⟩), .func (.func 18) #[] #[]] 108 (0,0)),(mo r m),(jS QD bj J)]) (fun J=>(J=L++ [(Zm b m (Value.agg #[.int .u8 k0, .int .u8 k1]))])):=by
  have c:=QaL (K:=QD) (bj:=bj) (L:=L) (vv:=vI) (e:=(Zm b m (Value.agg #[.int .u8 k0, .int .u8 k1]))) (mk:=fun _=>wI) (Jt (c:=Qk Tryz.f76) Tryz.func76 (by kernel_rfl) (by kernel_rfl)) rfl (fun row hr=>kD b bj r row m k0 k1 hk (by omega))
  exact c.exists fun _ _=>⟨_,rfl,rfl,Ua.refl _⟩
abbrev xi (b bj r:Nat) (m:KV) (L:List Zf) (k0 k1 v:Int) (zv:Value) (zs0:Qf) (zs1:Qf) (zs2:Qf):Prop:= ∃J:KV×List Zf,(J.1=ZF m (Value.agg #[.int .u8 k0, .int .u8 k1]) (vI v)/\J.2=L++ [(Zm b m (Value.agg #[.int .u8 k0, .int .u8 k1]))])/\zv= .tuple #[]/\zs0= .blk b (.cells #[.map (some r),pp bj 0, .func (.func 18) #[] #[]] 108 (0,0))/\zs1=(mo r J.1)/\zs2=(jS QD bj J.2)/\True
theorem jv (b bj r:Nat) (m:KV) (L:List Zf) (k0 k1 v:Int):QB Tryz.prog 15 none 2000 none (Qk Tryz.f45) (.reg [.sem [.nw 3], .sem [.nw 4]] (.reg [S0, .sem [.rd 3, .rd 3], .callw [0,1,2] [0,1,2] Wk] (.reg [S0,S0,S0, .sem [.rd 0], .sem [.rd 3, .rd 3], .sem (QV 4 4), .specw [1] [1] Qa4] (.done))))
    (Q2 #[pp b 0, .agg #[.int .u8 k0, .int .u8 k1],vI v] [.blk b (.cells #[.map (some r),pp bj 0, .func (.func 18) #[] #[]] 108 (0,0)),(mo r m),(jS QD bj L)]) (Q8 Tryz.prog Tryz.f45 [] [0,1,2] (X:=KV×List Zf) (fun J=> .tuple #[]) (fun J=> [.blk b (.cells #[.map (some r),pp bj 0, .func (.func 18) #[] #[]] 108 (0,0)),(mo r J.1),(jS QD bj J.2)]) (fun J=>(J.1=ZF m (Value.agg #[.int .u8 k0, .int .u8 k1]) (vI v)/\J.2=L++ [(Zm b m (Value.agg #[.int .u8 k0, .int .u8 k1]))])))=
    (∀b1:Nat,∀b2:Nat,Qj 2 b1 (Ze Tryz.prog 76 #[pp b 0, .agg #[.int .u8 k0, .int .u8 k1]] [.blk b (.cells #[.map (some r),pp bj 0, .func (.func 18) #[] #[]] 108 (0,0)),(mo r m),(jS QD bj L)] (List Zf) (fun J=> .tuple #[]) (fun J=> [.blk b (.cells #[.map (some r),pp bj 0, .func (.func 18) #[] #[]] 108 (0,0)),(mo r m),(jS QD bj J)]) (fun J=>J=L++ [(Zm b m (Value.agg #[.int .u8 k0, .int .u8 k1]))]) (fun x3=>Qj 1 b (Qj 2 b1 (Qj 4 b2 (Xc Tryz.prog (KJ (Instr.mapUpdate 106 (.map (some r)) (.agg #[.int .u8 k0, .int .u8 k1]) (vI v))) [(mo r m)] KV (fun J=> .tuple #[]) (fun J=> [(mo r J)]) (fun J=>J=ZF m (Value.agg #[.int .u8 k0, .int .u8 k1]) (vI v)) (fun x4=>xi b bj r m L k0 k1 v (Value.tuple #[]) (Qf.blk b (.cells #[.map (some r),pp bj 0, .func (.func 18) #[] #[]] 108 (0,0))) (mo r x4) (jS QD bj x3)))))))):=by kernel_rfl
theorem wm (b bj r:Nat) (m:KV) (L:List Zf) (k0 k1 v:Int) (r_v:R4 v) (hk:Xr Qt m) (hl:L.length<=1073741824):QC Tryz.prog 45 #[pp b 0, .agg #[.int .u8 k0, .int .u8 k1],vI v] [.blk b (.cells #[.map (some r),pp bj 0, .func (.func 18) #[] #[]] 108 (0,0)),(mo r m),(jS QD bj L)] (KV×List Zf) (fun J=> .tuple #[]) (fun J=> [.blk b (.cells #[.map (some r),pp bj 0, .func (.func 18) #[] #[]] 108 (0,0)),(mo r J.1),(jS QD bj J.2)]) (fun J=>(J.1=ZF m (Value.agg #[.int .u8 k0, .int .u8 k1]) (vI v)/\J.2=L++ [(Zm b m (Value.agg #[.int .u8 k0, .int .u8 k1]))])):=by
  refine Qx (c:=Qk Tryz.f45) (n:=15) (fn:=Tryz.f45) QF Tryz.func45 (by kernel_rfl) (by kernel_rfl) (by kernel_rfl) 2000 _ [] [0,1,2] rfl rfl (Eq.mpr (jv b bj r m L k0 k1 v) ?_)
  intro b1
  intro b2
  refine Qa 2 _ (QH (Fi b bj r m L k0 k1 (hk) (hl)) (⟨_,rfl⟩) fun x3 h1=> ?_)
  have hn:=h1
  refine Qa 1 _ (Qa 2 _ (Qa 4 _ (QG (QfK xz hk ⟨_,_,rfl⟩ (vI v)) (⟨_,rfl⟩) fun x4 h2=> ?_)))
  have hs:=h2
  exact ⟨(_,_),⟨hs,hn⟩,rfl,rfl,rfl,rfl,trivial⟩
noncomputable def zH:List Value->List Qf->ZB:=fun vs hs=>⟨KV×List Zf,fun J=> .tuple #[],fun J=> [(mS Qt (QJ (Qd vs 1)) (XI (Qh hs 0) 1) J.1),(jS QD (XI (Qh hs 0) 1) J.2)],fun J=>J.1=ZF (V8 (Qh hs 0)) (Qd vs 2) (Qd vs 3)/\J.2=(KH (Qh hs 1))++ [(Zm (QJ (Qd vs 1)) (V8 (Qh hs 0)) (Qd vs 2))]⟩
theorem yM (b bj:Nat) (m:KV) (L:List Zf) (k0 k1 v:Int) (r_v:R4 v)  (hl:L.length<=1073741824):QC Tryz.prog 45 #[.pointer (some ⟨b,0,none⟩), .agg #[.int .u8 k0, .int .u8 k1],vI v] [(mS Qt b bj m),(jS QD bj L)] (KV×List Zf) (fun J=> .tuple #[]) (fun J=> [(mS Qt b bj J.1),(jS QD bj J.2)]) (fun J=>(J.1=ZF m (Value.agg #[.int .u8 k0, .int .u8 k1]) (vI v)/\J.2=L++ [(Zm b m (Value.agg #[.int .u8 k0, .int .u8 k1]))])):=by
  refine VM (m' :=fun x:KV×List Zf=>x.1) (us:=fun x=> [(jS QD bj x.2)]) (Jt (c:=Qk Tryz.f45) Tryz.func45 (by kernel_rfl) (by kernel_rfl)) (fun r hk=> ?_) (fun x hx h=> ?_)
  · exact (wm b bj r m L k0 k1 v r_v hk hl)
  · exact hx.1▸h.set (⟨_,_,rfl⟩) (⟨_,r_v,rfl⟩)
theorem yH:vE Qt:=fun _=>Iff.rfl
theorem GX:StK Qi:=fun _=>Iff.rfl
noncomputable def HI:List Value->List Qf->ZB:=fun vs hs=>⟨Nat×Nat×Nat,fun J=>pp J.1 0,fun J=> [Qo J.1 J.2.1 J.2.2,(mS Qi J.2.1 (QJ (Qd vs 1)) ([])),(mS Qt J.2.2 (QJ (Qd vs 1)) ([]))],fun J=>True⟩
abbrev dW (bj:Nat) (zv:Value) (zs0:Qf) (zs1:Qf) (zs2:Qf):Prop:= ∃J:Nat×Nat×Nat,(True)/\zv=pp J.1 0/\zs0=Qo J.1 J.2.1 J.2.2/\zs1=(mS Qi J.2.1 bj ([]))/\zs2=(mS Qt J.2.2 bj ([]))/\True
abbrev xK (bj:Nat) (zF:SF (Nat×Nat×Nat)):Prop:=zF #[pp bj 0, .agg #[.slice none 0 0]] [] (fun J=>pp J.1 0) (fun J=> [Qo J.1 J.2.1 J.2.2,(mS Qi J.2.1 bj ([])),(mS Qt J.2.2 bj ([]))]) (fun J=>(True))
theorem pw (bj:Nat):xK bj (fun za zh zv zu zp=>QB Tryz.prog 14 none 2000 none (Qk Tryz.f5) (.reg [.sem [.nw 0],S0] (.reg [S0] (.reg [S0, .callw [] [21] Gs,S0,S0, .callw [] [22] Gm, .sem [.rd 0],S0, .sem [.nw 20],S0] (.done))))
    (Q2 za zh) (Q8 Tryz.prog Tryz.f5 [] [20,21,22] (X:=Nat×Nat×Nat) zv zu zp))=
    (∀b1:Nat,Ze Tryz.prog 21 #[pp bj 0, .func (.func 22) #[] #[]] [] Nat (fun J=>pp J 0) (fun J=> [(mS Qi J bj ([]))]) (fun J=>True) (fun x2=>Ze Tryz.prog 23 #[pp bj 0, .func (.func 18) #[] #[]] [] Nat (fun J=>pp J 0) (fun J=> [(mS Qt J bj ([]))]) (fun J=>True) (fun x3=>Qj 1 b1 (∀b4:Nat,dW bj (pp b4 0) (Qo b4 x2 x3) (mS Qi x2 bj ([])) (mS Qt x3 bj ([])))))):=by kernel_rfl
theorem Qdu (bj:Nat) :xK bj (fun za zh zv zu zp=>QC Tryz.prog 5 za zh (Nat×Nat×Nat) zv zu zp):=by
  refine Qx (c:=Qk Tryz.f5) (n:=14) (fn:=Tryz.f5) QF Tryz.func5 (by kernel_rfl) (by kernel_rfl) (by kernel_rfl) 2000 _ [] [20,21,22] rfl rfl (Eq.mpr (pw bj) ?_)
  intro b1
  exact QH (Bj bj) (⟨0,trivial⟩) fun x2 h1=>QH (BU bj) (⟨0,trivial⟩) fun x3 h2=>Qa 1 _ (fun b4=>⟨(b4,x2,x3),trivial,rfl,rfl,rfl,rfl,trivial⟩)
abbrev xb (bj:Nat) (KK:(Nat×Nat×Nat)->Prop):Prop:=xK bj (fun za zh zv zu zp=>Ze Tryz.prog 5 za zh (Nat×Nat×Nat) zv zu zp KK)
theorem Gr (bj:Nat) {KK:(Nat×Nat×Nat)->Prop} (kont: ∀J:Nat×Nat×Nat,(True)->KK J) :xb bj KK:=QH (Qdu bj) (⟨(0,0,0),trivial⟩) fun J hz=>by
  exact kont J hz
noncomputable def XQ:List Value->List Qf->ZB:=fun vs hs=>⟨ST,fun J=>ZO (J.1,J.2.1,J.2.2.1,J.2.2.2),fun _=>hs,fun J=>Jw J/\J=ZG (V8 (Qh hs 1)) (ci (Qd vs 2))⟩
abbrev Qb6 (b bm bh bj:Nat) (m:KV) (t:Int) (zv:Value) (zs0:Qf) (zs1:Qf):Prop:= ∃J:ST,(Jw J/\J=ZG m t)/\zv=ZO (J.1,J.2.1,J.2.2.1,J.2.2.2)/\zs0=Qo b bm bh/\zs1=(mS Qi bm bj m)/\True
abbrev k8 (b bm bh bj:Nat) (m:KV) (t:Int) (zF:SF ST):Prop:=zF #[pp b 0, .int .u8 t] [Qo b bm bh,(mS Qi bm bj m)] (fun J=>ZO (J.1,J.2.1,J.2.2.1,J.2.2.2)) (fun J=> [Qo b bm bh,(mS Qi bm bj m)]) (fun J=>(Jw J/\J=ZG m t))
theorem Qav (b bm bh bj:Nat) (m:KV) (t:Int):k8 b bm bh bj m t (fun za zh zv zu zp=>QB Tryz.prog 17 none 2000 none (Qk Tryz.f11) (.reg [.sem [.nw 2]] (.reg [S0,S0,S0, .sem [.rd 0],S0, .callr [1] Gu,S0,S0,S0, .sem [.nw 3], .sem (Zq 16 3),S0] (.reg [.sem (QV 16 3), .sem (Zq 16 2)] (.done))))
    (Q2 za zh) (Q8 Tryz.prog Tryz.f11 [.rd 2, .rd 2, .rd 2, .rd 2, .rd 2, .rd 2, .rd 2, .rd 2, .rd 2, .rd 2, .rd 2, .rd 2, .rd 2, .rd 2, .rd 2, .rd 2] [0,1] (X:=ST) zv zu zp))=
    (∀b1:Nat,Qj 1 b (Zh Tryz.prog 37 #[pp bm 0, .int .u8 t] [(mS Qi bm bj m)] (ST×Bool) (fun J=> .tuple #[ZO (J.1.1,J.1.2.1,J.1.2.2.1,J.1.2.2.2), .bool J.2]) (fun J=>J.1=D8 ((Q1 m (Value.int .u8 t)).getD ((ZO s0)))/\J.2=(Q1 m (Value.int .u8 t)).isSome) (fun x2=> ∀b3:Nat,Qj 16 b3 (Qj 16 b3 (Qj 16 b1 (Qj 16 b1 (Qb6 b bm bh bj m t (ZO (x2.1.1,x2.1.2.1,x2.1.2.2.1,x2.1.2.2.2)) (Qo b bm bh) (mS Qi bm bj m)))))))):=by kernel_rfl
theorem QfE (b bm bh bj:Nat) (m:KV) (t:Int) (hk:Xr Qi m):k8 b bm bh bj m t (fun za zh zv zu zp=>QC Tryz.prog 11 za zh ST zv zu zp):=by
  refine Qx (c:=Qk Tryz.f11) (n:=17) (fn:=Tryz.f11) QF Tryz.func11 (by kernel_rfl) (by kernel_rfl) (by kernel_rfl) 2000 _ [.rd 2, .rd 2, .rd 2, .rd 2, .rd 2, .rd 2, .rd 2, .rd 2, .rd 2, .rd 2, .rd 2, .rd 2, .rd 2, .rd 2, .rd 2, .rd 2] [0,1] rfl rfl (Eq.mpr (Qav b bm bh bj m t) ?_)
  intro b1
  refine Qa 1 _ (QN (BA bm bj m t) (⟨(_,_),rfl,rfl⟩) fun x2 h1=> ?_)
  have hg:=h1.1
  intro b3
  exact Qa 16 _ (Qa 16 _ (Qa 16 _ (Qa 16 _ ⟨_,⟨by rw [hg];exact StK.of GX hk t,hg⟩,rfl,rfl,rfl,trivial⟩)))
abbrev XC (b bm bh bj:Nat) (m:KV) (t:Int) (KK:ST->Prop):Prop:=k8 b bm bh bj m t (fun za zh zv zu zp=>Zh Tryz.prog 11 za zh ST zv zp KK)
theorem XR (b bm bh bj:Nat) (m:KV) (t:Int) {KK:ST->Prop} (kont: ∀J:ST,Jw J->(J=ZG m t)->KK J) (hk:Xr Qi m:=by assumption):XC b bm bh bj m t KK:=QN (QfE b bm bh bj m t hk) (⟨_,StK.of GX ‹_› _,rfl⟩) fun J hz=>by
  obtain ⟨rhz_,hz⟩:=hz
  exact kont J rhz_ hz
noncomputable def KF:List Value->List Qf->ZB:=fun vs hs=>⟨Int,fun J=>vI J,fun _=>hs,fun J=>R4 J/\J=Y4 (V8 (Qh hs 1)) (ci (Qd vs 2)) (ci (Qd vs 3))⟩
abbrev gM (b bm bh bj:Nat) (h:KV) (t a:Int) (zv:Value) (zs0:Qf) (zs1:Qf):Prop:= ∃J:Int,(R4 J/\J=Y4 h t a)/\zv=vI J/\zs0=Qo b bm bh/\zs1=(mS Qt bh bj h)/\True
abbrev zO (b bm bh bj:Nat) (h:KV) (t a:Int) (zF:SF Int):Prop:=zF #[pp b 0, .int .u8 t, .int .u8 a] [Qo b bm bh,(mS Qt bh bj h)] (fun J=>vI J) (fun J=> [Qo b bm bh,(mS Qt bh bj h)]) (fun J=>(R4 J/\J=Y4 h t a))
theorem vz (b bm bh bj:Nat) (h:KV) (t a:Int):zO b bm bh bj h t a (fun za zh zv zu zp=>QB Tryz.prog 21 none 2000 none (Qk Tryz.f10) (.reg [.sem [.nw 2]] (.reg [S0,S0,S0, .sem [.rd 0],S0,S0,S0, .callr [1] Hb,S0,S0,S0, .sem [.nw 3], .sem (Zq 4 3),S0] (.reg [.sem (QV 4 3), .sem (Zq 4 2)] (.done))))
    (Q2 za zh) (Q8 Tryz.prog Tryz.f10 [.rd 2, .rd 2, .rd 2, .rd 2] [0,1] (X:=Int) zv zu zp))=
    (∀b1:Nat,Qj 1 b (Zh Tryz.prog 36 #[pp bh 0, .agg #[.int .u8 t, .int .u8 a]] [(mS Qt bh bj h)] (Int×Bool) (fun J=> .tuple #[vI J.1, .bool J.2]) (fun J=>J.1=Qe ((Q1 h (Value.agg #[.int .u8 t, .int .u8 a])).getD (vI 0))/\J.2=(Q1 h (Value.agg #[.int .u8 t, .int .u8 a])).isSome) (fun x2=> ∀b3:Nat,Qj 4 b3 (Qj 4 b3 (Qj 4 b1 (Qj 4 b1 (gM b bm bh bj h t a (vI x2.1) (Qo b bm bh) (mS Qt bh bj h)))))))):=by kernel_rfl
theorem QbC (b bm bh bj:Nat) (h:KV) (t a:Int) (hh:Xr Qt h):zO b bm bh bj h t a (fun za zh zv zu zp=>QC Tryz.prog 10 za zh Int zv zu zp):=by
  refine Qx (c:=Qk Tryz.f10) (n:=21) (fn:=Tryz.f10) QF Tryz.func10 (by kernel_rfl) (by kernel_rfl) (by kernel_rfl) 2000 _ [.rd 2, .rd 2, .rd 2, .rd 2] [0,1] rfl rfl (Eq.mpr (vz b bm bh bj h t a) ?_)
  intro b1
  refine Qa 1 _ (QN (DR bh bj h t a) (⟨(_,_),rfl,rfl⟩) fun x2 h1=> ?_)
  have hg:=h1.1
  intro b3
  exact Qa 4 _ (Qa 4 _ (Qa 4 _ (Qa 4 _ ⟨_,⟨by rw [hg];exact Xr.R4v yH hh _,hg⟩,rfl,rfl,rfl,trivial⟩)))
abbrev JR (b bm bh bj:Nat) (h:KV) (t a:Int) (KK:Int->Prop):Prop:=zO b bm bh bj h t a (fun za zh zv zu zp=>Zh Tryz.prog 10 za zh Int zv zp KK)
theorem KA (b bm bh bj:Nat) (h:KV) (t a:Int) {KK:Int->Prop} (kont: ∀J:Int,R4 J->(J=Y4 h t a)->KK J) (hh:Xr Qt h:=by assumption):JR b bm bh bj h t a KK:=QN (QbC b bm bh bj h t a hh) (⟨_,Xr.R4v yH ‹_› _,rfl⟩) fun J hz=>by
  obtain ⟨rhz_,hz⟩:=hz
  exact kont J rhz_ hz
noncomputable def Jz:List Value->List Qf->ZB:=fun vs hs=>⟨Int,fun J=>vI J,fun _=>hs,fun J=>R4 J/\J=asst (((Qe (v4 (Qd vs 1) 0)),(Qe (v4 (Qd vs 1) 4)),(Qe (v4 (Qd vs 1) 8)),(Qe (v4 (Qd vs 1) 12))):ST)⟩
abbrev FP (c0 c1 c2 c3:Int) (zv:Value) :Prop:= ∃J:Int,(R4 J/\J=asst (((Qe (vI c0)),(Qe (vI c1)),(Qe (vI c2)),(Qe (vI c3))):ST))/\zv=vI J/\True
abbrev V3 (c0 c1 c2 c3:Int) (zF:SF Int):Prop:=zF #[ZO (c0,c1,c2,c3)] [] (fun J=>vI J) (fun J=> []) (fun J=>(R4 J/\J=asst (((Qe (vI c0)),(Qe (vI c1)),(Qe (vI c2)),(Qe (vI c3))):ST)))
theorem Hi (c0 c1 c2 c3:Int):V3 c0 c1 c2 c3 (fun za zh zv zu zp=>QB Tryz.prog 14 none 2000 none (Qk Tryz.f40) (.reg [.sem [.nw 0], .sem [.nw 1]] (.reg [S0, .sem (QV 4 0),S0, .sem (QV 4 0), .callr [] Xg,S0,S0,S0, .sem [.nw 2], .sem (Zq 4 2),S0] (.reg [.sem (QV 4 2), .sem (Zq 4 1)] (.done))))
    (Q2 za zh) (Q8 Tryz.prog Tryz.f40 [.rd 1, .rd 1, .rd 1, .rd 1] [] (X:=Int) zv zu zp))=
    (∀b1:Nat,∀b2:Nat,Qj 8 b1 (Z7 c0 c1 (fun x3=> ∀b4:Nat,Qj 4 b4 (Qj 4 b4 (Qj 4 b2 (Qj 4 b2 (FP c0 c1 c2 c3 (vI x3.1)))))))):=by kernel_rfl
theorem pG (c0 c1 c2 c3:Int) (r_c0:R4 c0) (r_c1:R4 c1) (r_c2:R4 c2) (r_c3:R4 c3):V3 c0 c1 c2 c3 (fun za zh zv zu zp=>QC Tryz.prog 40 za zh Int zv zu zp):=by
  refine Qx (c:=Qk Tryz.f40) (n:=14) (fn:=Tryz.f40) QF Tryz.func40 (by kernel_rfl) (by kernel_rfl) (by kernel_rfl) 2000 _ [.rd 1, .rd 1, .rd 1, .rd 1] [] rfl rfl (Eq.mpr (Hi c0 c1 c2 c3) ?_)
  intro b1
  intro b2
  refine Qa 8 _ (Xe c0 c1 (fun x3 rh1_1 h1=> ?_))
  have ha:=h1
  intro b4
  exact Qa 4 _ (Qa 4 _ (Qa 4 _ (Qa 4 _ ⟨_,⟨by assumption,by unfold asst;rw [ha];simp only [Qc r_c0,Qc r_c1]⟩,rfl,trivial⟩)))
abbrev XZ (c0 c1 c2 c3:Int) (KK:Int->Prop):Prop:=V3 c0 c1 c2 c3 (fun za zh zv zu zp=>Zh Tryz.prog 40 za zh Int zv zp KK)
theorem JC (c0 c1 c2 c3:Int) {KK:Int->Prop} (kont: ∀J:Int,R4 J->(J=asst ((c0,c1,c2,c3):ST))->KK J) (r_c0:R4 c0:=by assumption) (r_c1:R4 c1:=by assumption) (r_c2:R4 c2:=by assumption) (r_c3:R4 c3:=by assumption):XZ c0 c1 c2 c3 KK:=QN (pG c0 c1 c2 c3 r_c0 r_c1 r_c2 r_c3) (⟨_,zA (s:=(Qe (vI c0),Qe (vI c1),Qe (vI c2),Qe (vI c3))) ⟨Qu _,Qu _,Qu _,Qu _⟩,rfl⟩) fun J hz=>by
  obtain ⟨rhz_,hz⟩:=hz
  try simp only [Qc (n:=c0) r_c0,Qc (n:=c1) r_c1,Qc (n:=c2) r_c2,Qc (n:=c3) r_c3] at hz
  exact kont J rhz_ hz
noncomputable def wB:List Value->List Qf->ZB:=fun vs hs=>⟨(Int×Int)×BS,fun J=> .tuple #[vI J.1.1,ii J.1.2],fun J=> [.blk (QJ (Qd vs 1)) (.cells #[.pointer (some ⟨(QJ (Qw (Qh hs 0) 0)),0,none⟩), .pointer (some ⟨(QJ (Qw (Qh hs 0) 1)),0,none⟩), .slice none 0 0] 73 (0,0)),(mS Qi (QJ (Qw (Qh hs 0) 0)) (XI (Qh hs 1) 1) J.2.1),(mS Qt (QJ (Qw (Qh hs 0) 1)) (XI (Qh hs 1) 1) J.2.2.1),(jS QD (XI (Qh hs 1) 1) J.2.2.2)],fun J=>R4 J.1.1/\J=Jf (QM (QJ (Qw (Qh hs 0) 0))) (Zm (QJ (Qw (Qh hs 0) 1))) (((V8 (Qh hs 1)),(V8 (Qh hs 2)),(KH (Qh hs 3))):BS) (ci (Qd vs 2)) (ci (Qd vs 3)) (Qe (Qd vs 4))⟩
abbrev VN (b bm bh bj:Nat) (m h:KV) (L:List Zf) (t a n:Int) (zv:Value) (zs0:Qf) (zs1:Qf) (zs2:Qf) (zs3:Qf):Prop:= ∃J:(Int×Int)×BS,(R4 J.1.1/\J=Jf (QM bm) (Zm bh) ((m,h,L):BS) t a (Qe (vI n)))/\zv= .tuple #[vI J.1.1,ii J.1.2]/\zs0=Qo b bm bh/\zs1=(mS Qi bm bj J.2.1)/\zs2=(mS Qt bh bj J.2.2.1)/\zs3=(jS QD bj J.2.2.2)/\True
abbrev qF (b bm bh bj:Nat) (m h:KV) (L:List Zf) (t a n:Int) (zF:SF ((Int×Int)×BS)):Prop:=zF #[pp b 0, .int .u8 t, .int .u8 a,vI n] [Qo b bm bh,(mS Qi bm bj m),(mS Qt bh bj h),(jS QD bj L)] (fun J=> .tuple #[vI J.1.1,ii J.1.2]) (fun J=> [Qo b bm bh,(mS Qi bm bj J.2.1),(mS Qt bh bj J.2.2.1),(jS QD bj J.2.2.2)]) (fun J=>(R4 J.1.1/\J=Jf (QM bm) (Zm bh) ((m,h,L):BS) t a (Qe (vI n))))
set_option maxHeartbeats 1000000 in
theorem DH (b bm bh bj:Nat) (m h:KV) (L:List Zf) (t a n:Int):qF b bm bh bj m h L t a n (fun za zh zv zu zp=>QB Tryz.prog 80 none 2000 none (Qk Tryz.f16) (.reg [.sem [.nw 4], .sem [.nw 5],S0] (.caseP (fun s=>decide ((ci (s.fr 1))≥(4:Int))) (.reg [S0, .gen [] (Sx.one (.bool true)),S0, .no, .no,S0] (.condT (.reg [S0, .sem (Zq 4 5),S0] (.done)))) (.reg [S0, .gen [] (Sx.one (.bool false)),S0,S0,S0,S0] (.cond (.reg [S0, .sem (Zq 4 5),S0] (.done)) (.reg [S0,S0, .callr [0,1] XQ, .sem [.nw 6], .sem (Zq 16 6)] (.reg [.sem (QV 16 6), .callr [] Jz,S0, .sem (QV 4 6), .sem (QV 4 4), .callr [] bY,S0,S0,S0, .sem [.nw 7], .sem (Zq 4 7),S0] (.reg [S0,S0] (.cond (.reg [S0,S0, .sem (Zq 4 5),S0] (.done)) (.reg [S0, .sem (QV 4 6), .sem (QV 4 4), .callr [] Xg,S0,S0,S0,S0, .sem (Zq 4 6)] (.reg [S0, .sem (QV 4 6), .sem (QV 4 7), .callr [] Xg,S0,S0,S0,S0, .sem (Zq 4 6)] (.reg [S0,S0,S0, .callr [0,2] KF, .sem (QV 4 7), .callr [] Xg,S0,S0,S0, .sem [.nw 8], .sem (Zq 4 8),S0] (.reg [S0,S0,S0, .sem [.rd 0],S0, .sem (QV 16 6), .callw [1,3] [1,3] XK] (.reg [S0,S0,S0, .sem [.rd 0],S0,S0,S0, .sem (QV 4 8), .callw [2,3] [2,3] zH] (.reg [.sem (QV 4 7), .sem (Zq 4 5),S0] (.done)))))))))))))))
    (Q2 za zh) (Q8 Tryz.prog Tryz.f16 [.rd 5, .rd 5, .rd 5, .rd 5] [0,1,2,3] (X:=(Int×Int)×BS) zv zu zp))=
    (∀b1:Nat,∀b2:Nat,((decide (t≥(4:Int)))=true->gE (.bool (decide (t≥(4:Int)))) (.bool true) (true= !false/\true= !false/\(true=true)/\Qj 4 b2 (Qj 4 b2 (VN b bm bh bj m h L t a n (Value.tuple #[.agg #[uu 0,uu 0,uu 0,uu 0],ii 1]) (Qo b bm bh) (mS Qi bm bj m) (mS Qt bh bj h) (jS QD bj L)))))/\((decide (t≥(4:Int)))=false->gE (.bool (decide (t≥(4:Int)))) (.bool false) (false=false/\false=false/\((decide (a≥(16:Int)))=true->Qj 4 b2 (Qj 4 b2 (VN b bm bh bj m h L t a n (Value.tuple #[.agg #[uu 0,uu 0,uu 0,uu 0],ii 1]) (Qo b bm bh) (mS Qi bm bj m) (mS Qt bh bj h) (jS QD bj L))))/\((decide (a≥(16:Int)))=false->XC b bm bh bj m t (fun x3=> ∀b4:Nat,Qj 16 b4 (Qj 16 b4 (XZ x3.1 x3.2.1 x3.2.2.1 x3.2.2.2 (fun x5=>Qj 4 b4 (Qj 4 b1 (Zh Tryz.prog 43 #[vI x5,vI x3.2.2.2,vI n] [] (Int×Int) (fun J=> .tuple #[vI J.1,ii J.2]) (fun J=>R4 J.1/\J=Yx (Qe (vI x5)) (Qe (vI x3.2.2.2)) (Qe (vI n))) (fun x6=> ∀b7:Nat,Qj 4 b7 (((x6.2 !=(0:Int))=true->Qj 4 b2 (Qj 4 b2 (VN b bm bh bj m h L t a n (Value.tuple #[.agg #[uu 0,uu 0,uu 0,uu 0],ii x6.2]) (Qo b bm bh) (mS Qi bm bj m) (mS Qt bh bj h) (jS QD bj L))))/\((x6.2 !=(0:Int))=false->Qj 4 b4 (Qj 4 b1 (Z7 x3.1 n (fun x8=>Qj 4 b4 (Qj 4 b4 (Qj 4 b7 (Z7 x3.2.2.2 x6.1 (fun x9=>Qj 4 b4 (JR b bm bh bj h t a (fun x10=>Qj 4 b7 (Z7 x10 x6.1 (fun x11=> ∀b12:Nat,Qj 4 b12 (Qj 1 b (Qj 16 b4 (Ze Tryz.prog 44 #[pp bm 0, .int .u8 t,ZO (x8.1,x3.2.1,x3.2.2.1,x9.1)] [(mS Qi bm bj m),(jS QD bj L)] (KV×List Zf) (fun J=> .tuple #[]) (fun J=> [(mS Qi bm bj J.1),(jS QD bj J.2)]) (fun J=>J.1=ZF m (Value.int .u8 t) (ZO (x8.1,x3.2.1,x3.2.2.1,x9.1))/\J.2=L++ [(QM bm m (Value.int .u8 t))]) (fun x13=>Qj 1 b (Qj 4 b12 (Ze Tryz.prog 45 #[pp bh 0, .agg #[.int .u8 t, .int .u8 a],vI x11.1] [(mS Qt bh bj h),(jS QD bj x13.2)] (KV×List Zf) (fun J=> .tuple #[]) (fun J=> [(mS Qt bh bj J.1),(jS QD bj J.2)]) (fun J=>J.1=ZF h (Value.agg #[.int .u8 t, .int .u8 a]) (vI x11.1)/\J.2=x13.2++ [(Zm bh h (Value.agg #[.int .u8 t, .int .u8 a]))]) (fun x14=>Qj 4 b7 (Qj 4 b2 (Qj 4 b2 (VN b bm bh bj m h L t a n (Value.tuple #[vI x6.1,ii 0]) (Qo b bm bh) (mS Qi bm bj x13.1) (mS Qt bh bj x14.1) (jS QD bj x14.2))))))))))))))))))))))))))))))))))):=by kernel_rfl
set_option maxHeartbeats 1000000 in
theorem Qce (b bm bh bj:Nat) (m h:KV) (L:List Zf) (t a n:Int) (r_n:R4 n) (wt:(Lit.int .u8 t).wf=true) (wa:(Lit.int .u8 a).wf=true) (hk:Xr Qi m) (hh:Xr Qt h) (hl:L.length<=1000000):qF b bm bh bj m h L t a n (fun za zh zv zu zp=>QC Tryz.prog 16 za zh ((Int×Int)×BS) zv zu zp):=by
  refine Qx (c:=Qk Tryz.f16) (n:=80) (fn:=Tryz.f16) QF Tryz.func16 (by kernel_rfl) (by kernel_rfl) (by kernel_rfl) 2000 _ [.rd 5, .rd 5, .rd 5, .rd 5] [0,1,2,3] rfl rfl (Eq.mpr (DH b bm bh bj m h L t a n) ?_)
  intro b1
  intro b2
  refine ⟨fun h1=> ?_,fun h1=> ?_⟩
  · exact Ql (congrArg Value.bool h1) ⟨rfl,rfl,⟨rfl,Qa 4 _ (Qa 4 _ ⟨((0,1),m,h,L),⟨QI,by rw [Qc r_n];exact (kH (by (try simp (disch:=assumption) only [Zp] at *);omega)).symm⟩,by rw [Q3],rfl,rfl,rfl,rfl,trivial⟩)⟩⟩
  refine Ql (congrArg Value.bool h1) ⟨rfl,rfl,⟨fun h2=> ?_,fun h2=> ?_⟩⟩
  · exact Qa 4 _ (Qa 4 _ ⟨((0,1),m,h,L),⟨QI,by rw [Qc r_n];exact (kH (by (try simp (disch:=assumption) only [Zp] at *);omega)).symm⟩,by rw [Q3],rfl,rfl,rfl,rfl,trivial⟩)
  refine XR b bm bh bj m t (fun x3 rh3_ h3=> ?_)
  have rah3:=rh3_.a;have rbh3:=rh3_.b;have rch3:=rh3_.c;have rdh3:=rh3_.d
  have hq:=h3
  intro b4
  refine Qa 16 _ (Qa 16 _ (JC x3.1 x3.2.1 x3.2.2.1 x3.2.2.2 (fun x5 rh4_ h4=> ?_)))
  have ha:=h4
  refine Qa 4 _ (Qa 4 _ (QN (Qda x5 x3.2.2.2 n ‹_› ‹_› ‹_›) (⟨_,Dx (by first | exact Qu _ | exact by assumption) (by first | exact Qu _ | exact by assumption) (by first | exact Qu _ | exact by assumption),rfl⟩) fun x6 h5=> ?_))
  obtain ⟨rh5_1,h5⟩:=h5
  try simp only [Qc (n:=x5) ‹_›,Qc (n:=x3.2.2.2) ‹_›,Qc (n:=n) ‹_›] at h5
  have hg:=h5
  intro b7
  refine Qa 4 _ ⟨fun h6=> ?_,fun h6=> ?_⟩
  · refine Qa 4 _ (Qa 4 _ ?_)
    have hz:=(bne_iff_ne.1 h6)
    have hc: ¬ (4<=t∨16<=a):=by (try simp (disch:=assumption) only [Zp] at *);omega
    exact ⟨((0,x6.2),m,h,L),⟨QI,by rw [Qc r_n];exact (QeC hc hq ha hg hz).symm⟩,by rw [Q3],rfl,rfl,rfl,rfl,trivial⟩
  refine Qa 4 _ (Qa 4 _ (Xe x3.1 n (fun x8 rh7_1 h7=> ?_)))
  have h1_:=h7
  refine Qa 4 _ (Qa 4 _ (Qa 4 _ (Xe x3.2.2.2 x6.1 (fun x9 rh8_1 h8=> ?_))))
  have h2_:=h8
  refine Qa 4 _ (KA b bm bh bj h t a (fun x10 rh9_ h9=> ?_))
  have hb_:=h9
  refine Qa 4 _ (Xe x10 x6.1 (fun x11 rh10_1 h10=> ?_))
  have h3_:=h10
  intro b12
  refine Qa 4 _ (Qa 1 _ (Qa 16 _ (QH (Jv bm bj m L t x8.1 x3.2.1 x3.2.2.1 x9.1 ‹_› ‹_› ‹_› ‹_› (by omega)) (⟨(_,_),rfl,rfl⟩) fun x13 h11=> ?_)))
  try simp only [Qc (n:=x8.1) ‹_›,Qc (n:=x3.2.1) ‹_›,Qc (n:=x3.2.2.1) ‹_›,Qc (n:=x9.1) ‹_›] at h11
  have hs1:=h11
  refine Qa 1 _ (Qa 4 _ (QH (yM bh bj h x13.2 t a x11.1 ‹_› (by rw [hs1.2,List.length_append];simp;omega)) (⟨(_,_),rfl,rfl⟩) fun x14 h12=> ?_))
  try simp only [Qc (n:=x11.1) ‹_›] at h12
  have hs2:=h12
  refine Qa 4 _ (Qa 4 _ (Qa 4 _ ?_))
  have hz:=(bne_eq_false_iff_eq.1 h6)
  have hc: ¬ (4<=t∨16<=a):=by (try simp (disch:=assumption) only [Zp] at *);omega
  exact ⟨((x6.1,0),x13.1,x14.1,x14.2),⟨by assumption,by rw [Qc r_n];exact (QcU hc hq ha hg hz h1_ h2_ hb_ h3_ hs1.1 hs1.2 hs2.1 hs2.2).symm⟩,rfl,rfl,rfl,rfl,rfl,trivial⟩
abbrev zN (b bm bh bj:Nat) (m h:KV) (L:List Zf) (t a n:Int) (KK:((Int×Int)×BS)->Prop):Prop:=qF b bm bh bj m h L t a n (fun za zh zv zu zp=>Ze Tryz.prog 16 za zh ((Int×Int)×BS) zv zu zp KK)
theorem wJ (b bm bh bj:Nat) (m h:KV) (L:List Zf) (t a n:Int) {KK:((Int×Int)×BS)->Prop} (kont: ∀J:(Int×Int)×BS,R4 J.1.1->(J=Jf (QM bm) (Zm bh) ((m,h,L):BS) t a n)->KK J) (r_n:R4 n:=by assumption) (wt:(Lit.int .u8 t).wf=true:=by first | assumption | decide) (wa:(Lit.int .u8 a).wf=true:=by first | assumption | decide) (hk:Xr Qi m:=by assumption) (hh:Xr Qt h:=by assumption) (hl:L.length<=1000000:=by omega):zN b bm bh bj m h L t a n KK:=QH (Qce b bm bh bj m h L t a n r_n wt wa hk hh hl) (⟨_,Qfy GX yH (by first | assumption | exact Xr.nil) (by first | assumption | exact Xr.nil) (by first | exact Qu _ | exact r_n),rfl⟩) fun J hz=>by
  obtain ⟨rhz_11,hz⟩:=hz
  try simp only [Qc (n:=n) r_n] at hz
  exact kont J rhz_11 hz
noncomputable def vh:List Value->List Qf->ZB:=fun vs hs=>⟨(Int×Int)×BS,fun J=> .tuple #[vI J.1.1,ii J.1.2],fun J=> [.blk (QJ (Qd vs 1)) (.cells #[.pointer (some ⟨(QJ (Qw (Qh hs 0) 0)),0,none⟩), .pointer (some ⟨(QJ (Qw (Qh hs 0) 1)),0,none⟩), .slice none 0 0] 73 (0,0)),(mS Qi (QJ (Qw (Qh hs 0) 0)) (XI (Qh hs 1) 1) J.2.1),(mS Qt (QJ (Qw (Qh hs 0) 1)) (XI (Qh hs 1) 1) J.2.2.1),(jS QD (XI (Qh hs 1) 1) J.2.2.2)],fun J=>R4 J.1.1/\J=ZS (QM (QJ (Qw (Qh hs 0) 0))) (Zm (QJ (Qw (Qh hs 0) 1))) (((V8 (Qh hs 1)),(V8 (Qh hs 2)),(KH (Qh hs 3))):BS) (ci (Qd vs 2)) (ci (Qd vs 3)) (Qe (Qd vs 4))⟩
abbrev XY (b bm bh bj:Nat) (m h:KV) (L:List Zf) (t a n:Int) (zv:Value) (zs0:Qf) (zs1:Qf) (zs2:Qf) (zs3:Qf):Prop:= ∃J:(Int×Int)×BS,(R4 J.1.1/\J=ZS (QM bm) (Zm bh) ((m,h,L):BS) t a (Qe (vI n)))/\zv= .tuple #[vI J.1.1,ii J.1.2]/\zs0=Qo b bm bh/\zs1=(mS Qi bm bj J.2.1)/\zs2=(mS Qt bh bj J.2.2.1)/\zs3=(jS QD bj J.2.2.2)/\True
abbrev yd (b bm bh bj:Nat) (m h:KV) (L:List Zf) (t a n:Int) (zF:SF ((Int×Int)×BS)):Prop:=zF #[pp b 0, .int .u8 t, .int .u8 a,vI n] [Qo b bm bh,(mS Qi bm bj m),(mS Qt bh bj h),(jS QD bj L)] (fun J=> .tuple #[vI J.1.1,ii J.1.2]) (fun J=> [Qo b bm bh,(mS Qi bm bj J.2.1),(mS Qt bh bj J.2.2.1),(jS QD bj J.2.2.2)]) (fun J=>(R4 J.1.1/\J=ZS (QM bm) (Zm bh) ((m,h,L):BS) t a (Qe (vI n))))
set_option maxHeartbeats 1000000 in
theorem Fj (b bm bh bj:Nat) (m h:KV) (L:List Zf) (t a n:Int):yd b bm bh bj m h L t a n (fun za zh zv zu zp=>QB Tryz.prog 101 none 2000 none (Qk Tryz.f27) (.reg [.sem [.nw 4], .sem [.nw 5],S0] (.caseP (fun s=>decide ((ci (s.fr 1))≥(4:Int))) (.reg [S0, .gen [] (Sx.one (.bool true)),S0, .no, .no,S0] (.condT (.reg [S0, .sem (Zq 4 5),S0] (.done)))) (.reg [S0, .gen [] (Sx.one (.bool false)),S0,S0,S0,S0] (.cond (.reg [S0, .sem (Zq 4 5),S0] (.done)) (.reg [S0,S0,S0, .callr [0,2] KF, .sem (QV 4 4), .callr [] Ya,S0,S0,S0, .sem [.nw 6], .sem (Zq 4 6),S0] (.reg [.sem (QV 4 4),S0, .eq (Bu),S0] (.cond (.reg [.sem (QV 4 4), .sem (Zq 4 5),S0] (.done)) (.reg [S0,S0,S0] (.cond (.reg [S0, .sem (Zq 4 5),S0] (.done)) (.reg [S0,S0, .callr [0,1] XQ, .sem [.nw 7], .sem (Zq 16 7)] (.reg [.sem (QV 16 7), .callr [] Jz,S0, .sem (QV 4 7), .sem (QV 4 4), .callr [] wE,S0,S0,S0, .sem [.nw 8], .sem (Zq 4 8),S0] (.reg [S0,S0] (.cond (.reg [S0,S0, .sem (Zq 4 5),S0] (.done)) (.reg [S0, .sem (QV 4 7), .sem (QV 4 8), .callr [] Ya,S0,S0,S0, .sem [.nw 9], .sem (Zq 4 9),S0] (.reg [S0,S0,S0] (.cond (.reg [S0, .sem (Zq 4 5),S0] (.done)) (.reg [.sem (QV 4 9),S0, .sem (QV 4 7), .callr [] Uv,S0,S0] (.cond (.reg [S0, .sem (Zq 4 5),S0] (.done)) (.reg [.sem (QV 4 9),S0, .sem (Zq 4 7)] (.reg [S0, .sem (QV 4 7), .sem (QV 4 4), .callr [] Ya,S0,S0,S0,S0, .sem (Zq 4 7)] (.reg [S0,S0,S0, .sem [.rd 0],S0, .sem (QV 16 7), .callw [1,3] [1,3] XK] (.reg [S0,S0,S0, .sem [.rd 0],S0,S0,S0, .sem (QV 4 6), .callw [2,3] [2,3] zH] (.reg [.sem (QV 4 8), .sem (Zq 4 5),S0] (.done))))))))))))))))))))))))
    (Q2 za zh) (Q8 Tryz.prog Tryz.f27 [.rd 5, .rd 5, .rd 5, .rd 5] [0,1,2,3] (X:=(Int×Int)×BS) zv zu zp))=
    (∀b1:Nat,∀b2:Nat,((decide (t≥(4:Int)))=true->gE (.bool (decide (t≥(4:Int)))) (.bool true) (true= !false/\true= !false/\(true=true)/\Qj 4 b2 (Qj 4 b2 (XY b bm bh bj m h L t a n (Value.tuple #[.agg #[uu 0,uu 0,uu 0,uu 0],ii 1]) (Qo b bm bh) (mS Qi bm bj m) (mS Qt bh bj h) (jS QD bj L)))))/\((decide (t≥(4:Int)))=false->gE (.bool (decide (t≥(4:Int)))) (.bool false) (false=false/\false=false/\((decide (a≥(16:Int)))=true->Qj 4 b2 (Qj 4 b2 (XY b bm bh bj m h L t a n (Value.tuple #[.agg #[uu 0,uu 0,uu 0,uu 0],ii 1]) (Qo b bm bh) (mS Qi bm bj m) (mS Qt bh bj h) (jS QD bj L))))/\((decide (a≥(16:Int)))=false->JR b bm bh bj h t a (fun x3=>Qj 4 b1 (Kp x3 n (fun x4=> ∀b5:Nat,Qj 4 b5 (Qj 4 b1 ((Qg Tryz.prog (Q0 .eql 35 (vI n) (vI 0)) (.bool (Qe (vI n)==Qe (vI 0))))/\((Qe (vI n)==Qe (vI 0))=true->Qj 4 b1 (Qj 4 b2 (Qj 4 b2 (XY b bm bh bj m h L t a n (Value.tuple #[vI n,ii 3]) (Qo b bm bh) (mS Qi bm bj m) (mS Qt bh bj h) (jS QD bj L)))))/\((Qe (vI n)==Qe (vI 0))=false->((x4.2 !=(0:Int))=true->Qj 4 b2 (Qj 4 b2 (XY b bm bh bj m h L t a n (Value.tuple #[.agg #[uu 0,uu 0,uu 0,uu 0],ii 8]) (Qo b bm bh) (mS Qi bm bj m) (mS Qt bh bj h) (jS QD bj L))))/\((x4.2 !=(0:Int))=false->XC b bm bh bj m t (fun x6=> ∀b7:Nat,Qj 16 b7 (Qj 16 b7 (XZ x6.1 x6.2.1 x6.2.2.1 x6.2.2.2 (fun x8=>Qj 4 b7 (Qj 4 b1 (zB x8 x6.2.2.2 n (fun x9=> ∀b10:Nat,Qj 4 b10 (((x9.2 !=(0:Int))=true->Qj 4 b2 (Qj 4 b2 (XY b bm bh bj m h L t a n (Value.tuple #[.agg #[uu 0,uu 0,uu 0,uu 0],ii x9.2]) (Qo b bm bh) (mS Qi bm bj m) (mS Qt bh bj h) (jS QD bj L))))/\((x9.2 !=(0:Int))=false->Qj 4 b7 (Qj 4 b10 (Kp x6.1 x9.1 (fun x11=> ∀b12:Nat,Qj 4 b12 (((x11.2 !=(0:Int))=true->Qj 4 b2 (Qj 4 b2 (XY b bm bh bj m h L t a n (Value.tuple #[.agg #[uu 0,uu 0,uu 0,uu 0],ii 8]) (Qo b bm bh) (mS Qi bm bj m) (mS Qt bh bj h) (jS QD bj L))))/\((x11.2 !=(0:Int))=false->Qj 4 b12 (Qj 4 b7 (Vq x11.1 x6.2.2.1 (fun _=>((decide ((X7 (Qe (vI x11.1)) (Qe (vI x6.2.2.1)))<(0:Int)))=true->Qj 4 b2 (Qj 4 b2 (XY b bm bh bj m h L t a n (Value.tuple #[.agg #[uu 0,uu 0,uu 0,uu 0],ii 11]) (Qo b bm bh) (mS Qi bm bj m) (mS Qt bh bj h) (jS QD bj L))))/\((decide ((X7 (Qe (vI x11.1)) (Qe (vI x6.2.2.1)))<(0:Int)))=false->Qj 4 b12 (Qj 4 b7 (Qj 4 b7 (Qj 4 b1 (Kp x6.2.2.2 n (fun x13=>Qj 4 b7 (Qj 1 b (Qj 16 b7 (Ze Tryz.prog 44 #[pp bm 0, .int .u8 t,ZO (x11.1,x6.2.1,x6.2.2.1,x13.1)] [(mS Qi bm bj m),(jS QD bj L)] (KV×List Zf) (fun J=> .tuple #[]) (fun J=> [(mS Qi bm bj J.1),(jS QD bj J.2)]) (fun J=>J.1=ZF m (Value.int .u8 t) (ZO (x11.1,x6.2.1,x6.2.2.1,x13.1))/\J.2=L++ [(QM bm m (Value.int .u8 t))]) (fun x14=>Qj 1 b (Qj 4 b5 (Ze Tryz.prog 45 #[pp bh 0, .agg #[.int .u8 t, .int .u8 a],vI x4.1] [(mS Qt bh bj h),(jS QD bj x14.2)] (KV×List Zf) (fun J=> .tuple #[]) (fun J=> [(mS Qt bh bj J.1),(jS QD bj J.2)]) (fun J=>J.1=ZF h (Value.agg #[.int .u8 t, .int .u8 a]) (vI x4.1)/\J.2=x14.2++ [(Zm bh h (Value.agg #[.int .u8 t, .int .u8 a]))]) (fun x15=>Qj 4 b10 (Qj 4 b2 (Qj 4 b2 (XY b bm bh bj m h L t a n (Value.tuple #[vI x9.1,ii 0]) (Qo b bm bh) (mS Qi bm bj x14.1) (mS Qt bh bj x15.1) (jS QD bj x15.2))))))))))))))))))))))))))))))))))))))))))))):=by kernel_rfl
set_option maxHeartbeats 1000000 in
theorem Qau (b bm bh bj:Nat) (m h:KV) (L:List Zf) (t a n:Int) (r_n:R4 n) (wt:(Lit.int .u8 t).wf=true) (wa:(Lit.int .u8 a).wf=true) (hk:Xr Qi m) (hh:Xr Qt h) (hl:L.length<=1000000):yd b bm bh bj m h L t a n (fun za zh zv zu zp=>QC Tryz.prog 27 za zh ((Int×Int)×BS) zv zu zp):=by
  refine Qx (c:=Qk Tryz.f27) (n:=101) (fn:=Tryz.f27) QF Tryz.func27 (by kernel_rfl) (by kernel_rfl) (by kernel_rfl) 2000 _ [.rd 5, .rd 5, .rd 5, .rd 5] [0,1,2,3] rfl rfl (Eq.mpr (Fj b bm bh bj m h L t a n) ?_)
  intro b1
  intro b2
  refine ⟨fun h1=> ?_,fun h1=> ?_⟩
  · exact Ql (congrArg Value.bool h1) ⟨rfl,rfl,⟨rfl,Qa 4 _ (Qa 4 _ ⟨((0,1),m,h,L),⟨QI,by rw [Qc r_n];exact (xP (by (try simp (disch:=assumption) only [Zp] at *);omega)).symm⟩,by rw [Q3],rfl,rfl,rfl,rfl,trivial⟩)⟩⟩
  refine Ql (congrArg Value.bool h1) ⟨rfl,rfl,⟨fun h2=> ?_,fun h2=> ?_⟩⟩
  · exact Qa 4 _ (Qa 4 _ ⟨((0,1),m,h,L),⟨QI,by rw [Qc r_n];exact (xP (by (try simp (disch:=assumption) only [Zp] at *);omega)).symm⟩,by rw [Q3],rfl,rfl,rfl,rfl,trivial⟩)
  refine KA b bm bh bj h t a (fun x3 rh3_ h3=> ?_)
  have hb_:=h3
  refine Qa 4 _ (Yl x3 n (fun x4 rh4_1 h4=> ?_))
  have cx:=UV h4
  intro b5
  refine Qa 4 _ (Qa 4 _ ⟨JD n 0,⟨fun h5=> ?_,fun h5=> ?_⟩⟩)
  · refine Qa 4 _ (Qa 4 _ (Qa 4 _ ?_))
    have hc: ¬ (4<=t∨16<=a):=by (try simp (disch:=assumption) only [Zp] at *);omega
    have hn0:n=0:=by (try simp (disch:=assumption) only [Zp] at *);omega
    exact ⟨((n,3),m,h,L),⟨r_n,by rw [Qc r_n,pW hc hn0,hn0]⟩,rfl,rfl,rfl,rfl,rfl,trivial⟩
  refine ⟨fun h6=> ?_,fun h6=> ?_⟩
  · refine Qa 4 _ (Qa 4 _ ?_)
    have hc: ¬ (4<=t∨16<=a):=by (try simp (disch:=assumption) only [Zp] at *);omega
    have hn0: ¬n=0:=by (try simp (disch:=assumption) only [Zp] at *);omega
    have hlt:x3<n:=by (try simp (disch:=assumption) only [Zp] at *);omega
    exact ⟨((0,8),m,h,L),⟨QI,by rw [Qc r_n];exact (Qat hc hn0 hb_ hlt).symm⟩,by rw [Q3],rfl,rfl,rfl,rfl,trivial⟩
  refine XR b bm bh bj m t (fun x6 rh7_ h7=> ?_)
  have rah7:=rh7_.a;have rbh7:=rh7_.b;have rch7:=rh7_.c;have rdh7:=rh7_.d
  have hq:=h7
  intro b7
  refine Qa 16 _ (Qa 16 _ (JC x6.1 x6.2.1 x6.2.2.1 x6.2.2.2 (fun x8 rh8_ h8=> ?_)))
  have ha:=h8
  refine Qa 4 _ (Qa 4 _ (wA x8 x6.2.2.2 n (fun x9 rh9_1 h9=> ?_)))
  have hg:=h9
  intro b10
  refine Qa 4 _ ⟨fun h10=> ?_,fun h10=> ?_⟩
  · refine Qa 4 _ (Qa 4 _ ?_)
    have hc: ¬ (4<=t∨16<=a):=by (try simp (disch:=assumption) only [Zp] at *);omega
    have hn0: ¬n=0:=by (try simp (disch:=assumption) only [Zp] at *);omega
    have hlt: ¬x3<n:=by (try simp (disch:=assumption) only [Zp] at *);omega
    have hz:=(bne_iff_ne.1 h10)
    exact ⟨((0,x9.2),m,h,L),⟨QI,by rw [Qc r_n];exact (QbZ hc hn0 hb_ hlt hq ha hg hz).symm⟩,by rw [Q3],rfl,rfl,rfl,rfl,trivial⟩
  refine Qa 4 _ (Qa 4 _ (Yl x6.1 x9.1 (fun x11 rh11_1 h11=> ?_)))
  have cl:=UV h11
  intro b12
  refine Qa 4 _ ⟨fun h12=> ?_,fun h12=> ?_⟩
  · refine Qa 4 _ (Qa 4 _ ?_)
    have hc: ¬ (4<=t∨16<=a):=by (try simp (disch:=assumption) only [Zp] at *);omega
    have hn0: ¬n=0:=by (try simp (disch:=assumption) only [Zp] at *);omega
    have hlt: ¬x3<n:=by (try simp (disch:=assumption) only [Zp] at *);omega
    have hz:=(bne_eq_false_iff_eq.1 h10)
    have hca:x6.1<x9.1:=by (try simp (disch:=assumption) only [Zp] at *);omega
    exact ⟨((0,8),m,h,L),⟨QI,by rw [Qc r_n];exact (gZ hc hn0 hb_ hlt hq ha hg hz hca).symm⟩,by rw [Q3],rfl,rfl,rfl,rfl,trivial⟩
  refine Qa 4 _ (Qa 4 _ (UH x11.1 x6.2.2.1 ⟨fun h13=> ?_,fun h13=> ?_⟩))
  · refine Qa 4 _ (Qa 4 _ ?_)
    have hc: ¬ (4<=t∨16<=a):=by (try simp (disch:=assumption) only [Zp] at *);omega
    have hn0: ¬n=0:=by (try simp (disch:=assumption) only [Zp] at *);omega
    have hlt: ¬x3<n:=by (try simp (disch:=assumption) only [Zp] at *);omega
    have hz:=(bne_eq_false_iff_eq.1 h10)
    have hca: ¬x6.1<x9.1:=by (try simp (disch:=assumption) only [Zp] at *);omega
    have hre:x6.1 - x9.1<x6.2.2.1:=by (try simp (disch:=assumption) only [Zp] at *);omega
    exact ⟨((0,11),m,h,L),⟨QI,by rw [Qc r_n];exact (Qag hc hn0 hb_ hlt hq ha hg hz hca hre).symm⟩,by rw [Q3],rfl,rfl,rfl,rfl,trivial⟩
  refine Qa 4 _ (Qa 4 _ (Qa 4 _ (Qa 4 _ (Yl x6.2.2.2 n (fun x13 rh14_1 h14=> ?_)))))
  have h2_:=h14
  refine Qa 4 _ (Qa 1 _ (Qa 16 _ (QH (Jv bm bj m L t x11.1 x6.2.1 x6.2.2.1 x13.1 ‹_› ‹_› ‹_› ‹_› (by omega)) (⟨(_,_),rfl,rfl⟩) fun x14 h15=> ?_)))
  try simp only [Qc (n:=x11.1) ‹_›,Qc (n:=x6.2.1) ‹_›,Qc (n:=x6.2.2.1) ‹_›,Qc (n:=x13.1) ‹_›] at h15
  have hs1:=h15
  refine Qa 1 _ (Qa 4 _ (QH (yM bh bj h x14.2 t a x4.1 ‹_› (by rw [hs1.2,List.length_append];simp;omega)) (⟨(_,_),rfl,rfl⟩) fun x15 h16=> ?_))
  try simp only [Qc (n:=x4.1) ‹_›] at h16
  have hs2:=h16
  refine Qa 4 _ (Qa 4 _ (Qa 4 _ ?_))
  have hc: ¬ (4<=t∨16<=a):=by (try simp (disch:=assumption) only [Zp] at *);omega
  have hn0: ¬n=0:=by (try simp (disch:=assumption) only [Zp] at *);omega
  have hlt: ¬x3<n:=by (try simp (disch:=assumption) only [Zp] at *);omega
  have hz:=(bne_eq_false_iff_eq.1 h10)
  have hca: ¬x6.1<x9.1:=by (try simp (disch:=assumption) only [Zp] at *);omega
  have hre: ¬x6.1 - x9.1<x6.2.2.1:=by (try simp (disch:=assumption) only [Zp] at *);omega
  have hc1:x11.1=x6.1 - x9.1:=by (try simp (disch:=assumption) only [Zp] at *);omega
  have hy1:x4.1=x3 - n:=by (try simp (disch:=assumption) only [Zp] at *);omega
  exact ⟨((x9.1,0),x14.1,x15.1,x15.2),⟨by assumption,by rw [Qc r_n];exact (Qcq hc hn0 hb_ hlt hq ha hg hz hca hre hc1 h2_ hy1 hs1.1 hs1.2 hs2.1 hs2.2).symm⟩,rfl,rfl,rfl,rfl,rfl,trivial⟩
noncomputable def BN:List Value->List Qf->ZB:=fun vs hs=>⟨Int×Int,fun J=>ii J.1,fun J=> [.blk (QJ (Qd vs 1)) (.cells #[uu (Qb J.2 0),uu (Qb J.2 1),uu (Qb J.2 2),uu (Qb J.2 3),uu (Qb (Qe (v4 (.agg (Qm (Qh hs 0))) 4)) 0),uu (Qb (Qe (v4 (.agg (Qm (Qh hs 0))) 4)) 1),uu (Qb (Qe (v4 (.agg (Qm (Qh hs 0))) 4)) 2),uu (Qb (Qe (v4 (.agg (Qm (Qh hs 0))) 4)) 3),uu (Qb (Qe (v4 (.agg (Qm (Qh hs 0))) 8)) 0),uu (Qb (Qe (v4 (.agg (Qm (Qh hs 0))) 8)) 1),uu (Qb (Qe (v4 (.agg (Qm (Qh hs 0))) 8)) 2),uu (Qb (Qe (v4 (.agg (Qm (Qh hs 0))) 8)) 3),uu (Qb (Qe (v4 (.agg (Qm (Qh hs 0))) 12)) 0),uu (Qb (Qe (v4 (.agg (Qm (Qh hs 0))) 12)) 1),uu (Qb (Qe (v4 (.agg (Qm (Qh hs 0))) 12)) 2),uu (Qb (Qe (v4 (.agg (Qm (Qh hs 0))) 12)) 3)] 51 (0,0))],fun J=>R4 J.2/\J=Z3 (Qe (v4 (.agg (Qm (Qh hs 0))) 0)) (Qe (Qd vs 2))⟩
abbrev kd (sb:Nat) (c0 c1 c2 c3 n:Int) (zv:Value) (zs0:Qf):Prop:= ∃J:Int×Int,(R4 J.2/\J=Z3 (Qe (vI c0)) (Qe (vI n)))/\zv=ii J.1/\zs0=bk sb #[uu (Qb J.2 0),uu (Qb J.2 1),uu (Qb J.2 2),uu (Qb J.2 3),uu (Qb (Qe (vI c1)) 0),uu (Qb (Qe (vI c1)) 1),uu (Qb (Qe (vI c1)) 2),uu (Qb (Qe (vI c1)) 3),uu (Qb (Qe (vI c2)) 0),uu (Qb (Qe (vI c2)) 1),uu (Qb (Qe (vI c2)) 2),uu (Qb (Qe (vI c2)) 3),uu (Qb (Qe (vI c3)) 0),uu (Qb (Qe (vI c3)) 1),uu (Qb (Qe (vI c3)) 2),uu (Qb (Qe (vI c3)) 3)] 51/\True
abbrev yD (sb:Nat) (c0 c1 c2 c3 n:Int) (zF:SF (Int×Int)):Prop:=zF #[pp sb 0,vI n] [bk sb #[uu (Qb c0 0),uu (Qb c0 1),uu (Qb c0 2),uu (Qb c0 3),uu (Qb c1 0),uu (Qb c1 1),uu (Qb c1 2),uu (Qb c1 3),uu (Qb c2 0),uu (Qb c2 1),uu (Qb c2 2),uu (Qb c2 3),uu (Qb c3 0),uu (Qb c3 1),uu (Qb c3 2),uu (Qb c3 3)] 51] (fun J=>ii J.1) (fun J=> [bk sb #[uu (Qb J.2 0),uu (Qb J.2 1),uu (Qb J.2 2),uu (Qb J.2 3),uu (Qb (Qe (vI c1)) 0),uu (Qb (Qe (vI c1)) 1),uu (Qb (Qe (vI c1)) 2),uu (Qb (Qe (vI c1)) 3),uu (Qb (Qe (vI c2)) 0),uu (Qb (Qe (vI c2)) 1),uu (Qb (Qe (vI c2)) 2),uu (Qb (Qe (vI c2)) 3),uu (Qb (Qe (vI c3)) 0),uu (Qb (Qe (vI c3)) 1),uu (Qb (Qe (vI c3)) 2),uu (Qb (Qe (vI c3)) 3)] 51]) (fun J=>(R4 J.2/\J=Z3 (Qe (vI c0)) (Qe (vI n))))
theorem Fq (sb:Nat) (c0 c1 c2 c3 n:Int):yD sb c0 c1 c2 c3 n (fun za zh zv zu zp=>QB Tryz.prog 20 none 2000 none (Qk Tryz.f62) (.reg [.sem [.nw 1],S0] (.reg [S0,S0, .sem (QV 4 0), .sem (QV 4 1), .callr [] Ya,S0,S0,S0, .sem [.nw 2], .sem (Zq 4 2),S0] (.reg [S0,S0] (.cond (.reg [S0] (.done)) (.reg [S0, .sem (QV 4 2),S0, .sem (Zq 4 0)] (.reg [S0] (.done)))))))
    (Q2 za zh) (Q8 Tryz.prog Tryz.f62 [] [0] (X:=Int×Int) zv zu zp))=
    (∀b1:Nat,Qj 4 sb (Qj 4 b1 (Kp c0 n (fun x2=> ∀b3:Nat,Qj 4 b3 (((x2.2 !=(0:Int))=true->kd sb c0 c1 c2 c3 n (ii 8) (bk sb #[uu (Qb c0 0),uu (Qb c0 1),uu (Qb c0 2),uu (Qb c0 3),uu (Qb c1 0),uu (Qb c1 1),uu (Qb c1 2),uu (Qb c1 3),uu (Qb c2 0),uu (Qb c2 1),uu (Qb c2 2),uu (Qb c2 3),uu (Qb c3 0),uu (Qb c3 1),uu (Qb c3 2),uu (Qb c3 3)] 51))/\((x2.2 !=(0:Int))=false->Qj 4 b3 (Qj 4 sb (kd sb c0 c1 c2 c3 n (ii 0) (bk sb #[uu (Qb x2.1 0),uu (Qb x2.1 1),uu (Qb x2.1 2),uu (Qb x2.1 3),uu (Qb c1 0),uu (Qb c1 1),uu (Qb c1 2),uu (Qb c1 3),uu (Qb c2 0),uu (Qb c2 1),uu (Qb c2 2),uu (Qb c2 3),uu (Qb c3 0),uu (Qb c3 1),uu (Qb c3 2),uu (Qb c3 3)] 51))))))))):=by kernel_rfl
theorem dJ (sb:Nat) (c0 c1 c2 c3 n:Int) (r_c0:R4 c0) (r_c1:R4 c1) (r_c2:R4 c2) (r_c3:R4 c3) (r_n:R4 n):yD sb c0 c1 c2 c3 n (fun za zh zv zu zp=>QC Tryz.prog 62 za zh (Int×Int) zv zu zp):=by
  refine Qx (c:=Qk Tryz.f62) (n:=20) (fn:=Tryz.f62) QF Tryz.func62 (by kernel_rfl) (by kernel_rfl) (by kernel_rfl) 2000 _ [] [0] rfl rfl (Eq.mpr (Fq sb c0 c1 c2 c3 n) ?_)
  intro b1
  refine Qa 4 _ (Qa 4 _ (Yl c0 n (fun x2 rh1_1 h1=> ?_)))
  have hx:=h1
  intro b3
  refine Qa 4 _ ⟨fun h2=> ?_,fun h2=> ?_⟩
  · have hz:=(bne_iff_ne.1 h2)
    exact ⟨(8,c0),⟨r_c0,by rw [Qc r_c0,Qc r_n];exact (Ho hx hz).symm⟩,rfl,(by simp only [Qc r_c0,Qc r_c1,Qc r_c2,Qc r_c3]),trivial⟩
  refine Qa 4 _ (Qa 4 _ ?_)
  have hz:=(bne_eq_false_iff_eq.1 h2)
  exact ⟨(0,x2.1),⟨by assumption,by rw [Qc r_c0,Qc r_n];exact (HZ hx hz).symm⟩,rfl,(by simp only [Qc r_c0,Qc r_c1,Qc r_c2,Qc r_c3]),trivial⟩
noncomputable def Be:List Value->List Qf->ZB:=fun vs hs=>⟨Int×Int,fun J=>ii J.1,fun J=> [.blk (QJ (Qd vs 1)) (.cells #[uu (Qb (Qe (v4 (.agg (Qm (Qh hs 0))) 0)) 0),uu (Qb (Qe (v4 (.agg (Qm (Qh hs 0))) 0)) 1),uu (Qb (Qe (v4 (.agg (Qm (Qh hs 0))) 0)) 2),uu (Qb (Qe (v4 (.agg (Qm (Qh hs 0))) 0)) 3),uu (Qb J.2 0),uu (Qb J.2 1),uu (Qb J.2 2),uu (Qb J.2 3),uu (Qb (Qe (v4 (.agg (Qm (Qh hs 0))) 8)) 0),uu (Qb (Qe (v4 (.agg (Qm (Qh hs 0))) 8)) 1),uu (Qb (Qe (v4 (.agg (Qm (Qh hs 0))) 8)) 2),uu (Qb (Qe (v4 (.agg (Qm (Qh hs 0))) 8)) 3),uu (Qb (Qe (v4 (.agg (Qm (Qh hs 0))) 12)) 0),uu (Qb (Qe (v4 (.agg (Qm (Qh hs 0))) 12)) 1),uu (Qb (Qe (v4 (.agg (Qm (Qh hs 0))) 12)) 2),uu (Qb (Qe (v4 (.agg (Qm (Qh hs 0))) 12)) 3)] 51 (0,0))],fun J=>R4 J.2/\J=Z3 (Qe (v4 (.agg (Qm (Qh hs 0))) 4)) (Qe (Qd vs 2))⟩
abbrev yp (sb:Nat) (c0 c1 c2 c3 n:Int) (zv:Value) (zs0:Qf):Prop:= ∃J:Int×Int,(R4 J.2/\J=Z3 (Qe (vI c1)) (Qe (vI n)))/\zv=ii J.1/\zs0=bk sb #[uu (Qb (Qe (vI c0)) 0),uu (Qb (Qe (vI c0)) 1),uu (Qb (Qe (vI c0)) 2),uu (Qb (Qe (vI c0)) 3),uu (Qb J.2 0),uu (Qb J.2 1),uu (Qb J.2 2),uu (Qb J.2 3),uu (Qb (Qe (vI c2)) 0),uu (Qb (Qe (vI c2)) 1),uu (Qb (Qe (vI c2)) 2),uu (Qb (Qe (vI c2)) 3),uu (Qb (Qe (vI c3)) 0),uu (Qb (Qe (vI c3)) 1),uu (Qb (Qe (vI c3)) 2),uu (Qb (Qe (vI c3)) 3)] 51/\True
abbrev yl (sb:Nat) (c0 c1 c2 c3 n:Int) (zF:SF (Int×Int)):Prop:=zF #[pp sb 4,vI n] [bk sb #[uu (Qb c0 0),uu (Qb c0 1),uu (Qb c0 2),uu (Qb c0 3),uu (Qb c1 0),uu (Qb c1 1),uu (Qb c1 2),uu (Qb c1 3),uu (Qb c2 0),uu (Qb c2 1),uu (Qb c2 2),uu (Qb c2 3),uu (Qb c3 0),uu (Qb c3 1),uu (Qb c3 2),uu (Qb c3 3)] 51] (fun J=>ii J.1) (fun J=> [bk sb #[uu (Qb (Qe (vI c0)) 0),uu (Qb (Qe (vI c0)) 1),uu (Qb (Qe (vI c0)) 2),uu (Qb (Qe (vI c0)) 3),uu (Qb J.2 0),uu (Qb J.2 1),uu (Qb J.2 2),uu (Qb J.2 3),uu (Qb (Qe (vI c2)) 0),uu (Qb (Qe (vI c2)) 1),uu (Qb (Qe (vI c2)) 2),uu (Qb (Qe (vI c2)) 3),uu (Qb (Qe (vI c3)) 0),uu (Qb (Qe (vI c3)) 1),uu (Qb (Qe (vI c3)) 2),uu (Qb (Qe (vI c3)) 3)] 51]) (fun J=>(R4 J.2/\J=Z3 (Qe (vI c1)) (Qe (vI n))))
theorem FW (sb:Nat) (c0 c1 c2 c3 n:Int):yl sb c0 c1 c2 c3 n (fun za zh zv zu zp=>QB Tryz.prog 20 none 2000 none (Qk Tryz.f62) (.reg [.sem [.nw 1],S0] (.reg [S0,S0, .sem (QV 4 0), .sem (QV 4 1), .callr [] Ya,S0,S0,S0, .sem [.nw 2], .sem (Zq 4 2),S0] (.reg [S0,S0] (.cond (.reg [S0] (.done)) (.reg [S0, .sem (QV 4 2),S0, .sem (Zq 4 0)] (.reg [S0] (.done)))))))
    (Q2 za zh) (Q8 Tryz.prog Tryz.f62 [] [0] (X:=Int×Int) zv zu zp))=
    (∀b1:Nat,Qj 4 sb (Qj 4 b1 (Kp c1 n (fun x2=> ∀b3:Nat,Qj 4 b3 (((x2.2 !=(0:Int))=true->yp sb c0 c1 c2 c3 n (ii 8) (bk sb #[uu (Qb c0 0),uu (Qb c0 1),uu (Qb c0 2),uu (Qb c0 3),uu (Qb c1 0),uu (Qb c1 1),uu (Qb c1 2),uu (Qb c1 3),uu (Qb c2 0),uu (Qb c2 1),uu (Qb c2 2),uu (Qb c2 3),uu (Qb c3 0),uu (Qb c3 1),uu (Qb c3 2),uu (Qb c3 3)] 51))/\((x2.2 !=(0:Int))=false->Qj 4 b3 (Qj 4 sb (yp sb c0 c1 c2 c3 n (ii 0) (bk sb #[uu (Qb c0 0),uu (Qb c0 1),uu (Qb c0 2),uu (Qb c0 3),uu (Qb x2.1 0),uu (Qb x2.1 1),uu (Qb x2.1 2),uu (Qb x2.1 3),uu (Qb c2 0),uu (Qb c2 1),uu (Qb c2 2),uu (Qb c2 3),uu (Qb c3 0),uu (Qb c3 1),uu (Qb c3 2),uu (Qb c3 3)] 51))))))))):=by kernel_rfl
theorem dQ (sb:Nat) (c0 c1 c2 c3 n:Int) (r_c0:R4 c0) (r_c1:R4 c1) (r_c2:R4 c2) (r_c3:R4 c3) (r_n:R4 n):yl sb c0 c1 c2 c3 n (fun za zh zv zu zp=>QC Tryz.prog 62 za zh (Int×Int) zv zu zp):=by
  refine Qx (c:=Qk Tryz.f62) (n:=20) (fn:=Tryz.f62) QF Tryz.func62 (by kernel_rfl) (by kernel_rfl) (by kernel_rfl) 2000 _ [] [0] rfl rfl (Eq.mpr (FW sb c0 c1 c2 c3 n) ?_)
  intro b1
  refine Qa 4 _ (Qa 4 _ (Yl c1 n (fun x2 rh1_1 h1=> ?_)))
  have hx:=h1
  intro b3
  refine Qa 4 _ ⟨fun h2=> ?_,fun h2=> ?_⟩
  · have hz:=(bne_iff_ne.1 h2)
    exact ⟨(8,c1),⟨r_c1,by rw [Qc r_c1,Qc r_n];exact (Ho hx hz).symm⟩,rfl,(by simp only [Qc r_c0,Qc r_c1,Qc r_c2,Qc r_c3]),trivial⟩
  refine Qa 4 _ (Qa 4 _ ?_)
  have hz:=(bne_eq_false_iff_eq.1 h2)
  exact ⟨(0,x2.1),⟨by assumption,by rw [Qc r_c1,Qc r_n];exact (HZ hx hz).symm⟩,rfl,(by simp only [Qc r_c0,Qc r_c1,Qc r_c2,Qc r_c3]),trivial⟩
noncomputable def vg:List Value->List Qf->ZB:=fun vs hs=>⟨Int×Int,fun J=>ii J.1,fun J=> [.blk (QJ (Qd vs 1)) (.cells #[uu (Qb (Qe (v4 (.agg (Qm (Qh hs 0))) 0)) 0),uu (Qb (Qe (v4 (.agg (Qm (Qh hs 0))) 0)) 1),uu (Qb (Qe (v4 (.agg (Qm (Qh hs 0))) 0)) 2),uu (Qb (Qe (v4 (.agg (Qm (Qh hs 0))) 0)) 3),uu (Qb (Qe (v4 (.agg (Qm (Qh hs 0))) 4)) 0),uu (Qb (Qe (v4 (.agg (Qm (Qh hs 0))) 4)) 1),uu (Qb (Qe (v4 (.agg (Qm (Qh hs 0))) 4)) 2),uu (Qb (Qe (v4 (.agg (Qm (Qh hs 0))) 4)) 3),uu (Qb J.2 0),uu (Qb J.2 1),uu (Qb J.2 2),uu (Qb J.2 3),uu (Qb (Qe (v4 (.agg (Qm (Qh hs 0))) 12)) 0),uu (Qb (Qe (v4 (.agg (Qm (Qh hs 0))) 12)) 1),uu (Qb (Qe (v4 (.agg (Qm (Qh hs 0))) 12)) 2),uu (Qb (Qe (v4 (.agg (Qm (Qh hs 0))) 12)) 3)] 51 (0,0))],fun J=>R4 J.2/\J=Z3 (Qe (v4 (.agg (Qm (Qh hs 0))) 8)) (Qe (Qd vs 2))⟩
abbrev ku (sb:Nat) (c0 c1 c2 c3 n:Int) (zv:Value) (zs0:Qf):Prop:= ∃J:Int×Int,(R4 J.2/\J=Z3 (Qe (vI c2)) (Qe (vI n)))/\zv=ii J.1/\zs0=bk sb #[uu (Qb (Qe (vI c0)) 0),uu (Qb (Qe (vI c0)) 1),uu (Qb (Qe (vI c0)) 2),uu (Qb (Qe (vI c0)) 3),uu (Qb (Qe (vI c1)) 0),uu (Qb (Qe (vI c1)) 1),uu (Qb (Qe (vI c1)) 2),uu (Qb (Qe (vI c1)) 3),uu (Qb J.2 0),uu (Qb J.2 1),uu (Qb J.2 2),uu (Qb J.2 3),uu (Qb (Qe (vI c3)) 0),uu (Qb (Qe (vI c3)) 1),uu (Qb (Qe (vI c3)) 2),uu (Qb (Qe (vI c3)) 3)] 51/\True
abbrev ym (sb:Nat) (c0 c1 c2 c3 n:Int) (zF:SF (Int×Int)):Prop:=zF #[pp sb 8,vI n] [bk sb #[uu (Qb c0 0),uu (Qb c0 1),uu (Qb c0 2),uu (Qb c0 3),uu (Qb c1 0),uu (Qb c1 1),uu (Qb c1 2),uu (Qb c1 3),uu (Qb c2 0),uu (Qb c2 1),uu (Qb c2 2),uu (Qb c2 3),uu (Qb c3 0),uu (Qb c3 1),uu (Qb c3 2),uu (Qb c3 3)] 51] (fun J=>ii J.1) (fun J=> [bk sb #[uu (Qb (Qe (vI c0)) 0),uu (Qb (Qe (vI c0)) 1),uu (Qb (Qe (vI c0)) 2),uu (Qb (Qe (vI c0)) 3),uu (Qb (Qe (vI c1)) 0),uu (Qb (Qe (vI c1)) 1),uu (Qb (Qe (vI c1)) 2),uu (Qb (Qe (vI c1)) 3),uu (Qb J.2 0),uu (Qb J.2 1),uu (Qb J.2 2),uu (Qb J.2 3),uu (Qb (Qe (vI c3)) 0),uu (Qb (Qe (vI c3)) 1),uu (Qb (Qe (vI c3)) 2),uu (Qb (Qe (vI c3)) 3)] 51]) (fun J=>(R4 J.2/\J=Z3 (Qe (vI c2)) (Qe (vI n))))
theorem FC (sb:Nat) (c0 c1 c2 c3 n:Int):ym sb c0 c1 c2 c3 n (fun za zh zv zu zp=>QB Tryz.prog 20 none 2000 none (Qk Tryz.f62) (.reg [.sem [.nw 1],S0] (.reg [S0,S0, .sem (QV 4 0), .sem (QV 4 1), .callr [] Ya,S0,S0,S0, .sem [.nw 2], .sem (Zq 4 2),S0] (.reg [S0,S0] (.cond (.reg [S0] (.done)) (.reg [S0, .sem (QV 4 2),S0, .sem (Zq 4 0)] (.reg [S0] (.done)))))))
    (Q2 za zh) (Q8 Tryz.prog Tryz.f62 [] [0] (X:=Int×Int) zv zu zp))=
    (∀b1:Nat,Qj 4 sb (Qj 4 b1 (Kp c2 n (fun x2=> ∀b3:Nat,Qj 4 b3 (((x2.2 !=(0:Int))=true->ku sb c0 c1 c2 c3 n (ii 8) (bk sb #[uu (Qb c0 0),uu (Qb c0 1),uu (Qb c0 2),uu (Qb c0 3),uu (Qb c1 0),uu (Qb c1 1),uu (Qb c1 2),uu (Qb c1 3),uu (Qb c2 0),uu (Qb c2 1),uu (Qb c2 2),uu (Qb c2 3),uu (Qb c3 0),uu (Qb c3 1),uu (Qb c3 2),uu (Qb c3 3)] 51))/\((x2.2 !=(0:Int))=false->Qj 4 b3 (Qj 4 sb (ku sb c0 c1 c2 c3 n (ii 0) (bk sb #[uu (Qb c0 0),uu (Qb c0 1),uu (Qb c0 2),uu (Qb c0 3),uu (Qb c1 0),uu (Qb c1 1),uu (Qb c1 2),uu (Qb c1 3),uu (Qb x2.1 0),uu (Qb x2.1 1),uu (Qb x2.1 2),uu (Qb x2.1 3),uu (Qb c3 0),uu (Qb c3 1),uu (Qb c3 2),uu (Qb c3 3)] 51))))))))):=by kernel_rfl
theorem Qae (sb:Nat) (c0 c1 c2 c3 n:Int) (r_c0:R4 c0) (r_c1:R4 c1) (r_c2:R4 c2) (r_c3:R4 c3) (r_n:R4 n):ym sb c0 c1 c2 c3 n (fun za zh zv zu zp=>QC Tryz.prog 62 za zh (Int×Int) zv zu zp):=by
  refine Qx (c:=Qk Tryz.f62) (n:=20) (fn:=Tryz.f62) QF Tryz.func62 (by kernel_rfl) (by kernel_rfl) (by kernel_rfl) 2000 _ [] [0] rfl rfl (Eq.mpr (FC sb c0 c1 c2 c3 n) ?_)
  intro b1
  refine Qa 4 _ (Qa 4 _ (Yl c2 n (fun x2 rh1_1 h1=> ?_)))
  have hx:=h1
  intro b3
  refine Qa 4 _ ⟨fun h2=> ?_,fun h2=> ?_⟩
  · have hz:=(bne_iff_ne.1 h2)
    exact ⟨(8,c2),⟨r_c2,by rw [Qc r_c2,Qc r_n];exact (Ho hx hz).symm⟩,rfl,(by simp only [Qc r_c0,Qc r_c1,Qc r_c2,Qc r_c3]),trivial⟩
  refine Qa 4 _ (Qa 4 _ ?_)
  have hz:=(bne_eq_false_iff_eq.1 h2)
  exact ⟨(0,x2.1),⟨by assumption,by rw [Qc r_c2,Qc r_n];exact (HZ hx hz).symm⟩,rfl,(by simp only [Qc r_c0,Qc r_c1,Qc r_c2,Qc r_c3]),trivial⟩
noncomputable def wM:List Value->List Qf->ZB:=fun vs hs=>⟨Int×Int,fun J=>ii J.1,fun J=> [.blk (QJ (Qd vs 1)) (.cells #[uu (Qb J.2 0),uu (Qb J.2 1),uu (Qb J.2 2),uu (Qb J.2 3),uu (Qb (Qe (v4 (.agg (Qm (Qh hs 0))) 4)) 0),uu (Qb (Qe (v4 (.agg (Qm (Qh hs 0))) 4)) 1),uu (Qb (Qe (v4 (.agg (Qm (Qh hs 0))) 4)) 2),uu (Qb (Qe (v4 (.agg (Qm (Qh hs 0))) 4)) 3),uu (Qb (Qe (v4 (.agg (Qm (Qh hs 0))) 8)) 0),uu (Qb (Qe (v4 (.agg (Qm (Qh hs 0))) 8)) 1),uu (Qb (Qe (v4 (.agg (Qm (Qh hs 0))) 8)) 2),uu (Qb (Qe (v4 (.agg (Qm (Qh hs 0))) 8)) 3),uu (Qb (Qe (v4 (.agg (Qm (Qh hs 0))) 12)) 0),uu (Qb (Qe (v4 (.agg (Qm (Qh hs 0))) 12)) 1),uu (Qb (Qe (v4 (.agg (Qm (Qh hs 0))) 12)) 2),uu (Qb (Qe (v4 (.agg (Qm (Qh hs 0))) 12)) 3)] 51 (0,0))],fun J=>R4 J.2/\J=Jp (Qe (v4 (.agg (Qm (Qh hs 0))) 0)) (Qe (Qd vs 2))⟩
abbrev wX (sb:Nat) (c0 c1 c2 c3 n:Int) (zv:Value) (zs0:Qf):Prop:= ∃J:Int×Int,(R4 J.2/\J=Jp (Qe (vI c0)) (Qe (vI n)))/\zv=ii J.1/\zs0=bk sb #[uu (Qb J.2 0),uu (Qb J.2 1),uu (Qb J.2 2),uu (Qb J.2 3),uu (Qb (Qe (vI c1)) 0),uu (Qb (Qe (vI c1)) 1),uu (Qb (Qe (vI c1)) 2),uu (Qb (Qe (vI c1)) 3),uu (Qb (Qe (vI c2)) 0),uu (Qb (Qe (vI c2)) 1),uu (Qb (Qe (vI c2)) 2),uu (Qb (Qe (vI c2)) 3),uu (Qb (Qe (vI c3)) 0),uu (Qb (Qe (vI c3)) 1),uu (Qb (Qe (vI c3)) 2),uu (Qb (Qe (vI c3)) 3)] 51/\True
abbrev zK (sb:Nat) (c0 c1 c2 c3 n:Int) (zF:SF (Int×Int)):Prop:=zF #[pp sb 0,vI n] [bk sb #[uu (Qb c0 0),uu (Qb c0 1),uu (Qb c0 2),uu (Qb c0 3),uu (Qb c1 0),uu (Qb c1 1),uu (Qb c1 2),uu (Qb c1 3),uu (Qb c2 0),uu (Qb c2 1),uu (Qb c2 2),uu (Qb c2 3),uu (Qb c3 0),uu (Qb c3 1),uu (Qb c3 2),uu (Qb c3 3)] 51] (fun J=>ii J.1) (fun J=> [bk sb #[uu (Qb J.2 0),uu (Qb J.2 1),uu (Qb J.2 2),uu (Qb J.2 3),uu (Qb (Qe (vI c1)) 0),uu (Qb (Qe (vI c1)) 1),uu (Qb (Qe (vI c1)) 2),uu (Qb (Qe (vI c1)) 3),uu (Qb (Qe (vI c2)) 0),uu (Qb (Qe (vI c2)) 1),uu (Qb (Qe (vI c2)) 2),uu (Qb (Qe (vI c2)) 3),uu (Qb (Qe (vI c3)) 0),uu (Qb (Qe (vI c3)) 1),uu (Qb (Qe (vI c3)) 2),uu (Qb (Qe (vI c3)) 3)] 51]) (fun J=>(R4 J.2/\J=Jp (Qe (vI c0)) (Qe (vI n))))
theorem BC (sb:Nat) (c0 c1 c2 c3 n:Int):zK sb c0 c1 c2 c3 n (fun za zh zv zu zp=>QB Tryz.prog 21 none 2000 none (Qk Tryz.f59) (.reg [.sem [.nw 1],S0] (.reg [S0,S0, .sem (QV 4 0), .sem (QV 4 1), .callr [] Xg,S0,S0,S0, .sem [.nw 2], .sem (Zq 4 2),S0] (.reg [S0,S0] (.cond (.reg [S0, .sem (QV 4 2),S0, .sem (Zq 4 0)] (.reg [S0,S0] (.done))) (.reg [S0,S0] (.done))))))
    (Q2 za zh) (Q8 Tryz.prog Tryz.f59 [] [0] (X:=Int×Int) zv zu zp))=
    (∀b1:Nat,Qj 4 sb (Qj 4 b1 (Z7 c0 n (fun x2=> ∀b3:Nat,Qj 4 b3 (((x2.2==(0:Int))=true->Qj 4 b3 (Qj 4 sb (wX sb c0 c1 c2 c3 n (ii x2.2) (bk sb #[uu (Qb x2.1 0),uu (Qb x2.1 1),uu (Qb x2.1 2),uu (Qb x2.1 3),uu (Qb c1 0),uu (Qb c1 1),uu (Qb c1 2),uu (Qb c1 3),uu (Qb c2 0),uu (Qb c2 1),uu (Qb c2 2),uu (Qb c2 3),uu (Qb c3 0),uu (Qb c3 1),uu (Qb c3 2),uu (Qb c3 3)] 51))))/\((x2.2==(0:Int))=false->wX sb c0 c1 c2 c3 n (ii x2.2) (bk sb #[uu (Qb c0 0),uu (Qb c0 1),uu (Qb c0 2),uu (Qb c0 3),uu (Qb c1 0),uu (Qb c1 1),uu (Qb c1 2),uu (Qb c1 3),uu (Qb c2 0),uu (Qb c2 1),uu (Qb c2 2),uu (Qb c2 3),uu (Qb c3 0),uu (Qb c3 1),uu (Qb c3 2),uu (Qb c3 3)] 51))))))):=by kernel_rfl
theorem Qcu (sb:Nat) (c0 c1 c2 c3 n:Int) (r_c0:R4 c0) (r_c1:R4 c1) (r_c2:R4 c2) (r_c3:R4 c3) (r_n:R4 n):zK sb c0 c1 c2 c3 n (fun za zh zv zu zp=>QC Tryz.prog 59 za zh (Int×Int) zv zu zp):=by
  refine Qx (c:=Qk Tryz.f59) (n:=21) (fn:=Tryz.f59) QF Tryz.func59 (by kernel_rfl) (by kernel_rfl) (by kernel_rfl) 2000 _ [] [0] rfl rfl (Eq.mpr (BC sb c0 c1 c2 c3 n) ?_)
  intro b1
  refine Qa 4 _ (Qa 4 _ (Xe c0 n (fun x2 rh1_1 h1=> ?_)))
  have hx:=h1
  intro b3
  refine Qa 4 _ ⟨fun h2=> ?_,fun h2=> ?_⟩
  · refine Qa 4 _ (Qa 4 _ ?_)
    have hz:=(beq_iff_eq.1 h2)
    exact ⟨(x2.2,x2.1),⟨by assumption,by rw [Qc r_c0,Qc r_n];exact ((Bm hx hz).trans (by rw [hz])).symm⟩,rfl,(by simp only [Qc r_c0,Qc r_c1,Qc r_c2,Qc r_c3]),trivial⟩
  have hz:=(beq_eq_false_iff_ne.1 h2)
  exact ⟨(x2.2,c0),⟨r_c0,by rw [Qc r_c0,Qc r_n];exact (DM hx hz).symm⟩,rfl,(by simp only [Qc r_c0,Qc r_c1,Qc r_c2,Qc r_c3]),trivial⟩
abbrev qE (sb:Nat) (c0 c1 c2 c3 n:Int) (KK:(Int×Int)->Prop):Prop:=zK sb c0 c1 c2 c3 n (fun za zh zv zu zp=>Ze Tryz.prog 59 za zh (Int×Int) zv zu zp KK)
theorem Wd (sb:Nat) (c0 c1 c2 c3 n:Int) {KK:(Int×Int)->Prop} (kont: ∀J:Int×Int,R4 J.2->(J=Jp c0 n)->KK J) (r_c0:R4 c0:=by assumption) (r_c1:R4 c1:=by assumption) (r_c2:R4 c2:=by assumption) (r_c3:R4 c3:=by assumption) (r_n:R4 n:=by assumption):qE sb c0 c1 c2 c3 n KK:=QH (Qcu sb c0 c1 c2 c3 n r_c0 r_c1 r_c2 r_c3 r_n) (⟨_,xE (by first | exact Qu _ | exact r_c0) (by first | exact Qu _ | exact r_n),rfl⟩) fun J hz=>by
  obtain ⟨rhz_2,hz⟩:=hz
  try simp only [Qc (n:=c0) r_c0,Qc (n:=c1) r_c1,Qc (n:=c2) r_c2,Qc (n:=c3) r_c3,Qc (n:=n) r_n] at hz
  exact kont J rhz_2 hz
noncomputable def dc:List Value->List Qf->ZB:=fun vs hs=>⟨Int×Int,fun J=>ii J.1,fun J=> [.blk (QJ (Qd vs 1)) (.cells #[uu (Qb (Qe (v4 (.agg (Qm (Qh hs 0))) 0)) 0),uu (Qb (Qe (v4 (.agg (Qm (Qh hs 0))) 0)) 1),uu (Qb (Qe (v4 (.agg (Qm (Qh hs 0))) 0)) 2),uu (Qb (Qe (v4 (.agg (Qm (Qh hs 0))) 0)) 3),uu (Qb J.2 0),uu (Qb J.2 1),uu (Qb J.2 2),uu (Qb J.2 3),uu (Qb (Qe (v4 (.agg (Qm (Qh hs 0))) 8)) 0),uu (Qb (Qe (v4 (.agg (Qm (Qh hs 0))) 8)) 1),uu (Qb (Qe (v4 (.agg (Qm (Qh hs 0))) 8)) 2),uu (Qb (Qe (v4 (.agg (Qm (Qh hs 0))) 8)) 3),uu (Qb (Qe (v4 (.agg (Qm (Qh hs 0))) 12)) 0),uu (Qb (Qe (v4 (.agg (Qm (Qh hs 0))) 12)) 1),uu (Qb (Qe (v4 (.agg (Qm (Qh hs 0))) 12)) 2),uu (Qb (Qe (v4 (.agg (Qm (Qh hs 0))) 12)) 3)] 51 (0,0))],fun J=>R4 J.2/\J=Jp (Qe (v4 (.agg (Qm (Qh hs 0))) 4)) (Qe (Qd vs 2))⟩
abbrev wY (sb:Nat) (c0 c1 c2 c3 n:Int) (zv:Value) (zs0:Qf):Prop:= ∃J:Int×Int,(R4 J.2/\J=Jp (Qe (vI c1)) (Qe (vI n)))/\zv=ii J.1/\zs0=bk sb #[uu (Qb (Qe (vI c0)) 0),uu (Qb (Qe (vI c0)) 1),uu (Qb (Qe (vI c0)) 2),uu (Qb (Qe (vI c0)) 3),uu (Qb J.2 0),uu (Qb J.2 1),uu (Qb J.2 2),uu (Qb J.2 3),uu (Qb (Qe (vI c2)) 0),uu (Qb (Qe (vI c2)) 1),uu (Qb (Qe (vI c2)) 2),uu (Qb (Qe (vI c2)) 3),uu (Qb (Qe (vI c3)) 0),uu (Qb (Qe (vI c3)) 1),uu (Qb (Qe (vI c3)) 2),uu (Qb (Qe (vI c3)) 3)] 51/\True
abbrev wP (sb:Nat) (c0 c1 c2 c3 n:Int) (zF:SF (Int×Int)):Prop:=zF #[pp sb 4,vI n] [bk sb #[uu (Qb c0 0),uu (Qb c0 1),uu (Qb c0 2),uu (Qb c0 3),uu (Qb c1 0),uu (Qb c1 1),uu (Qb c1 2),uu (Qb c1 3),uu (Qb c2 0),uu (Qb c2 1),uu (Qb c2 2),uu (Qb c2 3),uu (Qb c3 0),uu (Qb c3 1),uu (Qb c3 2),uu (Qb c3 3)] 51] (fun J=>ii J.1) (fun J=> [bk sb #[uu (Qb (Qe (vI c0)) 0),uu (Qb (Qe (vI c0)) 1),uu (Qb (Qe (vI c0)) 2),uu (Qb (Qe (vI c0)) 3),uu (Qb J.2 0),uu (Qb J.2 1),uu (Qb J.2 2),uu (Qb J.2 3),uu (Qb (Qe (vI c2)) 0),uu (Qb (Qe (vI c2)) 1),uu (Qb (Qe (vI c2)) 2),uu (Qb (Qe (vI c2)) 3),uu (Qb (Qe (vI c3)) 0),uu (Qb (Qe (vI c3)) 1),uu (Qb (Qe (vI c3)) 2),uu (Qb (Qe (vI c3)) 3)] 51]) (fun J=>(R4 J.2/\J=Jp (Qe (vI c1)) (Qe (vI n))))
theorem BQ (sb:Nat) (c0 c1 c2 c3 n:Int):wP sb c0 c1 c2 c3 n (fun za zh zv zu zp=>QB Tryz.prog 21 none 2000 none (Qk Tryz.f59) (.reg [.sem [.nw 1],S0] (.reg [S0,S0, .sem (QV 4 0), .sem (QV 4 1), .callr [] Xg,S0,S0,S0, .sem [.nw 2], .sem (Zq 4 2),S0] (.reg [S0,S0] (.cond (.reg [S0, .sem (QV 4 2),S0, .sem (Zq 4 0)] (.reg [S0,S0] (.done))) (.reg [S0,S0] (.done))))))
    (Q2 za zh) (Q8 Tryz.prog Tryz.f59 [] [0] (X:=Int×Int) zv zu zp))=
    (∀b1:Nat,Qj 4 sb (Qj 4 b1 (Z7 c1 n (fun x2=> ∀b3:Nat,Qj 4 b3 (((x2.2==(0:Int))=true->Qj 4 b3 (Qj 4 sb (wY sb c0 c1 c2 c3 n (ii x2.2) (bk sb #[uu (Qb c0 0),uu (Qb c0 1),uu (Qb c0 2),uu (Qb c0 3),uu (Qb x2.1 0),uu (Qb x2.1 1),uu (Qb x2.1 2),uu (Qb x2.1 3),uu (Qb c2 0),uu (Qb c2 1),uu (Qb c2 2),uu (Qb c2 3),uu (Qb c3 0),uu (Qb c3 1),uu (Qb c3 2),uu (Qb c3 3)] 51))))/\((x2.2==(0:Int))=false->wY sb c0 c1 c2 c3 n (ii x2.2) (bk sb #[uu (Qb c0 0),uu (Qb c0 1),uu (Qb c0 2),uu (Qb c0 3),uu (Qb c1 0),uu (Qb c1 1),uu (Qb c1 2),uu (Qb c1 3),uu (Qb c2 0),uu (Qb c2 1),uu (Qb c2 2),uu (Qb c2 3),uu (Qb c3 0),uu (Qb c3 1),uu (Qb c3 2),uu (Qb c3 3)] 51))))))):=by kernel_rfl
theorem Qcr (sb:Nat) (c0 c1 c2 c3 n:Int) (r_c0:R4 c0) (r_c1:R4 c1) (r_c2:R4 c2) (r_c3:R4 c3) (r_n:R4 n):wP sb c0 c1 c2 c3 n (fun za zh zv zu zp=>QC Tryz.prog 59 za zh (Int×Int) zv zu zp):=by
  refine Qx (c:=Qk Tryz.f59) (n:=21) (fn:=Tryz.f59) QF Tryz.func59 (by kernel_rfl) (by kernel_rfl) (by kernel_rfl) 2000 _ [] [0] rfl rfl (Eq.mpr (BQ sb c0 c1 c2 c3 n) ?_)
  intro b1
  refine Qa 4 _ (Qa 4 _ (Xe c1 n (fun x2 rh1_1 h1=> ?_)))
  have hx:=h1
  intro b3
  refine Qa 4 _ ⟨fun h2=> ?_,fun h2=> ?_⟩
  · refine Qa 4 _ (Qa 4 _ ?_)
    have hz:=(beq_iff_eq.1 h2)
    exact ⟨(x2.2,x2.1),⟨by assumption,by rw [Qc r_c1,Qc r_n];exact ((Bm hx hz).trans (by rw [hz])).symm⟩,rfl,(by simp only [Qc r_c0,Qc r_c1,Qc r_c2,Qc r_c3]),trivial⟩
  have hz:=(beq_eq_false_iff_ne.1 h2)
  exact ⟨(x2.2,c1),⟨r_c1,by rw [Qc r_c1,Qc r_n];exact (DM hx hz).symm⟩,rfl,(by simp only [Qc r_c0,Qc r_c1,Qc r_c2,Qc r_c3]),trivial⟩
noncomputable def ph:List Value->List Qf->ZB:=fun vs hs=>⟨Int×Int,fun J=>ii J.1,fun J=> [.blk (QJ (Qd vs 1)) (.cells #[uu (Qb (Qe (v4 (.agg (Qm (Qh hs 0))) 0)) 0),uu (Qb (Qe (v4 (.agg (Qm (Qh hs 0))) 0)) 1),uu (Qb (Qe (v4 (.agg (Qm (Qh hs 0))) 0)) 2),uu (Qb (Qe (v4 (.agg (Qm (Qh hs 0))) 0)) 3),uu (Qb (Qe (v4 (.agg (Qm (Qh hs 0))) 4)) 0),uu (Qb (Qe (v4 (.agg (Qm (Qh hs 0))) 4)) 1),uu (Qb (Qe (v4 (.agg (Qm (Qh hs 0))) 4)) 2),uu (Qb (Qe (v4 (.agg (Qm (Qh hs 0))) 4)) 3),uu (Qb J.2 0),uu (Qb J.2 1),uu (Qb J.2 2),uu (Qb J.2 3),uu (Qb (Qe (v4 (.agg (Qm (Qh hs 0))) 12)) 0),uu (Qb (Qe (v4 (.agg (Qm (Qh hs 0))) 12)) 1),uu (Qb (Qe (v4 (.agg (Qm (Qh hs 0))) 12)) 2),uu (Qb (Qe (v4 (.agg (Qm (Qh hs 0))) 12)) 3)] 51 (0,0))],fun J=>R4 J.2/\J=Jp (Qe (v4 (.agg (Qm (Qh hs 0))) 8)) (Qe (Qd vs 2))⟩
abbrev wD (sb:Nat) (c0 c1 c2 c3 n:Int) (zv:Value) (zs0:Qf):Prop:= ∃J:Int×Int,(R4 J.2/\J=Jp (Qe (vI c2)) (Qe (vI n)))/\zv=ii J.1/\zs0=bk sb #[uu (Qb (Qe (vI c0)) 0),uu (Qb (Qe (vI c0)) 1),uu (Qb (Qe (vI c0)) 2),uu (Qb (Qe (vI c0)) 3),uu (Qb (Qe (vI c1)) 0),uu (Qb (Qe (vI c1)) 1),uu (Qb (Qe (vI c1)) 2),uu (Qb (Qe (vI c1)) 3),uu (Qb J.2 0),uu (Qb J.2 1),uu (Qb J.2 2),uu (Qb J.2 3),uu (Qb (Qe (vI c3)) 0),uu (Qb (Qe (vI c3)) 1),uu (Qb (Qe (vI c3)) 2),uu (Qb (Qe (vI c3)) 3)] 51/\True
abbrev Wi (sb:Nat) (c0 c1 c2 c3 n:Int) (zF:SF (Int×Int)):Prop:=zF #[pp sb 8,vI n] [bk sb #[uu (Qb c0 0),uu (Qb c0 1),uu (Qb c0 2),uu (Qb c0 3),uu (Qb c1 0),uu (Qb c1 1),uu (Qb c1 2),uu (Qb c1 3),uu (Qb c2 0),uu (Qb c2 1),uu (Qb c2 2),uu (Qb c2 3),uu (Qb c3 0),uu (Qb c3 1),uu (Qb c3 2),uu (Qb c3 3)] 51] (fun J=>ii J.1) (fun J=> [bk sb #[uu (Qb (Qe (vI c0)) 0),uu (Qb (Qe (vI c0)) 1),uu (Qb (Qe (vI c0)) 2),uu (Qb (Qe (vI c0)) 3),uu (Qb (Qe (vI c1)) 0),uu (Qb (Qe (vI c1)) 1),uu (Qb (Qe (vI c1)) 2),uu (Qb (Qe (vI c1)) 3),uu (Qb J.2 0),uu (Qb J.2 1),uu (Qb J.2 2),uu (Qb J.2 3),uu (Qb (Qe (vI c3)) 0),uu (Qb (Qe (vI c3)) 1),uu (Qb (Qe (vI c3)) 2),uu (Qb (Qe (vI c3)) 3)] 51]) (fun J=>(R4 J.2/\J=Jp (Qe (vI c2)) (Qe (vI n))))
theorem vw (sb:Nat) (c0 c1 c2 c3 n:Int):Wi sb c0 c1 c2 c3 n (fun za zh zv zu zp=>QB Tryz.prog 21 none 2000 none (Qk Tryz.f59) (.reg [.sem [.nw 1],S0] (.reg [S0,S0, .sem (QV 4 0), .sem (QV 4 1), .callr [] Xg,S0,S0,S0, .sem [.nw 2], .sem (Zq 4 2),S0] (.reg [S0,S0] (.cond (.reg [S0, .sem (QV 4 2),S0, .sem (Zq 4 0)] (.reg [S0,S0] (.done))) (.reg [S0,S0] (.done))))))
    (Q2 za zh) (Q8 Tryz.prog Tryz.f59 [] [0] (X:=Int×Int) zv zu zp))=
    (∀b1:Nat,Qj 4 sb (Qj 4 b1 (Z7 c2 n (fun x2=> ∀b3:Nat,Qj 4 b3 (((x2.2==(0:Int))=true->Qj 4 b3 (Qj 4 sb (wD sb c0 c1 c2 c3 n (ii x2.2) (bk sb #[uu (Qb c0 0),uu (Qb c0 1),uu (Qb c0 2),uu (Qb c0 3),uu (Qb c1 0),uu (Qb c1 1),uu (Qb c1 2),uu (Qb c1 3),uu (Qb x2.1 0),uu (Qb x2.1 1),uu (Qb x2.1 2),uu (Qb x2.1 3),uu (Qb c3 0),uu (Qb c3 1),uu (Qb c3 2),uu (Qb c3 3)] 51))))/\((x2.2==(0:Int))=false->wD sb c0 c1 c2 c3 n (ii x2.2) (bk sb #[uu (Qb c0 0),uu (Qb c0 1),uu (Qb c0 2),uu (Qb c0 3),uu (Qb c1 0),uu (Qb c1 1),uu (Qb c1 2),uu (Qb c1 3),uu (Qb c2 0),uu (Qb c2 1),uu (Qb c2 2),uu (Qb c2 3),uu (Qb c3 0),uu (Qb c3 1),uu (Qb c3 2),uu (Qb c3 3)] 51))))))):=by kernel_rfl
theorem Qcp (sb:Nat) (c0 c1 c2 c3 n:Int) (r_c0:R4 c0) (r_c1:R4 c1) (r_c2:R4 c2) (r_c3:R4 c3) (r_n:R4 n):Wi sb c0 c1 c2 c3 n (fun za zh zv zu zp=>QC Tryz.prog 59 za zh (Int×Int) zv zu zp):=by
  refine Qx (c:=Qk Tryz.f59) (n:=21) (fn:=Tryz.f59) QF Tryz.func59 (by kernel_rfl) (by kernel_rfl) (by kernel_rfl) 2000 _ [] [0] rfl rfl (Eq.mpr (vw sb c0 c1 c2 c3 n) ?_)
  intro b1
  refine Qa 4 _ (Qa 4 _ (Xe c2 n (fun x2 rh1_1 h1=> ?_)))
  have hx:=h1
  intro b3
  refine Qa 4 _ ⟨fun h2=> ?_,fun h2=> ?_⟩
  · refine Qa 4 _ (Qa 4 _ ?_)
    have hz:=(beq_iff_eq.1 h2)
    exact ⟨(x2.2,x2.1),⟨by assumption,by rw [Qc r_c2,Qc r_n];exact ((Bm hx hz).trans (by rw [hz])).symm⟩,rfl,(by simp only [Qc r_c0,Qc r_c1,Qc r_c2,Qc r_c3]),trivial⟩
  have hz:=(beq_eq_false_iff_ne.1 h2)
  exact ⟨(x2.2,c2),⟨r_c2,by rw [Qc r_c2,Qc r_n];exact (DM hx hz).symm⟩,rfl,(by simp only [Qc r_c0,Qc r_c1,Qc r_c2,Qc r_c3]),trivial⟩
noncomputable def Bd:List Value->List Qf->ZB:=fun vs hs=>⟨Int×ST,fun J=>ii J.1,fun J=> [.blk (QJ (Qd vs 1)) (.cells #[uu (Qb J.2.1 0),uu (Qb J.2.1 1),uu (Qb J.2.1 2),uu (Qb J.2.1 3),uu (Qb J.2.2.1 0),uu (Qb J.2.2.1 1),uu (Qb J.2.2.1 2),uu (Qb J.2.2.1 3),uu (Qb J.2.2.2.1 0),uu (Qb J.2.2.2.1 1),uu (Qb J.2.2.2.1 2),uu (Qb J.2.2.2.1 3),uu (Qb J.2.2.2.2 0),uu (Qb J.2.2.2.2 1),uu (Qb J.2.2.2.2 2),uu (Qb J.2.2.2.2 3)] 51 (0,0))],fun J=>Jw J.2/\J=ZX (((Qe (v4 (.agg (Qm (Qh hs 0))) 0)),(Qe (v4 (.agg (Qm (Qh hs 0))) 4)),(Qe (v4 (.agg (Qm (Qh hs 0))) 8)),(Qe (v4 (.agg (Qm (Qh hs 0))) 12))):ST) (Qe (Qd vs 3))⟩
abbrev xY (sb:Nat) (c0 c1 c2 c3 n:Int) (zv:Value) (zs0:Qf):Prop:= ∃J:Int×ST,(Jw J.2/\J=ZX (((Qe (vI c0)),(Qe (vI c1)),(Qe (vI c2)),(Qe (vI c3))):ST) (Qe (vI n)))/\zv=ii J.1/\zs0=bk sb #[uu (Qb J.2.1 0),uu (Qb J.2.1 1),uu (Qb J.2.1 2),uu (Qb J.2.1 3),uu (Qb J.2.2.1 0),uu (Qb J.2.2.1 1),uu (Qb J.2.2.1 2),uu (Qb J.2.2.1 3),uu (Qb J.2.2.2.1 0),uu (Qb J.2.2.2.1 1),uu (Qb J.2.2.2.1 2),uu (Qb J.2.2.2.1 3),uu (Qb J.2.2.2.2 0),uu (Qb J.2.2.2.2 1),uu (Qb J.2.2.2.2 2),uu (Qb J.2.2.2.2 3)] 51/\True
abbrev ke (sb:Nat) (c0 c1 c2 c3 n:Int) (zF:SF (Int×ST)):Prop:=zF #[pp sb 0,pp sb 4,vI n] [bk sb #[uu (Qb c0 0),uu (Qb c0 1),uu (Qb c0 2),uu (Qb c0 3),uu (Qb c1 0),uu (Qb c1 1),uu (Qb c1 2),uu (Qb c1 3),uu (Qb c2 0),uu (Qb c2 1),uu (Qb c2 2),uu (Qb c2 3),uu (Qb c3 0),uu (Qb c3 1),uu (Qb c3 2),uu (Qb c3 3)] 51] (fun J=>ii J.1) (fun J=> [bk sb #[uu (Qb J.2.1 0),uu (Qb J.2.1 1),uu (Qb J.2.1 2),uu (Qb J.2.1 3),uu (Qb J.2.2.1 0),uu (Qb J.2.2.1 1),uu (Qb J.2.2.1 2),uu (Qb J.2.2.1 3),uu (Qb J.2.2.2.1 0),uu (Qb J.2.2.2.1 1),uu (Qb J.2.2.2.1 2),uu (Qb J.2.2.2.1 3),uu (Qb J.2.2.2.2 0),uu (Qb J.2.2.2.2 1),uu (Qb J.2.2.2.2 2),uu (Qb J.2.2.2.2 3)] 51]) (fun J=>(Jw J.2/\J=ZX (((Qe (vI c0)),(Qe (vI c1)),(Qe (vI c2)),(Qe (vI c3))):ST) (Qe (vI n))))
theorem FL (sb:Nat) (c0 c1 c2 c3 n:Int):ke sb c0 c1 c2 c3 n (fun za zh zv zu zp=>QB Tryz.prog 17 none 2000 none (Qk Tryz.f48) (.reg [.sem [.nw 1],S0] (.reg [S0, .sem (QV 4 1), .callw [0] [0] BN,S0] (.reg [S0,S0] (.cond (.reg [S0,S0] (.done)) (.reg [S0, .sem (QV 4 1), .callw [0] [0] dc,S0] (.done))))))
    (Q2 za zh) (Q8 Tryz.prog Tryz.f48 [] [0] (X:=Int×ST) zv zu zp))=
    (∀b1:Nat,Qj 4 b1 (Ze Tryz.prog 62 #[pp sb 0,vI n] [bk sb #[uu (Qb c0 0),uu (Qb c0 1),uu (Qb c0 2),uu (Qb c0 3),uu (Qb c1 0),uu (Qb c1 1),uu (Qb c1 2),uu (Qb c1 3),uu (Qb c2 0),uu (Qb c2 1),uu (Qb c2 2),uu (Qb c2 3),uu (Qb c3 0),uu (Qb c3 1),uu (Qb c3 2),uu (Qb c3 3)] 51] (Int×Int) (fun J=>ii J.1) (fun J=> [bk sb #[uu (Qb J.2 0),uu (Qb J.2 1),uu (Qb J.2 2),uu (Qb J.2 3),uu (Qb (Qe (vI c1)) 0),uu (Qb (Qe (vI c1)) 1),uu (Qb (Qe (vI c1)) 2),uu (Qb (Qe (vI c1)) 3),uu (Qb (Qe (vI c2)) 0),uu (Qb (Qe (vI c2)) 1),uu (Qb (Qe (vI c2)) 2),uu (Qb (Qe (vI c2)) 3),uu (Qb (Qe (vI c3)) 0),uu (Qb (Qe (vI c3)) 1),uu (Qb (Qe (vI c3)) 2),uu (Qb (Qe (vI c3)) 3)] 51]) (fun J=>R4 J.2/\J=Z3 (Qe (vI c0)) (Qe (vI n))) (fun x2=>((x2.1 !=(0:Int))=true->xY sb c0 c1 c2 c3 n (ii x2.1) (bk sb #[uu (Qb x2.2 0),uu (Qb x2.2 1),uu (Qb x2.2 2),uu (Qb x2.2 3),uu (Qb (Qe (vI c1)) 0),uu (Qb (Qe (vI c1)) 1),uu (Qb (Qe (vI c1)) 2),uu (Qb (Qe (vI c1)) 3),uu (Qb (Qe (vI c2)) 0),uu (Qb (Qe (vI c2)) 1),uu (Qb (Qe (vI c2)) 2),uu (Qb (Qe (vI c2)) 3),uu (Qb (Qe (vI c3)) 0),uu (Qb (Qe (vI c3)) 1),uu (Qb (Qe (vI c3)) 2),uu (Qb (Qe (vI c3)) 3)] 51))/\((x2.1 !=(0:Int))=false->Qj 4 b1 (Ze Tryz.prog 59 #[pp sb 4,vI n] [bk sb #[uu (Qb x2.2 0),uu (Qb x2.2 1),uu (Qb x2.2 2),uu (Qb x2.2 3),uu (Qb (Qe (vI c1)) 0),uu (Qb (Qe (vI c1)) 1),uu (Qb (Qe (vI c1)) 2),uu (Qb (Qe (vI c1)) 3),uu (Qb (Qe (vI c2)) 0),uu (Qb (Qe (vI c2)) 1),uu (Qb (Qe (vI c2)) 2),uu (Qb (Qe (vI c2)) 3),uu (Qb (Qe (vI c3)) 0),uu (Qb (Qe (vI c3)) 1),uu (Qb (Qe (vI c3)) 2),uu (Qb (Qe (vI c3)) 3)] 51] (Int×Int) (fun J=>ii J.1) (fun J=> [bk sb #[uu (Qb (Qe (vI x2.2)) 0),uu (Qb (Qe (vI x2.2)) 1),uu (Qb (Qe (vI x2.2)) 2),uu (Qb (Qe (vI x2.2)) 3),uu (Qb J.2 0),uu (Qb J.2 1),uu (Qb J.2 2),uu (Qb J.2 3),uu (Qb (Qe (vI (Qe (vI c2)))) 0),uu (Qb (Qe (vI (Qe (vI c2)))) 1),uu (Qb (Qe (vI (Qe (vI c2)))) 2),uu (Qb (Qe (vI (Qe (vI c2)))) 3),uu (Qb (Qe (vI (Qe (vI c3)))) 0),uu (Qb (Qe (vI (Qe (vI c3)))) 1),uu (Qb (Qe (vI (Qe (vI c3)))) 2),uu (Qb (Qe (vI (Qe (vI c3)))) 3)] 51]) (fun J=>R4 J.2/\J=Jp (Qe (vI (Qe (vI c1)))) (Qe (vI n))) (fun x3=>xY sb c0 c1 c2 c3 n (ii x3.1) (bk sb #[uu (Qb (Qe (vI x2.2)) 0),uu (Qb (Qe (vI x2.2)) 1),uu (Qb (Qe (vI x2.2)) 2),uu (Qb (Qe (vI x2.2)) 3),uu (Qb x3.2 0),uu (Qb x3.2 1),uu (Qb x3.2 2),uu (Qb x3.2 3),uu (Qb (Qe (vI (Qe (vI c2)))) 0),uu (Qb (Qe (vI (Qe (vI c2)))) 1),uu (Qb (Qe (vI (Qe (vI c2)))) 2),uu (Qb (Qe (vI (Qe (vI c2)))) 3),uu (Qb (Qe (vI (Qe (vI c3)))) 0),uu (Qb (Qe (vI (Qe (vI c3)))) 1),uu (Qb (Qe (vI (Qe (vI c3)))) 2),uu (Qb (Qe (vI (Qe (vI c3)))) 3)] 51))))))):=by kernel_rfl
theorem bg (sb:Nat) (c0 c1 c2 c3 n:Int) (r_c0:R4 c0) (r_c1:R4 c1) (r_c2:R4 c2) (r_c3:R4 c3) (r_n:R4 n):ke sb c0 c1 c2 c3 n (fun za zh zv zu zp=>QC Tryz.prog 48 za zh (Int×ST) zv zu zp):=by
  refine Qx (c:=Qk Tryz.f48) (n:=17) (fn:=Tryz.f48) QF Tryz.func48 (by kernel_rfl) (by kernel_rfl) (by kernel_rfl) 2000 _ [] [0] rfl rfl (Eq.mpr (FL sb c0 c1 c2 c3 n) ?_)
  intro b1
  refine Qa 4 _ (QH (dJ sb c0 c1 c2 c3 n ‹_› ‹_› ‹_› ‹_› ‹_›) (⟨_,zZ (by first | exact Qu _ | exact by assumption) (by first | exact Qu _ | exact by assumption),rfl⟩) fun x2 h1=> ?_)
  obtain ⟨rh1_2,h1⟩:=h1
  try simp only [Qc (n:=c0) ‹_›,Qc (n:=c1) ‹_›,Qc (n:=c2) ‹_›,Qc (n:=c3) ‹_›,Qc (n:=n) ‹_›] at h1
  have hy:=h1
  refine ⟨fun h2=> ?_,fun h2=> ?_⟩
  · have hz:=(bne_iff_ne.1 h2)
    exact ⟨(x2.1,(x2.2,(Qe (vI c1)),(Qe (vI c2)),(Qe (vI c3)))),⟨⟨by first | assumption | exact Qu _,by first | assumption | exact Qu _,by first | assumption | exact Qu _,by first | assumption | exact Qu _⟩,by simp only [Qc r_c0,Qc r_c1,Qc r_c2,Qc r_c3,Qc r_n,Qc (n:=x2.2) ‹_›];exact (Qbq (s:=(c0,c1,c2,c3)) hy hz).symm⟩,rfl,rfl,trivial⟩
  refine Qa 4 _ (QH (Qcr sb x2.2 (Qe (vI c1)) (Qe (vI c2)) (Qe (vI c3)) n ‹_› (Qu _) (Qu _) (Qu _) ‹_›) (⟨_,xE (by first | exact Qu _ | exact Qu _) (by first | exact Qu _ | exact by assumption),rfl⟩) fun x3 h3=> ?_)
  obtain ⟨rh3_2,h3⟩:=h3
  try simp only [Qc (n:=x2.2) ‹_›,Qc (n:=(Qe (vI c1))) (Qu _),Qc (n:=(Qe (vI c2))) (Qu _),Qc (n:=(Qe (vI c3))) (Qu _),Qc (n:=n) ‹_›] at h3
  have hz2:=h3
  try simp only [Qc r_c0,Qc r_c1,Qc r_c2,Qc r_c3,Qc r_n] at hz2
  have hz:=(bne_eq_false_iff_eq.1 h2)
  exact ⟨(x3.1,((Qe (vI x2.2)),x3.2,(Qe (vI (Qe (vI c2)))),(Qe (vI (Qe (vI c3)))))),⟨⟨by first | assumption | exact Qu _,by first | assumption | exact Qu _,by first | assumption | exact Qu _,by first | assumption | exact Qu _⟩,by simp only [Qc r_c0,Qc r_c1,Qc r_c2,Qc r_c3,Qc r_n,Qc (n:=x2.2) ‹_›];exact (Qb4 (s:=(c0,c1,c2,c3)) hy hz hz2).symm⟩,rfl,rfl,trivial⟩
noncomputable def Bs:List Value->List Qf->ZB:=fun vs hs=>⟨Int×ST,fun J=>ii J.1,fun J=> [.blk (QJ (Qd vs 1)) (.cells #[uu (Qb J.2.1 0),uu (Qb J.2.1 1),uu (Qb J.2.1 2),uu (Qb J.2.1 3),uu (Qb J.2.2.1 0),uu (Qb J.2.2.1 1),uu (Qb J.2.2.1 2),uu (Qb J.2.2.1 3),uu (Qb J.2.2.2.1 0),uu (Qb J.2.2.2.1 1),uu (Qb J.2.2.2.1 2),uu (Qb J.2.2.2.1 3),uu (Qb J.2.2.2.2 0),uu (Qb J.2.2.2.2 1),uu (Qb J.2.2.2.2 2),uu (Qb J.2.2.2.2 3)] 51 (0,0))],fun J=>Jw J.2/\J=Z5 (((Qe (v4 (.agg (Qm (Qh hs 0))) 0)),(Qe (v4 (.agg (Qm (Qh hs 0))) 4)),(Qe (v4 (.agg (Qm (Qh hs 0))) 8)),(Qe (v4 (.agg (Qm (Qh hs 0))) 12))):ST) (Qe (Qd vs 3))⟩
abbrev yI (sb:Nat) (c0 c1 c2 c3 n:Int) (zv:Value) (zs0:Qf):Prop:= ∃J:Int×ST,(Jw J.2/\J=Z5 (((Qe (vI c0)),(Qe (vI c1)),(Qe (vI c2)),(Qe (vI c3))):ST) (Qe (vI n)))/\zv=ii J.1/\zs0=bk sb #[uu (Qb J.2.1 0),uu (Qb J.2.1 1),uu (Qb J.2.1 2),uu (Qb J.2.1 3),uu (Qb J.2.2.1 0),uu (Qb J.2.2.1 1),uu (Qb J.2.2.1 2),uu (Qb J.2.2.1 3),uu (Qb J.2.2.2.1 0),uu (Qb J.2.2.2.1 1),uu (Qb J.2.2.2.1 2),uu (Qb J.2.2.2.1 3),uu (Qb J.2.2.2.2 0),uu (Qb J.2.2.2.2 1),uu (Qb J.2.2.2.2 2),uu (Qb J.2.2.2.2 3)] 51/\True
abbrev ko (sb:Nat) (c0 c1 c2 c3 n:Int) (zF:SF (Int×ST)):Prop:=zF #[pp sb 4,pp sb 0,vI n] [bk sb #[uu (Qb c0 0),uu (Qb c0 1),uu (Qb c0 2),uu (Qb c0 3),uu (Qb c1 0),uu (Qb c1 1),uu (Qb c1 2),uu (Qb c1 3),uu (Qb c2 0),uu (Qb c2 1),uu (Qb c2 2),uu (Qb c2 3),uu (Qb c3 0),uu (Qb c3 1),uu (Qb c3 2),uu (Qb c3 3)] 51] (fun J=>ii J.1) (fun J=> [bk sb #[uu (Qb J.2.1 0),uu (Qb J.2.1 1),uu (Qb J.2.1 2),uu (Qb J.2.1 3),uu (Qb J.2.2.1 0),uu (Qb J.2.2.1 1),uu (Qb J.2.2.1 2),uu (Qb J.2.2.1 3),uu (Qb J.2.2.2.1 0),uu (Qb J.2.2.2.1 1),uu (Qb J.2.2.2.1 2),uu (Qb J.2.2.2.1 3),uu (Qb J.2.2.2.2 0),uu (Qb J.2.2.2.2 1),uu (Qb J.2.2.2.2 2),uu (Qb J.2.2.2.2 3)] 51]) (fun J=>(Jw J.2/\J=Z5 (((Qe (vI c0)),(Qe (vI c1)),(Qe (vI c2)),(Qe (vI c3))):ST) (Qe (vI n))))
theorem Fl (sb:Nat) (c0 c1 c2 c3 n:Int):ko sb c0 c1 c2 c3 n (fun za zh zv zu zp=>QB Tryz.prog 17 none 2000 none (Qk Tryz.f48) (.reg [.sem [.nw 1],S0] (.reg [S0, .sem (QV 4 1), .callw [0] [0] Be,S0] (.reg [S0,S0] (.cond (.reg [S0,S0] (.done)) (.reg [S0, .sem (QV 4 1), .callw [0] [0] wM,S0] (.done))))))
    (Q2 za zh) (Q8 Tryz.prog Tryz.f48 [] [0] (X:=Int×ST) zv zu zp))=
    (∀b1:Nat,Qj 4 b1 (Ze Tryz.prog 62 #[pp sb 4,vI n] [bk sb #[uu (Qb c0 0),uu (Qb c0 1),uu (Qb c0 2),uu (Qb c0 3),uu (Qb c1 0),uu (Qb c1 1),uu (Qb c1 2),uu (Qb c1 3),uu (Qb c2 0),uu (Qb c2 1),uu (Qb c2 2),uu (Qb c2 3),uu (Qb c3 0),uu (Qb c3 1),uu (Qb c3 2),uu (Qb c3 3)] 51] (Int×Int) (fun J=>ii J.1) (fun J=> [bk sb #[uu (Qb (Qe (vI c0)) 0),uu (Qb (Qe (vI c0)) 1),uu (Qb (Qe (vI c0)) 2),uu (Qb (Qe (vI c0)) 3),uu (Qb J.2 0),uu (Qb J.2 1),uu (Qb J.2 2),uu (Qb J.2 3),uu (Qb (Qe (vI c2)) 0),uu (Qb (Qe (vI c2)) 1),uu (Qb (Qe (vI c2)) 2),uu (Qb (Qe (vI c2)) 3),uu (Qb (Qe (vI c3)) 0),uu (Qb (Qe (vI c3)) 1),uu (Qb (Qe (vI c3)) 2),uu (Qb (Qe (vI c3)) 3)] 51]) (fun J=>R4 J.2/\J=Z3 (Qe (vI c1)) (Qe (vI n))) (fun x2=>((x2.1 !=(0:Int))=true->yI sb c0 c1 c2 c3 n (ii x2.1) (bk sb #[uu (Qb (Qe (vI c0)) 0),uu (Qb (Qe (vI c0)) 1),uu (Qb (Qe (vI c0)) 2),uu (Qb (Qe (vI c0)) 3),uu (Qb x2.2 0),uu (Qb x2.2 1),uu (Qb x2.2 2),uu (Qb x2.2 3),uu (Qb (Qe (vI c2)) 0),uu (Qb (Qe (vI c2)) 1),uu (Qb (Qe (vI c2)) 2),uu (Qb (Qe (vI c2)) 3),uu (Qb (Qe (vI c3)) 0),uu (Qb (Qe (vI c3)) 1),uu (Qb (Qe (vI c3)) 2),uu (Qb (Qe (vI c3)) 3)] 51))/\((x2.1 !=(0:Int))=false->Qj 4 b1 (qE sb (Qe (vI c0)) x2.2 (Qe (vI c2)) (Qe (vI c3)) n (fun x3=>yI sb c0 c1 c2 c3 n (ii x3.1) (bk sb #[uu (Qb x3.2 0),uu (Qb x3.2 1),uu (Qb x3.2 2),uu (Qb x3.2 3),uu (Qb (Qe (vI x2.2)) 0),uu (Qb (Qe (vI x2.2)) 1),uu (Qb (Qe (vI x2.2)) 2),uu (Qb (Qe (vI x2.2)) 3),uu (Qb (Qe (vI (Qe (vI c2)))) 0),uu (Qb (Qe (vI (Qe (vI c2)))) 1),uu (Qb (Qe (vI (Qe (vI c2)))) 2),uu (Qb (Qe (vI (Qe (vI c2)))) 3),uu (Qb (Qe (vI (Qe (vI c3)))) 0),uu (Qb (Qe (vI (Qe (vI c3)))) 1),uu (Qb (Qe (vI (Qe (vI c3)))) 2),uu (Qb (Qe (vI (Qe (vI c3)))) 3)] 51))))))):=by kernel_rfl
theorem dX (sb:Nat) (c0 c1 c2 c3 n:Int) (r_c0:R4 c0) (r_c1:R4 c1) (r_c2:R4 c2) (r_c3:R4 c3) (r_n:R4 n):ko sb c0 c1 c2 c3 n (fun za zh zv zu zp=>QC Tryz.prog 48 za zh (Int×ST) zv zu zp):=by
  refine Qx (c:=Qk Tryz.f48) (n:=17) (fn:=Tryz.f48) QF Tryz.func48 (by kernel_rfl) (by kernel_rfl) (by kernel_rfl) 2000 _ [] [0] rfl rfl (Eq.mpr (Fl sb c0 c1 c2 c3 n) ?_)
  intro b1
  refine Qa 4 _ (QH (dQ sb c0 c1 c2 c3 n ‹_› ‹_› ‹_› ‹_› ‹_›) (⟨_,zZ (by first | exact Qu _ | exact by assumption) (by first | exact Qu _ | exact by assumption),rfl⟩) fun x2 h1=> ?_)
  obtain ⟨rh1_2,h1⟩:=h1
  try simp only [Qc (n:=c0) ‹_›,Qc (n:=c1) ‹_›,Qc (n:=c2) ‹_›,Qc (n:=c3) ‹_›,Qc (n:=n) ‹_›] at h1
  have hy:=h1
  refine ⟨fun h2=> ?_,fun h2=> ?_⟩
  · have hz:=(bne_iff_ne.1 h2)
    exact ⟨(x2.1,((Qe (vI c0)),x2.2,(Qe (vI c2)),(Qe (vI c3)))),⟨⟨by first | assumption | exact Qu _,by first | assumption | exact Qu _,by first | assumption | exact Qu _,by first | assumption | exact Qu _⟩,by simp only [Qc r_c0,Qc r_c1,Qc r_c2,Qc r_c3,Qc r_n,Qc (n:=x2.2) ‹_›];exact (Qbz (s:=(c0,c1,c2,c3)) hy hz).symm⟩,rfl,rfl,trivial⟩
  refine Qa 4 _ (Wd sb (Qe (vI c0)) x2.2 (Qe (vI c2)) (Qe (vI c3)) n (fun x3 rh3_2 h3=> ?_) (r_c0:=Qu _) (r_c2:=Qu _) (r_c3:=Qu _))
  have hz2:=h3
  try simp only [Qc r_c0,Qc r_c1,Qc r_c2,Qc r_c3,Qc r_n] at hz2
  have hz:=(bne_eq_false_iff_eq.1 h2)
  exact ⟨(x3.1,(x3.2,(Qe (vI x2.2)),(Qe (vI (Qe (vI c2)))),(Qe (vI (Qe (vI c3)))))),⟨⟨by first | assumption | exact Qu _,by first | assumption | exact Qu _,by first | assumption | exact Qu _,by first | assumption | exact Qu _⟩,by simp only [Qc r_c0,Qc r_c1,Qc r_c2,Qc r_c3,Qc r_n,Qc (n:=x2.2) ‹_›];exact (Qcm (s:=(c0,c1,c2,c3)) hy hz hz2).symm⟩,rfl,rfl,trivial⟩
noncomputable def FI:List Value->List Qf->ZB:=fun vs hs=>⟨Int×ST,fun J=>ii J.1,fun J=> [.blk (QJ (Qd vs 1)) (.cells #[uu (Qb J.2.1 0),uu (Qb J.2.1 1),uu (Qb J.2.1 2),uu (Qb J.2.1 3),uu (Qb J.2.2.1 0),uu (Qb J.2.2.1 1),uu (Qb J.2.2.1 2),uu (Qb J.2.2.1 3),uu (Qb J.2.2.2.1 0),uu (Qb J.2.2.2.1 1),uu (Qb J.2.2.2.1 2),uu (Qb J.2.2.2.1 3),uu (Qb J.2.2.2.2 0),uu (Qb J.2.2.2.2 1),uu (Qb J.2.2.2.2 2),uu (Qb J.2.2.2.2 3)] 51 (0,0)), .blk (FA (Qh hs 1)) (.cells #[uu (Qb (Qe (.agg (Qm (Qh hs 1)))) 0),uu (Qb (Qe (.agg (Qm (Qh hs 1)))) 1),uu (Qb (Qe (.agg (Qm (Qh hs 1)))) 2),uu (Qb (Qe (.agg (Qm (Qh hs 1)))) 3)] 35 (0,0))],fun J=>Jw J.2/\J=Jy (((Qe (v4 (.agg (Qm (Qh hs 0))) 0)),(Qe (v4 (.agg (Qm (Qh hs 0))) 4)),(Qe (v4 (.agg (Qm (Qh hs 0))) 8)),(Qe (v4 (.agg (Qm (Qh hs 0))) 12))):ST) (Qe (.agg (Qm (Qh hs 1))))⟩
abbrev jO (sb cb:Nat) (c0 c1 c2 c3 n:Int) (zv:Value) (zs0:Qf) (zs1:Qf):Prop:= ∃J:Int×ST,(Jw J.2/\J=Jy (((Qe (vI c0)),(Qe (vI c1)),(Qe (vI c2)),(Qe (vI c3))):ST) (Qe (vI n)))/\zv=ii J.1/\zs0=bk sb #[uu (Qb J.2.1 0),uu (Qb J.2.1 1),uu (Qb J.2.1 2),uu (Qb J.2.1 3),uu (Qb J.2.2.1 0),uu (Qb J.2.2.1 1),uu (Qb J.2.2.1 2),uu (Qb J.2.2.1 3),uu (Qb J.2.2.2.1 0),uu (Qb J.2.2.2.1 1),uu (Qb J.2.2.2.1 2),uu (Qb J.2.2.2.1 3),uu (Qb J.2.2.2.2 0),uu (Qb J.2.2.2.2 1),uu (Qb J.2.2.2.2 2),uu (Qb J.2.2.2.2 3)] 51/\zs1=bk cb (nC (Qe (vI n))) 35/\True
abbrev jN (sb cb:Nat) (c0 c1 c2 c3 n:Int) (zF:SF (Int×ST)):Prop:=zF #[pp sb 0,pp cb 0] [bk sb #[uu (Qb c0 0),uu (Qb c0 1),uu (Qb c0 2),uu (Qb c0 3),uu (Qb c1 0),uu (Qb c1 1),uu (Qb c1 2),uu (Qb c1 3),uu (Qb c2 0),uu (Qb c2 1),uu (Qb c2 2),uu (Qb c2 3),uu (Qb c3 0),uu (Qb c3 1),uu (Qb c3 2),uu (Qb c3 3)] 51,bk cb (nC n) 35] (fun J=>ii J.1) (fun J=> [bk sb #[uu (Qb J.2.1 0),uu (Qb J.2.1 1),uu (Qb J.2.1 2),uu (Qb J.2.1 3),uu (Qb J.2.2.1 0),uu (Qb J.2.2.1 1),uu (Qb J.2.2.1 2),uu (Qb J.2.2.1 3),uu (Qb J.2.2.2.1 0),uu (Qb J.2.2.2.1 1),uu (Qb J.2.2.2.1 2),uu (Qb J.2.2.2.1 3),uu (Qb J.2.2.2.2 0),uu (Qb J.2.2.2.2 1),uu (Qb J.2.2.2.2 2),uu (Qb J.2.2.2.2 3)] 51,bk cb (nC (Qe (vI n))) 35]) (fun J=>(Jw J.2/\J=Jy (((Qe (vI c0)),(Qe (vI c1)),(Qe (vI c2)),(Qe (vI c3))):ST) (Qe (vI n))))
theorem G8 (sb cb:Nat) (c0 c1 c2 c3 n:Int):jN sb cb c0 c1 c2 c3 n (fun za zh zv zu zp=>QB Tryz.prog 23 none 2000 none (Qk Tryz.f58) (.reg [S0] (.reg [S0,S0, .sem (QV 16 0), .callr [] Jz, .sem (QV 4 1), .callr [] Xg,S0,S0,S0, .sem [.nw 2], .sem (Zq 4 2),S0] (.reg [S0,S0] (.cond (.reg [S0,S0] (.done)) (.reg [S0,S0,S0, .sem (QV 4 1), .callw [0] [0] wM,S0] (.done))))))
    (Q2 za zh) (Q8 Tryz.prog Tryz.f58 [] [0,1] (X:=Int×ST) zv zu zp))=
    (Qj 16 sb (XZ c0 c1 c2 c3 (fun x1=>Qj 4 cb (Z7 x1 n (fun x2=> ∀b3:Nat,Qj 4 b3 (((x2.2 !=(0:Int))=true->jO sb cb c0 c1 c2 c3 n (ii x2.2) (bk sb #[uu (Qb c0 0),uu (Qb c0 1),uu (Qb c0 2),uu (Qb c0 3),uu (Qb c1 0),uu (Qb c1 1),uu (Qb c1 2),uu (Qb c1 3),uu (Qb c2 0),uu (Qb c2 1),uu (Qb c2 2),uu (Qb c2 3),uu (Qb c3 0),uu (Qb c3 1),uu (Qb c3 2),uu (Qb c3 3)] 51) (bk cb (nC n) 35))/\((x2.2 !=(0:Int))=false->Qj 4 cb (qE sb c0 c1 c2 c3 n (fun x4=>jO sb cb c0 c1 c2 c3 n (ii x4.1) (bk sb #[uu (Qb x4.2 0),uu (Qb x4.2 1),uu (Qb x4.2 2),uu (Qb x4.2 3),uu (Qb (Qe (vI c1)) 0),uu (Qb (Qe (vI c1)) 1),uu (Qb (Qe (vI c1)) 2),uu (Qb (Qe (vI c1)) 3),uu (Qb (Qe (vI c2)) 0),uu (Qb (Qe (vI c2)) 1),uu (Qb (Qe (vI c2)) 2),uu (Qb (Qe (vI c2)) 3),uu (Qb (Qe (vI c3)) 0),uu (Qb (Qe (vI c3)) 1),uu (Qb (Qe (vI c3)) 2),uu (Qb (Qe (vI c3)) 3)] 51) (bk cb (nC n) 35)))))))))):=by kernel_rfl
theorem gK (sb cb:Nat) (c0 c1 c2 c3 n:Int) (r_c0:R4 c0) (r_c1:R4 c1) (r_c2:R4 c2) (r_c3:R4 c3) (r_n:R4 n):jN sb cb c0 c1 c2 c3 n (fun za zh zv zu zp=>QC Tryz.prog 58 za zh (Int×ST) zv zu zp):=by
  refine Qx (c:=Qk Tryz.f58) (n:=23) (fn:=Tryz.f58) QF Tryz.func58 (by kernel_rfl) (by kernel_rfl) (by kernel_rfl) 2000 _ [] [0,1] rfl rfl (Eq.mpr (G8 sb cb c0 c1 c2 c3 n) ?_)
  refine Qa 16 _ (JC c0 c1 c2 c3 (fun x1 rh1_ h1=> ?_))
  have ha:=h1
  refine Qa 4 _ (Xe x1 n (fun x2 rh2_1 h2=> ?_))
  have hx:=h2
  intro b3
  refine Qa 4 _ ⟨fun h3=> ?_,fun h3=> ?_⟩
  · have hz:=(bne_iff_ne.1 h3)
    exact ⟨(x2.2,(c0,c1,c2,c3)),⟨⟨by first | assumption | exact Qu _,by first | assumption | exact Qu _,by first | assumption | exact Qu _,by first | assumption | exact Qu _⟩,by simp only [Qc r_c0,Qc r_c1,Qc r_c2,Qc r_c3,Qc r_n];exact (Qc4 (s:=(c0,c1,c2,c3)) ha hx hz).symm⟩,rfl,rfl,(by simp only [Qc r_n]),trivial⟩
  refine Qa 4 _ (Wd sb c0 c1 c2 c3 n (fun x4 rh4_2 h4=> ?_))
  have hy:=h4
  have hz:=(bne_eq_false_iff_eq.1 h3)
  exact ⟨(x4.1,(x4.2,(Qe (vI c1)),(Qe (vI c2)),(Qe (vI c3)))),⟨⟨by first | assumption | exact Qu _,by first | assumption | exact Qu _,by first | assumption | exact Qu _,by first | assumption | exact Qu _⟩,by simp only [Qc r_c0,Qc r_c1,Qc r_c2,Qc r_c3,Qc r_n];exact (Qdv (s:=(c0,c1,c2,c3)) ha hx hz hy).symm⟩,rfl,rfl,(by simp only [Qc r_n]),trivial⟩
noncomputable def kX:List Value->List Qf->ZB:=fun vs hs=>⟨Int×ST,fun J=>ii J.1,fun J=> [.blk (QJ (Qd vs 1)) (.cells #[uu (Qb J.2.1 0),uu (Qb J.2.1 1),uu (Qb J.2.1 2),uu (Qb J.2.1 3),uu (Qb J.2.2.1 0),uu (Qb J.2.2.1 1),uu (Qb J.2.2.1 2),uu (Qb J.2.2.1 3),uu (Qb J.2.2.2.1 0),uu (Qb J.2.2.2.1 1),uu (Qb J.2.2.2.1 2),uu (Qb J.2.2.2.1 3),uu (Qb J.2.2.2.2 0),uu (Qb J.2.2.2.2 1),uu (Qb J.2.2.2.2 2),uu (Qb J.2.2.2.2 3)] 51 (0,0)), .blk (FA (Qh hs 1)) (.cells #[uu (Qb (Qe (.agg (Qm (Qh hs 1)))) 0),uu (Qb (Qe (.agg (Qm (Qh hs 1)))) 1),uu (Qb (Qe (.agg (Qm (Qh hs 1)))) 2),uu (Qb (Qe (.agg (Qm (Qh hs 1)))) 3)] 35 (0,0))],fun J=>Jw J.2/\J=qA (((Qe (v4 (.agg (Qm (Qh hs 0))) 0)),(Qe (v4 (.agg (Qm (Qh hs 0))) 4)),(Qe (v4 (.agg (Qm (Qh hs 0))) 8)),(Qe (v4 (.agg (Qm (Qh hs 0))) 12))):ST) (Qe (.agg (Qm (Qh hs 1))))⟩
abbrev wy (sb cb:Nat) (c0 c1 c2 c3 n:Int) (zv:Value) (zs0:Qf) (zs1:Qf):Prop:= ∃J:Int×ST,(Jw J.2/\J=qA (((Qe (vI c0)),(Qe (vI c1)),(Qe (vI c2)),(Qe (vI c3))):ST) (Qe (vI n)))/\zv=ii J.1/\zs0=bk sb #[uu (Qb J.2.1 0),uu (Qb J.2.1 1),uu (Qb J.2.1 2),uu (Qb J.2.1 3),uu (Qb J.2.2.1 0),uu (Qb J.2.2.1 1),uu (Qb J.2.2.1 2),uu (Qb J.2.2.1 3),uu (Qb J.2.2.2.1 0),uu (Qb J.2.2.2.1 1),uu (Qb J.2.2.2.1 2),uu (Qb J.2.2.2.1 3),uu (Qb J.2.2.2.2 0),uu (Qb J.2.2.2.2 1),uu (Qb J.2.2.2.2 2),uu (Qb J.2.2.2.2 3)] 51/\zs1=bk cb (nC (Qe (vI n))) 35/\True
abbrev Uf (sb cb:Nat) (c0 c1 c2 c3 n:Int) (zF:SF (Int×ST)):Prop:=zF #[pp sb 0,pp cb 0] [bk sb #[uu (Qb c0 0),uu (Qb c0 1),uu (Qb c0 2),uu (Qb c0 3),uu (Qb c1 0),uu (Qb c1 1),uu (Qb c1 2),uu (Qb c1 3),uu (Qb c2 0),uu (Qb c2 1),uu (Qb c2 2),uu (Qb c2 3),uu (Qb c3 0),uu (Qb c3 1),uu (Qb c3 2),uu (Qb c3 3)] 51,bk cb (nC n) 35] (fun J=>ii J.1) (fun J=> [bk sb #[uu (Qb J.2.1 0),uu (Qb J.2.1 1),uu (Qb J.2.1 2),uu (Qb J.2.1 3),uu (Qb J.2.2.1 0),uu (Qb J.2.2.1 1),uu (Qb J.2.2.1 2),uu (Qb J.2.2.1 3),uu (Qb J.2.2.2.1 0),uu (Qb J.2.2.2.1 1),uu (Qb J.2.2.2.1 2),uu (Qb J.2.2.2.1 3),uu (Qb J.2.2.2.2 0),uu (Qb J.2.2.2.2 1),uu (Qb J.2.2.2.2 2),uu (Qb J.2.2.2.2 3)] 51,bk cb (nC (Qe (vI n))) 35]) (fun J=>(Jw J.2/\J=qA (((Qe (vI c0)),(Qe (vI c1)),(Qe (vI c2)),(Qe (vI c3))):ST) (Qe (vI n))))
theorem yO (sb cb:Nat) (c0 c1 c2 c3 n:Int):Uf sb cb c0 c1 c2 c3 n (fun za zh zv zu zp=>QB Tryz.prog 9 none 2000 none (Qk Tryz.f60) (.reg [S0] (.reg [S0,S0,S0, .sem (QV 4 1), .callw [0] [0] ph,S0] (.done)))
    (Q2 za zh) (Q8 Tryz.prog Tryz.f60 [] [0,1] (X:=Int×ST) zv zu zp))=
    (Qj 4 cb (Ze Tryz.prog 59 #[pp sb 8,vI n] [bk sb #[uu (Qb c0 0),uu (Qb c0 1),uu (Qb c0 2),uu (Qb c0 3),uu (Qb c1 0),uu (Qb c1 1),uu (Qb c1 2),uu (Qb c1 3),uu (Qb c2 0),uu (Qb c2 1),uu (Qb c2 2),uu (Qb c2 3),uu (Qb c3 0),uu (Qb c3 1),uu (Qb c3 2),uu (Qb c3 3)] 51] (Int×Int) (fun J=>ii J.1) (fun J=> [bk sb #[uu (Qb (Qe (vI c0)) 0),uu (Qb (Qe (vI c0)) 1),uu (Qb (Qe (vI c0)) 2),uu (Qb (Qe (vI c0)) 3),uu (Qb (Qe (vI c1)) 0),uu (Qb (Qe (vI c1)) 1),uu (Qb (Qe (vI c1)) 2),uu (Qb (Qe (vI c1)) 3),uu (Qb J.2 0),uu (Qb J.2 1),uu (Qb J.2 2),uu (Qb J.2 3),uu (Qb (Qe (vI c3)) 0),uu (Qb (Qe (vI c3)) 1),uu (Qb (Qe (vI c3)) 2),uu (Qb (Qe (vI c3)) 3)] 51]) (fun J=>R4 J.2/\J=Jp (Qe (vI c2)) (Qe (vI n))) (fun x1=>wy sb cb c0 c1 c2 c3 n (ii x1.1) (bk sb #[uu (Qb (Qe (vI c0)) 0),uu (Qb (Qe (vI c0)) 1),uu (Qb (Qe (vI c0)) 2),uu (Qb (Qe (vI c0)) 3),uu (Qb (Qe (vI c1)) 0),uu (Qb (Qe (vI c1)) 1),uu (Qb (Qe (vI c1)) 2),uu (Qb (Qe (vI c1)) 3),uu (Qb x1.2 0),uu (Qb x1.2 1),uu (Qb x1.2 2),uu (Qb x1.2 3),uu (Qb (Qe (vI c3)) 0),uu (Qb (Qe (vI c3)) 1),uu (Qb (Qe (vI c3)) 2),uu (Qb (Qe (vI c3)) 3)] 51) (bk cb (nC n) 35)))):=by kernel_rfl
theorem HW (sb cb:Nat) (c0 c1 c2 c3 n:Int) (r_c0:R4 c0) (r_c1:R4 c1) (r_c2:R4 c2) (r_c3:R4 c3) (r_n:R4 n):Uf sb cb c0 c1 c2 c3 n (fun za zh zv zu zp=>QC Tryz.prog 60 za zh (Int×ST) zv zu zp):=by
  refine Qx (c:=Qk Tryz.f60) (n:=9) (fn:=Tryz.f60) QF Tryz.func60 (by kernel_rfl) (by kernel_rfl) (by kernel_rfl) 2000 _ [] [0,1] rfl rfl (Eq.mpr (yO sb cb c0 c1 c2 c3 n) ?_)
  refine Qa 4 _ (QH (Qcp sb c0 c1 c2 c3 n ‹_› ‹_› ‹_› ‹_› ‹_›) (⟨_,xE (by first | exact Qu _ | exact by assumption) (by first | exact Qu _ | exact by assumption),rfl⟩) fun x1 h1=> ?_)
  obtain ⟨rh1_2,h1⟩:=h1
  try simp only [Qc (n:=c0) ‹_›,Qc (n:=c1) ‹_›,Qc (n:=c2) ‹_›,Qc (n:=c3) ‹_›,Qc (n:=n) ‹_›] at h1
  have hy:=h1
  exact ⟨(x1.1,((Qe (vI c0)),(Qe (vI c1)),x1.2,(Qe (vI c3)))),⟨⟨by first | assumption | exact Qu _,by first | assumption | exact Qu _,by first | assumption | exact Qu _,by first | assumption | exact Qu _⟩,by simp only [Qc r_c0,Qc r_c1,Qc r_c2,Qc r_c3,Qc r_n];unfold qA;rw [hy]⟩,rfl,rfl,(by simp only [Qc r_n]),trivial⟩
noncomputable def kT:List Value->List Qf->ZB:=fun vs hs=>⟨Int×ST,fun J=>ii J.1,fun J=> [.blk (QJ (Qd vs 1)) (.cells #[uu (Qb J.2.1 0),uu (Qb J.2.1 1),uu (Qb J.2.1 2),uu (Qb J.2.1 3),uu (Qb J.2.2.1 0),uu (Qb J.2.2.1 1),uu (Qb J.2.2.1 2),uu (Qb J.2.2.1 3),uu (Qb J.2.2.2.1 0),uu (Qb J.2.2.2.1 1),uu (Qb J.2.2.2.1 2),uu (Qb J.2.2.2.1 3),uu (Qb J.2.2.2.2 0),uu (Qb J.2.2.2.2 1),uu (Qb J.2.2.2.2 2),uu (Qb J.2.2.2.2 3)] 51 (0,0)), .blk (FA (Qh hs 1)) (.cells #[uu (Qb (Qe (.agg (Qm (Qh hs 1)))) 0),uu (Qb (Qe (.agg (Qm (Qh hs 1)))) 1),uu (Qb (Qe (.agg (Qm (Qh hs 1)))) 2),uu (Qb (Qe (.agg (Qm (Qh hs 1)))) 3)] 35 (0,0))],fun J=>Jw J.2/\J=qU (((Qe (v4 (.agg (Qm (Qh hs 0))) 0)),(Qe (v4 (.agg (Qm (Qh hs 0))) 4)),(Qe (v4 (.agg (Qm (Qh hs 0))) 8)),(Qe (v4 (.agg (Qm (Qh hs 0))) 12))):ST) (Qe (.agg (Qm (Qh hs 1))))⟩
abbrev kO (sb cb:Nat) (c0 c1 c2 c3 n:Int) (zv:Value) (zs0:Qf) (zs1:Qf):Prop:= ∃J:Int×ST,(Jw J.2/\J=qU (((Qe (vI c0)),(Qe (vI c1)),(Qe (vI c2)),(Qe (vI c3))):ST) (Qe (vI n)))/\zv=ii J.1/\zs0=bk sb #[uu (Qb J.2.1 0),uu (Qb J.2.1 1),uu (Qb J.2.1 2),uu (Qb J.2.1 3),uu (Qb J.2.2.1 0),uu (Qb J.2.2.1 1),uu (Qb J.2.2.1 2),uu (Qb J.2.2.1 3),uu (Qb J.2.2.2.1 0),uu (Qb J.2.2.2.1 1),uu (Qb J.2.2.2.1 2),uu (Qb J.2.2.2.1 3),uu (Qb J.2.2.2.2 0),uu (Qb J.2.2.2.2 1),uu (Qb J.2.2.2.2 2),uu (Qb J.2.2.2.2 3)] 51/\zs1=bk cb (nC (Qe (vI n))) 35/\True
abbrev Ui (sb cb:Nat) (c0 c1 c2 c3 n:Int) (zF:SF (Int×ST)):Prop:=zF #[pp sb 0,pp cb 0] [bk sb #[uu (Qb c0 0),uu (Qb c0 1),uu (Qb c0 2),uu (Qb c0 3),uu (Qb c1 0),uu (Qb c1 1),uu (Qb c1 2),uu (Qb c1 3),uu (Qb c2 0),uu (Qb c2 1),uu (Qb c2 2),uu (Qb c2 3),uu (Qb c3 0),uu (Qb c3 1),uu (Qb c3 2),uu (Qb c3 3)] 51,bk cb (nC n) 35] (fun J=>ii J.1) (fun J=> [bk sb #[uu (Qb J.2.1 0),uu (Qb J.2.1 1),uu (Qb J.2.1 2),uu (Qb J.2.1 3),uu (Qb J.2.2.1 0),uu (Qb J.2.2.1 1),uu (Qb J.2.2.1 2),uu (Qb J.2.2.1 3),uu (Qb J.2.2.2.1 0),uu (Qb J.2.2.2.1 1),uu (Qb J.2.2.2.1 2),uu (Qb J.2.2.2.1 3),uu (Qb J.2.2.2.2 0),uu (Qb J.2.2.2.2 1),uu (Qb J.2.2.2.2 2),uu (Qb J.2.2.2.2 3)] 51,bk cb (nC (Qe (vI n))) 35]) (fun J=>(Jw J.2/\J=qU (((Qe (vI c0)),(Qe (vI c1)),(Qe (vI c2)),(Qe (vI c3))):ST) (Qe (vI n))))
theorem yg (sb cb:Nat) (c0 c1 c2 c3 n:Int):Ui sb cb c0 c1 c2 c3 n (fun za zh zv zu zp=>QB Tryz.prog 9 none 2000 none (Qk Tryz.f61) (.reg [S0] (.reg [S0,S0,S0, .sem (QV 4 1), .callw [0] [0] vg,S0] (.done)))
    (Q2 za zh) (Q8 Tryz.prog Tryz.f61 [] [0,1] (X:=Int×ST) zv zu zp))=
    (Qj 4 cb (Ze Tryz.prog 62 #[pp sb 8,vI n] [bk sb #[uu (Qb c0 0),uu (Qb c0 1),uu (Qb c0 2),uu (Qb c0 3),uu (Qb c1 0),uu (Qb c1 1),uu (Qb c1 2),uu (Qb c1 3),uu (Qb c2 0),uu (Qb c2 1),uu (Qb c2 2),uu (Qb c2 3),uu (Qb c3 0),uu (Qb c3 1),uu (Qb c3 2),uu (Qb c3 3)] 51] (Int×Int) (fun J=>ii J.1) (fun J=> [bk sb #[uu (Qb (Qe (vI c0)) 0),uu (Qb (Qe (vI c0)) 1),uu (Qb (Qe (vI c0)) 2),uu (Qb (Qe (vI c0)) 3),uu (Qb (Qe (vI c1)) 0),uu (Qb (Qe (vI c1)) 1),uu (Qb (Qe (vI c1)) 2),uu (Qb (Qe (vI c1)) 3),uu (Qb J.2 0),uu (Qb J.2 1),uu (Qb J.2 2),uu (Qb J.2 3),uu (Qb (Qe (vI c3)) 0),uu (Qb (Qe (vI c3)) 1),uu (Qb (Qe (vI c3)) 2),uu (Qb (Qe (vI c3)) 3)] 51]) (fun J=>R4 J.2/\J=Z3 (Qe (vI c2)) (Qe (vI n))) (fun x1=>kO sb cb c0 c1 c2 c3 n (ii x1.1) (bk sb #[uu (Qb (Qe (vI c0)) 0),uu (Qb (Qe (vI c0)) 1),uu (Qb (Qe (vI c0)) 2),uu (Qb (Qe (vI c0)) 3),uu (Qb (Qe (vI c1)) 0),uu (Qb (Qe (vI c1)) 1),uu (Qb (Qe (vI c1)) 2),uu (Qb (Qe (vI c1)) 3),uu (Qb x1.2 0),uu (Qb x1.2 1),uu (Qb x1.2 2),uu (Qb x1.2 3),uu (Qb (Qe (vI c3)) 0),uu (Qb (Qe (vI c3)) 1),uu (Qb (Qe (vI c3)) 2),uu (Qb (Qe (vI c3)) 3)] 51) (bk cb (nC n) 35)))):=by kernel_rfl
theorem HB (sb cb:Nat) (c0 c1 c2 c3 n:Int) (r_c0:R4 c0) (r_c1:R4 c1) (r_c2:R4 c2) (r_c3:R4 c3) (r_n:R4 n):Ui sb cb c0 c1 c2 c3 n (fun za zh zv zu zp=>QC Tryz.prog 61 za zh (Int×ST) zv zu zp):=by
  refine Qx (c:=Qk Tryz.f61) (n:=9) (fn:=Tryz.f61) QF Tryz.func61 (by kernel_rfl) (by kernel_rfl) (by kernel_rfl) 2000 _ [] [0,1] rfl rfl (Eq.mpr (yg sb cb c0 c1 c2 c3 n) ?_)
  refine Qa 4 _ (QH (Qae sb c0 c1 c2 c3 n ‹_› ‹_› ‹_› ‹_› ‹_›) (⟨_,zZ (by first | exact Qu _ | exact by assumption) (by first | exact Qu _ | exact by assumption),rfl⟩) fun x1 h1=> ?_)
  obtain ⟨rh1_2,h1⟩:=h1
  try simp only [Qc (n:=c0) ‹_›,Qc (n:=c1) ‹_›,Qc (n:=c2) ‹_›,Qc (n:=c3) ‹_›,Qc (n:=n) ‹_›] at h1
  have hy:=h1
  exact ⟨(x1.1,((Qe (vI c0)),(Qe (vI c1)),x1.2,(Qe (vI c3)))),⟨⟨by first | assumption | exact Qu _,by first | assumption | exact Qu _,by first | assumption | exact Qu _,by first | assumption | exact Qu _⟩,by simp only [Qc r_c0,Qc r_c1,Qc r_c2,Qc r_c3,Qc r_n];unfold qU;rw [hy]⟩,rfl,rfl,(by simp only [Qc r_n]),trivial⟩
noncomputable def HM:List Value->List Qf->ZB:=fun vs hs=>⟨Int×ST,fun J=>ii J.1,fun J=> [.blk (QJ (Qd vs 1)) (.cells #[uu (Qb J.2.1 0),uu (Qb J.2.1 1),uu (Qb J.2.1 2),uu (Qb J.2.1 3),uu (Qb J.2.2.1 0),uu (Qb J.2.2.1 1),uu (Qb J.2.2.1 2),uu (Qb J.2.2.1 3),uu (Qb J.2.2.2.1 0),uu (Qb J.2.2.2.1 1),uu (Qb J.2.2.2.1 2),uu (Qb J.2.2.2.1 3),uu (Qb J.2.2.2.2 0),uu (Qb J.2.2.2.2 1),uu (Qb J.2.2.2.2 2),uu (Qb J.2.2.2.2 3)] 51 (0,0)), .blk (FA (Qh hs 1)) (.cells #[uu (Qb (Qe (.agg (Qm (Qh hs 1)))) 0),uu (Qb (Qe (.agg (Qm (Qh hs 1)))) 1),uu (Qb (Qe (.agg (Qm (Qh hs 1)))) 2),uu (Qb (Qe (.agg (Qm (Qh hs 1)))) 3)] 35 (0,0))],fun J=>Jw J.2/\J=ZX (((Qe (v4 (.agg (Qm (Qh hs 0))) 0)),(Qe (v4 (.agg (Qm (Qh hs 0))) 4)),(Qe (v4 (.agg (Qm (Qh hs 0))) 8)),(Qe (v4 (.agg (Qm (Qh hs 0))) 12))):ST) (Qe (.agg (Qm (Qh hs 1))))⟩
abbrev GA (sb cb:Nat) (c0 c1 c2 c3 n:Int) (zv:Value) (zs0:Qf) (zs1:Qf):Prop:= ∃J:Int×ST,(Jw J.2/\J=ZX (((Qe (vI c0)),(Qe (vI c1)),(Qe (vI c2)),(Qe (vI c3))):ST) (Qe (vI n)))/\zv=ii J.1/\zs0=bk sb #[uu (Qb J.2.1 0),uu (Qb J.2.1 1),uu (Qb J.2.1 2),uu (Qb J.2.1 3),uu (Qb J.2.2.1 0),uu (Qb J.2.2.1 1),uu (Qb J.2.2.1 2),uu (Qb J.2.2.1 3),uu (Qb J.2.2.2.1 0),uu (Qb J.2.2.2.1 1),uu (Qb J.2.2.2.1 2),uu (Qb J.2.2.2.1 3),uu (Qb J.2.2.2.2 0),uu (Qb J.2.2.2.2 1),uu (Qb J.2.2.2.2 2),uu (Qb J.2.2.2.2 3)] 51/\zs1=bk cb (nC (Qe (vI n))) 35/\True
abbrev qu (sb cb:Nat) (c0 c1 c2 c3 n:Int) (zF:SF (Int×ST)):Prop:=zF #[pp sb 0,pp cb 0] [bk sb #[uu (Qb c0 0),uu (Qb c0 1),uu (Qb c0 2),uu (Qb c0 3),uu (Qb c1 0),uu (Qb c1 1),uu (Qb c1 2),uu (Qb c1 3),uu (Qb c2 0),uu (Qb c2 1),uu (Qb c2 2),uu (Qb c2 3),uu (Qb c3 0),uu (Qb c3 1),uu (Qb c3 2),uu (Qb c3 3)] 51,bk cb (nC n) 35] (fun J=>ii J.1) (fun J=> [bk sb #[uu (Qb J.2.1 0),uu (Qb J.2.1 1),uu (Qb J.2.1 2),uu (Qb J.2.1 3),uu (Qb J.2.2.1 0),uu (Qb J.2.2.1 1),uu (Qb J.2.2.1 2),uu (Qb J.2.2.1 3),uu (Qb J.2.2.2.1 0),uu (Qb J.2.2.2.1 1),uu (Qb J.2.2.2.1 2),uu (Qb J.2.2.2.1 3),uu (Qb J.2.2.2.2 0),uu (Qb J.2.2.2.2 1),uu (Qb J.2.2.2.2 2),uu (Qb J.2.2.2.2 3)] 51,bk cb (nC (Qe (vI n))) 35]) (fun J=>(Jw J.2/\J=ZX (((Qe (vI c0)),(Qe (vI c1)),(Qe (vI c2)),(Qe (vI c3))):ST) (Qe (vI n))))
theorem WI (sb cb:Nat) (c0 c1 c2 c3 n:Int):qu sb cb c0 c1 c2 c3 n (fun za zh zv zu zp=>QB Tryz.prog 12 none 2000 none (Qk Tryz.f47) (.reg [S0] (.reg [S0,S0,S0,S0,S0,S0, .sem (QV 4 1), .callw [0] [0] Bd,S0] (.done)))
    (Q2 za zh) (Q8 Tryz.prog Tryz.f47 [] [0,1] (X:=Int×ST) zv zu zp))=
    (Qj 4 cb (Ze Tryz.prog 48 #[pp sb 0,pp sb 4,vI n] [bk sb #[uu (Qb c0 0),uu (Qb c0 1),uu (Qb c0 2),uu (Qb c0 3),uu (Qb c1 0),uu (Qb c1 1),uu (Qb c1 2),uu (Qb c1 3),uu (Qb c2 0),uu (Qb c2 1),uu (Qb c2 2),uu (Qb c2 3),uu (Qb c3 0),uu (Qb c3 1),uu (Qb c3 2),uu (Qb c3 3)] 51] (Int×ST) (fun J=>ii J.1) (fun J=> [bk sb #[uu (Qb J.2.1 0),uu (Qb J.2.1 1),uu (Qb J.2.1 2),uu (Qb J.2.1 3),uu (Qb J.2.2.1 0),uu (Qb J.2.2.1 1),uu (Qb J.2.2.1 2),uu (Qb J.2.2.1 3),uu (Qb J.2.2.2.1 0),uu (Qb J.2.2.2.1 1),uu (Qb J.2.2.2.1 2),uu (Qb J.2.2.2.1 3),uu (Qb J.2.2.2.2 0),uu (Qb J.2.2.2.2 1),uu (Qb J.2.2.2.2 2),uu (Qb J.2.2.2.2 3)] 51]) (fun J=>Jw J.2/\J=ZX (((Qe (vI c0)),(Qe (vI c1)),(Qe (vI c2)),(Qe (vI c3))):ST) (Qe (vI n))) (fun x1=>GA sb cb c0 c1 c2 c3 n (ii x1.1) (bk sb #[uu (Qb x1.2.1 0),uu (Qb x1.2.1 1),uu (Qb x1.2.1 2),uu (Qb x1.2.1 3),uu (Qb x1.2.2.1 0),uu (Qb x1.2.2.1 1),uu (Qb x1.2.2.1 2),uu (Qb x1.2.2.1 3),uu (Qb x1.2.2.2.1 0),uu (Qb x1.2.2.2.1 1),uu (Qb x1.2.2.2.1 2),uu (Qb x1.2.2.2.1 3),uu (Qb x1.2.2.2.2 0),uu (Qb x1.2.2.2.2 1),uu (Qb x1.2.2.2.2 2),uu (Qb x1.2.2.2.2 3)] 51) (bk cb (nC n) 35)))):=by kernel_rfl
theorem DI (sb cb:Nat) (c0 c1 c2 c3 n:Int) (r_c0:R4 c0) (r_c1:R4 c1) (r_c2:R4 c2) (r_c3:R4 c3) (r_n:R4 n):qu sb cb c0 c1 c2 c3 n (fun za zh zv zu zp=>QC Tryz.prog 47 za zh (Int×ST) zv zu zp):=by
  refine Qx (c:=Qk Tryz.f47) (n:=12) (fn:=Tryz.f47) QF Tryz.func47 (by kernel_rfl) (by kernel_rfl) (by kernel_rfl) 2000 _ [] [0,1] rfl rfl (Eq.mpr (WI sb cb c0 c1 c2 c3 n) ?_)
  refine Qa 4 _ (QH (bg sb c0 c1 c2 c3 n ‹_› ‹_› ‹_› ‹_› ‹_›) (⟨_,G5 ⟨Qu _,Qu _,Qu _,Qu _⟩ (Qu _),rfl⟩) fun x1 h1=> ?_)
  obtain ⟨rh1_2,h1⟩:=h1
  try simp only [Qc (n:=c0) ‹_›,Qc (n:=c1) ‹_›,Qc (n:=c2) ‹_›,Qc (n:=c3) ‹_›,Qc (n:=n) ‹_›] at h1
  have rah1:=rh1_2.a;have rbh1:=rh1_2.b;have rch1:=rh1_2.c;have rdh1:=rh1_2.d
  have hy:=h1
  exact ⟨(x1.1,(x1.2.1,x1.2.2.1,x1.2.2.2.1,x1.2.2.2.2)),⟨⟨by first | assumption | exact Qu _,by first | assumption | exact Qu _,by first | assumption | exact Qu _,by first | assumption | exact Qu _⟩,by simp only [Qc r_c0,Qc r_c1,Qc r_c2,Qc r_c3,Qc r_n];exact hy⟩,rfl,rfl,(by simp only [Qc r_n]),trivial⟩
noncomputable def Fe:List Value->List Qf->ZB:=fun vs hs=>⟨Int×ST,fun J=>ii J.1,fun J=> [.blk (QJ (Qd vs 1)) (.cells #[uu (Qb J.2.1 0),uu (Qb J.2.1 1),uu (Qb J.2.1 2),uu (Qb J.2.1 3),uu (Qb J.2.2.1 0),uu (Qb J.2.2.1 1),uu (Qb J.2.2.1 2),uu (Qb J.2.2.1 3),uu (Qb J.2.2.2.1 0),uu (Qb J.2.2.2.1 1),uu (Qb J.2.2.2.1 2),uu (Qb J.2.2.2.1 3),uu (Qb J.2.2.2.2 0),uu (Qb J.2.2.2.2 1),uu (Qb J.2.2.2.2 2),uu (Qb J.2.2.2.2 3)] 51 (0,0)), .blk (FA (Qh hs 1)) (.cells #[uu (Qb (Qe (.agg (Qm (Qh hs 1)))) 0),uu (Qb (Qe (.agg (Qm (Qh hs 1)))) 1),uu (Qb (Qe (.agg (Qm (Qh hs 1)))) 2),uu (Qb (Qe (.agg (Qm (Qh hs 1)))) 3)] 35 (0,0))],fun J=>Jw J.2/\J=Z5 (((Qe (v4 (.agg (Qm (Qh hs 0))) 0)),(Qe (v4 (.agg (Qm (Qh hs 0))) 4)),(Qe (v4 (.agg (Qm (Qh hs 0))) 8)),(Qe (v4 (.agg (Qm (Qh hs 0))) 12))):ST) (Qe (.agg (Qm (Qh hs 1))))⟩
abbrev GS (sb cb:Nat) (c0 c1 c2 c3 n:Int) (zv:Value) (zs0:Qf) (zs1:Qf):Prop:= ∃J:Int×ST,(Jw J.2/\J=Z5 (((Qe (vI c0)),(Qe (vI c1)),(Qe (vI c2)),(Qe (vI c3))):ST) (Qe (vI n)))/\zv=ii J.1/\zs0=bk sb #[uu (Qb J.2.1 0),uu (Qb J.2.1 1),uu (Qb J.2.1 2),uu (Qb J.2.1 3),uu (Qb J.2.2.1 0),uu (Qb J.2.2.1 1),uu (Qb J.2.2.1 2),uu (Qb J.2.2.1 3),uu (Qb J.2.2.2.1 0),uu (Qb J.2.2.2.1 1),uu (Qb J.2.2.2.1 2),uu (Qb J.2.2.2.1 3),uu (Qb J.2.2.2.2 0),uu (Qb J.2.2.2.2 1),uu (Qb J.2.2.2.2 2),uu (Qb J.2.2.2.2 3)] 51/\zs1=bk cb (nC (Qe (vI n))) 35/\True
abbrev qz (sb cb:Nat) (c0 c1 c2 c3 n:Int) (zF:SF (Int×ST)):Prop:=zF #[pp sb 0,pp cb 0] [bk sb #[uu (Qb c0 0),uu (Qb c0 1),uu (Qb c0 2),uu (Qb c0 3),uu (Qb c1 0),uu (Qb c1 1),uu (Qb c1 2),uu (Qb c1 3),uu (Qb c2 0),uu (Qb c2 1),uu (Qb c2 2),uu (Qb c2 3),uu (Qb c3 0),uu (Qb c3 1),uu (Qb c3 2),uu (Qb c3 3)] 51,bk cb (nC n) 35] (fun J=>ii J.1) (fun J=> [bk sb #[uu (Qb J.2.1 0),uu (Qb J.2.1 1),uu (Qb J.2.1 2),uu (Qb J.2.1 3),uu (Qb J.2.2.1 0),uu (Qb J.2.2.1 1),uu (Qb J.2.2.1 2),uu (Qb J.2.2.1 3),uu (Qb J.2.2.2.1 0),uu (Qb J.2.2.2.1 1),uu (Qb J.2.2.2.1 2),uu (Qb J.2.2.2.1 3),uu (Qb J.2.2.2.2 0),uu (Qb J.2.2.2.2 1),uu (Qb J.2.2.2.2 2),uu (Qb J.2.2.2.2 3)] 51,bk cb (nC (Qe (vI n))) 35]) (fun J=>(Jw J.2/\J=Z5 (((Qe (vI c0)),(Qe (vI c1)),(Qe (vI c2)),(Qe (vI c3))):ST) (Qe (vI n))))
theorem Wu (sb cb:Nat) (c0 c1 c2 c3 n:Int):qz sb cb c0 c1 c2 c3 n (fun za zh zv zu zp=>QB Tryz.prog 12 none 2000 none (Qk Tryz.f63) (.reg [S0] (.reg [S0,S0,S0,S0,S0,S0, .sem (QV 4 1), .callw [0] [0] Bs,S0] (.done)))
    (Q2 za zh) (Q8 Tryz.prog Tryz.f63 [] [0,1] (X:=Int×ST) zv zu zp))=
    (Qj 4 cb (Ze Tryz.prog 48 #[pp sb 4,pp sb 0,vI n] [bk sb #[uu (Qb c0 0),uu (Qb c0 1),uu (Qb c0 2),uu (Qb c0 3),uu (Qb c1 0),uu (Qb c1 1),uu (Qb c1 2),uu (Qb c1 3),uu (Qb c2 0),uu (Qb c2 1),uu (Qb c2 2),uu (Qb c2 3),uu (Qb c3 0),uu (Qb c3 1),uu (Qb c3 2),uu (Qb c3 3)] 51] (Int×ST) (fun J=>ii J.1) (fun J=> [bk sb #[uu (Qb J.2.1 0),uu (Qb J.2.1 1),uu (Qb J.2.1 2),uu (Qb J.2.1 3),uu (Qb J.2.2.1 0),uu (Qb J.2.2.1 1),uu (Qb J.2.2.1 2),uu (Qb J.2.2.1 3),uu (Qb J.2.2.2.1 0),uu (Qb J.2.2.2.1 1),uu (Qb J.2.2.2.1 2),uu (Qb J.2.2.2.1 3),uu (Qb J.2.2.2.2 0),uu (Qb J.2.2.2.2 1),uu (Qb J.2.2.2.2 2),uu (Qb J.2.2.2.2 3)] 51]) (fun J=>Jw J.2/\J=Z5 (((Qe (vI c0)),(Qe (vI c1)),(Qe (vI c2)),(Qe (vI c3))):ST) (Qe (vI n))) (fun x1=>GS sb cb c0 c1 c2 c3 n (ii x1.1) (bk sb #[uu (Qb x1.2.1 0),uu (Qb x1.2.1 1),uu (Qb x1.2.1 2),uu (Qb x1.2.1 3),uu (Qb x1.2.2.1 0),uu (Qb x1.2.2.1 1),uu (Qb x1.2.2.1 2),uu (Qb x1.2.2.1 3),uu (Qb x1.2.2.2.1 0),uu (Qb x1.2.2.2.1 1),uu (Qb x1.2.2.2.1 2),uu (Qb x1.2.2.2.1 3),uu (Qb x1.2.2.2.2 0),uu (Qb x1.2.2.2.2 1),uu (Qb x1.2.2.2.2 2),uu (Qb x1.2.2.2.2 3)] 51) (bk cb (nC n) 35)))):=by kernel_rfl
theorem vj (sb cb:Nat) (c0 c1 c2 c3 n:Int) (r_c0:R4 c0) (r_c1:R4 c1) (r_c2:R4 c2) (r_c3:R4 c3) (r_n:R4 n):qz sb cb c0 c1 c2 c3 n (fun za zh zv zu zp=>QC Tryz.prog 63 za zh (Int×ST) zv zu zp):=by
  refine Qx (c:=Qk Tryz.f63) (n:=12) (fn:=Tryz.f63) QF Tryz.func63 (by kernel_rfl) (by kernel_rfl) (by kernel_rfl) 2000 _ [] [0,1] rfl rfl (Eq.mpr (Wu sb cb c0 c1 c2 c3 n) ?_)
  refine Qa 4 _ (QH (dX sb c0 c1 c2 c3 n ‹_› ‹_› ‹_› ‹_› ‹_›) (⟨_,Ha ⟨Qu _,Qu _,Qu _,Qu _⟩ (Qu _),rfl⟩) fun x1 h1=> ?_)
  obtain ⟨rh1_2,h1⟩:=h1
  try simp only [Qc (n:=c0) ‹_›,Qc (n:=c1) ‹_›,Qc (n:=c2) ‹_›,Qc (n:=c3) ‹_›,Qc (n:=n) ‹_›] at h1
  have rah1:=rh1_2.a;have rbh1:=rh1_2.b;have rch1:=rh1_2.c;have rdh1:=rh1_2.d
  have hy:=h1
  exact ⟨(x1.1,(x1.2.1,x1.2.2.1,x1.2.2.2.1,x1.2.2.2.2)),⟨⟨by first | assumption | exact Qu _,by first | assumption | exact Qu _,by first | assumption | exact Qu _,by first | assumption | exact Qu _⟩,by simp only [Qc r_c0,Qc r_c1,Qc r_c2,Qc r_c3,Qc r_n];exact hy⟩,rfl,rfl,(by simp only [Qc r_n]),trivial⟩
noncomputable def xC:List Value->List Qf->ZB:=fun vs hs=>⟨Int×BS,fun J=>ii J.1,fun J=> [.blk (QJ (Qd vs 1)) (.cells #[.pointer (some ⟨(QJ (Qw (Qh hs 0) 0)),0,none⟩), .pointer (some ⟨(QJ (Qw (Qh hs 0) 1)),0,none⟩), .slice none 0 0] 73 (0,0)),(mS Qi (QJ (Qw (Qh hs 0) 0)) (XI (Qh hs 1) 1) J.2.1),(jS QD (XI (Qh hs 1) 1) J.2.2.2), .blk (FA (Qh hs 3)) (.cells #[uu (Qb (Qe (.agg (Qm (Qh hs 3)))) 0),uu (Qb (Qe (.agg (Qm (Qh hs 3)))) 1),uu (Qb (Qe (.agg (Qm (Qh hs 3)))) 2),uu (Qb (Qe (.agg (Qm (Qh hs 3)))) 3)] 35 (0,0))],fun J=>J=ZT (QM (QJ (Qw (Qh hs 0) 0))) Jy (((V8 (Qh hs 1)),[],(KH (Qh hs 2))):BS) (ci (Qd vs 2)) (Qe (.agg (Qm (Qh hs 3))))⟩
abbrev Kx (b bm bh bj:Nat) (m:KV) (L:List Zf) (t:Int) (cb:Nat) (n:Int) (zv:Value) (zs0:Qf) (zs1:Qf) (zs2:Qf) (zs3:Qf):Prop:= ∃J:Int×BS,(J=ZT (QM bm) Jy ((m,[],L):BS) t (Qe (vI n)))/\zv=ii J.1/\zs0=Qo b bm bh/\zs1=(mS Qi bm bj J.2.1)/\zs2=(jS QD bj J.2.2.2)/\zs3=bk cb (nC (Qe (vI n))) 35/\True
abbrev Vw (b bm bh bj:Nat) (m:KV) (L:List Zf) (t:Int) (cb:Nat) (n:Int) (zF:SF (Int×BS)):Prop:=zF #[pp b 0, .int .u8 t, .func (.func 58) #[] #[pp cb 0]] [Qo b bm bh,(mS Qi bm bj m),(jS QD bj L),bk cb (nC n) 35] (fun J=>ii J.1) (fun J=> [Qo b bm bh,(mS Qi bm bj J.2.1),(jS QD bj J.2.2.2),bk cb (nC (Qe (vI n))) 35]) (fun J=>(J=ZT (QM bm) Jy ((m,[],L):BS) t (Qe (vI n))))
theorem jq (b bm bh bj:Nat) (m:KV) (L:List Zf) (t:Int) (cb:Nat) (n:Int):Vw b bm bh bj m L t cb n (fun za zh zv zu zp=>QB Tryz.prog 26 none 2000 none (Qk Tryz.f46) (.reg [S0] (.reg [S0,S0] (.cond (.reg [S0] (.done)) (.reg [S0,S0, .callr [0,1] XQ, .sem [.nw 4], .sem (Zq 16 4)] (.reg [S0, .callw [4,3] [4,3] FI,S0] (.reg [S0,S0] (.cond (.reg [S0,S0] (.done)) (.reg [S0,S0,S0, .sem [.rd 0],S0, .sem (QV 16 4), .callw [1,2] [1,2] XK] (.reg [S0] (.done))))))))))
    (Q2 za zh) (Q8 Tryz.prog Tryz.f46 [] [0,1,2,3] (X:=Int×BS) zv zu zp))=
    (((decide (t≥(4:Int)))=true->Kx b bm bh bj m L t cb n (ii 1) (Qo b bm bh) (mS Qi bm bj m) (jS QD bj L) (bk cb (nC n) 35))/\((decide (t≥(4:Int)))=false->XC b bm bh bj m t (fun x1=> ∀b2:Nat,Qj 16 b2 (Ze Tryz.prog 58 #[pp b2 0,pp cb 0] [bk b2 #[uu (Qb x1.1 0),uu (Qb x1.1 1),uu (Qb x1.1 2),uu (Qb x1.1 3),uu (Qb x1.2.1 0),uu (Qb x1.2.1 1),uu (Qb x1.2.1 2),uu (Qb x1.2.1 3),uu (Qb x1.2.2.1 0),uu (Qb x1.2.2.1 1),uu (Qb x1.2.2.1 2),uu (Qb x1.2.2.1 3),uu (Qb x1.2.2.2 0),uu (Qb x1.2.2.2 1),uu (Qb x1.2.2.2 2),uu (Qb x1.2.2.2 3)] 51,bk cb (nC n) 35] (Int×ST) (fun J=>ii J.1) (fun J=> [bk b2 #[uu (Qb J.2.1 0),uu (Qb J.2.1 1),uu (Qb J.2.1 2),uu (Qb J.2.1 3),uu (Qb J.2.2.1 0),uu (Qb J.2.2.1 1),uu (Qb J.2.2.1 2),uu (Qb J.2.2.1 3),uu (Qb J.2.2.2.1 0),uu (Qb J.2.2.2.1 1),uu (Qb J.2.2.2.1 2),uu (Qb J.2.2.2.1 3),uu (Qb J.2.2.2.2 0),uu (Qb J.2.2.2.2 1),uu (Qb J.2.2.2.2 2),uu (Qb J.2.2.2.2 3)] 51,bk cb (nC (Qe (vI n))) 35]) (fun J=>Jw J.2/\J=Jy (((Qe (vI x1.1)),(Qe (vI x1.2.1)),(Qe (vI x1.2.2.1)),(Qe (vI x1.2.2.2))):ST) (Qe (vI n))) (fun x3=>((x3.1 !=(0:Int))=true->Kx b bm bh bj m L t cb n (ii x3.1) (Qo b bm bh) (mS Qi bm bj m) (jS QD bj L) (bk cb (nC (Qe (vI n))) 35))/\((x3.1 !=(0:Int))=false->Qj 1 b (Qj 16 b2 (Ze Tryz.prog 44 #[pp bm 0, .int .u8 t,ZO (x3.2.1,x3.2.2.1,x3.2.2.2.1,x3.2.2.2.2)] [(mS Qi bm bj m),(jS QD bj L)] (KV×List Zf) (fun J=> .tuple #[]) (fun J=> [(mS Qi bm bj J.1),(jS QD bj J.2)]) (fun J=>J.1=ZF m (Value.int .u8 t) (ZO (x3.2.1,x3.2.2.1,x3.2.2.2.1,x3.2.2.2.2))/\J.2=L++ [(QM bm m (Value.int .u8 t))]) (fun x4=>Kx b bm bh bj m L t cb n (ii 0) (Qo b bm bh) (mS Qi bm bj x4.1) (jS QD bj x4.2) (bk cb (nC (Qe (vI n))) 35)))))))))):=by kernel_rfl
theorem k6 (b bm bh bj:Nat) (m:KV) (L:List Zf) (t:Int) (cb:Nat) (n:Int) (r_n:R4 n) (hk:Xr Qi m) (hl:L.length<=1000000):Vw b bm bh bj m L t cb n (fun za zh zv zu zp=>QC Tryz.prog 46 za zh (Int×BS) zv zu zp):=by
  refine Qx (c:=Qk Tryz.f46) (n:=26) (fn:=Tryz.f46) QF Tryz.func46 (by kernel_rfl) (by kernel_rfl) (by kernel_rfl) 2000 _ [] [0,1,2,3] rfl rfl (Eq.mpr (jq b bm bh bj m L t cb n) ?_)
  refine ⟨fun h1=> ?_,fun h1=> ?_⟩
  · exact ⟨(1,m,[],L),(by rw [Qc r_n];exact (Uh (by (try simp (disch:=assumption) only [Zp] at *);omega)).symm),rfl,rfl,rfl,rfl,(by simp only [Qc r_n]),trivial⟩
  refine XR b bm bh bj m t (fun x1 rh2_ h2=> ?_)
  have rah2:=rh2_.a;have rbh2:=rh2_.b;have rch2:=rh2_.c;have rdh2:=rh2_.d
  have hq:=h2
  intro b2
  refine Qa 16 _ (QH (gK b2 cb x1.1 x1.2.1 x1.2.2.1 x1.2.2.2 n ‹_› ‹_› ‹_› ‹_› ‹_›) (⟨_,Qaz ⟨Qu _,Qu _,Qu _,Qu _⟩ (Qu _),rfl⟩) fun x3 h3=> ?_)
  obtain ⟨rh3_2,h3⟩:=h3
  try simp only [Qc (n:=x1.1) ‹_›,Qc (n:=x1.2.1) ‹_›,Qc (n:=x1.2.2.1) ‹_›,Qc (n:=x1.2.2.2) ‹_›,Qc (n:=n) ‹_›] at h3
  have rah3:=rh3_2.a;have rbh3:=rh3_2.b;have rch3:=rh3_2.c;have rdh3:=rh3_2.d
  have hx:=h3
  refine ⟨fun h4=> ?_,fun h4=> ?_⟩
  · have hz:=(bne_iff_ne.1 h4)
    have hc: ¬4<=t:=by (try simp (disch:=assumption) only [Zp] at *);omega
    exact ⟨(x3.1,m,[],L),(by rw [Qc r_n];exact (yk (s:=(m,[],L)) hc hq hx hz).symm),rfl,rfl,rfl,rfl,(by simp only [Qc r_n]),trivial⟩
  refine Qa 1 _ (Qa 16 _ (QH (Jv bm bj m L t x3.2.1 x3.2.2.1 x3.2.2.2.1 x3.2.2.2.2 ‹_› ‹_› ‹_› ‹_› (by omega)) (⟨(_,_),rfl,rfl⟩) fun x4 h5=> ?_))
  try simp only [Qc (n:=x3.2.1) ‹_›,Qc (n:=x3.2.2.1) ‹_›,Qc (n:=x3.2.2.2.1) ‹_›,Qc (n:=x3.2.2.2.2) ‹_›] at h5
  have hs:=h5
  have hz:=(bne_eq_false_iff_eq.1 h4)
  have hc: ¬4<=t:=by (try simp (disch:=assumption) only [Zp] at *);omega
  exact ⟨(0,x4.1,[],x4.2),(by rw [Qc r_n];exact (yF (s:=(m,[],L)) hc hq hx hz hs.1 hs.2).symm),rfl,rfl,rfl,rfl,(by simp only [Qc r_n]),trivial⟩
noncomputable def qc:List Value->List Qf->ZB:=fun vs hs=>⟨Int×BS,fun J=>ii J.1,fun J=> [.blk (QJ (Qd vs 1)) (.cells #[.pointer (some ⟨(QJ (Qw (Qh hs 0) 0)),0,none⟩), .pointer (some ⟨(QJ (Qw (Qh hs 0) 1)),0,none⟩), .slice none 0 0] 73 (0,0)),(mS Qi (QJ (Qw (Qh hs 0) 0)) (XI (Qh hs 1) 1) J.2.1),(jS QD (XI (Qh hs 1) 1) J.2.2.2), .blk (FA (Qh hs 3)) (.cells #[uu (Qb (Qe (.agg (Qm (Qh hs 3)))) 0),uu (Qb (Qe (.agg (Qm (Qh hs 3)))) 1),uu (Qb (Qe (.agg (Qm (Qh hs 3)))) 2),uu (Qb (Qe (.agg (Qm (Qh hs 3)))) 3)] 35 (0,0))],fun J=>J=ZT (QM (QJ (Qw (Qh hs 0) 0))) qA (((V8 (Qh hs 1)),[],(KH (Qh hs 2))):BS) (ci (Qd vs 2)) (Qe (.agg (Qm (Qh hs 3))))⟩
abbrev JE (b bm bh bj:Nat) (m:KV) (L:List Zf) (t:Int) (cb:Nat) (n:Int) (zv:Value) (zs0:Qf) (zs1:Qf) (zs2:Qf) (zs3:Qf):Prop:= ∃J:Int×BS,(J=ZT (QM bm) qA ((m,[],L):BS) t (Qe (vI n)))/\zv=ii J.1/\zs0=Qo b bm bh/\zs1=(mS Qi bm bj J.2.1)/\zs2=(jS QD bj J.2.2.2)/\zs3=bk cb (nC (Qe (vI n))) 35/\True
abbrev K5 (b bm bh bj:Nat) (m:KV) (L:List Zf) (t:Int) (cb:Nat) (n:Int) (zF:SF (Int×BS)):Prop:=zF #[pp b 0, .int .u8 t, .func (.func 60) #[] #[pp cb 0]] [Qo b bm bh,(mS Qi bm bj m),(jS QD bj L),bk cb (nC n) 35] (fun J=>ii J.1) (fun J=> [Qo b bm bh,(mS Qi bm bj J.2.1),(jS QD bj J.2.2.2),bk cb (nC (Qe (vI n))) 35]) (fun J=>(J=ZT (QM bm) qA ((m,[],L):BS) t (Qe (vI n))))
theorem Uw (b bm bh bj:Nat) (m:KV) (L:List Zf) (t:Int) (cb:Nat) (n:Int):K5 b bm bh bj m L t cb n (fun za zh zv zu zp=>QB Tryz.prog 26 none 2000 none (Qk Tryz.f46) (.reg [S0] (.reg [S0,S0] (.cond (.reg [S0] (.done)) (.reg [S0,S0, .callr [0,1] XQ, .sem [.nw 4], .sem (Zq 16 4)] (.reg [S0, .callw [4,3] [4,3] kX,S0] (.reg [S0,S0] (.cond (.reg [S0,S0] (.done)) (.reg [S0,S0,S0, .sem [.rd 0],S0, .sem (QV 16 4), .callw [1,2] [1,2] XK] (.reg [S0] (.done))))))))))
    (Q2 za zh) (Q8 Tryz.prog Tryz.f46 [] [0,1,2,3] (X:=Int×BS) zv zu zp))=
    (((decide (t≥(4:Int)))=true->JE b bm bh bj m L t cb n (ii 1) (Qo b bm bh) (mS Qi bm bj m) (jS QD bj L) (bk cb (nC n) 35))/\((decide (t≥(4:Int)))=false->XC b bm bh bj m t (fun x1=> ∀b2:Nat,Qj 16 b2 (Ze Tryz.prog 60 #[pp b2 0,pp cb 0] [bk b2 #[uu (Qb x1.1 0),uu (Qb x1.1 1),uu (Qb x1.1 2),uu (Qb x1.1 3),uu (Qb x1.2.1 0),uu (Qb x1.2.1 1),uu (Qb x1.2.1 2),uu (Qb x1.2.1 3),uu (Qb x1.2.2.1 0),uu (Qb x1.2.2.1 1),uu (Qb x1.2.2.1 2),uu (Qb x1.2.2.1 3),uu (Qb x1.2.2.2 0),uu (Qb x1.2.2.2 1),uu (Qb x1.2.2.2 2),uu (Qb x1.2.2.2 3)] 51,bk cb (nC n) 35] (Int×ST) (fun J=>ii J.1) (fun J=> [bk b2 #[uu (Qb J.2.1 0),uu (Qb J.2.1 1),uu (Qb J.2.1 2),uu (Qb J.2.1 3),uu (Qb J.2.2.1 0),uu (Qb J.2.2.1 1),uu (Qb J.2.2.1 2),uu (Qb J.2.2.1 3),uu (Qb J.2.2.2.1 0),uu (Qb J.2.2.2.1 1),uu (Qb J.2.2.2.1 2),uu (Qb J.2.2.2.1 3),uu (Qb J.2.2.2.2 0),uu (Qb J.2.2.2.2 1),uu (Qb J.2.2.2.2 2),uu (Qb J.2.2.2.2 3)] 51,bk cb (nC (Qe (vI n))) 35]) (fun J=>Jw J.2/\J=qA (((Qe (vI x1.1)),(Qe (vI x1.2.1)),(Qe (vI x1.2.2.1)),(Qe (vI x1.2.2.2))):ST) (Qe (vI n))) (fun x3=>((x3.1 !=(0:Int))=true->JE b bm bh bj m L t cb n (ii x3.1) (Qo b bm bh) (mS Qi bm bj m) (jS QD bj L) (bk cb (nC (Qe (vI n))) 35))/\((x3.1 !=(0:Int))=false->Qj 1 b (Qj 16 b2 (Ze Tryz.prog 44 #[pp bm 0, .int .u8 t,ZO (x3.2.1,x3.2.2.1,x3.2.2.2.1,x3.2.2.2.2)] [(mS Qi bm bj m),(jS QD bj L)] (KV×List Zf) (fun J=> .tuple #[]) (fun J=> [(mS Qi bm bj J.1),(jS QD bj J.2)]) (fun J=>J.1=ZF m (Value.int .u8 t) (ZO (x3.2.1,x3.2.2.1,x3.2.2.2.1,x3.2.2.2.2))/\J.2=L++ [(QM bm m (Value.int .u8 t))]) (fun x4=>JE b bm bh bj m L t cb n (ii 0) (Qo b bm bh) (mS Qi bm bj x4.1) (jS QD bj x4.2) (bk cb (nC (Qe (vI n))) 35)))))))))):=by kernel_rfl
theorem jh (b bm bh bj:Nat) (m:KV) (L:List Zf) (t:Int) (cb:Nat) (n:Int) (r_n:R4 n) (hk:Xr Qi m) (hl:L.length<=1000000):K5 b bm bh bj m L t cb n (fun za zh zv zu zp=>QC Tryz.prog 46 za zh (Int×BS) zv zu zp):=by
  refine Qx (c:=Qk Tryz.f46) (n:=26) (fn:=Tryz.f46) QF Tryz.func46 (by kernel_rfl) (by kernel_rfl) (by kernel_rfl) 2000 _ [] [0,1,2,3] rfl rfl (Eq.mpr (Uw b bm bh bj m L t cb n) ?_)
  refine ⟨fun h1=> ?_,fun h1=> ?_⟩
  · exact ⟨(1,m,[],L),(by rw [Qc r_n];exact (Uh (by (try simp (disch:=assumption) only [Zp] at *);omega)).symm),rfl,rfl,rfl,rfl,(by simp only [Qc r_n]),trivial⟩
  refine XR b bm bh bj m t (fun x1 rh2_ h2=> ?_)
  have rah2:=rh2_.a;have rbh2:=rh2_.b;have rch2:=rh2_.c;have rdh2:=rh2_.d
  have hq:=h2
  intro b2
  refine Qa 16 _ (QH (HW b2 cb x1.1 x1.2.1 x1.2.2.1 x1.2.2.2 n ‹_› ‹_› ‹_› ‹_› ‹_›) (⟨_,Qd9 ⟨Qu _,Qu _,Qu _,Qu _⟩ (Qu _),rfl⟩) fun x3 h3=> ?_)
  obtain ⟨rh3_2,h3⟩:=h3
  try simp only [Qc (n:=x1.1) ‹_›,Qc (n:=x1.2.1) ‹_›,Qc (n:=x1.2.2.1) ‹_›,Qc (n:=x1.2.2.2) ‹_›,Qc (n:=n) ‹_›] at h3
  have rah3:=rh3_2.a;have rbh3:=rh3_2.b;have rch3:=rh3_2.c;have rdh3:=rh3_2.d
  have hx:=h3
  refine ⟨fun h4=> ?_,fun h4=> ?_⟩
  · have hz:=(bne_iff_ne.1 h4)
    have hc: ¬4<=t:=by (try simp (disch:=assumption) only [Zp] at *);omega
    exact ⟨(x3.1,m,[],L),(by rw [Qc r_n];exact (yk (s:=(m,[],L)) hc hq hx hz).symm),rfl,rfl,rfl,rfl,(by simp only [Qc r_n]),trivial⟩
  refine Qa 1 _ (Qa 16 _ (QH (Jv bm bj m L t x3.2.1 x3.2.2.1 x3.2.2.2.1 x3.2.2.2.2 ‹_› ‹_› ‹_› ‹_› (by omega)) (⟨(_,_),rfl,rfl⟩) fun x4 h5=> ?_))
  try simp only [Qc (n:=x3.2.1) ‹_›,Qc (n:=x3.2.2.1) ‹_›,Qc (n:=x3.2.2.2.1) ‹_›,Qc (n:=x3.2.2.2.2) ‹_›] at h5
  have hs:=h5
  have hz:=(bne_eq_false_iff_eq.1 h4)
  have hc: ¬4<=t:=by (try simp (disch:=assumption) only [Zp] at *);omega
  exact ⟨(0,x4.1,[],x4.2),(by rw [Qc r_n];exact (yF (s:=(m,[],L)) hc hq hx hz hs.1 hs.2).symm),rfl,rfl,rfl,rfl,(by simp only [Qc r_n]),trivial⟩
noncomputable def qb:List Value->List Qf->ZB:=fun vs hs=>⟨Int×BS,fun J=>ii J.1,fun J=> [.blk (QJ (Qd vs 1)) (.cells #[.pointer (some ⟨(QJ (Qw (Qh hs 0) 0)),0,none⟩), .pointer (some ⟨(QJ (Qw (Qh hs 0) 1)),0,none⟩), .slice none 0 0] 73 (0,0)),(mS Qi (QJ (Qw (Qh hs 0) 0)) (XI (Qh hs 1) 1) J.2.1),(jS QD (XI (Qh hs 1) 1) J.2.2.2), .blk (FA (Qh hs 3)) (.cells #[uu (Qb (Qe (.agg (Qm (Qh hs 3)))) 0),uu (Qb (Qe (.agg (Qm (Qh hs 3)))) 1),uu (Qb (Qe (.agg (Qm (Qh hs 3)))) 2),uu (Qb (Qe (.agg (Qm (Qh hs 3)))) 3)] 35 (0,0))],fun J=>J=ZT (QM (QJ (Qw (Qh hs 0) 0))) qU (((V8 (Qh hs 1)),[],(KH (Qh hs 2))):BS) (ci (Qd vs 2)) (Qe (.agg (Qm (Qh hs 3))))⟩
abbrev JF (b bm bh bj:Nat) (m:KV) (L:List Zf) (t:Int) (cb:Nat) (n:Int) (zv:Value) (zs0:Qf) (zs1:Qf) (zs2:Qf) (zs3:Qf):Prop:= ∃J:Int×BS,(J=ZT (QM bm) qU ((m,[],L):BS) t (Qe (vI n)))/\zv=ii J.1/\zs0=Qo b bm bh/\zs1=(mS Qi bm bj J.2.1)/\zs2=(jS QD bj J.2.2.2)/\zs3=bk cb (nC (Qe (vI n))) 35/\True
abbrev K6 (b bm bh bj:Nat) (m:KV) (L:List Zf) (t:Int) (cb:Nat) (n:Int) (zF:SF (Int×BS)):Prop:=zF #[pp b 0, .int .u8 t, .func (.func 61) #[] #[pp cb 0]] [Qo b bm bh,(mS Qi bm bj m),(jS QD bj L),bk cb (nC n) 35] (fun J=>ii J.1) (fun J=> [Qo b bm bh,(mS Qi bm bj J.2.1),(jS QD bj J.2.2.2),bk cb (nC (Qe (vI n))) 35]) (fun J=>(J=ZT (QM bm) qU ((m,[],L):BS) t (Qe (vI n))))
theorem Un (b bm bh bj:Nat) (m:KV) (L:List Zf) (t:Int) (cb:Nat) (n:Int):K6 b bm bh bj m L t cb n (fun za zh zv zu zp=>QB Tryz.prog 26 none 2000 none (Qk Tryz.f46) (.reg [S0] (.reg [S0,S0] (.cond (.reg [S0] (.done)) (.reg [S0,S0, .callr [0,1] XQ, .sem [.nw 4], .sem (Zq 16 4)] (.reg [S0, .callw [4,3] [4,3] kT,S0] (.reg [S0,S0] (.cond (.reg [S0,S0] (.done)) (.reg [S0,S0,S0, .sem [.rd 0],S0, .sem (QV 16 4), .callw [1,2] [1,2] XK] (.reg [S0] (.done))))))))))
    (Q2 za zh) (Q8 Tryz.prog Tryz.f46 [] [0,1,2,3] (X:=Int×BS) zv zu zp))=
    (((decide (t≥(4:Int)))=true->JF b bm bh bj m L t cb n (ii 1) (Qo b bm bh) (mS Qi bm bj m) (jS QD bj L) (bk cb (nC n) 35))/\((decide (t≥(4:Int)))=false->XC b bm bh bj m t (fun x1=> ∀b2:Nat,Qj 16 b2 (Ze Tryz.prog 61 #[pp b2 0,pp cb 0] [bk b2 #[uu (Qb x1.1 0),uu (Qb x1.1 1),uu (Qb x1.1 2),uu (Qb x1.1 3),uu (Qb x1.2.1 0),uu (Qb x1.2.1 1),uu (Qb x1.2.1 2),uu (Qb x1.2.1 3),uu (Qb x1.2.2.1 0),uu (Qb x1.2.2.1 1),uu (Qb x1.2.2.1 2),uu (Qb x1.2.2.1 3),uu (Qb x1.2.2.2 0),uu (Qb x1.2.2.2 1),uu (Qb x1.2.2.2 2),uu (Qb x1.2.2.2 3)] 51,bk cb (nC n) 35] (Int×ST) (fun J=>ii J.1) (fun J=> [bk b2 #[uu (Qb J.2.1 0),uu (Qb J.2.1 1),uu (Qb J.2.1 2),uu (Qb J.2.1 3),uu (Qb J.2.2.1 0),uu (Qb J.2.2.1 1),uu (Qb J.2.2.1 2),uu (Qb J.2.2.1 3),uu (Qb J.2.2.2.1 0),uu (Qb J.2.2.2.1 1),uu (Qb J.2.2.2.1 2),uu (Qb J.2.2.2.1 3),uu (Qb J.2.2.2.2 0),uu (Qb J.2.2.2.2 1),uu (Qb J.2.2.2.2 2),uu (Qb J.2.2.2.2 3)] 51,bk cb (nC (Qe (vI n))) 35]) (fun J=>Jw J.2/\J=qU (((Qe (vI x1.1)),(Qe (vI x1.2.1)),(Qe (vI x1.2.2.1)),(Qe (vI x1.2.2.2))):ST) (Qe (vI n))) (fun x3=>((x3.1 !=(0:Int))=true->JF b bm bh bj m L t cb n (ii x3.1) (Qo b bm bh) (mS Qi bm bj m) (jS QD bj L) (bk cb (nC (Qe (vI n))) 35))/\((x3.1 !=(0:Int))=false->Qj 1 b (Qj 16 b2 (Ze Tryz.prog 44 #[pp bm 0, .int .u8 t,ZO (x3.2.1,x3.2.2.1,x3.2.2.2.1,x3.2.2.2.2)] [(mS Qi bm bj m),(jS QD bj L)] (KV×List Zf) (fun J=> .tuple #[]) (fun J=> [(mS Qi bm bj J.1),(jS QD bj J.2)]) (fun J=>J.1=ZF m (Value.int .u8 t) (ZO (x3.2.1,x3.2.2.1,x3.2.2.2.1,x3.2.2.2.2))/\J.2=L++ [(QM bm m (Value.int .u8 t))]) (fun x4=>JF b bm bh bj m L t cb n (ii 0) (Qo b bm bh) (mS Qi bm bj x4.1) (jS QD bj x4.2) (bk cb (nC (Qe (vI n))) 35)))))))))):=by kernel_rfl
theorem jd (b bm bh bj:Nat) (m:KV) (L:List Zf) (t:Int) (cb:Nat) (n:Int) (r_n:R4 n) (hk:Xr Qi m) (hl:L.length<=1000000):K6 b bm bh bj m L t cb n (fun za zh zv zu zp=>QC Tryz.prog 46 za zh (Int×BS) zv zu zp):=by
  refine Qx (c:=Qk Tryz.f46) (n:=26) (fn:=Tryz.f46) QF Tryz.func46 (by kernel_rfl) (by kernel_rfl) (by kernel_rfl) 2000 _ [] [0,1,2,3] rfl rfl (Eq.mpr (Un b bm bh bj m L t cb n) ?_)
  refine ⟨fun h1=> ?_,fun h1=> ?_⟩
  · exact ⟨(1,m,[],L),(by rw [Qc r_n];exact (Uh (by (try simp (disch:=assumption) only [Zp] at *);omega)).symm),rfl,rfl,rfl,rfl,(by simp only [Qc r_n]),trivial⟩
  refine XR b bm bh bj m t (fun x1 rh2_ h2=> ?_)
  have rah2:=rh2_.a;have rbh2:=rh2_.b;have rch2:=rh2_.c;have rdh2:=rh2_.d
  have hq:=h2
  intro b2
  refine Qa 16 _ (QH (HB b2 cb x1.1 x1.2.1 x1.2.2.1 x1.2.2.2 n ‹_› ‹_› ‹_› ‹_› ‹_›) (⟨_,QdT ⟨Qu _,Qu _,Qu _,Qu _⟩ (Qu _),rfl⟩) fun x3 h3=> ?_)
  obtain ⟨rh3_2,h3⟩:=h3
  try simp only [Qc (n:=x1.1) ‹_›,Qc (n:=x1.2.1) ‹_›,Qc (n:=x1.2.2.1) ‹_›,Qc (n:=x1.2.2.2) ‹_›,Qc (n:=n) ‹_›] at h3
  have rah3:=rh3_2.a;have rbh3:=rh3_2.b;have rch3:=rh3_2.c;have rdh3:=rh3_2.d
  have hx:=h3
  refine ⟨fun h4=> ?_,fun h4=> ?_⟩
  · have hz:=(bne_iff_ne.1 h4)
    have hc: ¬4<=t:=by (try simp (disch:=assumption) only [Zp] at *);omega
    exact ⟨(x3.1,m,[],L),(by rw [Qc r_n];exact (yk (s:=(m,[],L)) hc hq hx hz).symm),rfl,rfl,rfl,rfl,(by simp only [Qc r_n]),trivial⟩
  refine Qa 1 _ (Qa 16 _ (QH (Jv bm bj m L t x3.2.1 x3.2.2.1 x3.2.2.2.1 x3.2.2.2.2 ‹_› ‹_› ‹_› ‹_› (by omega)) (⟨(_,_),rfl,rfl⟩) fun x4 h5=> ?_))
  try simp only [Qc (n:=x3.2.1) ‹_›,Qc (n:=x3.2.2.1) ‹_›,Qc (n:=x3.2.2.2.1) ‹_›,Qc (n:=x3.2.2.2.2) ‹_›] at h5
  have hs:=h5
  have hz:=(bne_eq_false_iff_eq.1 h4)
  have hc: ¬4<=t:=by (try simp (disch:=assumption) only [Zp] at *);omega
  exact ⟨(0,x4.1,[],x4.2),(by rw [Qc r_n];exact (yF (s:=(m,[],L)) hc hq hx hz hs.1 hs.2).symm),rfl,rfl,rfl,rfl,(by simp only [Qc r_n]),trivial⟩
noncomputable def ju:List Value->List Qf->ZB:=fun vs hs=>⟨Int×BS,fun J=>ii J.1,fun J=> [.blk (QJ (Qd vs 1)) (.cells #[.pointer (some ⟨(QJ (Qw (Qh hs 0) 0)),0,none⟩), .pointer (some ⟨(QJ (Qw (Qh hs 0) 1)),0,none⟩), .slice none 0 0] 73 (0,0)),(mS Qi (QJ (Qw (Qh hs 0) 0)) (XI (Qh hs 1) 1) J.2.1),(jS QD (XI (Qh hs 1) 1) J.2.2.2), .blk (FA (Qh hs 3)) (.cells #[uu (Qb (Qe (.agg (Qm (Qh hs 3)))) 0),uu (Qb (Qe (.agg (Qm (Qh hs 3)))) 1),uu (Qb (Qe (.agg (Qm (Qh hs 3)))) 2),uu (Qb (Qe (.agg (Qm (Qh hs 3)))) 3)] 35 (0,0))],fun J=>J=ZT (QM (QJ (Qw (Qh hs 0) 0))) ZX (((V8 (Qh hs 1)),[],(KH (Qh hs 2))):BS) (ci (Qd vs 2)) (Qe (.agg (Qm (Qh hs 3))))⟩
abbrev Ki (b bm bh bj:Nat) (m:KV) (L:List Zf) (t:Int) (cb:Nat) (n:Int) (zv:Value) (zs0:Qf) (zs1:Qf) (zs2:Qf) (zs3:Qf):Prop:= ∃J:Int×BS,(J=ZT (QM bm) ZX ((m,[],L):BS) t (Qe (vI n)))/\zv=ii J.1/\zs0=Qo b bm bh/\zs1=(mS Qi bm bj J.2.1)/\zs2=(jS QD bj J.2.2.2)/\zs3=bk cb (nC (Qe (vI n))) 35/\True
abbrev YY (b bm bh bj:Nat) (m:KV) (L:List Zf) (t:Int) (cb:Nat) (n:Int) (zF:SF (Int×BS)):Prop:=zF #[pp b 0, .int .u8 t, .func (.func 47) #[] #[pp cb 0]] [Qo b bm bh,(mS Qi bm bj m),(jS QD bj L),bk cb (nC n) 35] (fun J=>ii J.1) (fun J=> [Qo b bm bh,(mS Qi bm bj J.2.1),(jS QD bj J.2.2.2),bk cb (nC (Qe (vI n))) 35]) (fun J=>(J=ZT (QM bm) ZX ((m,[],L):BS) t (Qe (vI n))))
theorem qK (b bm bh bj:Nat) (m:KV) (L:List Zf) (t:Int) (cb:Nat) (n:Int):YY b bm bh bj m L t cb n (fun za zh zv zu zp=>QB Tryz.prog 26 none 2000 none (Qk Tryz.f46) (.reg [S0] (.reg [S0,S0] (.cond (.reg [S0] (.done)) (.reg [S0,S0, .callr [0,1] XQ, .sem [.nw 4], .sem (Zq 16 4)] (.reg [S0, .callw [4,3] [4,3] HM,S0] (.reg [S0,S0] (.cond (.reg [S0,S0] (.done)) (.reg [S0,S0,S0, .sem [.rd 0],S0, .sem (QV 16 4), .callw [1,2] [1,2] XK] (.reg [S0] (.done))))))))))
    (Q2 za zh) (Q8 Tryz.prog Tryz.f46 [] [0,1,2,3] (X:=Int×BS) zv zu zp))=
    (((decide (t≥(4:Int)))=true->Ki b bm bh bj m L t cb n (ii 1) (Qo b bm bh) (mS Qi bm bj m) (jS QD bj L) (bk cb (nC n) 35))/\((decide (t≥(4:Int)))=false->XC b bm bh bj m t (fun x1=> ∀b2:Nat,Qj 16 b2 (Ze Tryz.prog 47 #[pp b2 0,pp cb 0] [bk b2 #[uu (Qb x1.1 0),uu (Qb x1.1 1),uu (Qb x1.1 2),uu (Qb x1.1 3),uu (Qb x1.2.1 0),uu (Qb x1.2.1 1),uu (Qb x1.2.1 2),uu (Qb x1.2.1 3),uu (Qb x1.2.2.1 0),uu (Qb x1.2.2.1 1),uu (Qb x1.2.2.1 2),uu (Qb x1.2.2.1 3),uu (Qb x1.2.2.2 0),uu (Qb x1.2.2.2 1),uu (Qb x1.2.2.2 2),uu (Qb x1.2.2.2 3)] 51,bk cb (nC n) 35] (Int×ST) (fun J=>ii J.1) (fun J=> [bk b2 #[uu (Qb J.2.1 0),uu (Qb J.2.1 1),uu (Qb J.2.1 2),uu (Qb J.2.1 3),uu (Qb J.2.2.1 0),uu (Qb J.2.2.1 1),uu (Qb J.2.2.1 2),uu (Qb J.2.2.1 3),uu (Qb J.2.2.2.1 0),uu (Qb J.2.2.2.1 1),uu (Qb J.2.2.2.1 2),uu (Qb J.2.2.2.1 3),uu (Qb J.2.2.2.2 0),uu (Qb J.2.2.2.2 1),uu (Qb J.2.2.2.2 2),uu (Qb J.2.2.2.2 3)] 51,bk cb (nC (Qe (vI n))) 35]) (fun J=>Jw J.2/\J=ZX (((Qe (vI x1.1)),(Qe (vI x1.2.1)),(Qe (vI x1.2.2.1)),(Qe (vI x1.2.2.2))):ST) (Qe (vI n))) (fun x3=>((x3.1 !=(0:Int))=true->Ki b bm bh bj m L t cb n (ii x3.1) (Qo b bm bh) (mS Qi bm bj m) (jS QD bj L) (bk cb (nC (Qe (vI n))) 35))/\((x3.1 !=(0:Int))=false->Qj 1 b (Qj 16 b2 (Ze Tryz.prog 44 #[pp bm 0, .int .u8 t,ZO (x3.2.1,x3.2.2.1,x3.2.2.2.1,x3.2.2.2.2)] [(mS Qi bm bj m),(jS QD bj L)] (KV×List Zf) (fun J=> .tuple #[]) (fun J=> [(mS Qi bm bj J.1),(jS QD bj J.2)]) (fun J=>J.1=ZF m (Value.int .u8 t) (ZO (x3.2.1,x3.2.2.1,x3.2.2.2.1,x3.2.2.2.2))/\J.2=L++ [(QM bm m (Value.int .u8 t))]) (fun x4=>Ki b bm bh bj m L t cb n (ii 0) (Qo b bm bh) (mS Qi bm bj x4.1) (jS QD bj x4.2) (bk cb (nC (Qe (vI n))) 35)))))))))):=by kernel_rfl
theorem yJ (b bm bh bj:Nat) (m:KV) (L:List Zf) (t:Int) (cb:Nat) (n:Int) (r_n:R4 n) (hk:Xr Qi m) (hl:L.length<=1000000):YY b bm bh bj m L t cb n (fun za zh zv zu zp=>QC Tryz.prog 46 za zh (Int×BS) zv zu zp):=by
  refine Qx (c:=Qk Tryz.f46) (n:=26) (fn:=Tryz.f46) QF Tryz.func46 (by kernel_rfl) (by kernel_rfl) (by kernel_rfl) 2000 _ [] [0,1,2,3] rfl rfl (Eq.mpr (qK b bm bh bj m L t cb n) ?_)
  refine ⟨fun h1=> ?_,fun h1=> ?_⟩
  · exact ⟨(1,m,[],L),(by rw [Qc r_n];exact (Uh (by (try simp (disch:=assumption) only [Zp] at *);omega)).symm),rfl,rfl,rfl,rfl,(by simp only [Qc r_n]),trivial⟩
  refine XR b bm bh bj m t (fun x1 rh2_ h2=> ?_)
  have rah2:=rh2_.a;have rbh2:=rh2_.b;have rch2:=rh2_.c;have rdh2:=rh2_.d
  have hq:=h2
  intro b2
  refine Qa 16 _ (QH (DI b2 cb x1.1 x1.2.1 x1.2.2.1 x1.2.2.2 n ‹_› ‹_› ‹_› ‹_› ‹_›) (⟨_,G5 ⟨Qu _,Qu _,Qu _,Qu _⟩ (Qu _),rfl⟩) fun x3 h3=> ?_)
  obtain ⟨rh3_2,h3⟩:=h3
  try simp only [Qc (n:=x1.1) ‹_›,Qc (n:=x1.2.1) ‹_›,Qc (n:=x1.2.2.1) ‹_›,Qc (n:=x1.2.2.2) ‹_›,Qc (n:=n) ‹_›] at h3
  have rah3:=rh3_2.a;have rbh3:=rh3_2.b;have rch3:=rh3_2.c;have rdh3:=rh3_2.d
  have hx:=h3
  refine ⟨fun h4=> ?_,fun h4=> ?_⟩
  · have hz:=(bne_iff_ne.1 h4)
    have hc: ¬4<=t:=by (try simp (disch:=assumption) only [Zp] at *);omega
    exact ⟨(x3.1,m,[],L),(by rw [Qc r_n];exact (yk (s:=(m,[],L)) hc hq hx hz).symm),rfl,rfl,rfl,rfl,(by simp only [Qc r_n]),trivial⟩
  refine Qa 1 _ (Qa 16 _ (QH (Jv bm bj m L t x3.2.1 x3.2.2.1 x3.2.2.2.1 x3.2.2.2.2 ‹_› ‹_› ‹_› ‹_› (by omega)) (⟨(_,_),rfl,rfl⟩) fun x4 h5=> ?_))
  try simp only [Qc (n:=x3.2.1) ‹_›,Qc (n:=x3.2.2.1) ‹_›,Qc (n:=x3.2.2.2.1) ‹_›,Qc (n:=x3.2.2.2.2) ‹_›] at h5
  have hs:=h5
  have hz:=(bne_eq_false_iff_eq.1 h4)
  have hc: ¬4<=t:=by (try simp (disch:=assumption) only [Zp] at *);omega
  exact ⟨(0,x4.1,[],x4.2),(by rw [Qc r_n];exact (yF (s:=(m,[],L)) hc hq hx hz hs.1 hs.2).symm),rfl,rfl,rfl,rfl,(by simp only [Qc r_n]),trivial⟩
noncomputable def jc:List Value->List Qf->ZB:=fun vs hs=>⟨Int×BS,fun J=>ii J.1,fun J=> [.blk (QJ (Qd vs 1)) (.cells #[.pointer (some ⟨(QJ (Qw (Qh hs 0) 0)),0,none⟩), .pointer (some ⟨(QJ (Qw (Qh hs 0) 1)),0,none⟩), .slice none 0 0] 73 (0,0)),(mS Qi (QJ (Qw (Qh hs 0) 0)) (XI (Qh hs 1) 1) J.2.1),(jS QD (XI (Qh hs 1) 1) J.2.2.2), .blk (FA (Qh hs 3)) (.cells #[uu (Qb (Qe (.agg (Qm (Qh hs 3)))) 0),uu (Qb (Qe (.agg (Qm (Qh hs 3)))) 1),uu (Qb (Qe (.agg (Qm (Qh hs 3)))) 2),uu (Qb (Qe (.agg (Qm (Qh hs 3)))) 3)] 35 (0,0))],fun J=>J=ZT (QM (QJ (Qw (Qh hs 0) 0))) Z5 (((V8 (Qh hs 1)),[],(KH (Qh hs 2))):BS) (ci (Qd vs 2)) (Qe (.agg (Qm (Qh hs 3))))⟩
abbrev Kf (b bm bh bj:Nat) (m:KV) (L:List Zf) (t:Int) (cb:Nat) (n:Int) (zv:Value) (zs0:Qf) (zs1:Qf) (zs2:Qf) (zs3:Qf):Prop:= ∃J:Int×BS,(J=ZT (QM bm) Z5 ((m,[],L):BS) t (Qe (vI n)))/\zv=ii J.1/\zs0=Qo b bm bh/\zs1=(mS Qi bm bj J.2.1)/\zs2=(jS QD bj J.2.2.2)/\zs3=bk cb (nC (Qe (vI n))) 35/\True
abbrev YT (b bm bh bj:Nat) (m:KV) (L:List Zf) (t:Int) (cb:Nat) (n:Int) (zF:SF (Int×BS)):Prop:=zF #[pp b 0, .int .u8 t, .func (.func 63) #[] #[pp cb 0]] [Qo b bm bh,(mS Qi bm bj m),(jS QD bj L),bk cb (nC n) 35] (fun J=>ii J.1) (fun J=> [Qo b bm bh,(mS Qi bm bj J.2.1),(jS QD bj J.2.2.2),bk cb (nC (Qe (vI n))) 35]) (fun J=>(J=ZT (QM bm) Z5 ((m,[],L):BS) t (Qe (vI n))))
theorem zw (b bm bh bj:Nat) (m:KV) (L:List Zf) (t:Int) (cb:Nat) (n:Int):YT b bm bh bj m L t cb n (fun za zh zv zu zp=>QB Tryz.prog 26 none 2000 none (Qk Tryz.f46) (.reg [S0] (.reg [S0,S0] (.cond (.reg [S0] (.done)) (.reg [S0,S0, .callr [0,1] XQ, .sem [.nw 4], .sem (Zq 16 4)] (.reg [S0, .callw [4,3] [4,3] Fe,S0] (.reg [S0,S0] (.cond (.reg [S0,S0] (.done)) (.reg [S0,S0,S0, .sem [.rd 0],S0, .sem (QV 16 4), .callw [1,2] [1,2] XK] (.reg [S0] (.done))))))))))
    (Q2 za zh) (Q8 Tryz.prog Tryz.f46 [] [0,1,2,3] (X:=Int×BS) zv zu zp))=
    (((decide (t≥(4:Int)))=true->Kf b bm bh bj m L t cb n (ii 1) (Qo b bm bh) (mS Qi bm bj m) (jS QD bj L) (bk cb (nC n) 35))/\((decide (t≥(4:Int)))=false->XC b bm bh bj m t (fun x1=> ∀b2:Nat,Qj 16 b2 (Ze Tryz.prog 63 #[pp b2 0,pp cb 0] [bk b2 #[uu (Qb x1.1 0),uu (Qb x1.1 1),uu (Qb x1.1 2),uu (Qb x1.1 3),uu (Qb x1.2.1 0),uu (Qb x1.2.1 1),uu (Qb x1.2.1 2),uu (Qb x1.2.1 3),uu (Qb x1.2.2.1 0),uu (Qb x1.2.2.1 1),uu (Qb x1.2.2.1 2),uu (Qb x1.2.2.1 3),uu (Qb x1.2.2.2 0),uu (Qb x1.2.2.2 1),uu (Qb x1.2.2.2 2),uu (Qb x1.2.2.2 3)] 51,bk cb (nC n) 35] (Int×ST) (fun J=>ii J.1) (fun J=> [bk b2 #[uu (Qb J.2.1 0),uu (Qb J.2.1 1),uu (Qb J.2.1 2),uu (Qb J.2.1 3),uu (Qb J.2.2.1 0),uu (Qb J.2.2.1 1),uu (Qb J.2.2.1 2),uu (Qb J.2.2.1 3),uu (Qb J.2.2.2.1 0),uu (Qb J.2.2.2.1 1),uu (Qb J.2.2.2.1 2),uu (Qb J.2.2.2.1 3),uu (Qb J.2.2.2.2 0),uu (Qb J.2.2.2.2 1),uu (Qb J.2.2.2.2 2),uu (Qb J.2.2.2.2 3)] 51,bk cb (nC (Qe (vI n))) 35]) (fun J=>Jw J.2/\J=Z5 (((Qe (vI x1.1)),(Qe (vI x1.2.1)),(Qe (vI x1.2.2.1)),(Qe (vI x1.2.2.2))):ST) (Qe (vI n))) (fun x3=>((x3.1 !=(0:Int))=true->Kf b bm bh bj m L t cb n (ii x3.1) (Qo b bm bh) (mS Qi bm bj m) (jS QD bj L) (bk cb (nC (Qe (vI n))) 35))/\((x3.1 !=(0:Int))=false->Qj 1 b (Qj 16 b2 (Ze Tryz.prog 44 #[pp bm 0, .int .u8 t,ZO (x3.2.1,x3.2.2.1,x3.2.2.2.1,x3.2.2.2.2)] [(mS Qi bm bj m),(jS QD bj L)] (KV×List Zf) (fun J=> .tuple #[]) (fun J=> [(mS Qi bm bj J.1),(jS QD bj J.2)]) (fun J=>J.1=ZF m (Value.int .u8 t) (ZO (x3.2.1,x3.2.2.1,x3.2.2.2.1,x3.2.2.2.2))/\J.2=L++ [(QM bm m (Value.int .u8 t))]) (fun x4=>Kf b bm bh bj m L t cb n (ii 0) (Qo b bm bh) (mS Qi bm bj x4.1) (jS QD bj x4.2) (bk cb (nC (Qe (vI n))) 35)))))))))):=by kernel_rfl
theorem yo (b bm bh bj:Nat) (m:KV) (L:List Zf) (t:Int) (cb:Nat) (n:Int) (r_n:R4 n) (hk:Xr Qi m) (hl:L.length<=1000000):YT b bm bh bj m L t cb n (fun za zh zv zu zp=>QC Tryz.prog 46 za zh (Int×BS) zv zu zp):=by
  refine Qx (c:=Qk Tryz.f46) (n:=26) (fn:=Tryz.f46) QF Tryz.func46 (by kernel_rfl) (by kernel_rfl) (by kernel_rfl) 2000 _ [] [0,1,2,3] rfl rfl (Eq.mpr (zw b bm bh bj m L t cb n) ?_)
  refine ⟨fun h1=> ?_,fun h1=> ?_⟩
  · exact ⟨(1,m,[],L),(by rw [Qc r_n];exact (Uh (by (try simp (disch:=assumption) only [Zp] at *);omega)).symm),rfl,rfl,rfl,rfl,(by simp only [Qc r_n]),trivial⟩
  refine XR b bm bh bj m t (fun x1 rh2_ h2=> ?_)
  have rah2:=rh2_.a;have rbh2:=rh2_.b;have rch2:=rh2_.c;have rdh2:=rh2_.d
  have hq:=h2
  intro b2
  refine Qa 16 _ (QH (vj b2 cb x1.1 x1.2.1 x1.2.2.1 x1.2.2.2 n ‹_› ‹_› ‹_› ‹_› ‹_›) (⟨_,Ha ⟨Qu _,Qu _,Qu _,Qu _⟩ (Qu _),rfl⟩) fun x3 h3=> ?_)
  obtain ⟨rh3_2,h3⟩:=h3
  try simp only [Qc (n:=x1.1) ‹_›,Qc (n:=x1.2.1) ‹_›,Qc (n:=x1.2.2.1) ‹_›,Qc (n:=x1.2.2.2) ‹_›,Qc (n:=n) ‹_›] at h3
  have rah3:=rh3_2.a;have rbh3:=rh3_2.b;have rch3:=rh3_2.c;have rdh3:=rh3_2.d
  have hx:=h3
  refine ⟨fun h4=> ?_,fun h4=> ?_⟩
  · have hz:=(bne_iff_ne.1 h4)
    have hc: ¬4<=t:=by (try simp (disch:=assumption) only [Zp] at *);omega
    exact ⟨(x3.1,m,[],L),(by rw [Qc r_n];exact (yk (s:=(m,[],L)) hc hq hx hz).symm),rfl,rfl,rfl,rfl,(by simp only [Qc r_n]),trivial⟩
  refine Qa 1 _ (Qa 16 _ (QH (Jv bm bj m L t x3.2.1 x3.2.2.1 x3.2.2.2.1 x3.2.2.2.2 ‹_› ‹_› ‹_› ‹_› (by omega)) (⟨(_,_),rfl,rfl⟩) fun x4 h5=> ?_))
  try simp only [Qc (n:=x3.2.1) ‹_›,Qc (n:=x3.2.2.1) ‹_›,Qc (n:=x3.2.2.2.1) ‹_›,Qc (n:=x3.2.2.2.2) ‹_›] at h5
  have hs:=h5
  have hz:=(bne_eq_false_iff_eq.1 h4)
  have hc: ¬4<=t:=by (try simp (disch:=assumption) only [Zp] at *);omega
  exact ⟨(0,x4.1,[],x4.2),(by rw [Qc r_n];exact (yF (s:=(m,[],L)) hc hq hx hz hs.1 hs.2).symm),rfl,rfl,rfl,rfl,(by simp only [Qc r_n]),trivial⟩
noncomputable def vY:List Value->List Qf->ZB:=fun vs hs=>⟨Int×BS,fun J=>ii J.1,fun J=> [.blk (QJ (Qd vs 1)) (.cells #[.pointer (some ⟨(QJ (Qw (Qh hs 0) 0)),0,none⟩), .pointer (some ⟨(QJ (Qw (Qh hs 0) 1)),0,none⟩), .slice none 0 0] 73 (0,0)),(mS Qi (QJ (Qw (Qh hs 0) 0)) (XI (Qh hs 1) 1) J.2.1),(jS QD (XI (Qh hs 1) 1) J.2.2.2)],fun J=>J=ZT (QM (QJ (Qw (Qh hs 0) 0))) Jy (((V8 (Qh hs 1)),[],(KH (Qh hs 2))):BS) (ci (Qd vs 2)) (Qe (Qd vs 3))⟩
abbrev pV (b bm bh bj:Nat) (m:KV) (L:List Zf) (t n:Int) (zv:Value) (zs0:Qf) (zs1:Qf) (zs2:Qf):Prop:= ∃J:Int×BS,(J=ZT (QM bm) Jy ((m,[],L):BS) t (Qe (vI n)))/\zv=ii J.1/\zs0=Qo b bm bh/\zs1=(mS Qi bm bj J.2.1)/\zs2=(jS QD bj J.2.2.2)/\True
abbrev wQ (b bm bh bj:Nat) (m:KV) (L:List Zf) (t n:Int) (zF:SF (Int×BS)):Prop:=zF #[pp b 0, .int .u8 t,vI n] [Qo b bm bh,(mS Qi bm bj m),(jS QD bj L)] (fun J=>ii J.1) (fun J=> [Qo b bm bh,(mS Qi bm bj J.2.1),(jS QD bj J.2.2.2)]) (fun J=>(J=ZT (QM bm) Jy ((m,[],L):BS) t (Qe (vI n))))
theorem Bw (b bm bh bj:Nat) (m:KV) (L:List Zf) (t n:Int):wQ b bm bh bj m L t n (fun za zh zv zu zp=>QB Tryz.prog 11 none 2000 none (Qk Tryz.f29) (.reg [.sem [.nw 3],S0] (.reg [S0,S0,S0, .callw [0,1,2,3] [0,1,2,3] xC,S0] (.done)))
    (Q2 za zh) (Q8 Tryz.prog Tryz.f29 [] [0,1,2] (X:=Int×BS) zv zu zp))=
    (∀b1:Nat,Ze Tryz.prog 46 #[pp b 0, .int .u8 t, .func (.func 58) #[] #[pp b1 0]] [Qo b bm bh,(mS Qi bm bj m),(jS QD bj L),bk b1 (nC n) 35] (Int×BS) (fun J=>ii J.1) (fun J=> [Qo b bm bh,(mS Qi bm bj J.2.1),(jS QD bj J.2.2.2),bk b1 (nC (Qe (vI n))) 35]) (fun J=>J=ZT (QM bm) Jy ((m,[],L):BS) t (Qe (vI n))) (fun x2=>pV b bm bh bj m L t n (ii x2.1) (Qo b bm bh) (mS Qi bm bj x2.2.1) (jS QD bj x2.2.2.2))):=by kernel_rfl
theorem Qb0 (b bm bh bj:Nat) (m:KV) (L:List Zf) (t n:Int) (r_n:R4 n) (hk:Xr Qi m) (hl:L.length<=1000000):wQ b bm bh bj m L t n (fun za zh zv zu zp=>QC Tryz.prog 29 za zh (Int×BS) zv zu zp):=by
  refine Qx (c:=Qk Tryz.f29) (n:=11) (fn:=Tryz.f29) QF Tryz.func29 (by kernel_rfl) (by kernel_rfl) (by kernel_rfl) 2000 _ [] [0,1,2] rfl rfl (Eq.mpr (Bw b bm bh bj m L t n) ?_)
  intro b1
  refine QH (k6 b bm bh bj m L t b1 n ‹_› ‹_› (by omega)) (⟨_,rfl⟩) fun x2 h1=> ?_
  try simp only [Qc (n:=n) ‹_›] at h1
  have hx:=h1
  exact ⟨_,by rw [Qc r_n];exact hx,rfl,rfl,rfl,rfl,trivial⟩
noncomputable def GB:List Value->List Qf->ZB:=fun vs hs=>⟨Int×BS,fun J=>ii J.1,fun J=> [.blk (QJ (Qd vs 1)) (.cells #[.pointer (some ⟨(QJ (Qw (Qh hs 0) 0)),0,none⟩), .pointer (some ⟨(QJ (Qw (Qh hs 0) 1)),0,none⟩), .slice none 0 0] 73 (0,0)),(mS Qi (QJ (Qw (Qh hs 0) 0)) (XI (Qh hs 1) 1) J.2.1),(jS QD (XI (Qh hs 1) 1) J.2.2.2)],fun J=>J=ZT (QM (QJ (Qw (Qh hs 0) 0))) qA (((V8 (Qh hs 1)),[],(KH (Qh hs 2))):BS) (ci (Qd vs 2)) (Qe (Qd vs 3))⟩
abbrev Hk (b bm bh bj:Nat) (m:KV) (L:List Zf) (t n:Int) (zv:Value) (zs0:Qf) (zs1:Qf) (zs2:Qf):Prop:= ∃J:Int×BS,(J=ZT (QM bm) qA ((m,[],L):BS) t (Qe (vI n)))/\zv=ii J.1/\zs0=Qo b bm bh/\zs1=(mS Qi bm bj J.2.1)/\zs2=(jS QD bj J.2.2.2)/\True
abbrev zn (b bm bh bj:Nat) (m:KV) (L:List Zf) (t n:Int) (zF:SF (Int×BS)):Prop:=zF #[pp b 0, .int .u8 t,vI n] [Qo b bm bh,(mS Qi bm bj m),(jS QD bj L)] (fun J=>ii J.1) (fun J=> [Qo b bm bh,(mS Qi bm bj J.2.1),(jS QD bj J.2.2.2)]) (fun J=>(J=ZT (QM bm) qA ((m,[],L):BS) t (Qe (vI n))))
theorem Wo (b bm bh bj:Nat) (m:KV) (L:List Zf) (t n:Int):zn b bm bh bj m L t n (fun za zh zv zu zp=>QB Tryz.prog 11 none 2000 none (Qk Tryz.f30) (.reg [.sem [.nw 3],S0] (.reg [S0,S0,S0, .callw [0,1,2,3] [0,1,2,3] qc,S0] (.done)))
    (Q2 za zh) (Q8 Tryz.prog Tryz.f30 [] [0,1,2] (X:=Int×BS) zv zu zp))=
    (∀b1:Nat,Ze Tryz.prog 46 #[pp b 0, .int .u8 t, .func (.func 60) #[] #[pp b1 0]] [Qo b bm bh,(mS Qi bm bj m),(jS QD bj L),bk b1 (nC n) 35] (Int×BS) (fun J=>ii J.1) (fun J=> [Qo b bm bh,(mS Qi bm bj J.2.1),(jS QD bj J.2.2.2),bk b1 (nC (Qe (vI n))) 35]) (fun J=>J=ZT (QM bm) qA ((m,[],L):BS) t (Qe (vI n))) (fun x2=>Hk b bm bh bj m L t n (ii x2.1) (Qo b bm bh) (mS Qi bm bj x2.2.1) (jS QD bj x2.2.2.2))):=by kernel_rfl
theorem DJ (b bm bh bj:Nat) (m:KV) (L:List Zf) (t n:Int) (r_n:R4 n) (hk:Xr Qi m) (hl:L.length<=1000000):zn b bm bh bj m L t n (fun za zh zv zu zp=>QC Tryz.prog 30 za zh (Int×BS) zv zu zp):=by
  refine Qx (c:=Qk Tryz.f30) (n:=11) (fn:=Tryz.f30) QF Tryz.func30 (by kernel_rfl) (by kernel_rfl) (by kernel_rfl) 2000 _ [] [0,1,2] rfl rfl (Eq.mpr (Wo b bm bh bj m L t n) ?_)
  intro b1
  refine QH (jh b bm bh bj m L t b1 n ‹_› ‹_› (by omega)) (⟨_,rfl⟩) fun x2 h1=> ?_
  try simp only [Qc (n:=n) ‹_›] at h1
  have hx:=h1
  exact ⟨_,by rw [Qc r_n];exact hx,rfl,rfl,rfl,rfl,trivial⟩
noncomputable def Gk:List Value->List Qf->ZB:=fun vs hs=>⟨Int×BS,fun J=>ii J.1,fun J=> [.blk (QJ (Qd vs 1)) (.cells #[.pointer (some ⟨(QJ (Qw (Qh hs 0) 0)),0,none⟩), .pointer (some ⟨(QJ (Qw (Qh hs 0) 1)),0,none⟩), .slice none 0 0] 73 (0,0)),(mS Qi (QJ (Qw (Qh hs 0) 0)) (XI (Qh hs 1) 1) J.2.1),(jS QD (XI (Qh hs 1) 1) J.2.2.2)],fun J=>J=ZT (QM (QJ (Qw (Qh hs 0) 0))) qU (((V8 (Qh hs 1)),[],(KH (Qh hs 2))):BS) (ci (Qd vs 2)) (Qe (Qd vs 3))⟩
abbrev GV (b bm bh bj:Nat) (m:KV) (L:List Zf) (t n:Int) (zv:Value) (zs0:Qf) (zs1:Qf) (zs2:Qf):Prop:= ∃J:Int×BS,(J=ZT (QM bm) qU ((m,[],L):BS) t (Qe (vI n)))/\zv=ii J.1/\zs0=Qo b bm bh/\zs1=(mS Qi bm bj J.2.1)/\zs2=(jS QD bj J.2.2.2)/\True
abbrev qB (b bm bh bj:Nat) (m:KV) (L:List Zf) (t n:Int) (zF:SF (Int×BS)):Prop:=zF #[pp b 0, .int .u8 t,vI n] [Qo b bm bh,(mS Qi bm bj m),(jS QD bj L)] (fun J=>ii J.1) (fun J=> [Qo b bm bh,(mS Qi bm bj J.2.1),(jS QD bj J.2.2.2)]) (fun J=>(J=ZT (QM bm) qU ((m,[],L):BS) t (Qe (vI n))))
theorem WH (b bm bh bj:Nat) (m:KV) (L:List Zf) (t n:Int):qB b bm bh bj m L t n (fun za zh zv zu zp=>QB Tryz.prog 11 none 2000 none (Qk Tryz.f31) (.reg [.sem [.nw 3],S0] (.reg [S0,S0,S0, .callw [0,1,2,3] [0,1,2,3] qb,S0] (.done)))
    (Q2 za zh) (Q8 Tryz.prog Tryz.f31 [] [0,1,2] (X:=Int×BS) zv zu zp))=
    (∀b1:Nat,Ze Tryz.prog 46 #[pp b 0, .int .u8 t, .func (.func 61) #[] #[pp b1 0]] [Qo b bm bh,(mS Qi bm bj m),(jS QD bj L),bk b1 (nC n) 35] (Int×BS) (fun J=>ii J.1) (fun J=> [Qo b bm bh,(mS Qi bm bj J.2.1),(jS QD bj J.2.2.2),bk b1 (nC (Qe (vI n))) 35]) (fun J=>J=ZT (QM bm) qU ((m,[],L):BS) t (Qe (vI n))) (fun x2=>GV b bm bh bj m L t n (ii x2.1) (Qo b bm bh) (mS Qi bm bj x2.2.1) (jS QD bj x2.2.2.2))):=by kernel_rfl
theorem Bz (b bm bh bj:Nat) (m:KV) (L:List Zf) (t n:Int) (r_n:R4 n) (hk:Xr Qi m) (hl:L.length<=1000000):qB b bm bh bj m L t n (fun za zh zv zu zp=>QC Tryz.prog 31 za zh (Int×BS) zv zu zp):=by
  refine Qx (c:=Qk Tryz.f31) (n:=11) (fn:=Tryz.f31) QF Tryz.func31 (by kernel_rfl) (by kernel_rfl) (by kernel_rfl) 2000 _ [] [0,1,2] rfl rfl (Eq.mpr (WH b bm bh bj m L t n) ?_)
  intro b1
  refine QH (jd b bm bh bj m L t b1 n ‹_› ‹_› (by omega)) (⟨_,rfl⟩) fun x2 h1=> ?_
  try simp only [Qc (n:=n) ‹_›] at h1
  have hx:=h1
  exact ⟨_,by rw [Qc r_n];exact hx,rfl,rfl,rfl,rfl,trivial⟩
noncomputable def yC:List Value->List Qf->ZB:=fun vs hs=>⟨Int×BS,fun J=>ii J.1,fun J=> [.blk (QJ (Qd vs 1)) (.cells #[.pointer (some ⟨(QJ (Qw (Qh hs 0) 0)),0,none⟩), .pointer (some ⟨(QJ (Qw (Qh hs 0) 1)),0,none⟩), .slice none 0 0] 73 (0,0)),(mS Qi (QJ (Qw (Qh hs 0) 0)) (XI (Qh hs 1) 1) J.2.1),(jS QD (XI (Qh hs 1) 1) J.2.2.2)],fun J=>J=ZT (QM (QJ (Qw (Qh hs 0) 0))) ZX (((V8 (Qh hs 1)),[],(KH (Qh hs 2))):BS) (ci (Qd vs 2)) (Qe (Qd vs 3))⟩
abbrev D9 (b bm bh bj:Nat) (m:KV) (L:List Zf) (t n:Int) (zv:Value) (zs0:Qf) (zs1:Qf) (zs2:Qf):Prop:= ∃J:Int×BS,(J=ZT (QM bm) ZX ((m,[],L):BS) t (Qe (vI n)))/\zv=ii J.1/\zs0=Qo b bm bh/\zs1=(mS Qi bm bj J.2.1)/\zs2=(jS QD bj J.2.2.2)/\True
abbrev Uu (b bm bh bj:Nat) (m:KV) (L:List Zf) (t n:Int) (zF:SF (Int×BS)):Prop:=zF #[pp b 0, .int .u8 t,vI n] [Qo b bm bh,(mS Qi bm bj m),(jS QD bj L)] (fun J=>ii J.1) (fun J=> [Qo b bm bh,(mS Qi bm bj J.2.1),(jS QD bj J.2.2.2)]) (fun J=>(J=ZT (QM bm) ZX ((m,[],L):BS) t (Qe (vI n))))
theorem FD (b bm bh bj:Nat) (m:KV) (L:List Zf) (t n:Int):Uu b bm bh bj m L t n (fun za zh zv zu zp=>QB Tryz.prog 11 none 2000 none (Qk Tryz.f17) (.reg [.sem [.nw 3],S0] (.reg [S0,S0,S0, .callw [0,1,2,3] [0,1,2,3] ju,S0] (.done)))
    (Q2 za zh) (Q8 Tryz.prog Tryz.f17 [] [0,1,2] (X:=Int×BS) zv zu zp))=
    (∀b1:Nat,Ze Tryz.prog 46 #[pp b 0, .int .u8 t, .func (.func 47) #[] #[pp b1 0]] [Qo b bm bh,(mS Qi bm bj m),(jS QD bj L),bk b1 (nC n) 35] (Int×BS) (fun J=>ii J.1) (fun J=> [Qo b bm bh,(mS Qi bm bj J.2.1),(jS QD bj J.2.2.2),bk b1 (nC (Qe (vI n))) 35]) (fun J=>J=ZT (QM bm) ZX ((m,[],L):BS) t (Qe (vI n))) (fun x2=>D9 b bm bh bj m L t n (ii x2.1) (Qo b bm bh) (mS Qi bm bj x2.2.1) (jS QD bj x2.2.2.2))):=by kernel_rfl
theorem dR (b bm bh bj:Nat) (m:KV) (L:List Zf) (t n:Int) (r_n:R4 n) (hk:Xr Qi m) (hl:L.length<=1000000):Uu b bm bh bj m L t n (fun za zh zv zu zp=>QC Tryz.prog 17 za zh (Int×BS) zv zu zp):=by
  refine Qx (c:=Qk Tryz.f17) (n:=11) (fn:=Tryz.f17) QF Tryz.func17 (by kernel_rfl) (by kernel_rfl) (by kernel_rfl) 2000 _ [] [0,1,2] rfl rfl (Eq.mpr (FD b bm bh bj m L t n) ?_)
  intro b1
  refine QH (yJ b bm bh bj m L t b1 n ‹_› ‹_› (by omega)) (⟨_,rfl⟩) fun x2 h1=> ?_
  try simp only [Qc (n:=n) ‹_›] at h1
  have hx:=h1
  exact ⟨_,by rw [Qc r_n];exact hx,rfl,rfl,rfl,rfl,trivial⟩
abbrev Us (b bm bh bj:Nat) (m:KV) (L:List Zf) (t n:Int) (KK:(Int×BS)->Prop):Prop:=Uu b bm bh bj m L t n (fun za zh zv zu zp=>Ze Tryz.prog 17 za zh (Int×BS) zv zu zp KK)
theorem yz (b bm bh bj:Nat) (m:KV) (L:List Zf) (t n:Int) {KK:(Int×BS)->Prop} (kont: ∀J:Int×BS,(J=ZT (QM bm) ZX ((m,[],L):BS) t n)->KK J) (r_n:R4 n:=by assumption) (hk:Xr Qi m:=by assumption) (hl:L.length<=1000000:=by omega):Us b bm bh bj m L t n KK:=QH (dR b bm bh bj m L t n r_n hk hl) (⟨_,rfl⟩) fun J hz=>by
  try simp only [Qc (n:=n) r_n] at hz
  exact kont J hz
noncomputable def DN:List Value->List Qf->ZB:=fun vs hs=>⟨Int×BS,fun J=>ii J.1,fun J=> [.blk (QJ (Qd vs 1)) (.cells #[.pointer (some ⟨(QJ (Qw (Qh hs 0) 0)),0,none⟩), .pointer (some ⟨(QJ (Qw (Qh hs 0) 1)),0,none⟩), .slice none 0 0] 73 (0,0)),(mS Qi (QJ (Qw (Qh hs 0) 0)) (XI (Qh hs 1) 1) J.2.1),(jS QD (XI (Qh hs 1) 1) J.2.2.2)],fun J=>J=ZT (QM (QJ (Qw (Qh hs 0) 0))) Z5 (((V8 (Qh hs 1)),[],(KH (Qh hs 2))):BS) (ci (Qd vs 2)) (Qe (Qd vs 3))⟩
abbrev va (b bm bh bj:Nat) (m:KV) (L:List Zf) (t n:Int) (zv:Value) (zs0:Qf) (zs1:Qf) (zs2:Qf):Prop:= ∃J:Int×BS,(J=ZT (QM bm) Z5 ((m,[],L):BS) t (Qe (vI n)))/\zv=ii J.1/\zs0=Qo b bm bh/\zs1=(mS Qi bm bj J.2.1)/\zs2=(jS QD bj J.2.2.2)/\True
abbrev y9 (b bm bh bj:Nat) (m:KV) (L:List Zf) (t n:Int) (zF:SF (Int×BS)):Prop:=zF #[pp b 0, .int .u8 t,vI n] [Qo b bm bh,(mS Qi bm bj m),(jS QD bj L)] (fun J=>ii J.1) (fun J=> [Qo b bm bh,(mS Qi bm bj J.2.1),(jS QD bj J.2.2.2)]) (fun J=>(J=ZT (QM bm) Z5 ((m,[],L):BS) t (Qe (vI n))))
theorem FF (b bm bh bj:Nat) (m:KV) (L:List Zf) (t n:Int):y9 b bm bh bj m L t n (fun za zh zv zu zp=>QB Tryz.prog 11 none 2000 none (Qk Tryz.f32) (.reg [.sem [.nw 3],S0] (.reg [S0,S0,S0, .callw [0,1,2,3] [0,1,2,3] jc,S0] (.done)))
    (Q2 za zh) (Q8 Tryz.prog Tryz.f32 [] [0,1,2] (X:=Int×BS) zv zu zp))=
    (∀b1:Nat,Ze Tryz.prog 46 #[pp b 0, .int .u8 t, .func (.func 63) #[] #[pp b1 0]] [Qo b bm bh,(mS Qi bm bj m),(jS QD bj L),bk b1 (nC n) 35] (Int×BS) (fun J=>ii J.1) (fun J=> [Qo b bm bh,(mS Qi bm bj J.2.1),(jS QD bj J.2.2.2),bk b1 (nC (Qe (vI n))) 35]) (fun J=>J=ZT (QM bm) Z5 ((m,[],L):BS) t (Qe (vI n))) (fun x2=>va b bm bh bj m L t n (ii x2.1) (Qo b bm bh) (mS Qi bm bj x2.2.1) (jS QD bj x2.2.2.2))):=by kernel_rfl
theorem dU (b bm bh bj:Nat) (m:KV) (L:List Zf) (t n:Int) (r_n:R4 n) (hk:Xr Qi m) (hl:L.length<=1000000):y9 b bm bh bj m L t n (fun za zh zv zu zp=>QC Tryz.prog 32 za zh (Int×BS) zv zu zp):=by
  refine Qx (c:=Qk Tryz.f32) (n:=11) (fn:=Tryz.f32) QF Tryz.func32 (by kernel_rfl) (by kernel_rfl) (by kernel_rfl) 2000 _ [] [0,1,2] rfl rfl (Eq.mpr (FF b bm bh bj m L t n) ?_)
  intro b1
  refine QH (yo b bm bh bj m L t b1 n ‹_› ‹_› (by omega)) (⟨_,rfl⟩) fun x2 h1=> ?_
  try simp only [Qc (n:=n) ‹_›] at h1
  have hx:=h1
  exact ⟨_,by rw [Qc r_n];exact hx,rfl,rfl,rfl,rfl,trivial⟩
noncomputable def Xy:List Value->List Qf->ZB:=fun vs hs=>⟨Int×Bool,fun J=> .tuple #[vI J.1, .bool J.2],fun _=>hs,fun J=>R4 J.1/\J=XV ((Qe (Qd vs 1))+(Qe (Qd vs 2)))⟩
abbrev gj (a b:Int) (zv:Value) :Prop:= ∃J:Int×Bool,(R4 J.1/\J=XV ((Qe (vI a))+(Qe (vI b))))/\zv= .tuple #[vI J.1, .bool J.2]/\True
abbrev qR (a b:Int) (zF:SF (Int×Bool)):Prop:=zF #[vI a,vI b] [] (fun J=> .tuple #[vI J.1, .bool J.2]) (fun J=> []) (fun J=>(R4 J.1/\J=XV ((Qe (vI a))+(Qe (vI b)))))
theorem Bg (a b:Int):qR a b (fun za zh zv zu zp=>QB Tryz.prog 14 none 2000 none (Qk Tryz.f53) (.reg [.sem [.nw 0], .sem [.nw 1], .sem [.nw 2],S0] (.reg [.sem (QV 4 0), .callw [] [3] ZK, .sem (QV 4 1), .callw [] [4] ZK, .callw [3,4] [3,4,5] Yb, .callw [5] [5] Vu,S0,S0, .sem (Zq 4 2),S0] (.done)))
    (Q2 za zh) (Q8 Tryz.prog Tryz.f53 [.rd 2, .rd 2, .rd 2, .rd 2] [] (X:=Int×Bool) zv zu zp))=
    (∀b1:Nat,∀b2:Nat,∀b3:Nat,Qj 4 b1 (ZA a (fun x4=>Qj 4 b2 (ZA b (fun x5=>Kq x4 x5 (fun x6=>Yk x6 (fun x7=>Qj 4 b3 (Qj 4 b3 (gj a b (Value.tuple #[vI x7.1, .bool x7.2])))))))))):=by kernel_rfl
theorem Qb5 (a b:Int) (r_a:R4 a) (r_b:R4 b):qR a b (fun za zh zv zu zp=>QC Tryz.prog 53 za zh (Int×Bool) zv zu zp):=by
  refine Qx (c:=Qk Tryz.f53) (n:=14) (fn:=Tryz.f53) QF Tryz.func53 (by kernel_rfl) (by kernel_rfl) (by kernel_rfl) 2000 _ [.rd 2, .rd 2, .rd 2, .rd 2] [] rfl rfl (Eq.mpr (Bg a b) ?_)
  intro b1
  intro b2
  intro b3
  refine Qa 4 _ (ZN a (fun x4 rh1_ h1=> ?_))
  have h1_:=h1
  have okh1_:Qr x4:=by assumption
  have eh1_:=QW x4
  have ch1_:=Zi okh1_.dig h1_.2.1
  have lh1_:=h1_.2.2
  refine Qa 4 _ (ZN b (fun x5 rh2_ h2=> ?_))
  have h2_:=h2
  have okh2_:Qr x5:=by assumption
  have eh2_:=QW x5
  have ch2_:=Zi okh2_.dig h2_.2.1
  have lh2_:=h2_.2.2
  refine Yj x4 x5 (fun x6 rh3_ h3=> ?_)
  have hs:=h3
  have ls:(dg x6).length<=65000:=by have:=F9 (Qr.dig ‹_›) hs.2 (hs.1.trans (by rw [h1_.1,h2_.1])) (Vk (n:=a+b) (by have q1:=r_a.1;have q2:=r_b.1;have q3:=r_a.2;have q4:=r_b.2;unfold R8;omega));omega
  refine Vl x6 (fun x7 rh4_1 h4=> ?_) (la:=ls)
  have hI:=h4
  exact Qa 4 _ (Qa 4 _ ⟨x7,⟨by assumption,by rw [Qc r_a,Qc r_b,hI,hs.1,h1_.1,h2_.1]⟩,rfl,trivial⟩)
abbrev Xi (a b:Int) (KK:(Int×Bool)->Prop):Prop:=qR a b (fun za zh zv zu zp=>Zh Tryz.prog 53 za zh (Int×Bool) zv zp KK)
theorem XA (a b:Int) {KK:(Int×Bool)->Prop} (kont: ∀J:Int×Bool,R4 J.1->(J=XV (a+b))->KK J) (r_a:R4 a:=by assumption) (r_b:R4 b:=by assumption):Xi a b KK:=QN (Qb5 a b r_a r_b) (⟨_,QdJ (by first | exact Qu _ | exact r_a) (by first | exact Qu _ | exact r_b),rfl⟩) fun J hz=>by
  obtain ⟨rhz_1,hz⟩:=hz
  try simp only [Qc (n:=a) r_a,Qc (n:=b) r_b] at hz
  exact kont J rhz_1 hz
noncomputable def JY:List Value->List Qf->ZB:=fun vs hs=>⟨Int×Bool,fun J=> .tuple #[vI J.1, .bool J.2],fun _=>hs,fun J=>R4 J.1/\J=Ko (Qe (Qd vs 1)) (Qe (Qd vs 2))⟩
abbrev VQ (a b:Int) (zv:Value) :Prop:= ∃J:Int×Bool,(R4 J.1/\J=Ko (Qe (vI a)) (Qe (vI b)))/\zv= .tuple #[vI J.1, .bool J.2]/\True
abbrev qW (a b:Int) (zF:SF (Int×Bool)):Prop:=zF #[vI a,vI b] [] (fun J=> .tuple #[vI J.1, .bool J.2]) (fun J=> []) (fun J=>(R4 J.1/\J=Ko (Qe (vI a)) (Qe (vI b))))
theorem BH (a b:Int):qW a b (fun za zh zv zu zp=>QB Tryz.prog 23 none 2000 none (Qk Tryz.f54) (.reg [.sem [.nw 0], .sem [.nw 1], .sem [.nw 2],S0] (.reg [.sem (QV 4 0), .callw [] [3] ZK,S0] (.reg [.sem (QV 4 1), .callw [] [4] ZK,S0] (.reg [S0,S0, .callr [3,4] Yh,S0] (.cond (.reg [S0, .sem (Zq 4 2),S0] (.done)) (.reg [S0,S0, .callw [3,4] [3,4,5] xG, .callw [5] [5] Vu,S0,S0, .sem (Zq 4 2),S0] (.done)))))))
    (Q2 za zh) (Q8 Tryz.prog Tryz.f54 [.rd 2, .rd 2, .rd 2, .rd 2] [] (X:=Int×Bool) zv zu zp))=
    (∀b1:Nat,∀b2:Nat,∀b3:Nat,Qj 4 b1 (ZA a (fun x4=>Qj 4 b2 (ZA b (fun x5=>Kv x4 x5 (fun x6=>((decide (x6<(0:Int)))=true->Qj 4 b3 (Qj 4 b3 (VQ a b (Value.tuple #[.agg #[uu 0,uu 0,uu 0,uu 0], .bool false]))))/\((decide (x6<(0:Int)))=false->Uo x4 x5 (fun x7=>Yk x7 (fun x8=>Qj 4 b3 (Qj 4 b3 (VQ a b (Value.tuple #[vI x8.1, .bool x8.2])))))))))))):=by kernel_rfl
theorem Qbt (a b:Int) (r_a:R4 a) (r_b:R4 b):qW a b (fun za zh zv zu zp=>QC Tryz.prog 54 za zh (Int×Bool) zv zu zp):=by
  refine Qx (c:=Qk Tryz.f54) (n:=23) (fn:=Tryz.f54) QF Tryz.func54 (by kernel_rfl) (by kernel_rfl) (by kernel_rfl) 2000 _ [.rd 2, .rd 2, .rd 2, .rd 2] [] rfl rfl (Eq.mpr (BH a b) ?_)
  intro b1
  intro b2
  intro b3
  refine Qa 4 _ (ZN a (fun x4 rh1_ h1=> ?_))
  have h1_:=h1
  have okh1_:Qr x4:=by assumption
  have eh1_:=QW x4
  have ch1_:=Zi okh1_.dig h1_.2.1
  have lh1_:=h1_.2.2
  refine Qa 4 _ (ZN b (fun x5 rh2_ h2=> ?_))
  have h2_:=h2
  have okh2_:Qr x5:=by assumption
  have eh2_:=QW x5
  have ch2_:=Zi okh2_.dig h2_.2.1
  have lh2_:=h2_.2.2
  refine Yf x4 x5 (fun x6 h3=> ?_)
  have hc_:=h3
  refine ⟨fun h4=> ?_,fun h4=> ?_⟩
  · refine Qa 4 _ (Qa 4 _ ?_)
    unfold VQ
    have hlt:a<b:=by
      have cc:=Yr hc_
      rw [h1_.1,h2_.1] at cc
      (try simp (disch:=assumption) only [Zp] at *)
      omega
    exact ⟨(0,false),⟨QI,by rw [Qc r_a,Qc r_b];unfold Ko;rw [if_pos hlt]⟩,by rw [Q3],trivial⟩
  have hle:b<=a:=by
    have cc:=Yr hc_
    rw [h1_.1,h2_.1] at cc
    (try simp (disch:=assumption) only [Zp] at *)
    omega
  refine jR x4 x5 (fun x7 rh5_ h5=> ?_) (hle:=by rw [h1_.1,h2_.1];exact hle)
  have hs:=h5
  have ls:(dg x7).length<=65000:=by have:=F9 (Qr.dig ‹_›) hs.2 (hs.1.trans (by rw [h1_.1,h2_.1])) (Vk (n:=a - b) (by have q1:=r_a.1;have q2:=r_b.1;have q3:=r_a.2;have q4:=r_b.2;unfold R8;omega));omega
  refine Vl x7 (fun x8 rh6_1 h6=> ?_) (la:=ls)
  have hI:=h6
  refine Qa 4 _ (Qa 4 _ ?_)
  unfold VQ
  have hI2:=hI
  rw [hs.1,h1_.1,h2_.1] at hI2
  exact ⟨x8,⟨by assumption,by rw [Qc r_a,Qc r_b,hI2];exact QdS hle r_a r_b⟩,rfl,trivial⟩
abbrev Jk (a b:Int) (KK:(Int×Bool)->Prop):Prop:=qW a b (fun za zh zv zu zp=>Zh Tryz.prog 54 za zh (Int×Bool) zv zp KK)
theorem J0 (a b:Int) {KK:(Int×Bool)->Prop} (kont: ∀J:Int×Bool,R4 J.1->(J=Ko a b)->KK J) (r_a:R4 a:=by assumption) (r_b:R4 b:=by assumption):Jk a b KK:=QN (Qbt a b r_a r_b) (⟨_,Gc (by first | exact Qu _ | exact r_a) (by first | exact Qu _ | exact r_b),rfl⟩) fun J hz=>by
  obtain ⟨rhz_1,hz⟩:=hz
  try simp only [Qc (n:=a) r_a,Qc (n:=b) r_b] at hz
  exact kont J rhz_1 hz
noncomputable def JQ:List Value->List Qf->ZB:=fun vs hs=>⟨Int,fun J=>vI J,fun _=>hs,fun J=>R4 J/\J=V4 (Jj (Qd vs 1)) (ci (Qd vs 2)).toNat⟩
abbrev zt (xs:List Int) (t:Int) (zv:Value) :Prop:= ∃J:Int,(R4 J/\J=V4 (Jj (Qv xs)) t.toNat)/\zv=vI J/\True
abbrev Ve (xs:List Int) (t:Int) (zF:SF Int):Prop:=zF #[Qv xs, .int .u8 t] [] (fun J=>vI J) (fun J=> []) (fun J=>(R4 J/\J=V4 (Jj (Qv xs)) t.toNat))
theorem Wt (xs:List Int) (t:Int):Ve xs t (fun za zh zv zu zp=>QB Tryz.prog 22 none 2000 none (Qk Tryz.f52) (.reg [.specw [] [0] (zE 42), .sem [.nw 1]] (.reg [S0,S0, .eq (ZP 16),S0, .specr [0] KX,S0,S0, .eq (ZP 16),S0, .specr [0] KX, .callr [] Xy,S0,S0,S0, .sem [.nw 2], .sem (Zq 4 2),S0] (.reg [.sem (QV 4 2), .sem (Zq 4 1)] (.done))))
    (Q2 za zh) (Q8 Tryz.prog Tryz.f52 [.rd 1, .rd 1, .rd 1, .rd 1] [] (X:=Int) zv zu zp))=
    (Xc Tryz.prog (vS (Instr.box 42 (Qv xs))) [] Nat (fun J=>pp J 0) (fun J=> [(tb J 42 (Qv xs))]) (fun J=>True) (fun x1=> ∀b2:Nat,(Qg Tryz.prog (vS (Instr.indexAt 38 (pp x1 0) (.int .u8 t))) (.pointer (some ⟨x1,(0+Int.toNat t*16),none⟩)))/\Za Tryz.prog (vS (Instr.loadAt 35 (.pointer (some ⟨x1,(0+Int.toNat t*16),none⟩)))) [(tb x1 42 (Qv xs))] Int (fun J=>vI J) (fun J=>R4 J/\J=YS (XL (tb x1 42 (Qv xs))) ((0+Int.toNat t*16)/4)) (fun x3=>(Qg Tryz.prog (vS (Instr.indexAt 38 (pp x1 0) (.int .u8 t))) (.pointer (some ⟨x1,(0+Int.toNat t*16),none⟩)))/\Za Tryz.prog (vS (Instr.loadAt 35 (.pointer (some ⟨x1,((0+Int.toNat t*16)+4),none⟩)))) [(tb x1 42 (Qv xs))] Int (fun J=>vI J) (fun J=>R4 J/\J=YS (XL (tb x1 42 (Qv xs))) (((0+Int.toNat t*16)+4)/4)) (fun x4=>Xi x3 x4 (fun x5=> ∀b6:Nat,Qj 4 b6 (Qj 4 b6 (Qj 4 b2 (Qj 4 b2 (zt xs t (vI x5.1)))))))))):=by kernel_rfl
theorem vy (xs:List Int) (t:Int) (r_xs:QY 80 xs) (wt:(Lit.int .u8 t).wf=true) (ht:t<4):Ve xs t (fun za zh zv zu zp=>QC Tryz.prog 52 za zh Int zv zu zp):=by
  refine Qx (c:=Qk Tryz.f52) (n:=22) (fn:=Tryz.f52) QF Tryz.func52 (by kernel_rfl) (by kernel_rfl) (by kernel_rfl) 2000 _ [.rd 1, .rd 1, .rd 1, .rd 1] [] rfl rfl (Eq.mpr (Wt xs t) ?_)
  have wt' :=yb wt
  refine QG (We 42 xs) (⟨0,trivial⟩) fun x1 h1=>fun b2=>⟨ZQ (n:=4) (e:=37) (K:=16) (by kernel_rfl) (fun w=>by kernel_rfl) x1 0 .u8 t (yb wt).1 (by omega),Qy (VG (m:=80) (0+Int.toNat t*4) (fun w=>by kernel_rfl) (fun w=>by kernel_rfl) x1 42 ‹_› (0+Int.toNat t*16) (by omega) (by omega)) (VC (m:=80) ‹_› _) fun x3 h2=> ?_⟩
  have rh2:=h2.1
  replace h2:=VF (m:=80) (n:=(0+Int.toNat t*4)) ‹_› (by omega) h2
  have g1:=h2
  refine ⟨ZQ (n:=4) (e:=37) (K:=16) (by kernel_rfl) (fun w=>by kernel_rfl) x1 0 .u8 t (yb wt).1 (by omega),Qy (VG (m:=80) ((0+Int.toNat t*4)+1) (fun w=>by kernel_rfl) (fun w=>by kernel_rfl) x1 42 ‹_› ((0+Int.toNat t*16)+4) (by omega) (by omega)) (VC (m:=80) ‹_› _) fun x4 h3=> ?_⟩
  have rh3:=h3.1
  replace h3:=VF (m:=80) (n:=((0+Int.toNat t*4)+1)) ‹_› (by omega) h3
  have g2:=h3
  refine XA x3 x4 (fun x5 rh4_1 h4=> ?_)
  have hI:=h4
  intro b6
  refine Qa 4 _ (Qa 4 _ (Qa 4 _ (Qa 4 _ ?_)))
  unfold zt
  have e1:0+t.toNat*4=4*t.toNat:=by omega
  have e2:0+t.toNat*4+1=4*t.toNat+1:=by omega
  rw [e1] at g1
  rw [e2] at g2
  exact ⟨_,⟨by assumption,by rw [QR r_xs,hI,g1,g2];rfl⟩,rfl,trivial⟩
abbrev Jg (xs:List Int) (t:Int) (KK:Int->Prop):Prop:=Ve xs t (fun za zh zv zu zp=>Zh Tryz.prog 52 za zh Int zv zp KK)
theorem JS (xs:List Int) (t:Int) {KK:Int->Prop} (kont: ∀J:Int,R4 J->(J=V4 xs t.toNat)->KK J) (r_xs:QY 80 xs:=by assumption) (wt:(Lit.int .u8 t).wf=true:=by first | assumption | decide) (ht:t<4:=by (try simp (disch:=assumption) only [Zp] at *);omega):Jg xs t KK:=QN (vy xs t r_xs wt ht) (⟨_,Qao (m:=80) (by first | assumption | exact QE _ | (rw [QR (n:=80) ‹_›];assumption)) _,rfl⟩) fun J hz=>by
  obtain ⟨rhz_,hz⟩:=hz
  try simp only [QR (xs:=xs) r_xs] at hz
  exact kont J rhz_ hz
noncomputable def vf:List Value->List Qf->ZB:=fun vs hs=>⟨List Int×Int×Int,fun J=> .tuple #[Qv J.1,vI J.2.1,ii J.2.2],fun _=>hs,fun J=>QY 80 J.1/\R4 J.2.1/\J=K8 (Jj (Qd vs 1)) (ci (Qd vs 2)) (ci (Qd vs 3)) (Qe (Qd vs 4))⟩
abbrev Y5 (xs:List Int) (t a n:Int) (zv:Value) :Prop:= ∃J:List Int×Int×Int,(QY 80 J.1/\R4 J.2.1/\J=K8 (Jj (Qv xs)) t a (Qe (vI n)))/\zv= .tuple #[Qv J.1,vI J.2.1,ii J.2.2]/\True
abbrev yq (xs:List Int) (t a n:Int) (zF:SF (List Int×Int×Int)):Prop:=zF #[Qv xs, .int .u8 t, .int .u8 a,vI n] [] (fun J=> .tuple #[Qv J.1,vI J.2.1,ii J.2.2]) (fun J=> []) (fun J=>(QY 80 J.1/\R4 J.2.1/\J=K8 (Jj (Qv xs)) t a (Qe (vI n))))
set_option maxHeartbeats 2000000 in
theorem Fs (xs:List Int) (t a n:Int):yq xs t a n (fun za zh zv zu zp=>QB Tryz.prog 85 none 2000 none (Qk Tryz.f25) (.reg [.specw [] [0] (zE 42), .sem [.nw 1], .specw [] [2] (fun _ _=>⟨Nat,Yg,fun b=> [tb b 42 (Qv (List.replicate 80 0))],fun _=>True⟩), .sem [.nw 3],S0] (.caseP (fun s=>decide ((ci (s.fr 1))>(3:Int))) (.reg [S0, .gen [] (Sx.one (.bool true)),S0, .no, .no,S0] (.condT (.reg [.specr [0] Zl,S0, .specw [2] [2] (QX 42), .sem (Zq 4 3),S0] (.done)))) (.reg [S0, .gen [] (Sx.one (.bool false)),S0,S0,S0,S0] (.cond (.reg [.specr [0] Zl,S0, .specw [2] [2] (QX 42), .sem (Zq 4 3),S0] (.done)) (.reg [.specr [0] Zl,S0, .callr [] JQ,S0,S0, .eq (ZP 16),S0, .specr [0] KX, .sem (QV 4 1), .callr [] bq,S0,S0,S0, .sem [.nw 4], .sem (Zq 4 4),S0] (.reg [S0,S0] (.cond (.reg [.specr [0] Zl,S0,S0, .specw [2] [2] (QX 42), .sem (Zq 4 3),S0] (.done)) (.reg [S0,S0,S0, .eq (ZP 16),S0, .specr [0] KX, .sem (QV 4 1), .callr [] Xy,S0,S0,S0,S0, .eq (ZP 16),S0, .specw [0] [0] (Vf 42)] (.reg [S0,S0,S0, .eq (ZP 16),S0, .specr [0] KX, .sem (QV 4 4), .callr [] Xy,S0,S0,S0,S0, .eq (ZP 16),S0, .specw [0] [0] (Vf 42)] (.reg [S0,S0,S0,S0,S0, .eq (ZP 64), .eq (ZP 4), .specr [0] KX, .sem (QV 4 4), .callr [] Xy,S0,S0,S0,S0, .eq (ZP 64), .eq (ZP 4), .specw [0] [0] (Vf 42)] (.reg [.specr [0] Zl, .sem (QV 4 4), .specw [2] [2] (QX 42), .sem (Zq 4 3),S0] (.done))))))))))))
    (Q2 za zh) (Qd5 Tryz.prog Tryz.f25 [.tab 2, .acc [.rd 3, .rd 3, .rd 3, .rd 3]] [] (X:=List Int×Int×Int) zv zu zp))=
    (Xc Tryz.prog (vS (Instr.box 42 (Qv xs))) [] Nat (fun J=>pp J 0) (fun J=> [(tb J 42 (Qv xs))]) (fun J=>True) (fun x1=> ∀b2:Nat,Xc Tryz.prog (vS (Instr.alloc 42 true (.tuple #[]))) [] Nat (fun J=>pp J 0) (fun J=> [(tb J 42 (Qv (List.replicate 80 0)))]) (fun J=>True) (fun x3=> ∀b4:Nat,((decide (t>(3:Int)))=true->gE (.bool (decide (t>(3:Int)))) (.bool true) (true= !false/\true= !false/\(true=true)/\Za Tryz.prog (vS (Instr.loadAt 42 (pp x1 0))) [(tb x1 42 (Qv xs))] Unit (fun _=>Qv xs) (fun _=>True) (fun _=>Xc Tryz.prog (KJ (Instr.storeAt 42 (pp x3 0) (Qv xs))) [(tb x3 42 (Qv (List.replicate 80 0)))] Unit (fun _=> .tuple #[]) (fun _=> [(tb x3 42 (Qv xs))]) (fun _=>True) (fun _=>Qj 4 b4 ((Zr Tryz.prog 42 (tb x3 42 (Qv xs)) (pp x3 0) (Qv xs))/\Qj 4 b4 (Y5 xs t a n (Value.tuple #[Qv xs, .agg #[uu 0,uu 0,uu 0,uu 0],ii 1])))))))/\((decide (t>(3:Int)))=false->gE (.bool (decide (t>(3:Int)))) (.bool false) (false=false/\false=false/\((decide (a>(15:Int)))=true->Za Tryz.prog (vS (Instr.loadAt 42 (pp x1 0))) [(tb x1 42 (Qv xs))] Unit (fun _=>Qv xs) (fun _=>True) (fun _=>Xc Tryz.prog (KJ (Instr.storeAt 42 (pp x3 0) (Qv xs))) [(tb x3 42 (Qv (List.replicate 80 0)))] Unit (fun _=> .tuple #[]) (fun _=> [(tb x3 42 (Qv xs))]) (fun _=>True) (fun _=>Qj 4 b4 ((Zr Tryz.prog 42 (tb x3 42 (Qv xs)) (pp x3 0) (Qv xs))/\Qj 4 b4 (Y5 xs t a n (Value.tuple #[Qv xs, .agg #[uu 0,uu 0,uu 0,uu 0],ii 1]))))))/\((decide (a>(15:Int)))=false->Za Tryz.prog (vS (Instr.loadAt 42 (pp x1 0))) [(tb x1 42 (Qv xs))] Unit (fun _=>Qv xs) (fun _=>True) (fun _=>Jg xs t (fun x5=>(Qg Tryz.prog (vS (Instr.indexAt 38 (pp x1 0) (.int .u8 t))) (.pointer (some ⟨x1,(0+Int.toNat t*16),none⟩)))/\Za Tryz.prog (vS (Instr.loadAt 35 (.pointer (some ⟨x1,((0+Int.toNat t*16)+12),none⟩)))) [(tb x1 42 (Qv xs))] Int (fun J=>vI J) (fun J=>R4 J/\J=YS (XL (tb x1 42 (Qv xs))) (((0+Int.toNat t*16)+12)/4)) (fun x6=>Qj 4 b2 (Zh Tryz.prog 51 #[vI x5,vI x6,vI n] [] (Int×Int) (fun J=> .tuple #[vI J.1,ii J.2]) (fun J=>R4 J.1/\J=Yx (Qe (vI x5)) (Qe (vI x6)) (Qe (vI n))) (fun x7=> ∀b8:Nat,Qj 4 b8 (((x7.2 !=(0:Int))=true->Za Tryz.prog (vS (Instr.loadAt 42 (pp x1 0))) [(tb x1 42 (Qv xs))] Unit (fun _=>Qv xs) (fun _=>True) (fun _=>Xc Tryz.prog (KJ (Instr.storeAt 42 (pp x3 0) (Qv xs))) [(tb x3 42 (Qv (List.replicate 80 0)))] Unit (fun _=> .tuple #[]) (fun _=> [(tb x3 42 (Qv xs))]) (fun _=>True) (fun _=>Qj 4 b4 ((Zr Tryz.prog 42 (tb x3 42 (Qv xs)) (pp x3 0) (Qv xs))/\Qj 4 b4 (Y5 xs t a n (Value.tuple #[Qv xs, .agg #[uu 0,uu 0,uu 0,uu 0],ii x7.2]))))))/\((x7.2 !=(0:Int))=false->(Qg Tryz.prog (vS (Instr.indexAt 38 (pp x1 0) (.int .u8 t))) (.pointer (some ⟨x1,(0+Int.toNat t*16),none⟩)))/\Za Tryz.prog (vS (Instr.loadAt 35 (.pointer (some ⟨x1,(0+Int.toNat t*16),none⟩)))) [(tb x1 42 (Qv xs))] Int (fun J=>vI J) (fun J=>R4 J/\J=YS (XL (tb x1 42 (Qv xs))) ((0+Int.toNat t*16)/4)) (fun x9=>Qj 4 b2 (Xi x9 n (fun x10=>(Qg Tryz.prog (vS (Instr.indexAt 38 (pp x1 0) (.int .u8 t))) (.pointer (some ⟨x1,(0+Int.toNat t*16),none⟩)))/\Xc Tryz.prog (KJ (Instr.storeAt 35 (.pointer (some ⟨x1,(0+Int.toNat t*16),none⟩)) (vI x10.1))) [(tb x1 42 (Qv xs))] (List Int) (fun J=> .tuple #[]) (fun J=> [(tb x1 42 (Qv J))]) (fun J=>J=tset (Jj (XL (tb x1 42 (Qv xs)))) ((0+Int.toNat t*16)/4) (Jj (vI x10.1))) (fun x11=>(Qg Tryz.prog (vS (Instr.indexAt 38 (pp x1 0) (.int .u8 t))) (.pointer (some ⟨x1,(0+Int.toNat t*16),none⟩)))/\Za Tryz.prog (vS (Instr.loadAt 35 (.pointer (some ⟨x1,((0+Int.toNat t*16)+12),none⟩)))) [(tb x1 42 (Qv x11))] Int (fun J=>vI J) (fun J=>R4 J/\J=YS (XL (tb x1 42 (Qv x11))) (((0+Int.toNat t*16)+12)/4)) (fun x12=>Qj 4 b8 (Xi x12 x7.1 (fun x13=>(Qg Tryz.prog (vS (Instr.indexAt 38 (pp x1 0) (.int .u8 t))) (.pointer (some ⟨x1,(0+Int.toNat t*16),none⟩)))/\Xc Tryz.prog (KJ (Instr.storeAt 35 (.pointer (some ⟨x1,((0+Int.toNat t*16)+12),none⟩)) (vI x13.1))) [(tb x1 42 (Qv x11))] (List Int) (fun J=> .tuple #[]) (fun J=> [(tb x1 42 (Qv J))]) (fun J=>J=tset (Jj (XL (tb x1 42 (Qv x11)))) (((0+Int.toNat t*16)+12)/4) (Jj (vI x13.1))) (fun x14=>(Qg Tryz.prog (vS (Instr.indexAt 40 (pp x1 64) (.int .u8 t))) (.pointer (some ⟨x1,(64+Int.toNat t*64),none⟩)))/\(Qg Tryz.prog (vS (Instr.indexAt 39 (.pointer (some ⟨x1,(64+Int.toNat t*64),none⟩)) (.int .u8 a))) (.pointer (some ⟨x1,((64+Int.toNat t*64)+Int.toNat a*4),none⟩)))/\Za Tryz.prog (vS (Instr.loadAt 35 (.pointer (some ⟨x1,((64+Int.toNat t*64)+Int.toNat a*4),none⟩)))) [(tb x1 42 (Qv x14))] Int (fun J=>vI J) (fun J=>R4 J/\J=YS (XL (tb x1 42 (Qv x14))) (((64+Int.toNat t*64)+Int.toNat a*4)/4)) (fun x15=>Qj 4 b8 (Xi x15 x7.1 (fun x16=>(Qg Tryz.prog (vS (Instr.indexAt 40 (pp x1 64) (.int .u8 t))) (.pointer (some ⟨x1,(64+Int.toNat t*64),none⟩)))/\(Qg Tryz.prog (vS (Instr.indexAt 39 (.pointer (some ⟨x1,(64+Int.toNat t*64),none⟩)) (.int .u8 a))) (.pointer (some ⟨x1,((64+Int.toNat t*64)+Int.toNat a*4),none⟩)))/\Xc Tryz.prog (KJ (Instr.storeAt 35 (.pointer (some ⟨x1,((64+Int.toNat t*64)+Int.toNat a*4),none⟩)) (vI x16.1))) [(tb x1 42 (Qv x14))] (List Int) (fun J=> .tuple #[]) (fun J=> [(tb x1 42 (Qv J))]) (fun J=>J=tset (Jj (XL (tb x1 42 (Qv x14)))) (((64+Int.toNat t*64)+Int.toNat a*4)/4) (Jj (vI x16.1))) (fun x17=>Za Tryz.prog (vS (Instr.loadAt 42 (pp x1 0))) [(tb x1 42 (Qv x17))] Unit (fun _=>Qv x17) (fun _=>True) (fun _=>Qj 4 b8 (Xc Tryz.prog (KJ (Instr.storeAt 42 (pp x3 0) (Qv x17))) [(tb x3 42 (Qv (List.replicate 80 0)))] Unit (fun _=> .tuple #[]) (fun _=> [(tb x3 42 (Qv x17))]) (fun _=>True) (fun _=>Qj 4 b4 ((Zr Tryz.prog 42 (tb x3 42 (Qv x17)) (pp x3 0) (Qv x17))/\Qj 4 b4 (Y5 xs t a n (Value.tuple #[Qv x17,vI x7.1,ii 0]))))))))))))))))))))))))))))))):=by kernel_rfl
set_option maxHeartbeats 2000000 in
theorem bX (xs:List Int) (t a n:Int) (r_xs:QY 80 xs) (r_n:R4 n) (wt:(Lit.int .u8 t).wf=true) (wa:(Lit.int .u8 a).wf=true):yq xs t a n (fun za zh zv zu zp=>QC Tryz.prog 25 za zh (List Int×Int×Int) zv zu zp):=by
  refine VA (c:=Qk Tryz.f25) (n:=85) (fn:=Tryz.f25) QF Tryz.func25 (by kernel_rfl) (by kernel_rfl) (by kernel_rfl) 2000 _ [.tab 2, .acc [.rd 3, .rd 3, .rd 3, .rd 3]] [] rfl rfl (Eq.mpr (Fs xs t a n) ?_)
  have wt' :=yb wt;have wa' :=yb wa
  refine QG (We 42 xs) (⟨0,trivial⟩) fun x1 h1=>fun b2=>QG (Y2 42 (List.replicate 80 0) (fun w=>by kernel_rfl)) (⟨0,trivial⟩) fun x3 h2=>fun b4=>⟨fun h3=> ?_,fun h3=> ?_⟩
  · exact Ql (congrArg Value.bool h3) ⟨rfl,rfl,⟨rfl,Qy (ZH (m:=80) 320 (fun w=>by kernel_rfl) (fun w=>by kernel_rfl) rfl x1 42 (show QY 80 xs from ‹_›).1) (⟨(),trivial⟩) fun _ _=>QG (Q5 (m:=80) 320 (fun w=>by kernel_rfl) x3 42 (show QY 80 (List.replicate 80 0) from (QE 80)).1 (show QY 80 xs from ‹_›).1 rfl) (⟨(),trivial⟩) fun _ _=>Qa 4 _ ⟨Zk (m:=80) 320 (fun w=>by kernel_rfl) (fun w=>by kernel_rfl) rfl (show QY 80 xs by first | assumption | exact QE _).1,Qa 4 _ ⟨(xs,0,1),⟨r_xs,QI,by rw [QR r_xs,Qc r_n];exact (kL (by (try simp (disch:=assumption) only [Zp] at *);omega)).symm⟩,by rw [Q3],trivial⟩⟩⟩⟩
  refine Ql (congrArg Value.bool h3) ⟨rfl,rfl,⟨fun h4=> ?_,fun h4=> ?_⟩⟩
  · exact Qy (ZH (m:=80) 320 (fun w=>by kernel_rfl) (fun w=>by kernel_rfl) rfl x1 42 (show QY 80 xs from ‹_›).1) (⟨(),trivial⟩) fun _ _=>QG (Q5 (m:=80) 320 (fun w=>by kernel_rfl) x3 42 (show QY 80 (List.replicate 80 0) from (QE 80)).1 (show QY 80 xs from ‹_›).1 rfl) (⟨(),trivial⟩) fun _ _=>Qa 4 _ ⟨Zk (m:=80) 320 (fun w=>by kernel_rfl) (fun w=>by kernel_rfl) rfl (show QY 80 xs by first | assumption | exact QE _).1,Qa 4 _ ⟨(xs,0,1),⟨r_xs,QI,by rw [QR r_xs,Qc r_n];exact (kL (by (try simp (disch:=assumption) only [Zp] at *);omega)).symm⟩,by rw [Q3],trivial⟩⟩
  have ht4:t<4:=by (try simp (disch:=assumption) only [Zp] at *);omega
  have ha16:a<16:=by (try simp (disch:=assumption) only [Zp] at *);omega
  refine Qy (ZH (m:=80) 320 (fun w=>by kernel_rfl) (fun w=>by kernel_rfl) rfl x1 42 (show QY 80 xs from ‹_›).1) (⟨(),trivial⟩) fun _ _=>JS xs t (fun x5 rh5_ h5=> ?_) (wt:=wt) (ht:=ht4)
  have hA:=h5
  refine ⟨ZQ (n:=4) (e:=37) (K:=16) (by kernel_rfl) (fun w=>by kernel_rfl) x1 0 .u8 t (by omega) (by omega),Qy (VG (m:=80) ((0+Int.toNat t*4)+3) (fun w=>by kernel_rfl) (fun w=>by kernel_rfl) x1 42 ‹_› ((0+Int.toNat t*16)+12) (by omega) (by omega)) (VC (m:=80) ‹_› _) fun x6 h6=> ?_⟩
  have rh6:=h6.1
  replace h6:=VF (m:=80) (n:=((0+Int.toNat t*4)+3)) ‹_› (by omega) h6
  have hz3:=GG (j:=4*t.toNat+3) (by omega) h6
  refine Qa 4 _ (QN (Qdt x5 x6 n ‹_› ‹_› ‹_›) (⟨_,Dx (by first | exact Qu _ | exact by assumption) (by first | exact Qu _ | exact by assumption) (by first | exact Qu _ | exact by assumption),rfl⟩) fun x7 h7=> ?_)
  obtain ⟨rh7_1,h7⟩:=h7
  try simp only [Qc (n:=x5) ‹_›,Qc (n:=x6) ‹_›,Qc (n:=n) ‹_›] at h7
  have hg:=h7
  intro b8
  refine Qa 4 _ ⟨fun h8=> ?_,fun h8=> ?_⟩
  · refine Qy (ZH (m:=80) 320 (fun w=>by kernel_rfl) (fun w=>by kernel_rfl) rfl x1 42 (show QY 80 xs from ‹_›).1) (⟨(),trivial⟩) fun _ _=>QG (Q5 (m:=80) 320 (fun w=>by kernel_rfl) x3 42 (show QY 80 (List.replicate 80 0) from (QE 80)).1 (show QY 80 xs from ‹_›).1 rfl) (⟨(),trivial⟩) fun _ _=>Qa 4 _ ⟨Zk (m:=80) 320 (fun w=>by kernel_rfl) (fun w=>by kernel_rfl) rfl (show QY 80 xs by first | assumption | exact QE _).1,Qa 4 _ ?_⟩
    have hz:=(bne_iff_ne.1 h8)
    have hc: ¬ (3<t∨15<a):=by (try simp (disch:=assumption) only [Zp] at *);omega
    exact ⟨(xs,0,x7.2),⟨r_xs,QI,by rw [QR r_xs,Qc r_n];exact (Qdf hc hA hz3 hg hz).symm⟩,by rw [Q3],trivial⟩
  refine ⟨ZQ (n:=4) (e:=37) (K:=16) (by kernel_rfl) (fun w=>by kernel_rfl) x1 0 .u8 t (by omega) (by omega),Qy (VG (m:=80) (0+Int.toNat t*4) (fun w=>by kernel_rfl) (fun w=>by kernel_rfl) x1 42 ‹_› (0+Int.toNat t*16) (by omega) (by omega)) (VC (m:=80) ‹_› _) fun x9 h9=> ?_⟩
  have rh9:=h9.1
  replace h9:=VF (m:=80) (n:=(0+Int.toNat t*4)) ‹_› (by omega) h9
  have l1:=h9
  refine Qa 4 _ (XA x9 n (fun x10 rh10_1 h10=> ?_))
  have i1:=h10
  refine ⟨ZQ (n:=4) (e:=37) (K:=16) (by kernel_rfl) (fun w=>by kernel_rfl) x1 0 .u8 t (by omega) (by omega),QG (zD (m:=80) 4 (0+Int.toNat t*4) (fun w=>by kernel_rfl) x1 42 ‹_› [x10.1] (qh ‹_›) (0+Int.toNat t*16) (by omega) rfl (by simp only [List.length_cons,List.length_nil];omega)) (⟨_,rfl⟩) fun x11 h11=> ?_⟩
  replace h11:=zG (m:=80) (n:=(0+Int.toNat t*4)) (ys:= [x10.1]) ‹_› (qh ‹_›) (by omega) h11
  have th11:QY 80 x11:=by rw [h11];exact QY.tset ‹_› (qh ‹_›) (by simp only [List.length_cons,List.length_nil];omega)
  have w1:=dD (m:=80) (j:=4*t.toNat) (by omega) (by omega) r_xs l1 i1 h11
  refine ⟨ZQ (n:=4) (e:=37) (K:=16) (by kernel_rfl) (fun w=>by kernel_rfl) x1 0 .u8 t (by omega) (by omega),Qy (VG (m:=80) ((0+Int.toNat t*4)+3) (fun w=>by kernel_rfl) (fun w=>by kernel_rfl) x1 42 ‹_› ((0+Int.toNat t*16)+12) (by omega) (by omega)) (VC (m:=80) ‹_› _) fun x12 h12=> ?_⟩
  have rh12:=h12.1
  replace h12:=VF (m:=80) (n:=((0+Int.toNat t*4)+3)) ‹_› (by omega) h12
  have l2:=h12
  refine Qa 4 _ (XA x12 x7.1 (fun x13 rh13_1 h13=> ?_))
  have i2:=h13
  refine ⟨ZQ (n:=4) (e:=37) (K:=16) (by kernel_rfl) (fun w=>by kernel_rfl) x1 0 .u8 t (by omega) (by omega),QG (zD (m:=80) 4 ((0+Int.toNat t*4)+3) (fun w=>by kernel_rfl) x1 42 ‹_› [x13.1] (qh ‹_›) ((0+Int.toNat t*16)+12) (by omega) rfl (by simp only [List.length_cons,List.length_nil];omega)) (⟨_,rfl⟩) fun x14 h14=> ?_⟩
  replace h14:=zG (m:=80) (n:=((0+Int.toNat t*4)+3)) (ys:= [x13.1]) ‹_› (qh ‹_›) (by omega) h14
  have th14:QY 80 x14:=by rw [h14];exact QY.tset ‹_› (qh ‹_›) (by simp only [List.length_cons,List.length_nil];omega)
  have w2:=dD (m:=80) (j:=4*t.toNat+3) (by omega) (by omega) ‹_› l2 i2 h14
  refine ⟨ZQ (n:=4) (e:=39) (K:=64) (by kernel_rfl) (fun w=>by kernel_rfl) x1 64 .u8 t (by omega) (by omega),ZQ (n:=16) (e:=35) (K:=4) (by kernel_rfl) (fun w=>by kernel_rfl) x1 (64+Int.toNat t*64) .u8 a (by omega) (by omega),Qy (VG (m:=80) ((16+Int.toNat t*16)+Int.toNat a*1) (fun w=>by kernel_rfl) (fun w=>by kernel_rfl) x1 42 ‹_› ((64+Int.toNat t*64)+Int.toNat a*4) (by omega) (by omega)) (VC (m:=80) ‹_› _) fun x15 h15=> ?_⟩
  have rh15:=h15.1
  replace h15:=VF (m:=80) (n:=((16+Int.toNat t*16)+Int.toNat a*1)) ‹_› (by omega) h15
  have l3:=h15
  refine Qa 4 _ (XA x15 x7.1 (fun x16 rh16_1 h16=> ?_))
  have i3:=h16
  refine ⟨ZQ (n:=4) (e:=39) (K:=64) (by kernel_rfl) (fun w=>by kernel_rfl) x1 64 .u8 t (by omega) (by omega),ZQ (n:=16) (e:=35) (K:=4) (by kernel_rfl) (fun w=>by kernel_rfl) x1 (64+Int.toNat t*64) .u8 a (by omega) (by omega),QG (zD (m:=80) 4 ((16+Int.toNat t*16)+Int.toNat a*1) (fun w=>by kernel_rfl) x1 42 ‹_› [x16.1] (qh ‹_›) ((64+Int.toNat t*64)+Int.toNat a*4) (by omega) rfl (by simp only [List.length_cons,List.length_nil];omega)) (⟨_,rfl⟩) fun x17 h17=> ?_⟩
  replace h17:=zG (m:=80) (n:=((16+Int.toNat t*16)+Int.toNat a*1)) (ys:= [x16.1]) ‹_› (qh ‹_›) (by omega) h17
  have th17:QY 80 x17:=by rw [h17];exact QY.tset ‹_› (qh ‹_›) (by simp only [List.length_cons,List.length_nil];omega)
  have w3:=dD (m:=80) (j:=16+16*t.toNat+a.toNat) (by omega) (by omega) ‹_› l3 i3 h17
  refine Qy (ZH (m:=80) 320 (fun w=>by kernel_rfl) (fun w=>by kernel_rfl) rfl x1 42 (show QY 80 x17 from ‹_›).1) (⟨(),trivial⟩) fun _ _=>Qa 4 _ (QG (Q5 (m:=80) 320 (fun w=>by kernel_rfl) x3 42 (show QY 80 (List.replicate 80 0) from (QE 80)).1 (show QY 80 x17 from ‹_›).1 rfl) (⟨(),trivial⟩) fun _ _=>Qa 4 _ ⟨Zk (m:=80) 320 (fun w=>by kernel_rfl) (fun w=>by kernel_rfl) rfl (show QY 80 x17 by first | assumption | exact QE _).1,Qa 4 _ ?_⟩)
  have hz:=(bne_eq_false_iff_eq.1 h8)
  have hc: ¬ (3<t∨15<a):=by (try simp (disch:=assumption) only [Zp] at *);omega
  exact ⟨(x17,x7.1,0),⟨by assumption,by assumption,by rw [QR r_xs,Qc r_n];exact (Qd6 hc hA hz3 hg hz w1 w2 w3).symm⟩,rfl,trivial⟩
noncomputable def FU:List Value->List Qf->ZB:=fun vs hs=>⟨List Int×Int×Int,fun J=> .tuple #[Qv J.1,vI J.2.1,ii J.2.2],fun _=>hs,fun J=>QY 80 J.1/\R4 J.2.1/\J=Xk (Jj (Qd vs 1)) (ci (Qd vs 2)) (ci (Qd vs 3)) (Qe (Qd vs 4))⟩
abbrev Xh (xs:List Int) (t a n:Int) (zv:Value) :Prop:= ∃J:List Int×Int×Int,(QY 80 J.1/\R4 J.2.1/\J=Xk (Jj (Qv xs)) t a (Qe (vI n)))/\zv= .tuple #[Qv J.1,vI J.2.1,ii J.2.2]/\True
abbrev jG (xs:List Int) (t a n:Int) (zF:SF (List Int×Int×Int)):Prop:=zF #[Qv xs, .int .u8 t, .int .u8 a,vI n] [] (fun J=> .tuple #[Qv J.1,vI J.2.1,ii J.2.2]) (fun J=> []) (fun J=>(QY 80 J.1/\R4 J.2.1/\J=Xk (Jj (Qv xs)) t a (Qe (vI n))))
set_option maxHeartbeats 4000000 in
theorem HN (xs:List Int) (t a n:Int):jG xs t a n (fun za zh zv zu zp=>QB Tryz.prog 122 none 2000 none (Qk Tryz.f26) (.reg [.specw [] [0] (zE 42), .sem [.nw 1], .specw [] [2] (fun _ _=>⟨Nat,Yg,fun b=> [tb b 42 (Qv (List.replicate 80 0))],fun _=>True⟩), .sem [.nw 3],S0] (.reg [S0, .sem [.nw 4], .sem (Zq 4 4)] (.caseP (fun s=>decide ((ci (s.fr 1))>(3:Int))) (.reg [S0, .gen [] (Sx.one (.bool true)),S0, .no, .no,S0] (.condT (.reg [.specr [0] Zl, .sem (QV 4 4), .specw [2] [2] (QX 42), .sem (Zq 4 3),S0] (.done)))) (.reg [S0, .gen [] (Sx.one (.bool false)),S0,S0,S0,S0] (.cond (.reg [.specr [0] Zl, .sem (QV 4 4), .specw [2] [2] (QX 42), .sem (Zq 4 3),S0] (.done)) (.reg [.sem (QV 4 1), .sem (QV 4 4), .eq (Bu)] (.cond (.reg [.specr [0] Zl, .sem (QV 4 4), .specw [2] [2] (QX 42), .sem (Zq 4 3),S0] (.done)) (.reg [S0,S0,S0, .eq (ZP 64), .eq (ZP 4), .specr [0] KX, .sem (QV 4 1), .callr [] JY,S0,S0,S0, .sem [.nw 5], .sem (Zq 4 5),S0] (.reg [S0,S0] (.cond (.reg [.specr [0] Zl, .sem (QV 4 4), .specw [2] [2] (QX 42), .sem (Zq 4 3),S0] (.done)) (.reg [.specr [0] Zl,S0, .callr [] JQ,S0,S0, .eq (ZP 16),S0, .specr [0] KX, .sem (QV 4 1), .callr [] pE,S0,S0,S0, .sem [.nw 6], .sem (Zq 4 6),S0] (.reg [S0,S0] (.cond (.reg [.specr [0] Zl, .sem (QV 4 4),S0, .specw [2] [2] (QX 42), .sem (Zq 4 3),S0] (.done)) (.reg [S0,S0, .eq (ZP 16),S0, .specr [0] KX, .sem (QV 4 6), .callr [] JY,S0,S0,S0, .sem [.nw 7], .sem (Zq 4 7),S0] (.reg [S0,S0] (.cond (.reg [.specr [0] Zl, .sem (QV 4 4), .specw [2] [2] (QX 42), .sem (Zq 4 3),S0] (.done)) (.reg [.sem (QV 4 7),S0,S0, .eq (ZP 16),S0, .specr [0] KX, .callr [] JY,S0,S0,S0, .sem [.nw 8], .sem (Zq 4 8),S0] (.reg [S0,S0] (.cond (.reg [.specr [0] Zl, .sem (QV 4 4), .specw [2] [2] (QX 42), .sem (Zq 4 3),S0] (.done)) (.reg [S0, .sem (QV 4 7),S0, .eq (ZP 16),S0, .specw [0] [0] (Vf 42)] (.reg [S0,S0,S0, .eq (ZP 16),S0, .specr [0] KX, .sem (QV 4 1), .callr [] JY,S0,S0,S0,S0, .eq (ZP 16),S0, .specw [0] [0] (Vf 42)] (.reg [S0,S0, .sem (QV 4 5),S0, .eq (ZP 64), .eq (ZP 4), .specw [0] [0] (Vf 42)] (.reg [.specr [0] Zl, .sem (QV 4 6), .specw [2] [2] (QX 42), .sem (Zq 4 3),S0] (.done))))))))))))))))))))))))
    (Q2 za zh) (Qd5 Tryz.prog Tryz.f26 [.tab 2, .acc [.rd 3, .rd 3, .rd 3, .rd 3]] [] (X:=List Int×Int×Int) zv zu zp))=
    (Xc Tryz.prog (vS (Instr.box 42 (Qv xs))) [] Nat (fun J=>pp J 0) (fun J=> [(tb J 42 (Qv xs))]) (fun J=>True) (fun x1=> ∀b2:Nat,Xc Tryz.prog (vS (Instr.alloc 42 true (.tuple #[]))) [] Nat (fun J=>pp J 0) (fun J=> [(tb J 42 (Qv (List.replicate 80 0)))]) (fun J=>True) (fun x3=> ∀b4:Nat,∀b5:Nat,Qj 4 b5 (((decide (t>(3:Int)))=true->gE (.bool (decide (t>(3:Int)))) (.bool true) (true= !false/\true= !false/\(true=true)/\Za Tryz.prog (vS (Instr.loadAt 42 (pp x1 0))) [(tb x1 42 (Qv xs))] Unit (fun _=>Qv xs) (fun _=>True) (fun _=>Qj 4 b5 (Xc Tryz.prog (KJ (Instr.storeAt 42 (pp x3 0) (Qv xs))) [(tb x3 42 (Qv (List.replicate 80 0)))] Unit (fun _=> .tuple #[]) (fun _=> [(tb x3 42 (Qv xs))]) (fun _=>True) (fun _=>Qj 4 b4 ((Zr Tryz.prog 42 (tb x3 42 (Qv xs)) (pp x3 0) (Qv xs))/\Qj 4 b4 (Xh xs t a n (Value.tuple #[Qv xs, .agg #[uu 0,uu 0,uu 0,uu 0],ii 1]))))))))/\((decide (t>(3:Int)))=false->gE (.bool (decide (t>(3:Int)))) (.bool false) (false=false/\false=false/\((decide (a>(15:Int)))=true->Za Tryz.prog (vS (Instr.loadAt 42 (pp x1 0))) [(tb x1 42 (Qv xs))] Unit (fun _=>Qv xs) (fun _=>True) (fun _=>Qj 4 b5 (Xc Tryz.prog (KJ (Instr.storeAt 42 (pp x3 0) (Qv xs))) [(tb x3 42 (Qv (List.replicate 80 0)))] Unit (fun _=> .tuple #[]) (fun _=> [(tb x3 42 (Qv xs))]) (fun _=>True) (fun _=>Qj 4 b4 ((Zr Tryz.prog 42 (tb x3 42 (Qv xs)) (pp x3 0) (Qv xs))/\Qj 4 b4 (Xh xs t a n (Value.tuple #[Qv xs, .agg #[uu 0,uu 0,uu 0,uu 0],ii 1])))))))/\((decide (a>(15:Int)))=false->Qj 4 b2 (Qj 4 b5 ((Qg Tryz.prog (Q0 .eql 35 (vI n) (vI 0)) (.bool (Qe (vI n)==Qe (vI 0))))/\((Qe (vI n)==Qe (vI 0))=true->Za Tryz.prog (vS (Instr.loadAt 42 (pp x1 0))) [(tb x1 42 (Qv xs))] Unit (fun _=>Qv xs) (fun _=>True) (fun _=>Qj 4 b5 (Xc Tryz.prog (KJ (Instr.storeAt 42 (pp x3 0) (Qv xs))) [(tb x3 42 (Qv (List.replicate 80 0)))] Unit (fun _=> .tuple #[]) (fun _=> [(tb x3 42 (Qv xs))]) (fun _=>True) (fun _=>Qj 4 b4 ((Zr Tryz.prog 42 (tb x3 42 (Qv xs)) (pp x3 0) (Qv xs))/\Qj 4 b4 (Xh xs t a n (Value.tuple #[Qv xs, .agg #[uu 0,uu 0,uu 0,uu 0],ii 3])))))))/\((Qe (vI n)==Qe (vI 0))=false->(Qg Tryz.prog (vS (Instr.indexAt 40 (pp x1 64) (.int .u8 t))) (.pointer (some ⟨x1,(64+Int.toNat t*64),none⟩)))/\(Qg Tryz.prog (vS (Instr.indexAt 39 (.pointer (some ⟨x1,(64+Int.toNat t*64),none⟩)) (.int .u8 a))) (.pointer (some ⟨x1,((64+Int.toNat t*64)+Int.toNat a*4),none⟩)))/\Za Tryz.prog (vS (Instr.loadAt 35 (.pointer (some ⟨x1,((64+Int.toNat t*64)+Int.toNat a*4),none⟩)))) [(tb x1 42 (Qv xs))] Int (fun J=>vI J) (fun J=>R4 J/\J=YS (XL (tb x1 42 (Qv xs))) (((64+Int.toNat t*64)+Int.toNat a*4)/4)) (fun x6=>Qj 4 b2 (Jk x6 n (fun x7=> ∀b8:Nat,Qj 4 b8 (((!x7.2)=true->Za Tryz.prog (vS (Instr.loadAt 42 (pp x1 0))) [(tb x1 42 (Qv xs))] Unit (fun _=>Qv xs) (fun _=>True) (fun _=>Qj 4 b5 (Xc Tryz.prog (KJ (Instr.storeAt 42 (pp x3 0) (Qv xs))) [(tb x3 42 (Qv (List.replicate 80 0)))] Unit (fun _=> .tuple #[]) (fun _=> [(tb x3 42 (Qv xs))]) (fun _=>True) (fun _=>Qj 4 b4 ((Zr Tryz.prog 42 (tb x3 42 (Qv xs)) (pp x3 0) (Qv xs))/\Qj 4 b4 (Xh xs t a n (Value.tuple #[Qv xs, .agg #[uu 0,uu 0,uu 0,uu 0],ii 8])))))))/\((!x7.2)=false->Za Tryz.prog (vS (Instr.loadAt 42 (pp x1 0))) [(tb x1 42 (Qv xs))] Unit (fun _=>Qv xs) (fun _=>True) (fun _=>Jg xs t (fun x9=>(Qg Tryz.prog (vS (Instr.indexAt 38 (pp x1 0) (.int .u8 t))) (.pointer (some ⟨x1,(0+Int.toNat t*16),none⟩)))/\Za Tryz.prog (vS (Instr.loadAt 35 (.pointer (some ⟨x1,((0+Int.toNat t*16)+12),none⟩)))) [(tb x1 42 (Qv xs))] Int (fun J=>vI J) (fun J=>R4 J/\J=YS (XL (tb x1 42 (Qv xs))) (((0+Int.toNat t*16)+12)/4)) (fun x10=>Qj 4 b2 (Zh Tryz.prog 55 #[vI x9,vI x10,vI n] [] (Int×Int) (fun J=> .tuple #[vI J.1,ii J.2]) (fun J=>R4 J.1/\J=XJ (Qe (vI x9)) (Qe (vI x10)) (Qe (vI n))) (fun x11=> ∀b12:Nat,Qj 4 b12 (((x11.2 !=(0:Int))=true->Za Tryz.prog (vS (Instr.loadAt 42 (pp x1 0))) [(tb x1 42 (Qv xs))] Unit (fun _=>Qv xs) (fun _=>True) (fun _=>Qj 4 b5 (Xc Tryz.prog (KJ (Instr.storeAt 42 (pp x3 0) (Qv xs))) [(tb x3 42 (Qv (List.replicate 80 0)))] Unit (fun _=> .tuple #[]) (fun _=> [(tb x3 42 (Qv xs))]) (fun _=>True) (fun _=>Qj 4 b4 ((Zr Tryz.prog 42 (tb x3 42 (Qv xs)) (pp x3 0) (Qv xs))/\Qj 4 b4 (Xh xs t a n (Value.tuple #[Qv xs, .agg #[uu 0,uu 0,uu 0,uu 0],ii x11.2])))))))/\((x11.2 !=(0:Int))=false->(Qg Tryz.prog (vS (Instr.indexAt 38 (pp x1 0) (.int .u8 t))) (.pointer (some ⟨x1,(0+Int.toNat t*16),none⟩)))/\Za Tryz.prog (vS (Instr.loadAt 35 (.pointer (some ⟨x1,(0+Int.toNat t*16),none⟩)))) [(tb x1 42 (Qv xs))] Int (fun J=>vI J) (fun J=>R4 J/\J=YS (XL (tb x1 42 (Qv xs))) ((0+Int.toNat t*16)/4)) (fun x13=>Qj 4 b12 (Jk x13 x11.1 (fun x14=> ∀b15:Nat,Qj 4 b15 (((!x14.2)=true->Za Tryz.prog (vS (Instr.loadAt 42 (pp x1 0))) [(tb x1 42 (Qv xs))] Unit (fun _=>Qv xs) (fun _=>True) (fun _=>Qj 4 b5 (Xc Tryz.prog (KJ (Instr.storeAt 42 (pp x3 0) (Qv xs))) [(tb x3 42 (Qv (List.replicate 80 0)))] Unit (fun _=> .tuple #[]) (fun _=> [(tb x3 42 (Qv xs))]) (fun _=>True) (fun _=>Qj 4 b4 ((Zr Tryz.prog 42 (tb x3 42 (Qv xs)) (pp x3 0) (Qv xs))/\Qj 4 b4 (Xh xs t a n (Value.tuple #[Qv xs, .agg #[uu 0,uu 0,uu 0,uu 0],ii 8])))))))/\((!x14.2)=false->Qj 4 b15 ((Qg Tryz.prog (vS (Instr.indexAt 38 (pp x1 0) (.int .u8 t))) (.pointer (some ⟨x1,(0+Int.toNat t*16),none⟩)))/\Za Tryz.prog (vS (Instr.loadAt 35 (.pointer (some ⟨x1,((0+Int.toNat t*16)+8),none⟩)))) [(tb x1 42 (Qv xs))] Int (fun J=>vI J) (fun J=>R4 J/\J=YS (XL (tb x1 42 (Qv xs))) (((0+Int.toNat t*16)+8)/4)) (fun x16=>Jk x14.1 x16 (fun x17=> ∀b18:Nat,Qj 4 b18 (((!x17.2)=true->Za Tryz.prog (vS (Instr.loadAt 42 (pp x1 0))) [(tb x1 42 (Qv xs))] Unit (fun _=>Qv xs) (fun _=>True) (fun _=>Qj 4 b5 (Xc Tryz.prog (KJ (Instr.storeAt 42 (pp x3 0) (Qv xs))) [(tb x3 42 (Qv (List.replicate 80 0)))] Unit (fun _=> .tuple #[]) (fun _=> [(tb x3 42 (Qv xs))]) (fun _=>True) (fun _=>Qj 4 b4 ((Zr Tryz.prog 42 (tb x3 42 (Qv xs)) (pp x3 0) (Qv xs))/\Qj 4 b4 (Xh xs t a n (Value.tuple #[Qv xs, .agg #[uu 0,uu 0,uu 0,uu 0],ii 11])))))))/\((!x17.2)=false->Qj 4 b15 ((Qg Tryz.prog (vS (Instr.indexAt 38 (pp x1 0) (.int .u8 t))) (.pointer (some ⟨x1,(0+Int.toNat t*16),none⟩)))/\Xc Tryz.prog (KJ (Instr.storeAt 35 (.pointer (some ⟨x1,(0+Int.toNat t*16),none⟩)) (vI x14.1))) [(tb x1 42 (Qv xs))] (List Int) (fun J=> .tuple #[]) (fun J=> [(tb x1 42 (Qv J))]) (fun J=>J=tset (Jj (XL (tb x1 42 (Qv xs)))) ((0+Int.toNat t*16)/4) (Jj (vI x14.1))) (fun x19=>(Qg Tryz.prog (vS (Instr.indexAt 38 (pp x1 0) (.int .u8 t))) (.pointer (some ⟨x1,(0+Int.toNat t*16),none⟩)))/\Za Tryz.prog (vS (Instr.loadAt 35 (.pointer (some ⟨x1,((0+Int.toNat t*16)+12),none⟩)))) [(tb x1 42 (Qv x19))] Int (fun J=>vI J) (fun J=>R4 J/\J=YS (XL (tb x1 42 (Qv x19))) (((0+Int.toNat t*16)+12)/4)) (fun x20=>Qj 4 b2 (Jk x20 n (fun x21=>(Qg Tryz.prog (vS (Instr.indexAt 38 (pp x1 0) (.int .u8 t))) (.pointer (some ⟨x1,(0+Int.toNat t*16),none⟩)))/\Xc Tryz.prog (KJ (Instr.storeAt 35 (.pointer (some ⟨x1,((0+Int.toNat t*16)+12),none⟩)) (vI x21.1))) [(tb x1 42 (Qv x19))] (List Int) (fun J=> .tuple #[]) (fun J=> [(tb x1 42 (Qv J))]) (fun J=>J=tset (Jj (XL (tb x1 42 (Qv x19)))) (((0+Int.toNat t*16)+12)/4) (Jj (vI x21.1))) (fun x22=>Qj 4 b8 ((Qg Tryz.prog (vS (Instr.indexAt 40 (pp x1 64) (.int .u8 t))) (.pointer (some ⟨x1,(64+Int.toNat t*64),none⟩)))/\(Qg Tryz.prog (vS (Instr.indexAt 39 (.pointer (some ⟨x1,(64+Int.toNat t*64),none⟩)) (.int .u8 a))) (.pointer (some ⟨x1,((64+Int.toNat t*64)+Int.toNat a*4),none⟩)))/\Xc Tryz.prog (KJ (Instr.storeAt 35 (.pointer (some ⟨x1,((64+Int.toNat t*64)+Int.toNat a*4),none⟩)) (vI x7.1))) [(tb x1 42 (Qv x22))] (List Int) (fun J=> .tuple #[]) (fun J=> [(tb x1 42 (Qv J))]) (fun J=>J=tset (Jj (XL (tb x1 42 (Qv x22)))) (((64+Int.toNat t*64)+Int.toNat a*4)/4) (Jj (vI x7.1))) (fun x23=>Za Tryz.prog (vS (Instr.loadAt 42 (pp x1 0))) [(tb x1 42 (Qv x23))] Unit (fun _=>Qv x23) (fun _=>True) (fun _=>Qj 4 b12 (Xc Tryz.prog (KJ (Instr.storeAt 42 (pp x3 0) (Qv x23))) [(tb x3 42 (Qv (List.replicate 80 0)))] Unit (fun _=> .tuple #[]) (fun _=> [(tb x3 42 (Qv x23))]) (fun _=>True) (fun _=>Qj 4 b4 ((Zr Tryz.prog 42 (tb x3 42 (Qv x23)) (pp x3 0) (Qv x23))/\Qj 4 b4 (Xh xs t a n (Value.tuple #[Qv x23,vI x11.1,ii 0])))))))))))))))))))))))))))))))))))))))))))))):=by kernel_rfl
set_option maxHeartbeats 4000000 in
theorem gH (xs:List Int) (t a n:Int) (r_xs:QY 80 xs) (r_n:R4 n) (wt:(Lit.int .u8 t).wf=true) (wa:(Lit.int .u8 a).wf=true):jG xs t a n (fun za zh zv zu zp=>QC Tryz.prog 26 za zh (List Int×Int×Int) zv zu zp):=by
  refine VA (c:=Qk Tryz.f26) (n:=122) (fn:=Tryz.f26) QF Tryz.func26 (by kernel_rfl) (by kernel_rfl) (by kernel_rfl) 2000 _ [.tab 2, .acc [.rd 3, .rd 3, .rd 3, .rd 3]] [] rfl rfl (Eq.mpr (HN xs t a n) ?_)
  have wt' :=yb wt;have wa' :=yb wa
  refine QG (We 42 xs) (⟨0,trivial⟩) fun x1 h1=>fun b2=>QG (Y2 42 (List.replicate 80 0) (fun w=>by kernel_rfl)) (⟨0,trivial⟩) fun x3 h2=>fun b4=>fun b5=>Qa 4 _ ⟨fun h3=> ?_,fun h3=> ?_⟩
  · exact Ql (congrArg Value.bool h3) ⟨rfl,rfl,⟨rfl,Qy (ZH (m:=80) 320 (fun w=>by kernel_rfl) (fun w=>by kernel_rfl) rfl x1 42 (show QY 80 xs from ‹_›).1) (⟨(),trivial⟩) fun _ _=>Qa 4 _ (QG (Q5 (m:=80) 320 (fun w=>by kernel_rfl) x3 42 (show QY 80 (List.replicate 80 0) from (QE 80)).1 (show QY 80 xs from ‹_›).1 rfl) (⟨(),trivial⟩) fun _ _=>Qa 4 _ ⟨Zk (m:=80) 320 (fun w=>by kernel_rfl) (fun w=>by kernel_rfl) rfl (show QY 80 xs by first | assumption | exact QE _).1,Qa 4 _ ⟨(xs,0,1),⟨r_xs,QI,by rw [QR r_xs,Qc r_n];exact (xT (by (try simp (disch:=assumption) only [Zp] at *);omega)).symm⟩,by rw [Q3],trivial⟩⟩)⟩⟩
  refine Ql (congrArg Value.bool h3) ⟨rfl,rfl,⟨fun h4=> ?_,fun h4=> ?_⟩⟩
  · exact Qy (ZH (m:=80) 320 (fun w=>by kernel_rfl) (fun w=>by kernel_rfl) rfl x1 42 (show QY 80 xs from ‹_›).1) (⟨(),trivial⟩) fun _ _=>Qa 4 _ (QG (Q5 (m:=80) 320 (fun w=>by kernel_rfl) x3 42 (show QY 80 (List.replicate 80 0) from (QE 80)).1 (show QY 80 xs from ‹_›).1 rfl) (⟨(),trivial⟩) fun _ _=>Qa 4 _ ⟨Zk (m:=80) 320 (fun w=>by kernel_rfl) (fun w=>by kernel_rfl) rfl (show QY 80 xs by first | assumption | exact QE _).1,Qa 4 _ ⟨(xs,0,1),⟨r_xs,QI,by rw [QR r_xs,Qc r_n];exact (xT (by (try simp (disch:=assumption) only [Zp] at *);omega)).symm⟩,by rw [Q3],trivial⟩⟩)
  refine Qa 4 _ (Qa 4 _ ⟨JD n 0,⟨fun h5=> ?_,fun h5=> ?_⟩⟩)
  · refine Qy (ZH (m:=80) 320 (fun w=>by kernel_rfl) (fun w=>by kernel_rfl) rfl x1 42 (show QY 80 xs from ‹_›).1) (⟨(),trivial⟩) fun _ _=>Qa 4 _ (QG (Q5 (m:=80) 320 (fun w=>by kernel_rfl) x3 42 (show QY 80 (List.replicate 80 0) from (QE 80)).1 (show QY 80 xs from ‹_›).1 rfl) (⟨(),trivial⟩) fun _ _=>Qa 4 _ ⟨Zk (m:=80) 320 (fun w=>by kernel_rfl) (fun w=>by kernel_rfl) rfl (show QY 80 xs by first | assumption | exact QE _).1,Qa 4 _ ?_⟩)
    have hc: ¬ (3<t∨15<a):=by (try simp (disch:=assumption) only [Zp] at *);omega
    have hn0:n=0:=by (try simp (disch:=assumption) only [Zp] at *);omega
    exact ⟨(xs,0,3),⟨r_xs,QI,by rw [QR r_xs,Qc r_n];exact (pg hc hn0).symm⟩,by rw [Q3],trivial⟩
  have ht4:t<4:=by (try simp (disch:=assumption) only [Zp] at *);omega
  have ha16:a<16:=by (try simp (disch:=assumption) only [Zp] at *);omega
  refine ⟨ZQ (n:=4) (e:=39) (K:=64) (by kernel_rfl) (fun w=>by kernel_rfl) x1 64 .u8 t (by omega) (by omega),ZQ (n:=16) (e:=35) (K:=4) (by kernel_rfl) (fun w=>by kernel_rfl) x1 (64+Int.toNat t*64) .u8 a (by omega) (by omega),Qy (VG (m:=80) ((16+Int.toNat t*16)+Int.toNat a*1) (fun w=>by kernel_rfl) (fun w=>by kernel_rfl) x1 42 ‹_› ((64+Int.toNat t*64)+Int.toNat a*4) (by omega) (by omega)) (VC (m:=80) ‹_› _) fun x6 h6=> ?_⟩
  have rh6:=h6.1
  replace h6:=VF (m:=80) (n:=((16+Int.toNat t*16)+Int.toNat a*1)) ‹_› (by omega) h6
  have hb_:=GG (j:=16+16*t.toNat+a.toNat) (by omega) h6
  refine Qa 4 _ (J0 x6 n (fun x7 rh7_1 h7=> ?_))
  have hx:=h7
  intro b8
  refine Qa 4 _ ⟨fun h8=> ?_,fun h8=> ?_⟩
  · refine Qy (ZH (m:=80) 320 (fun w=>by kernel_rfl) (fun w=>by kernel_rfl) rfl x1 42 (show QY 80 xs from ‹_›).1) (⟨(),trivial⟩) fun _ _=>Qa 4 _ (QG (Q5 (m:=80) 320 (fun w=>by kernel_rfl) x3 42 (show QY 80 (List.replicate 80 0) from (QE 80)).1 (show QY 80 xs from ‹_›).1 rfl) (⟨(),trivial⟩) fun _ _=>Qa 4 _ ⟨Zk (m:=80) 320 (fun w=>by kernel_rfl) (fun w=>by kernel_rfl) rfl (show QY 80 xs by first | assumption | exact QE _).1,Qa 4 _ ?_⟩)
    have hc: ¬ (3<t∨15<a):=by (try simp (disch:=assumption) only [Zp] at *);omega
    have hn0: ¬n=0:=by (try simp (disch:=assumption) only [Zp] at *);omega
    exact ⟨(xs,0,8),⟨r_xs,QI,by rw [QR r_xs,Qc r_n];exact (bO hc hn0 hb_ (B4 hx (jz h8))).symm⟩,by rw [Q3],trivial⟩
  refine Qy (ZH (m:=80) 320 (fun w=>by kernel_rfl) (fun w=>by kernel_rfl) rfl x1 42 (show QY 80 xs from ‹_›).1) (⟨(),trivial⟩) fun _ _=>JS xs t (fun x9 rh9_ h9=> ?_) (wt:=wt) (ht:=ht4)
  have hA:=h9
  refine ⟨ZQ (n:=4) (e:=37) (K:=16) (by kernel_rfl) (fun w=>by kernel_rfl) x1 0 .u8 t (by omega) (by omega),Qy (VG (m:=80) ((0+Int.toNat t*4)+3) (fun w=>by kernel_rfl) (fun w=>by kernel_rfl) x1 42 ‹_› ((0+Int.toNat t*16)+12) (by omega) (by omega)) (VC (m:=80) ‹_› _) fun x10 h10=> ?_⟩
  have rh10:=h10.1
  replace h10:=VF (m:=80) (n:=((0+Int.toNat t*4)+3)) ‹_› (by omega) h10
  have hz3:=GG (j:=4*t.toNat+3) (by omega) h10
  refine Qa 4 _ (QN (QbO x9 x10 n ‹_› ‹_› ‹_›) (⟨_,xf (by first | exact Qu _ | exact by assumption) (by first | exact Qu _ | exact by assumption) (by first | exact Qu _ | exact by assumption),rfl⟩) fun x11 h11=> ?_)
  obtain ⟨rh11_1,h11⟩:=h11
  try simp only [Qc (n:=x9) ‹_›,Qc (n:=x10) ‹_›,Qc (n:=n) ‹_›] at h11
  have hg:=h11
  intro b12
  refine Qa 4 _ ⟨fun h12=> ?_,fun h12=> ?_⟩
  · refine Qy (ZH (m:=80) 320 (fun w=>by kernel_rfl) (fun w=>by kernel_rfl) rfl x1 42 (show QY 80 xs from ‹_›).1) (⟨(),trivial⟩) fun _ _=>Qa 4 _ (QG (Q5 (m:=80) 320 (fun w=>by kernel_rfl) x3 42 (show QY 80 (List.replicate 80 0) from (QE 80)).1 (show QY 80 xs from ‹_›).1 rfl) (⟨(),trivial⟩) fun _ _=>Qa 4 _ ⟨Zk (m:=80) 320 (fun w=>by kernel_rfl) (fun w=>by kernel_rfl) rfl (show QY 80 xs by first | assumption | exact QE _).1,Qa 4 _ ?_⟩)
    have hc: ¬ (3<t∨15<a):=by (try simp (disch:=assumption) only [Zp] at *);omega
    have hn0: ¬n=0:=by (try simp (disch:=assumption) only [Zp] at *);omega
    obtain ⟨n1,n2⟩:=Vt hx (K4 h8)
    have hg' :=W5 hA hz3 hg
    have hz:=(bne_iff_ne.1 h12)
    exact ⟨(xs,0,x11.2),⟨r_xs,QI,by rw [QR r_xs,Qc r_n];exact (Qcj hc hn0 hb_ n1 hg' hz).symm⟩,by rw [Q3],trivial⟩
  refine ⟨ZQ (n:=4) (e:=37) (K:=16) (by kernel_rfl) (fun w=>by kernel_rfl) x1 0 .u8 t (by omega) (by omega),Qy (VG (m:=80) (0+Int.toNat t*4) (fun w=>by kernel_rfl) (fun w=>by kernel_rfl) x1 42 ‹_› (0+Int.toNat t*16) (by omega) (by omega)) (VC (m:=80) ‹_› _) fun x13 h13=> ?_⟩
  have rh13:=h13.1
  replace h13:=VF (m:=80) (n:=(0+Int.toNat t*4)) ‹_› (by omega) h13
  have hc0:=GG (j:=4*t.toNat) (by omega) h13
  refine Qa 4 _ (J0 x13 x11.1 (fun x14 rh14_1 h14=> ?_))
  have hy:=h14
  intro b15
  refine Qa 4 _ ⟨fun h15=> ?_,fun h15=> ?_⟩
  · refine Qy (ZH (m:=80) 320 (fun w=>by kernel_rfl) (fun w=>by kernel_rfl) rfl x1 42 (show QY 80 xs from ‹_›).1) (⟨(),trivial⟩) fun _ _=>Qa 4 _ (QG (Q5 (m:=80) 320 (fun w=>by kernel_rfl) x3 42 (show QY 80 (List.replicate 80 0) from (QE 80)).1 (show QY 80 xs from ‹_›).1 rfl) (⟨(),trivial⟩) fun _ _=>Qa 4 _ ⟨Zk (m:=80) 320 (fun w=>by kernel_rfl) (fun w=>by kernel_rfl) rfl (show QY 80 xs by first | assumption | exact QE _).1,Qa 4 _ ?_⟩)
    have hc: ¬ (3<t∨15<a):=by (try simp (disch:=assumption) only [Zp] at *);omega
    have hn0: ¬n=0:=by (try simp (disch:=assumption) only [Zp] at *);omega
    obtain ⟨n1,n2⟩:=Vt hx (K4 h8)
    have hg' :=W5 hA hz3 hg
    have hz:=(bne_eq_false_iff_eq.1 h12)
    exact ⟨(xs,0,8),⟨r_xs,QI,by rw [QR r_xs,Qc r_n];exact (p5 hc hn0 hb_ n1 hg' hz hc0 (B4 hy (jz h15))).symm⟩,by rw [Q3],trivial⟩
  refine Qa 4 _ ⟨ZQ (n:=4) (e:=37) (K:=16) (by kernel_rfl) (fun w=>by kernel_rfl) x1 0 .u8 t (by omega) (by omega),Qy (VG (m:=80) ((0+Int.toNat t*4)+2) (fun w=>by kernel_rfl) (fun w=>by kernel_rfl) x1 42 ‹_› ((0+Int.toNat t*16)+8) (by omega) (by omega)) (VC (m:=80) ‹_› _) fun x16 h16=> ?_⟩
  have rh16:=h16.1
  replace h16:=VF (m:=80) (n:=((0+Int.toNat t*4)+2)) ‹_› (by omega) h16
  have hc2:=GG (j:=4*t.toNat+2) (by omega) h16
  refine J0 x14.1 x16 (fun x17 rh17_1 h17=> ?_)
  have hw:=h17
  intro b18
  refine Qa 4 _ ⟨fun h18=> ?_,fun h18=> ?_⟩
  · refine Qy (ZH (m:=80) 320 (fun w=>by kernel_rfl) (fun w=>by kernel_rfl) rfl x1 42 (show QY 80 xs from ‹_›).1) (⟨(),trivial⟩) fun _ _=>Qa 4 _ (QG (Q5 (m:=80) 320 (fun w=>by kernel_rfl) x3 42 (show QY 80 (List.replicate 80 0) from (QE 80)).1 (show QY 80 xs from ‹_›).1 rfl) (⟨(),trivial⟩) fun _ _=>Qa 4 _ ⟨Zk (m:=80) 320 (fun w=>by kernel_rfl) (fun w=>by kernel_rfl) rfl (show QY 80 xs by first | assumption | exact QE _).1,Qa 4 _ ?_⟩)
    have hc: ¬ (3<t∨15<a):=by (try simp (disch:=assumption) only [Zp] at *);omega
    have hn0: ¬n=0:=by (try simp (disch:=assumption) only [Zp] at *);omega
    obtain ⟨n1,n2⟩:=Vt hx (K4 h8)
    have hg' :=W5 hA hz3 hg
    have hz:=(bne_eq_false_iff_eq.1 h12)
    obtain ⟨n3,n4⟩:=Vt hy (K4 h15)
    exact ⟨(xs,0,11),⟨r_xs,QI,by rw [QR r_xs,Qc r_n];exact (dG hc hn0 hb_ n1 hg' hz hc0 n3 hc2 (by rw [←n4];exact B4 hw (jz h18))).symm⟩,by rw [Q3],trivial⟩
  refine Qa 4 _ ⟨ZQ (n:=4) (e:=37) (K:=16) (by kernel_rfl) (fun w=>by kernel_rfl) x1 0 .u8 t (by omega) (by omega),QG (zD (m:=80) 4 (0+Int.toNat t*4) (fun w=>by kernel_rfl) x1 42 ‹_› [x14.1] (qh ‹_›) (0+Int.toNat t*16) (by omega) rfl (by simp only [List.length_cons,List.length_nil];omega)) (⟨_,rfl⟩) fun x19 h19=> ?_⟩
  replace h19:=zG (m:=80) (n:=(0+Int.toNat t*4)) (ys:= [x14.1]) ‹_› (qh ‹_›) (by omega) h19
  have th19:QY 80 x19:=by rw [h19];exact QY.tset ‹_› (qh ‹_›) (by simp only [List.length_cons,List.length_nil];omega)
  have w1:=Qew (m:=80) (j:=4*t.toNat) (by omega) (by omega) r_xs h19
  refine ⟨ZQ (n:=4) (e:=37) (K:=16) (by kernel_rfl) (fun w=>by kernel_rfl) x1 0 .u8 t (by omega) (by omega),Qy (VG (m:=80) ((0+Int.toNat t*4)+3) (fun w=>by kernel_rfl) (fun w=>by kernel_rfl) x1 42 ‹_› ((0+Int.toNat t*16)+12) (by omega) (by omega)) (VC (m:=80) ‹_› _) fun x20 h20=> ?_⟩
  have rh20:=h20.1
  replace h20:=VF (m:=80) (n:=((0+Int.toNat t*4)+3)) ‹_› (by omega) h20
  have l2:=h20
  refine Qa 4 _ (J0 x20 n (fun x21 rh21_1 h21=> ?_))
  have i2:=h21
  refine ⟨ZQ (n:=4) (e:=37) (K:=16) (by kernel_rfl) (fun w=>by kernel_rfl) x1 0 .u8 t (by omega) (by omega),QG (zD (m:=80) 4 ((0+Int.toNat t*4)+3) (fun w=>by kernel_rfl) x1 42 ‹_› [x21.1] (qh ‹_›) ((0+Int.toNat t*16)+12) (by omega) rfl (by simp only [List.length_cons,List.length_nil];omega)) (⟨_,rfl⟩) fun x22 h22=> ?_⟩
  replace h22:=zG (m:=80) (n:=((0+Int.toNat t*4)+3)) (ys:= [x21.1]) ‹_› (qh ‹_›) (by omega) h22
  have th22:QY 80 x22:=by rw [h22];exact QY.tset ‹_› (qh ‹_›) (by simp only [List.length_cons,List.length_nil];omega)
  have w2:=Qgv (m:=80) (j:=4*t.toNat+3) (by omega) (by omega) ‹_› l2 i2 h22
  refine Qa 4 _ ⟨ZQ (n:=4) (e:=39) (K:=64) (by kernel_rfl) (fun w=>by kernel_rfl) x1 64 .u8 t (by omega) (by omega),ZQ (n:=16) (e:=35) (K:=4) (by kernel_rfl) (fun w=>by kernel_rfl) x1 (64+Int.toNat t*64) .u8 a (by omega) (by omega),QG (zD (m:=80) 4 ((16+Int.toNat t*16)+Int.toNat a*1) (fun w=>by kernel_rfl) x1 42 ‹_› [x7.1] (qh ‹_›) ((64+Int.toNat t*64)+Int.toNat a*4) (by omega) rfl (by simp only [List.length_cons,List.length_nil];omega)) (⟨_,rfl⟩) fun x23 h23=> ?_⟩
  replace h23:=zG (m:=80) (n:=((16+Int.toNat t*16)+Int.toNat a*1)) (ys:= [x7.1]) ‹_› (qh ‹_›) (by omega) h23
  have th23:QY 80 x23:=by rw [h23];exact QY.tset ‹_› (qh ‹_›) (by simp only [List.length_cons,List.length_nil];omega)
  have w3:=Qew (m:=80) (j:=16+16*t.toNat+a.toNat) (by omega) (by omega) ‹_› h23
  refine Qy (ZH (m:=80) 320 (fun w=>by kernel_rfl) (fun w=>by kernel_rfl) rfl x1 42 (show QY 80 x23 from ‹_›).1) (⟨(),trivial⟩) fun _ _=>Qa 4 _ (QG (Q5 (m:=80) 320 (fun w=>by kernel_rfl) x3 42 (show QY 80 (List.replicate 80 0) from (QE 80)).1 (show QY 80 x23 from ‹_›).1 rfl) (⟨(),trivial⟩) fun _ _=>Qa 4 _ ⟨Zk (m:=80) 320 (fun w=>by kernel_rfl) (fun w=>by kernel_rfl) rfl (show QY 80 x23 by first | assumption | exact QE _).1,Qa 4 _ ?_⟩)
  unfold Xh
  have hc: ¬ (3<t∨15<a):=by (try simp (disch:=assumption) only [Zp] at *);omega
  have hn0: ¬n=0:=by (try simp (disch:=assumption) only [Zp] at *);omega
  obtain ⟨n1,n2⟩:=Vt hx (K4 h8)
  have hg' :=W5 hA hz3 hg
  have hz:=(bne_eq_false_iff_eq.1 h12)
  obtain ⟨n3,n4⟩:=Vt hy (K4 h15)
  obtain ⟨n5,n6⟩:=Vt hw (K4 h18)
  rw [n4] at n5
  exact ⟨(x23,x11.1,0),⟨by assumption,by assumption,by rw [QR r_xs,Qc r_n];exact (Qcb hc hn0 hb_ n1 hg' hz hc0 n3 hc2 n5 n4 n2 w1 w2 w3).symm⟩,rfl,trivial⟩
noncomputable def GL:List Value->List Qf->ZB:=fun vs hs=>⟨List Int×Int,fun J=> .tuple #[Qv J.1,ii J.2],fun _=>hs,fun J=>QY 80 J.1/\J=qa (Jj (Qd vs 1)) (ci (Qd vs 2)) (ci (Qd vs 3)) (Qe (Qd vs 4))⟩
abbrev ZM (xs:List Int) (k t n:Int) (zv:Value) :Prop:= ∃J:List Int×Int,(QY 80 J.1/\J=qa (Jj (Qv xs)) k t (Qe (vI n)))/\zv= .tuple #[Qv J.1,ii J.2]/\True
abbrev qH (xs:List Int) (k t n:Int) (zF:SF (List Int×Int)):Prop:=zF #[Qv xs,ii k, .int .u8 t,vI n] [] (fun J=> .tuple #[Qv J.1,ii J.2]) (fun J=> []) (fun J=>(QY 80 J.1/\J=qa (Jj (Qv xs)) k t (Qe (vI n))))
set_option maxHeartbeats 4000000 in
theorem Wn (xs:List Int) (k t n:Int):qH xs k t n (fun za zh zv zu zp=>QB Tryz.prog 102 none 2000 none (Qk Tryz.f28) (.reg [.specw [] [0] (zE 42), .sem [.nw 1], .specw [] [2] (fun _ _=>⟨Nat,Yg,fun b=> [tb b 42 (Qv (List.replicate 80 0))],fun _=>True⟩),S0] (.reg [S0,S0] (.cond (.reg [.specr [0] Zl, .specw [2] [2] (QX 42),S0] (.done)) (.reg [S0,S0, .eq (ZP 16), .specr [0] vu, .sem [.nw 3], .sem (Zq 16 3)] (.reg [S0] (.reg [S0] (.reg [S0] (.reg [S0,S0] (.cond (.reg [S0] (.reg [.specr [0] Zl,S0, .callr [] JQ, .sem (QV 4 1), .callr [] Xy,S0,S0,S0,S0] (.reg [S0, .sem (QV 4 3), .sem (QV 4 1), .callr [] Xy,S0,S0,S0,S0, .sem (Zq 4 3)] (.reg [S0,S0] (.cond (.reg [.specr [0] Zl,S0, .specw [2] [2] (QX 42),S0] (.done)) (.reg [S0, .sem (QV 16 3),S0, .eq (ZP 16), .specw [0] [0] (Vf 42)] (.reg [.specr [0] Zl, .specw [2] [2] (QX 42),S0] (.done)))))))) (.reg [S0,S0] (.cond (.reg [S0] (.reg [S0, .sem (QV 4 3), .sem (QV 4 1), .callr [] Xy,S0,S0,S0,S0, .sem (Zq 4 3),S0] (.reg [S0,S0] (.cond (.reg [.specr [0] Zl,S0, .specw [2] [2] (QX 42),S0] (.done)) (.reg [S0, .sem (QV 16 3),S0, .eq (ZP 16), .specw [0] [0] (Vf 42)] (.reg [.specr [0] Zl, .specw [2] [2] (QX 42),S0] (.done))))))) (.reg [S0,S0] (.cond (.reg [S0, .sem (QV 4 3), .sem (QV 4 1), .callr [] JY,S0,S0,S0,S0, .sem (Zq 4 3),S0] (.reg [S0,S0] (.cond (.reg [.specr [0] Zl,S0, .specw [2] [2] (QX 42),S0] (.done)) (.reg [S0, .sem (QV 16 3),S0, .eq (ZP 16), .specw [0] [0] (Vf 42)] (.reg [.specr [0] Zl, .specw [2] [2] (QX 42),S0] (.done)))))) (.reg [S0,S0] (.cond (.reg [S0, .sem (QV 4 3), .sem (QV 4 1), .callr [] JY,S0,S0,S0,S0, .sem (Zq 4 3),S0] (.reg [S0, .sem (QV 4 3), .sem (QV 4 1), .callr [] Xy,S0,S0,S0,S0, .sem (Zq 4 3)] (.reg [S0,S0] (.cond (.reg [.specr [0] Zl,S0, .specw [2] [2] (QX 42),S0] (.done)) (.reg [S0, .sem (QV 16 3),S0, .eq (ZP 16), .specw [0] [0] (Vf 42)] (.reg [.specr [0] Zl, .specw [2] [2] (QX 42),S0] (.done))))))) (.reg [S0, .sem (QV 4 3), .sem (QV 4 1), .callr [] JY,S0,S0,S0,S0, .sem (Zq 4 3),S0] (.reg [S0, .sem (QV 4 3), .sem (QV 4 1), .callr [] Xy,S0,S0,S0,S0, .sem (Zq 4 3)] (.reg [S0,S0] (.cond (.reg [.specr [0] Zl,S0, .specw [2] [2] (QX 42),S0] (.done)) (.reg [S0, .sem (QV 16 3),S0, .eq (ZP 16), .specw [0] [0] (Vf 42)] (.reg [.specr [0] Zl, .specw [2] [2] (QX 42),S0] (.done))))))))))))))))))))))
    (Q2 za zh) (Qd5 Tryz.prog Tryz.f28 [.tab 2] [] (X:=List Int×Int) zv zu zp))=
    (Xc Tryz.prog (vS (Instr.box 42 (Qv xs))) [] Nat (fun J=>pp J 0) (fun J=> [(tb J 42 (Qv xs))]) (fun J=>True) (fun x1=> ∀b2:Nat,Xc Tryz.prog (vS (Instr.alloc 42 true (.tuple #[]))) [] Nat (fun J=>pp J 0) (fun J=> [(tb J 42 (Qv (List.replicate 80 0)))]) (fun J=>True) (fun x3=>((decide (t>(3:Int)))=true->Za Tryz.prog (vS (Instr.loadAt 42 (pp x1 0))) [(tb x1 42 (Qv xs))] Unit (fun _=>Qv xs) (fun _=>True) (fun _=>Xc Tryz.prog (KJ (Instr.storeAt 42 (pp x3 0) (Qv xs))) [(tb x3 42 (Qv (List.replicate 80 0)))] Unit (fun _=> .tuple #[]) (fun _=> [(tb x3 42 (Qv xs))]) (fun _=>True) (fun _=>(Zr Tryz.prog 42 (tb x3 42 (Qv xs)) (pp x3 0) (Qv xs))/\ZM xs k t n (Value.tuple #[Qv xs,ii 1]))))/\((decide (t>(3:Int)))=false->(Qg Tryz.prog (vS (Instr.indexAt 38 (pp x1 0) (.int .u8 t))) (.pointer (some ⟨x1,(0+Int.toNat t*16),none⟩)))/\Za Tryz.prog (vS (Instr.loadAt 37 (.pointer (some ⟨x1,(0+Int.toNat t*16),none⟩)))) [(tb x1 42 (Qv xs))] ST (fun J=>ZO (J.1,J.2.1,J.2.2.1,J.2.2.2)) (fun J=>Jw J/\J=jC (XL (tb x1 42 (Qv xs))) ((0+Int.toNat t*16)/4)) (fun x4=> ∀b5:Nat,Qj 16 b5 (((k==(0:Int))=true->Za Tryz.prog (vS (Instr.loadAt 42 (pp x1 0))) [(tb x1 42 (Qv xs))] Unit (fun _=>Qv xs) (fun _=>True) (fun _=>Jg xs t (fun x6=>Qj 4 b2 (Xi x6 n (fun x7=>Qj 4 b5 (Qj 4 b2 (Xi x4.1 n (fun x8=>Qj 4 b5 (((!x7.2)=true->Za Tryz.prog (vS (Instr.loadAt 42 (pp x1 0))) [(tb x1 42 (Qv xs))] Unit (fun _=>Qv xs) (fun _=>True) (fun _=>Xc Tryz.prog (KJ (Instr.storeAt 42 (pp x3 0) (Qv xs))) [(tb x3 42 (Qv (List.replicate 80 0)))] Unit (fun _=> .tuple #[]) (fun _=> [(tb x3 42 (Qv xs))]) (fun _=>True) (fun _=>(Zr Tryz.prog 42 (tb x3 42 (Qv xs)) (pp x3 0) (Qv xs))/\ZM xs k t n (Value.tuple #[Qv xs,ii 2]))))/\((!x7.2)=false->Qj 16 b5 ((Qg Tryz.prog (vS (Instr.indexAt 38 (pp x1 0) (.int .u8 t))) (.pointer (some ⟨x1,(0+Int.toNat t*16),none⟩)))/\Xc Tryz.prog (KJ (Instr.storeAt 37 (.pointer (some ⟨x1,(0+Int.toNat t*16),none⟩)) (ZO (x8.1,x4.2.1,x4.2.2.1,x4.2.2.2)))) [(tb x1 42 (Qv xs))] (List Int) (fun J=> .tuple #[]) (fun J=> [(tb x1 42 (Qv J))]) (fun J=>J=tset (Jj (XL (tb x1 42 (Qv xs)))) ((0+Int.toNat t*16)/4) (Jj (ZO (x8.1,x4.2.1,x4.2.2.1,x4.2.2.2)))) (fun x9=>Za Tryz.prog (vS (Instr.loadAt 42 (pp x1 0))) [(tb x1 42 (Qv x9))] Unit (fun _=>Qv x9) (fun _=>True) (fun _=>Xc Tryz.prog (KJ (Instr.storeAt 42 (pp x3 0) (Qv x9))) [(tb x3 42 (Qv (List.replicate 80 0)))] Unit (fun _=> .tuple #[]) (fun _=> [(tb x3 42 (Qv x9))]) (fun _=>True) (fun _=>(Zr Tryz.prog 42 (tb x3 42 (Qv x9)) (pp x3 0) (Qv x9))/\ZM xs k t n (Value.tuple #[Qv x9,ii 0])))))))))))))))/\((k==(0:Int))=false->((k==(1:Int))=true->Qj 4 b5 (Qj 4 b2 (Xi x4.2.2.1 n (fun x10=>Qj 4 b5 (((!x10.2)=true->Za Tryz.prog (vS (Instr.loadAt 42 (pp x1 0))) [(tb x1 42 (Qv xs))] Unit (fun _=>Qv xs) (fun _=>True) (fun _=>Xc Tryz.prog (KJ (Instr.storeAt 42 (pp x3 0) (Qv xs))) [(tb x3 42 (Qv (List.replicate 80 0)))] Unit (fun _=> .tuple #[]) (fun _=> [(tb x3 42 (Qv xs))]) (fun _=>True) (fun _=>(Zr Tryz.prog 42 (tb x3 42 (Qv xs)) (pp x3 0) (Qv xs))/\ZM xs k t n (Value.tuple #[Qv xs,ii 2]))))/\((!x10.2)=false->Qj 16 b5 ((Qg Tryz.prog (vS (Instr.indexAt 38 (pp x1 0) (.int .u8 t))) (.pointer (some ⟨x1,(0+Int.toNat t*16),none⟩)))/\Xc Tryz.prog (KJ (Instr.storeAt 37 (.pointer (some ⟨x1,(0+Int.toNat t*16),none⟩)) (ZO (x4.1,x4.2.1,x10.1,x4.2.2.2)))) [(tb x1 42 (Qv xs))] (List Int) (fun J=> .tuple #[]) (fun J=> [(tb x1 42 (Qv J))]) (fun J=>J=tset (Jj (XL (tb x1 42 (Qv xs)))) ((0+Int.toNat t*16)/4) (Jj (ZO (x4.1,x4.2.1,x10.1,x4.2.2.2)))) (fun x11=>Za Tryz.prog (vS (Instr.loadAt 42 (pp x1 0))) [(tb x1 42 (Qv x11))] Unit (fun _=>Qv x11) (fun _=>True) (fun _=>Xc Tryz.prog (KJ (Instr.storeAt 42 (pp x3 0) (Qv x11))) [(tb x3 42 (Qv (List.replicate 80 0)))] Unit (fun _=> .tuple #[]) (fun _=> [(tb x3 42 (Qv x11))]) (fun _=>True) (fun _=>(Zr Tryz.prog 42 (tb x3 42 (Qv x11)) (pp x3 0) (Qv x11))/\ZM xs k t n (Value.tuple #[Qv x11,ii 0])))))))))))/\((k==(1:Int))=false->((k==(2:Int))=true->Qj 4 b5 (Qj 4 b2 (Jk x4.2.2.1 n (fun x12=>Qj 4 b5 (((!x12.2)=true->Za Tryz.prog (vS (Instr.loadAt 42 (pp x1 0))) [(tb x1 42 (Qv xs))] Unit (fun _=>Qv xs) (fun _=>True) (fun _=>Xc Tryz.prog (KJ (Instr.storeAt 42 (pp x3 0) (Qv xs))) [(tb x3 42 (Qv (List.replicate 80 0)))] Unit (fun _=> .tuple #[]) (fun _=> [(tb x3 42 (Qv xs))]) (fun _=>True) (fun _=>(Zr Tryz.prog 42 (tb x3 42 (Qv xs)) (pp x3 0) (Qv xs))/\ZM xs k t n (Value.tuple #[Qv xs,ii 8]))))/\((!x12.2)=false->Qj 16 b5 ((Qg Tryz.prog (vS (Instr.indexAt 38 (pp x1 0) (.int .u8 t))) (.pointer (some ⟨x1,(0+Int.toNat t*16),none⟩)))/\Xc Tryz.prog (KJ (Instr.storeAt 37 (.pointer (some ⟨x1,(0+Int.toNat t*16),none⟩)) (ZO (x4.1,x4.2.1,x12.1,x4.2.2.2)))) [(tb x1 42 (Qv xs))] (List Int) (fun J=> .tuple #[]) (fun J=> [(tb x1 42 (Qv J))]) (fun J=>J=tset (Jj (XL (tb x1 42 (Qv xs)))) ((0+Int.toNat t*16)/4) (Jj (ZO (x4.1,x4.2.1,x12.1,x4.2.2.2)))) (fun x13=>Za Tryz.prog (vS (Instr.loadAt 42 (pp x1 0))) [(tb x1 42 (Qv x13))] Unit (fun _=>Qv x13) (fun _=>True) (fun _=>Xc Tryz.prog (KJ (Instr.storeAt 42 (pp x3 0) (Qv x13))) [(tb x3 42 (Qv (List.replicate 80 0)))] Unit (fun _=> .tuple #[]) (fun _=> [(tb x3 42 (Qv x13))]) (fun _=>True) (fun _=>(Zr Tryz.prog 42 (tb x3 42 (Qv x13)) (pp x3 0) (Qv x13))/\ZM xs k t n (Value.tuple #[Qv x13,ii 0])))))))))))/\((k==(2:Int))=false->((k==(3:Int))=true->Qj 4 b5 (Qj 4 b2 (Jk x4.1 n (fun x14=>Qj 4 b5 (Qj 4 b5 (Qj 4 b2 (Xi x4.2.1 n (fun x15=>Qj 4 b5 (((!x14.2)=true->Za Tryz.prog (vS (Instr.loadAt 42 (pp x1 0))) [(tb x1 42 (Qv xs))] Unit (fun _=>Qv xs) (fun _=>True) (fun _=>Xc Tryz.prog (KJ (Instr.storeAt 42 (pp x3 0) (Qv xs))) [(tb x3 42 (Qv (List.replicate 80 0)))] Unit (fun _=> .tuple #[]) (fun _=> [(tb x3 42 (Qv xs))]) (fun _=>True) (fun _=>(Zr Tryz.prog 42 (tb x3 42 (Qv xs)) (pp x3 0) (Qv xs))/\ZM xs k t n (Value.tuple #[Qv xs,ii 8]))))/\((!x14.2)=false->Qj 16 b5 ((Qg Tryz.prog (vS (Instr.indexAt 38 (pp x1 0) (.int .u8 t))) (.pointer (some ⟨x1,(0+Int.toNat t*16),none⟩)))/\Xc Tryz.prog (KJ (Instr.storeAt 37 (.pointer (some ⟨x1,(0+Int.toNat t*16),none⟩)) (ZO (x14.1,x15.1,x4.2.2.1,x4.2.2.2)))) [(tb x1 42 (Qv xs))] (List Int) (fun J=> .tuple #[]) (fun J=> [(tb x1 42 (Qv J))]) (fun J=>J=tset (Jj (XL (tb x1 42 (Qv xs)))) ((0+Int.toNat t*16)/4) (Jj (ZO (x14.1,x15.1,x4.2.2.1,x4.2.2.2)))) (fun x16=>Za Tryz.prog (vS (Instr.loadAt 42 (pp x1 0))) [(tb x1 42 (Qv x16))] Unit (fun _=>Qv x16) (fun _=>True) (fun _=>Xc Tryz.prog (KJ (Instr.storeAt 42 (pp x3 0) (Qv x16))) [(tb x3 42 (Qv (List.replicate 80 0)))] Unit (fun _=> .tuple #[]) (fun _=> [(tb x3 42 (Qv x16))]) (fun _=>True) (fun _=>(Zr Tryz.prog 42 (tb x3 42 (Qv x16)) (pp x3 0) (Qv x16))/\ZM xs k t n (Value.tuple #[Qv x16,ii 0])))))))))))))))/\((k==(3:Int))=false->Qj 4 b5 (Qj 4 b2 (Jk x4.2.1 n (fun x17=>Qj 4 b5 (Qj 4 b5 (Qj 4 b2 (Xi x4.1 n (fun x18=>Qj 4 b5 (((!x17.2)=true->Za Tryz.prog (vS (Instr.loadAt 42 (pp x1 0))) [(tb x1 42 (Qv xs))] Unit (fun _=>Qv xs) (fun _=>True) (fun _=>Xc Tryz.prog (KJ (Instr.storeAt 42 (pp x3 0) (Qv xs))) [(tb x3 42 (Qv (List.replicate 80 0)))] Unit (fun _=> .tuple #[]) (fun _=> [(tb x3 42 (Qv xs))]) (fun _=>True) (fun _=>(Zr Tryz.prog 42 (tb x3 42 (Qv xs)) (pp x3 0) (Qv xs))/\ZM xs k t n (Value.tuple #[Qv xs,ii 8]))))/\((!x17.2)=false->Qj 16 b5 ((Qg Tryz.prog (vS (Instr.indexAt 38 (pp x1 0) (.int .u8 t))) (.pointer (some ⟨x1,(0+Int.toNat t*16),none⟩)))/\Xc Tryz.prog (KJ (Instr.storeAt 37 (.pointer (some ⟨x1,(0+Int.toNat t*16),none⟩)) (ZO (x18.1,x17.1,x4.2.2.1,x4.2.2.2)))) [(tb x1 42 (Qv xs))] (List Int) (fun J=> .tuple #[]) (fun J=> [(tb x1 42 (Qv J))]) (fun J=>J=tset (Jj (XL (tb x1 42 (Qv xs)))) ((0+Int.toNat t*16)/4) (Jj (ZO (x18.1,x17.1,x4.2.2.1,x4.2.2.2)))) (fun x19=>Za Tryz.prog (vS (Instr.loadAt 42 (pp x1 0))) [(tb x1 42 (Qv x19))] Unit (fun _=>Qv x19) (fun _=>True) (fun _=>Xc Tryz.prog (KJ (Instr.storeAt 42 (pp x3 0) (Qv x19))) [(tb x3 42 (Qv (List.replicate 80 0)))] Unit (fun _=> .tuple #[]) (fun _=> [(tb x3 42 (Qv x19))]) (fun _=>True) (fun _=>(Zr Tryz.prog 42 (tb x3 42 (Qv x19)) (pp x3 0) (Qv x19))/\ZM xs k t n (Value.tuple #[Qv x19,ii 0])))))))))))))))))))))))):=by kernel_rfl
set_option maxHeartbeats 4000000 in
theorem Bv (xs:List Int) (k t n:Int) (r_xs:QY 80 xs) (r_n:R4 n) (wt:(Lit.int .u8 t).wf=true):qH xs k t n (fun za zh zv zu zp=>QC Tryz.prog 28 za zh (List Int×Int) zv zu zp):=by
  refine VA (c:=Qk Tryz.f28) (n:=102) (fn:=Tryz.f28) QF Tryz.func28 (by kernel_rfl) (by kernel_rfl) (by kernel_rfl) 2000 _ [.tab 2] [] rfl rfl (Eq.mpr (Wn xs k t n) ?_)
  have wt' :=yb wt
  refine QG (We 42 xs) (⟨0,trivial⟩) fun x1 h1=>fun b2=>QG (Y2 42 (List.replicate 80 0) (fun w=>by kernel_rfl)) (⟨0,trivial⟩) fun x3 h2=>⟨fun h3=> ?_,fun h3=> ?_⟩
  · exact Qy (ZH (m:=80) 320 (fun w=>by kernel_rfl) (fun w=>by kernel_rfl) rfl x1 42 (show QY 80 xs from ‹_›).1) (⟨(),trivial⟩) fun _ _=>QG (Q5 (m:=80) 320 (fun w=>by kernel_rfl) x3 42 (show QY 80 (List.replicate 80 0) from (QE 80)).1 (show QY 80 xs from ‹_›).1 rfl) (⟨(),trivial⟩) fun _ _=>⟨Zk (m:=80) 320 (fun w=>by kernel_rfl) (fun w=>by kernel_rfl) rfl (show QY 80 xs by first | assumption | exact QE _).1,⟨(xs,1),⟨r_xs,by rw [QR r_xs,Qc r_n];exact (gN (by (try simp (disch:=assumption) only [Zp] at *);omega)).symm⟩,rfl,trivial⟩⟩
  have ht4:t<4:=by (try simp (disch:=assumption) only [Zp] at *);omega
  refine ⟨ZQ (n:=4) (e:=37) (K:=16) (by kernel_rfl) (fun w=>by kernel_rfl) x1 0 .u8 t (by omega) (by omega),Qy (bR (m:=80) (0+Int.toNat t*4) (fun w=>by kernel_rfl) (fun w=>by kernel_rfl) x1 42 ‹_› (0+Int.toNat t*16) (by omega) (by omega)) (Qaj (m:=80) ‹_› _) fun x4 h4=> ?_⟩
  have rh4:=h4.1
  have rah4:=rh4.a;have rbh4:=rh4.b;have rch4:=rh4.c;have rdh4:=rh4.d
  replace h4:=bf (m:=80) (n:=(0+Int.toNat t*4)) ‹_› (by omega) h4
  have hs_:=h4
  intro b5
  refine Qa 16 _ ⟨fun h5=> ?_,fun h5=> ?_⟩
  · refine Qy (ZH (m:=80) 320 (fun w=>by kernel_rfl) (fun w=>by kernel_rfl) rfl x1 42 (show QY 80 xs from ‹_›).1) (⟨(),trivial⟩) fun _ _=>JS xs t (fun x6 rh6_ h6=> ?_) (wt:=wt) (ht:=ht4)
    have hA:=h6
    refine Qa 4 _ (XA x6 n (fun x7 rh7_1 h7=> ?_))
    have hy:=h7
    refine Qa 4 _ (Qa 4 _ (XA x4.1 n (fun x8 rh8_1 h8=> ?_)))
    have hy2:=h8
    refine Qa 4 _ ⟨fun h9=> ?_,fun h9=> ?_⟩
    · refine Qy (ZH (m:=80) 320 (fun w=>by kernel_rfl) (fun w=>by kernel_rfl) rfl x1 42 (show QY 80 xs from ‹_›).1) (⟨(),trivial⟩) fun _ _=>QG (Q5 (m:=80) 320 (fun w=>by kernel_rfl) x3 42 (show QY 80 (List.replicate 80 0) from (QE 80)).1 (show QY 80 xs from ‹_›).1 rfl) (⟨(),trivial⟩) fun _ _=>⟨Zk (m:=80) 320 (fun w=>by kernel_rfl) (fun w=>by kernel_rfl) rfl (show QY 80 xs by first | assumption | exact QE _).1,?_⟩
      have hc: ¬3<t:=by (try simp (disch:=assumption) only [Zp] at *);omega
      exact ⟨(xs,2),⟨r_xs,by rw [QR r_xs,Qc r_n];exact (yV hc (QhG (beq_iff_eq.1 h5) hs_ (by omega) hA hy hy2) (jz h9)).symm⟩,rfl,trivial⟩
    refine Qa 16 _ ⟨ZQ (n:=4) (e:=37) (K:=16) (by kernel_rfl) (fun w=>by kernel_rfl) x1 0 .u8 t (by omega) (by omega),QG (zD (m:=80) 16 (0+Int.toNat t*4) (fun w=>by kernel_rfl) x1 42 ‹_› [x8.1,x4.2.1,x4.2.2.1,x4.2.2.2] (qN ⟨by assumption,by assumption,by assumption,by assumption⟩) (0+Int.toNat t*16) (by omega) rfl (by simp only [List.length_cons,List.length_nil];omega)) (⟨_,rfl⟩) fun x9 h10=> ?_⟩
    replace h10:=zG (m:=80) (n:=(0+Int.toNat t*4)) (ys:= [x8.1,x4.2.1,x4.2.2.1,x4.2.2.2]) ‹_› (qN ⟨by assumption,by assumption,by assumption,by assumption⟩) (by omega) h10
    have th10:QY 80 x9:=by rw [h10];exact QY.tset ‹_› (qN ⟨by assumption,by assumption,by assumption,by assumption⟩) (by simp only [List.length_cons,List.length_nil];omega)
    have hst:=h10
    refine Qy (ZH (m:=80) 320 (fun w=>by kernel_rfl) (fun w=>by kernel_rfl) rfl x1 42 (show QY 80 x9 from ‹_›).1) (⟨(),trivial⟩) fun _ _=>QG (Q5 (m:=80) 320 (fun w=>by kernel_rfl) x3 42 (show QY 80 (List.replicate 80 0) from (QE 80)).1 (show QY 80 x9 from ‹_›).1 rfl) (⟨(),trivial⟩) fun _ _=>⟨Zk (m:=80) 320 (fun w=>by kernel_rfl) (fun w=>by kernel_rfl) rfl (show QY 80 x9 by first | assumption | exact QE _).1,?_⟩
    have hc: ¬3<t:=by (try simp (disch:=assumption) only [Zp] at *);omega
    exact ⟨(x9,0),⟨by assumption,by rw [QR r_xs,Qc r_n];exact (yN hc (QhG (beq_iff_eq.1 h5) hs_ (by omega) hA hy hy2) (K4 h9) (by omega) hst).symm⟩,rfl,trivial⟩
  refine ⟨fun h11=> ?_,fun h11=> ?_⟩
  · refine Qa 4 _ (Qa 4 _ (XA x4.2.2.1 n (fun x10 rh12_1 h12=> ?_)))
    have hy:=h12
    refine Qa 4 _ ⟨fun h13=> ?_,fun h13=> ?_⟩
    · refine Qy (ZH (m:=80) 320 (fun w=>by kernel_rfl) (fun w=>by kernel_rfl) rfl x1 42 (show QY 80 xs from ‹_›).1) (⟨(),trivial⟩) fun _ _=>QG (Q5 (m:=80) 320 (fun w=>by kernel_rfl) x3 42 (show QY 80 (List.replicate 80 0) from (QE 80)).1 (show QY 80 xs from ‹_›).1 rfl) (⟨(),trivial⟩) fun _ _=>⟨Zk (m:=80) 320 (fun w=>by kernel_rfl) (fun w=>by kernel_rfl) rfl (show QY 80 xs by first | assumption | exact QE _).1,?_⟩
      have hc: ¬3<t:=by (try simp (disch:=assumption) only [Zp] at *);omega
      exact ⟨(xs,2),⟨r_xs,by rw [QR r_xs,Qc r_n];exact (yV hc (QhT (beq_eq_false_iff_ne.1 h5) (beq_iff_eq.1 h11) hs_ (by omega) hy) (jz h13)).symm⟩,rfl,trivial⟩
    refine Qa 16 _ ⟨ZQ (n:=4) (e:=37) (K:=16) (by kernel_rfl) (fun w=>by kernel_rfl) x1 0 .u8 t (by omega) (by omega),QG (zD (m:=80) 16 (0+Int.toNat t*4) (fun w=>by kernel_rfl) x1 42 ‹_› [x4.1,x4.2.1,x10.1,x4.2.2.2] (qN ⟨by assumption,by assumption,by assumption,by assumption⟩) (0+Int.toNat t*16) (by omega) rfl (by simp only [List.length_cons,List.length_nil];omega)) (⟨_,rfl⟩) fun x11 h14=> ?_⟩
    replace h14:=zG (m:=80) (n:=(0+Int.toNat t*4)) (ys:= [x4.1,x4.2.1,x10.1,x4.2.2.2]) ‹_› (qN ⟨by assumption,by assumption,by assumption,by assumption⟩) (by omega) h14
    have th14:QY 80 x11:=by rw [h14];exact QY.tset ‹_› (qN ⟨by assumption,by assumption,by assumption,by assumption⟩) (by simp only [List.length_cons,List.length_nil];omega)
    have hst:=h14
    refine Qy (ZH (m:=80) 320 (fun w=>by kernel_rfl) (fun w=>by kernel_rfl) rfl x1 42 (show QY 80 x11 from ‹_›).1) (⟨(),trivial⟩) fun _ _=>QG (Q5 (m:=80) 320 (fun w=>by kernel_rfl) x3 42 (show QY 80 (List.replicate 80 0) from (QE 80)).1 (show QY 80 x11 from ‹_›).1 rfl) (⟨(),trivial⟩) fun _ _=>⟨Zk (m:=80) 320 (fun w=>by kernel_rfl) (fun w=>by kernel_rfl) rfl (show QY 80 x11 by first | assumption | exact QE _).1,?_⟩
    have hc: ¬3<t:=by (try simp (disch:=assumption) only [Zp] at *);omega
    exact ⟨(x11,0),⟨by assumption,by rw [QR r_xs,Qc r_n];exact (yN hc (QhT (beq_eq_false_iff_ne.1 h5) (beq_iff_eq.1 h11) hs_ (by omega) hy) (K4 h13) (by omega) hst).symm⟩,rfl,trivial⟩
  refine ⟨fun h15=> ?_,fun h15=> ?_⟩
  · refine Qa 4 _ (Qa 4 _ (J0 x4.2.2.1 n (fun x12 rh16_1 h16=> ?_)))
    have hy:=h16
    refine Qa 4 _ ⟨fun h17=> ?_,fun h17=> ?_⟩
    · refine Qy (ZH (m:=80) 320 (fun w=>by kernel_rfl) (fun w=>by kernel_rfl) rfl x1 42 (show QY 80 xs from ‹_›).1) (⟨(),trivial⟩) fun _ _=>QG (Q5 (m:=80) 320 (fun w=>by kernel_rfl) x3 42 (show QY 80 (List.replicate 80 0) from (QE 80)).1 (show QY 80 xs from ‹_›).1 rfl) (⟨(),trivial⟩) fun _ _=>⟨Zk (m:=80) 320 (fun w=>by kernel_rfl) (fun w=>by kernel_rfl) rfl (show QY 80 xs by first | assumption | exact QE _).1,?_⟩
      have hc: ¬3<t:=by (try simp (disch:=assumption) only [Zp] at *);omega
      exact ⟨(xs,8),⟨r_xs,by rw [QR r_xs,Qc r_n];exact (yV hc (Qg8 (beq_eq_false_iff_ne.1 h5) (beq_eq_false_iff_ne.1 h11) (beq_iff_eq.1 h15) hs_ (by omega) hy) (jz h17)).symm⟩,rfl,trivial⟩
    refine Qa 16 _ ⟨ZQ (n:=4) (e:=37) (K:=16) (by kernel_rfl) (fun w=>by kernel_rfl) x1 0 .u8 t (by omega) (by omega),QG (zD (m:=80) 16 (0+Int.toNat t*4) (fun w=>by kernel_rfl) x1 42 ‹_› [x4.1,x4.2.1,x12.1,x4.2.2.2] (qN ⟨by assumption,by assumption,by assumption,by assumption⟩) (0+Int.toNat t*16) (by omega) rfl (by simp only [List.length_cons,List.length_nil];omega)) (⟨_,rfl⟩) fun x13 h18=> ?_⟩
    replace h18:=zG (m:=80) (n:=(0+Int.toNat t*4)) (ys:= [x4.1,x4.2.1,x12.1,x4.2.2.2]) ‹_› (qN ⟨by assumption,by assumption,by assumption,by assumption⟩) (by omega) h18
    have th18:QY 80 x13:=by rw [h18];exact QY.tset ‹_› (qN ⟨by assumption,by assumption,by assumption,by assumption⟩) (by simp only [List.length_cons,List.length_nil];omega)
    have hst:=h18
    refine Qy (ZH (m:=80) 320 (fun w=>by kernel_rfl) (fun w=>by kernel_rfl) rfl x1 42 (show QY 80 x13 from ‹_›).1) (⟨(),trivial⟩) fun _ _=>QG (Q5 (m:=80) 320 (fun w=>by kernel_rfl) x3 42 (show QY 80 (List.replicate 80 0) from (QE 80)).1 (show QY 80 x13 from ‹_›).1 rfl) (⟨(),trivial⟩) fun _ _=>⟨Zk (m:=80) 320 (fun w=>by kernel_rfl) (fun w=>by kernel_rfl) rfl (show QY 80 x13 by first | assumption | exact QE _).1,?_⟩
    have hc: ¬3<t:=by (try simp (disch:=assumption) only [Zp] at *);omega
    exact ⟨(x13,0),⟨by assumption,by rw [QR r_xs,Qc r_n];exact (yN hc (Qg8 (beq_eq_false_iff_ne.1 h5) (beq_eq_false_iff_ne.1 h11) (beq_iff_eq.1 h15) hs_ (by omega) hy) (K4 h17) (by omega) hst).symm⟩,rfl,trivial⟩
  refine ⟨fun h19=> ?_,fun h19=> ?_⟩
  · refine Qa 4 _ (Qa 4 _ (J0 x4.1 n (fun x14 rh20_1 h20=> ?_)))
    have hy:=h20
    refine Qa 4 _ (Qa 4 _ (Qa 4 _ (XA x4.2.1 n (fun x15 rh21_1 h21=> ?_))))
    have hy2:=h21
    refine Qa 4 _ ⟨fun h22=> ?_,fun h22=> ?_⟩
    · refine Qy (ZH (m:=80) 320 (fun w=>by kernel_rfl) (fun w=>by kernel_rfl) rfl x1 42 (show QY 80 xs from ‹_›).1) (⟨(),trivial⟩) fun _ _=>QG (Q5 (m:=80) 320 (fun w=>by kernel_rfl) x3 42 (show QY 80 (List.replicate 80 0) from (QE 80)).1 (show QY 80 xs from ‹_›).1 rfl) (⟨(),trivial⟩) fun _ _=>⟨Zk (m:=80) 320 (fun w=>by kernel_rfl) (fun w=>by kernel_rfl) rfl (show QY 80 xs by first | assumption | exact QE _).1,?_⟩
      have hc: ¬3<t:=by (try simp (disch:=assumption) only [Zp] at *);omega
      exact ⟨(xs,8),⟨r_xs,by rw [QR r_xs,Qc r_n];exact (yV hc (Qhr (beq_eq_false_iff_ne.1 h5) (beq_eq_false_iff_ne.1 h11) (beq_eq_false_iff_ne.1 h15) (beq_iff_eq.1 h19) hs_ (by omega) hy hy2) (jz h22)).symm⟩,rfl,trivial⟩
    refine Qa 16 _ ⟨ZQ (n:=4) (e:=37) (K:=16) (by kernel_rfl) (fun w=>by kernel_rfl) x1 0 .u8 t (by omega) (by omega),QG (zD (m:=80) 16 (0+Int.toNat t*4) (fun w=>by kernel_rfl) x1 42 ‹_› [x14.1,x15.1,x4.2.2.1,x4.2.2.2] (qN ⟨by assumption,by assumption,by assumption,by assumption⟩) (0+Int.toNat t*16) (by omega) rfl (by simp only [List.length_cons,List.length_nil];omega)) (⟨_,rfl⟩) fun x16 h23=> ?_⟩
    replace h23:=zG (m:=80) (n:=(0+Int.toNat t*4)) (ys:= [x14.1,x15.1,x4.2.2.1,x4.2.2.2]) ‹_› (qN ⟨by assumption,by assumption,by assumption,by assumption⟩) (by omega) h23
    have th23:QY 80 x16:=by rw [h23];exact QY.tset ‹_› (qN ⟨by assumption,by assumption,by assumption,by assumption⟩) (by simp only [List.length_cons,List.length_nil];omega)
    have hst:=h23
    refine Qy (ZH (m:=80) 320 (fun w=>by kernel_rfl) (fun w=>by kernel_rfl) rfl x1 42 (show QY 80 x16 from ‹_›).1) (⟨(),trivial⟩) fun _ _=>QG (Q5 (m:=80) 320 (fun w=>by kernel_rfl) x3 42 (show QY 80 (List.replicate 80 0) from (QE 80)).1 (show QY 80 x16 from ‹_›).1 rfl) (⟨(),trivial⟩) fun _ _=>⟨Zk (m:=80) 320 (fun w=>by kernel_rfl) (fun w=>by kernel_rfl) rfl (show QY 80 x16 by first | assumption | exact QE _).1,?_⟩
    have hc: ¬3<t:=by (try simp (disch:=assumption) only [Zp] at *);omega
    exact ⟨(x16,0),⟨by assumption,by rw [QR r_xs,Qc r_n];exact (yN hc (Qhr (beq_eq_false_iff_ne.1 h5) (beq_eq_false_iff_ne.1 h11) (beq_eq_false_iff_ne.1 h15) (beq_iff_eq.1 h19) hs_ (by omega) hy hy2) (K4 h22) (by omega) hst).symm⟩,rfl,trivial⟩
  refine Qa 4 _ (Qa 4 _ (J0 x4.2.1 n (fun x17 rh24_1 h24=> ?_)))
  have hy:=h24
  refine Qa 4 _ (Qa 4 _ (Qa 4 _ (XA x4.1 n (fun x18 rh25_1 h25=> ?_))))
  have hy2:=h25
  refine Qa 4 _ ⟨fun h26=> ?_,fun h26=> ?_⟩
  · refine Qy (ZH (m:=80) 320 (fun w=>by kernel_rfl) (fun w=>by kernel_rfl) rfl x1 42 (show QY 80 xs from ‹_›).1) (⟨(),trivial⟩) fun _ _=>QG (Q5 (m:=80) 320 (fun w=>by kernel_rfl) x3 42 (show QY 80 (List.replicate 80 0) from (QE 80)).1 (show QY 80 xs from ‹_›).1 rfl) (⟨(),trivial⟩) fun _ _=>⟨Zk (m:=80) 320 (fun w=>by kernel_rfl) (fun w=>by kernel_rfl) rfl (show QY 80 xs by first | assumption | exact QE _).1,?_⟩
    have hc: ¬3<t:=by (try simp (disch:=assumption) only [Zp] at *);omega
    exact ⟨(xs,8),⟨r_xs,by rw [QR r_xs,Qc r_n];exact (yV hc (Qhc (beq_eq_false_iff_ne.1 h5) (beq_eq_false_iff_ne.1 h11) (beq_eq_false_iff_ne.1 h15) (beq_eq_false_iff_ne.1 h19) hs_ (by omega) hy hy2) (jz h26)).symm⟩,rfl,trivial⟩
  refine Qa 16 _ ⟨ZQ (n:=4) (e:=37) (K:=16) (by kernel_rfl) (fun w=>by kernel_rfl) x1 0 .u8 t (by omega) (by omega),QG (zD (m:=80) 16 (0+Int.toNat t*4) (fun w=>by kernel_rfl) x1 42 ‹_› [x18.1,x17.1,x4.2.2.1,x4.2.2.2] (qN ⟨by assumption,by assumption,by assumption,by assumption⟩) (0+Int.toNat t*16) (by omega) rfl (by simp only [List.length_cons,List.length_nil];omega)) (⟨_,rfl⟩) fun x19 h27=> ?_⟩
  replace h27:=zG (m:=80) (n:=(0+Int.toNat t*4)) (ys:= [x18.1,x17.1,x4.2.2.1,x4.2.2.2]) ‹_› (qN ⟨by assumption,by assumption,by assumption,by assumption⟩) (by omega) h27
  have th27:QY 80 x19:=by rw [h27];exact QY.tset ‹_› (qN ⟨by assumption,by assumption,by assumption,by assumption⟩) (by simp only [List.length_cons,List.length_nil];omega)
  have hst:=h27
  refine Qy (ZH (m:=80) 320 (fun w=>by kernel_rfl) (fun w=>by kernel_rfl) rfl x1 42 (show QY 80 x19 from ‹_›).1) (⟨(),trivial⟩) fun _ _=>QG (Q5 (m:=80) 320 (fun w=>by kernel_rfl) x3 42 (show QY 80 (List.replicate 80 0) from (QE 80)).1 (show QY 80 x19 from ‹_›).1 rfl) (⟨(),trivial⟩) fun _ _=>⟨Zk (m:=80) 320 (fun w=>by kernel_rfl) (fun w=>by kernel_rfl) rfl (show QY 80 x19 by first | assumption | exact QE _).1,?_⟩
  have hc: ¬3<t:=by (try simp (disch:=assumption) only [Zp] at *);omega
  exact ⟨(x19,0),⟨by assumption,by rw [QR r_xs,Qc r_n];exact (yN hc (Qhc (beq_eq_false_iff_ne.1 h5) (beq_eq_false_iff_ne.1 h11) (beq_eq_false_iff_ne.1 h15) (beq_eq_false_iff_ne.1 h19) hs_ (by omega) hy hy2) (K4 h26) (by omega) hst).symm⟩,rfl,trivial⟩
def bD:List Value->List Qf->ZB:=fun vs hs=>⟨Int×Bool,fun J=> .tuple #[uu J.1, .bool J.2],fun _=>hs,fun J=>J.1=(if (Qe (Qd vs 1))<18446744073709551616 then (Qe (Qd vs 1)) else 0)/\J.2=decide ((Qe (Qd vs 1))<18446744073709551616)⟩
abbrev Uq (a:Int) (zv:Value) :Prop:= ∃J:Int×Bool,(J.1=(if (Qe (vI a))<18446744073709551616 then (Qe (vI a)) else 0)/\J.2=decide ((Qe (vI a))<18446744073709551616))/\zv= .tuple #[uu J.1, .bool J.2]/\True
abbrev HH (a:Int) (zF:SF (Int×Bool)):Prop:=zF #[vI a] [] (fun J=> .tuple #[uu J.1, .bool J.2]) (fun J=> []) (fun J=>(J.1=(if (Qe (vI a))<18446744073709551616 then (Qe (vI a)) else 0)/\J.2=decide ((Qe (vI a))<18446744073709551616)))
theorem vO (a:Int):HH a (fun za zh zv zu zp=>QB Tryz.prog 11 none 2000 none (Qk Tryz.f71) (.reg [.sem [.nw 0],S0,S0] (.reg [.sem (QV 4 0),S0, .sem [.rd 0], .callr [] Yn, .eq (Qil)] (.cond (.reg [S0,S0] (.done)) (.reg [S0, .sem [.rd 0],S0,S0] (.done)))))
    (Q2 za zh) (Q8 Tryz.prog Tryz.f71 [] [] (X:=Int×Bool) zv zu zp))=
    (∀b1:Nat,Qj 5 b1 (KC (Qb a 0) (fun _=>(Qg Tryz.prog (Q0 .neq 35 (vI a) (vI (Qb a 0))) (.bool (Qe (vI a) !=Qe (vI (Qb a 0)))))/\((Qe (vI a) !=Qe (vI (Qb a 0)))=true->Uq a (Value.tuple #[uu 0, .bool false]))/\((Qe (vI a) !=Qe (vI (Qb a 0)))=false->Qj 1 b1 (Uq a (Value.tuple #[uu (Qb a 0), .bool true])))))):=by kernel_rfl
theorem Qee (a:Int) (r_a:R4 a):HH a (fun za zh zv zu zp=>QC Tryz.prog 71 za zh (Int×Bool) zv zu zp):=by
  refine Qx (c:=Qk Tryz.f71) (n:=11) (fn:=Tryz.f71) QF Tryz.func71 (by kernel_rfl) (by kernel_rfl) (by kernel_rfl) 2000 _ [] [] rfl rfl (Eq.mpr (vO a) ?_)
  intro b1
  refine Qa 5 _ (Yq (Qb a 0) ⟨Qel a (Qb a 0),⟨fun h1=> ?_,fun h1=> ?_⟩⟩)
  · unfold Uq
    have hq:Qe (vI a)≠Qe (vI (Qb a 0)):=bne_iff_ne.1 ‹_›
    rw [Qc r_a,Qc (Qeg 0)] at hq
    have hi:=QaO r_a
    have hl: ¬a<18446744073709551616:=fun q=>hq (hi.2 q)
    exact ⟨(0,false),⟨by rw [Qc r_a,if_neg hl],by rw [Qc r_a];exact (decide_eq_false hl).symm⟩,rfl,trivial⟩
  refine Qa 1 _ ?_
  unfold Uq
  have hq:Qe (vI a)=Qe (vI (Qb a 0)):=bne_eq_false_iff_eq.1 ‹_›
  rw [Qc r_a,Qc (Qeg 0)] at hq
  have hi:=QaO r_a
  have hl:=hi.1 hq
  exact ⟨(Qb a 0,true),⟨by rw [Qc r_a,if_pos hl];exact hq.symm,by rw [Qc r_a];exact (decide_eq_true hl).symm⟩,rfl,trivial⟩
def wG:List Value->List Qf->ZB:=fun vs hs=>⟨Int,fun J=>uu J,fun _=>hs,fun J=>J=xJ (Qe (Qd vs 1)) (Qe (Qd vs 2))⟩
abbrev qO (a b:Int) (zv:Value) :Prop:= ∃J:Int,(J=xJ (Qe (vI a)) (Qe (vI b)))/\zv=uu J/\True
abbrev qk (a b:Int) (zF:SF Int):Prop:=zF #[vI a,vI b] [] (fun J=>uu J) (fun J=> []) (fun J=>(J=xJ (Qe (vI a)) (Qe (vI b))))
theorem vB (a b:Int):qk a b (fun za zh zv zu zp=>QB Tryz.prog 31 none 2000 none (Qk Tryz.f39) (.reg [.sem [.nw 0], .sem [.nw 1],S0] (.reg [.sem (QV 4 0),S0, .eq (Bu),S0] (.cond (.reg [S0] (.done)) (.reg [.sem (QV 4 0), .sem (QV 4 1), .callr [] Uv,S0,S0] (.cond (.reg [S0] (.done)) (.reg [.sem (QV 4 0), .callr [] Yn, .sem (QV 4 1), .callr [] VX,S0,S0,S0, .sem [.nw 2], .sem (Zq 4 2),S0] (.reg [.sem (QV 4 2), .callr [] bD,S0,S0,S0,S0,S0] (.reg [S0,S0] (.done)))))))))
    (Q2 za zh) (Q8 Tryz.prog Tryz.f39 [] [] (X:=Int) zv zu zp))=
    (∀b1:Nat,∀b2:Nat,Qj 4 b1 ((Qg Tryz.prog (Q0 .eql 35 (vI a) (vI 0)) (.bool (Qe (vI a)==Qe (vI 0))))/\((Qe (vI a)==Qe (vI 0))=true->qO a b (uu 0))/\((Qe (vI a)==Qe (vI 0))=false->Qj 4 b1 (Qj 4 b2 (Vq a b (fun _=>((decide ((X7 (Qe (vI a)) (Qe (vI b)))≥(0:Int)))=true->qO a b (uu 1000000))/\((decide ((X7 (Qe (vI a)) (Qe (vI b)))≥(0:Int)))=false->Qj 4 b1 (KC (1000000:Int) (fun _=>Qj 4 b2 (Yy a (1000000:Int) b (fun x3=> ∀b4:Nat,Qj 4 b4 (Qj 4 b4 (Zh Tryz.prog 71 #[vI x3.1] [] (Int×Bool) (fun J=> .tuple #[uu J.1, .bool J.2]) (fun J=>J.1=(if (Qe (vI x3.1))<18446744073709551616 then (Qe (vI x3.1)) else 0)/\J.2=decide ((Qe (vI x3.1))<18446744073709551616)) (fun x5=>qO a b (uu x5.1))))))))))))))):=by kernel_rfl
theorem QbR (a b:Int) (r_a:R4 a) (r_b:R4 b):qk a b (fun za zh zv zu zp=>QC Tryz.prog 39 za zh Int zv zu zp):=by
  refine Qx (c:=Qk Tryz.f39) (n:=31) (fn:=Tryz.f39) QF Tryz.func39 (by kernel_rfl) (by kernel_rfl) (by kernel_rfl) 2000 _ [] [] rfl rfl (Eq.mpr (vB a b) ?_)
  intro b1
  intro b2
  refine Qa 4 _ ⟨JD a 0,⟨fun h1=> ?_,fun h1=> ?_⟩⟩
  · have h0:a=0:=by (try simp (disch:=assumption) only [Zp] at *);omega
    exact ⟨0,by rw [Qc r_a,h0];exact (Da _).symm,rfl,trivial⟩
  refine Qa 4 _ (Qa 4 _ (UH a b ⟨fun h2=> ?_,fun h2=> ?_⟩))
  · have h0:a≠0:=by (try simp (disch:=assumption) only [Zp] at *);omega
    have hle:b<=a:=by (try simp (disch:=assumption) only [Zp] at *);omega
    exact ⟨1000000,by rw [Qc r_a,Qc r_b];exact (gF h0 hle).symm,rfl,trivial⟩
  refine Qa 4 _ (Yq (1000000:Int) (Qa 4 _ (V5 a (1000000:Int) b (fun x3 rh3_1 h3=> ?_) (r_b:=by unfold R4;decide))))
  have h0:a≠0:=by (try simp (disch:=assumption) only [Zp] at *);omega
  have hlt:a<b:=by (try simp (disch:=assumption) only [Zp] at *);omega
  have hq:=(h3).trans (QgR r_a h0 hlt)
  obtain ⟨u1,u2⟩:=HL r_a h0 hlt
  have hq1:x3.1=a*1000000/b:=by rw [hq]
  intro b4
  refine Qa 4 _ (Qa 4 _ (QN (Qee x3.1 ‹_›) (⟨(_,_),rfl,rfl⟩) fun x5 h4=> ?_))
  try simp only [Qc (n:=x3.1) ‹_›] at h4
  have hl:=h4
  exact ⟨_,by rw [Qc r_a,Qc r_b,F0 h0 hlt,hl.1,hq1,if_pos (by omega)],rfl,trivial⟩
abbrev qj (a b:Int) (KK:Int->Prop):Prop:=qk a b (fun za zh zv zu zp=>Zh Tryz.prog 39 za zh Int zv zp KK)
theorem wH (a b:Int) {KK:Int->Prop} (kont: ∀J:Int,(J=xJ a b)->KK J) (r_a:R4 a:=by assumption) (r_b:R4 b:=by assumption):qj a b KK:=QN (QbR a b r_a r_b) (⟨_,rfl⟩) fun J hz=>by
  try simp only [Qc (n:=a) r_a,Qc (n:=b) r_b] at hz
  exact kont J hz
def bu:List Value->List Qf->ZB:=fun vs hs=>⟨QK,fun J=>sv J,fun J=> [(ss 3 J)],fun J=>Qr J/\nv (dg J)=1000000/\Zj (dg J)/\(dg J).length<=16⟩
abbrev bI  (zv:Value) (zs0:Qf):Prop:= ∃J:QK,(Qr J/\nv (dg J)=1000000/\Zj (dg J)/\(dg J).length<=16)/\zv=sv J/\zs0=(ss 3 J)/\True
abbrev jU  (zF:SF QK):Prop:=zF #[uu 1000000] [] (fun J=>sv J) (fun J=> [(ss 3 J)]) (fun J=>(Qr J/\nv (dg J)=1000000/\Zj (dg J)/\(dg J).length<=16))
theorem gC :jU  (fun za zh zv zu zp=>QB Tryz.prog 15 none 2000 none (Qk Tryz.f86) (.reg [S0] (.reg [S0] (.reg [S0,S0] (.condT (.reg [S0,S0,S0,S0, .sem [.nw 0], .specw [1,0] [20,0] (Ji 3),S0] (.reg [S0,S0,S0] (.reg [S0,S0] (.condT (.reg [S0,S0,S0,S0, .sem [.nw 0], .specw [20,0] [20,0] (Ji 3),S0] (.reg [S0,S0,S0] (.reg [S0,S0] (.condF (.reg [S0,S0] (.done))))))))))))))
    (Q2 za zh) (Q8 Tryz.prog Tryz.f86 [] [20] (X:=QK) zv zu zp))=
    ((true=true)/\ ∀b1:Nat,Xc Tryz.prog (vS (Builtin.append_ #[101,101] 101 #[sv QK.nil, .slice (some ⟨b1,0,none⟩) 1 1])) [.free,bk b1 #[ii 16960] 3] QK (fun J=>sv J) (fun J=> [(ss 3 J),bk b1 #[ii 16960] 3]) (fun J=>QS J=ZZ (sv QK.nil) (ss 3 QK.nil)++ [ii 16960]) (fun x2=>(true=true)/\ ∀b3:Nat,Xc Tryz.prog (vS (Builtin.append_ #[101,101] 101 #[sv x2, .slice (some ⟨b3,0,none⟩) 1 1])) [(ss 3 x2),bk b3 #[ii 15] 3] QK (fun J=>sv J) (fun J=> [(ss 3 J),bk b3 #[ii 15] 3]) (fun J=>QS J=ZZ (sv x2) (ss 3 x2)++ [ii 15]) (fun x4=>(false=false)/\bI  (sv x4) (ss 3 x4)))):=by kernel_rfl
theorem Qey  :jU  (fun za zh zv zu zp=>QC Tryz.prog 86 za zh QK zv zu zp):=by
  refine Qx (c:=Qk Tryz.f86) (n:=15) (fn:=Tryz.f86) QF Tryz.func86 (by kernel_rfl) (by kernel_rfl) (by kernel_rfl) 2000 _ [] [20] rfl rfl (Eq.mpr (gC) ?_)
  have q0:=Qhi
  refine ⟨rfl,fun b1=>QG (Zv QP 101 QK.nil (Nat.le_trans (Nat.le_of_eq (by first | exact q1.2.1 | exact q0.2.1)) (by decide)) b1 1 (.int .i64 16960) rfl) (ZU _) fun x2 h1=> ?_⟩
  rw [Zd] at h1
  have q1:=K9 (x:=16960) q0 (show Ku 0=1 from rfl) ‹_› (by decide) (by decide)
  refine ⟨rfl,fun b3=>QG (Zv QP 101 x2 (Nat.le_trans (Nat.le_of_eq (by first | exact q1.2.1 | exact q0.2.1)) (by decide)) b3 1 (.int .i64 15) rfl) (ZU _) fun x4 h2=> ?_⟩
  rw [Zd] at h2
  have q2:=K9 (x:=15) q1 (show Ku 1=65536 from rfl) ‹_› (by decide) (by decide)
  refine ⟨rfl,?_⟩
  obtain ⟨ok,hl,hv⟩:=q2
  have hv1:nv (dg x4)=1000000:=by rw [hv];rfl
  exact ⟨_,⟨ok,hv1,QbA ok.dig hl (by rw [hv1];decide),by rw [hl];decide⟩,rfl,rfl,trivial⟩
abbrev Fc  (KK:QK->Prop):Prop:=jU  (fun za zh zv zu zp=>Ze Tryz.prog 86 za zh QK zv zu zp KK)
theorem bT  {KK:QK->Prop} (kont: ∀J:QK,Qr J->(nv (dg J)=1000000/\Zj (dg J)/\(dg J).length<=16)->KK J) :Fc  KK:=QH (Qey) (QaT (by unfold R4;decide)) fun J hz=>by
  obtain ⟨rhz_,hz⟩:=hz
  exact kont J rhz_ hz
def Wf:List Value->List Qf->ZB:=fun vs hs=>⟨Int,fun J=>uu J,fun _=>hs,fun J=>J=xJ (Qe (Qd vs 1)) (Qe (Qd vs 2))⟩
abbrev YG (a b:Int) (zv:Value) :Prop:= ∃J:Int,(J=xJ (Qe (vI a)) (Qe (vI b)))/\zv=uu J/\True
abbrev qQ (a b:Int) (zF:SF Int):Prop:=zF #[vI a,vI b] [] (fun J=>uu J) (fun J=> []) (fun J=>(J=xJ (Qe (vI a)) (Qe (vI b))))
theorem D5 (a b:Int):qQ a b (fun za zh zv zu zp=>QB Tryz.prog 37 none 2000 none (Qk Tryz.f64) (.reg [.sem [.nw 0], .sem [.nw 1],S0] (.reg [.sem (QV 4 0), .callw [] [2] ZK,S0] (.reg [.sem (QV 4 1), .callw [] [3] ZK,S0] (.reg [S0, .eq (Xa),S0] (.cond (.reg [S0] (.done)) (.reg [S0,S0, .callr [2,3] Yh,S0] (.cond (.reg [S0] (.done)) (.reg [S0, .callw [] [4] bu, .callw [2,4] [2,4,5] xM,S0, .callw [5,3] [5,3,6,7] xI,S0,S0,S0,S0,S0] (.reg [S0, .callw [6] [6] Vu,S0,S0,S0, .sem [.nw 8], .sem (Zq 4 8),S0] (.reg [S0, .sem [.rd 8],S0] (.done)))))))))))
    (Q2 za zh) (Q8 Tryz.prog Tryz.f64 [] [] (X:=Int) zv zu zp))=
    (∀b1:Nat,∀b2:Nat,Qj 4 b1 (ZA a (fun x3=>Qj 4 b2 (ZA b (fun x4=>(Qg Tryz.prog (vS (Builtin.len_ #[101] 3 #[sv x3])) (ii ((vlen (sv x3):Nat):Int)))/\((((vlen (sv x3):Nat):Int)==(0:Int))=true->YG a b (uu 0))/\((((vlen (sv x3):Nat):Int)==(0:Int))=false->Kv x3 x4 (fun x5=>((decide (x5≥(0:Int)))=true->YG a b (uu 1000000))/\((decide (x5≥(0:Int)))=false->Fc  (fun x6=>UU x3 x6 (fun x7=>UZ x7 x4 (fun x8=>Yk x8.1 (fun x9=> ∀b10:Nat,Qj 4 b10 (Qj 1 b10 (YG a b (uu (Qb x9.1 0)))))))))))))))):=by kernel_rfl
theorem Qby (a b:Int) (r_a:R4 a) (r_b:R4 b):qQ a b (fun za zh zv zu zp=>QC Tryz.prog 64 za zh Int zv zu zp):=by
  refine Qx (c:=Qk Tryz.f64) (n:=37) (fn:=Tryz.f64) QF Tryz.func64 (by kernel_rfl) (by kernel_rfl) (by kernel_rfl) 2000 _ [] [] rfl rfl (Eq.mpr (D5 a b) ?_)
  intro b1
  intro b2
  refine Qa 4 _ (ZN a (fun x3 rh1_ h1=> ?_))
  have hP:=h1
  have okhP:Qr x3:=by assumption
  have ehP:=QW x3
  have chP:=Zi okhP.dig hP.2.1
  have lhP:=hP.2.2
  refine Qa 4 _ (ZN b (fun x4 rh2_ h2=> ?_))
  have hW:=h2
  have okhW:Qr x4:=by assumption
  have ehW:=QW x4
  have chW:=Zi okhW.dig hW.2.1
  have lhW:=hW.2.2
  refine ⟨JP QP 3 x3,⟨fun h3=> ?_,fun h3=> ?_⟩⟩
  · unfold YG
    have h0:a=0:=by
      rw [←hP.1];exact chP.1 (by (try simp (disch:=assumption) only [Zp] at *);omega)
    exact ⟨0,by rw [Qc r_a,h0];exact (Da _).symm,rfl,trivial⟩
  have h0:a≠0:=fun q=>by
    have hz:=chP.2 (by rw [hP.1];exact q)
    (try simp (disch:=assumption) only [Zp] at *);omega
  refine Yf x3 x4 (fun x5 h4=> ?_)
  have hC:=h4
  refine ⟨fun h5=> ?_,fun h5=> ?_⟩
  · unfold YG
    have hle:b<=a:=by
      have hC2:=hC
      rw [hP.1,hW.1] at hC2
      have hs:=Yr hC2
      (try simp (disch:=assumption) only [Zp] at *)
      omega
    exact ⟨1000000,by rw [Qc r_a,Qc r_b];exact (gF h0 hle).symm,rfl,trivial⟩
  have hlt:a<b:=by
    have hC2:=hC
    rw [hP.1,hW.1] at hC2
    have hs:=Yr hC2
    (try simp (disch:=assumption) only [Zp] at *)
    omega
  have hb:0<nv (dg x4):=by rw [hW.1];have:=r_a.1;omega
  refine bT  (fun x6 rh6_ h6=> ?_)
  have hM:=h6
  have okhM:Qr x6:=by assumption
  have ehM:=QW x6
  have chM:=Zi okhM.dig hM.2.1
  have lhM:=hM.2.2
  refine xv x3 x6 (fun x7 rh7_ h7=> ?_)
  have hU:=h7
  rw [hP.1,hM.1] at hU
  have lU:=Qha (Qr.dig ‹_›) hU.2 r_a hU.1
  refine xt x7 x4 (fun x8 rh8_1 rh8_2 h8=> ?_) (hb:=hb)
  have hD:=h8
  rw [hU.1,hW.1] at hD
  obtain ⟨u1,u2⟩:=HL r_a h0 hlt
  have rq:R4 (a*1000000/b):=⟨u1,by omega⟩
  have lD:=QaS (Qr.dig ‹_›) hD.2.2.1 hD.1 rq
  refine Vl x8.1 (fun x9 rh9_1 h9=> ?_)
  have hI:=h9
  have hI1:x9.1=a*1000000/b:=by rw [hI,hD.1];unfold XV;rw [if_pos (by omega)]
  intro b10
  exact Qa 4 _ (Qa 1 _ ⟨_,by rw [Qc r_a,Qc r_b,F0 h0 hlt,hI1];exact Qbr u1 u2,rfl,trivial⟩)
abbrev zb (a b:Int) (KK:Int->Prop):Prop:=qQ a b (fun za zh zv zu zp=>Zh Tryz.prog 64 za zh Int zv zp KK)
theorem Wb (a b:Int) {KK:Int->Prop} (kont: ∀J:Int,(J=xJ a b)->KK J) (r_a:R4 a:=by assumption) (r_b:R4 b:=by assumption):zb a b KK:=QN (Qby a b r_a r_b) (⟨_,rfl⟩) fun J hz=>by
  try simp only [Qc (n:=a) r_a,Qc (n:=b) r_b] at hz
  exact kont J hz
theorem Qdc:Vs Qi Qt:=⟨GX,yH,fun t=>⟨_,rfl⟩,fun t a=>⟨_,_,rfl⟩⟩
noncomputable def BM:List Value->List Qf->ZB:=fun vs hs=>⟨Int,fun J=>vI J,fun _=>hs,fun J=>R4 J/\J=qG (V8 (Qh hs 1)) (ci (Qd vs 2))⟩
abbrev vo (b bm bh bj:Nat) (m:KV) (t:Int) (zv:Value) (zs0:Qf) (zs1:Qf):Prop:= ∃J:Int,(R4 J/\J=qG m t)/\zv=vI J/\zs0=Qo b bm bh/\zs1=(mS Qi bm bj m)/\True
abbrev kC (b bm bh bj:Nat) (m:KV) (t:Int) (zF:SF Int):Prop:=zF #[pp b 0, .int .u8 t] [Qo b bm bh,(mS Qi bm bj m)] (fun J=>vI J) (fun J=> [Qo b bm bh,(mS Qi bm bj m)]) (fun J=>(R4 J/\J=qG m t))
theorem FV (b bm bh bj:Nat) (m:KV) (t:Int):kC b bm bh bj m t (fun za zh zv zu zp=>QB Tryz.prog 22 none 2000 none (Qk Tryz.f13) (.reg [.sem [.nw 2]] (.reg [S0,S0, .callr [0,1] XQ, .sem [.nw 3], .sem (Zq 16 3)] (.reg [.sem (QV 16 3), .callr [] Jz,S0, .sem (QV 4 3),S0, .sem (QV 4 3), .callr [] wE,S0,S0,S0, .sem [.nw 4], .sem (Zq 4 4),S0] (.reg [.sem (QV 4 4), .sem (Zq 4 2)] (.done)))))
    (Q2 za zh) (Q8 Tryz.prog Tryz.f13 [.rd 2, .rd 2, .rd 2, .rd 2] [0,1] (X:=Int) zv zu zp))=
    (∀b1:Nat,XC b bm bh bj m t (fun x2=> ∀b3:Nat,Qj 16 b3 (Qj 16 b3 (XZ x2.1 x2.2.1 x2.2.2.1 x2.2.2.2 (fun x4=>Qj 8 b3 (zB x4 x2.2.2.2 x2.2.2.2 (fun x5=> ∀b6:Nat,Qj 4 b6 (Qj 4 b6 (Qj 4 b1 (Qj 4 b1 (vo b bm bh bj m t (vI x5.1) (Qo b bm bh) (mS Qi bm bj m)))))))))))):=by kernel_rfl
theorem dN (b bm bh bj:Nat) (m:KV) (t:Int) (hk:Xr Qi m):kC b bm bh bj m t (fun za zh zv zu zp=>QC Tryz.prog 13 za zh Int zv zu zp):=by
  refine Qx (c:=Qk Tryz.f13) (n:=22) (fn:=Tryz.f13) QF Tryz.func13 (by kernel_rfl) (by kernel_rfl) (by kernel_rfl) 2000 _ [.rd 2, .rd 2, .rd 2, .rd 2] [0,1] rfl rfl (Eq.mpr (FV b bm bh bj m t) ?_)
  intro b1
  refine XR b bm bh bj m t (fun x2 rh1_ h1=> ?_)
  have rah1:=rh1_.a;have rbh1:=rh1_.b;have rch1:=rh1_.c;have rdh1:=rh1_.d
  have hq:=h1
  intro b3
  refine Qa 16 _ (Qa 16 _ (JC x2.1 x2.2.1 x2.2.2.1 x2.2.2.2 (fun x4 rh2_ h2=> ?_)))
  have ha:=h2
  refine Qa 8 _ (wA x4 x2.2.2.2 x2.2.2.2 (fun x5 rh3_1 h3=> ?_))
  have hg:=h3
  intro b6
  exact Qa 4 _ (Qa 4 _ (Qa 4 _ (Qa 4 _ ⟨x5.1,⟨by assumption,by unfold qG;rw [hg,ha,hq]⟩,rfl,rfl,rfl,trivial⟩)))
noncomputable def xQ:List Value->List Qf->ZB:=fun vs hs=>⟨Int,fun J=>uu J,fun _=>hs,fun J=>J=Wz (V8 (Qh hs 1)) (ci (Qd vs 2))⟩
abbrev Ht (b bm bh bj:Nat) (m:KV) (t:Int) (zv:Value) (zs0:Qf) (zs1:Qf):Prop:= ∃J:Int,(J=Wz m t)/\zv=uu J/\zs0=Qo b bm bh/\zs1=(mS Qi bm bj m)/\True
abbrev xh (b bm bh bj:Nat) (m:KV) (t:Int) (zF:SF Int):Prop:=zF #[pp b 0, .int .u8 t] [Qo b bm bh,(mS Qi bm bj m)] (fun J=>uu J) (fun J=> [Qo b bm bh,(mS Qi bm bj m)]) (fun J=>(J=Wz m t))
theorem gD (b bm bh bj:Nat) (m:KV) (t:Int):xh b bm bh bj m t (fun za zh zv zu zp=>QB Tryz.prog 26 none 2000 none (Qk Tryz.f12) (.reg [S0] (.reg [S0,S0, .callr [0,1] XQ, .sem [.nw 2], .sem (Zq 16 2)] (.reg [S0, .sem (QV 4 2),S0, .sem (QV 4 2), .callr [] Xg,S0,S0,S0, .sem [.nw 3], .sem (Zq 4 3),S0] (.reg [S0,S0] (.cond (.reg [S0, .sem (Zq 4 3)] (.reg [.sem (QV 4 3), .sem (QV 16 2), .callr [] Jz, .callr [] wG,S0] (.done))) (.reg [.sem (QV 4 3), .sem (QV 16 2), .callr [] Jz, .callr [] wG,S0] (.done)))))))
    (Q2 za zh) (Q8 Tryz.prog Tryz.f12 [] [0,1] (X:=Int) zv zu zp))=
    (XC b bm bh bj m t (fun x1=> ∀b2:Nat,Qj 16 b2 (Qj 8 b2 (Z7 x1.2.2.1 x1.2.1 (fun x3=> ∀b4:Nat,Qj 4 b4 (((x3.2 !=(0:Int))=true->Qj 4 b4 (Qj 4 b4 (Qj 16 b2 (XZ x1.1 x1.2.1 x1.2.2.1 x1.2.2.2 (fun x5=>qj (115792089237316195423570985008687907853269984665640564039457584007913129639935:Int) x5 (fun x6=>Ht b bm bh bj m t (uu x6) (Qo b bm bh) (mS Qi bm bj m)))))))/\((x3.2 !=(0:Int))=false->Qj 4 b4 (Qj 16 b2 (XZ x1.1 x1.2.1 x1.2.2.1 x1.2.2.2 (fun x7=>qj x3.1 x7 (fun x8=>Ht b bm bh bj m t (uu x8) (Qo b bm bh) (mS Qi bm bj m)))))))))))):=by kernel_rfl
theorem Qen (b bm bh bj:Nat) (m:KV) (t:Int) (hk:Xr Qi m):xh b bm bh bj m t (fun za zh zv zu zp=>QC Tryz.prog 12 za zh Int zv zu zp):=by
  refine Qx (c:=Qk Tryz.f12) (n:=26) (fn:=Tryz.f12) QF Tryz.func12 (by kernel_rfl) (by kernel_rfl) (by kernel_rfl) 2000 _ [] [0,1] rfl rfl (Eq.mpr (gD b bm bh bj m t) ?_)
  refine XR b bm bh bj m t (fun x1 rh1_ h1=> ?_)
  have rah1:=rh1_.a;have rbh1:=rh1_.b;have rch1:=rh1_.c;have rdh1:=rh1_.d
  have hq:=h1
  intro b2
  refine Qa 16 _ (Qa 8 _ (Xe x1.2.2.1 x1.2.1 (fun x3 rh2_1 h2=> ?_)))
  have ho:=h2
  intro b4
  refine Qa 4 _ ⟨fun h3=> ?_,fun h3=> ?_⟩
  · refine Qa 4 _ (Qa 4 _ (Qa 16 _ (JC x1.1 x1.2.1 x1.2.2.1 x1.2.2.2 (fun x5 rh4_ h4=> ?_))))
    have ha:=h4
    refine wH (115792089237316195423570985008687907853269984665640564039457584007913129639935:Int) x5 (fun x6 h5=> ?_) (r_a:=by unfold R4;decide)
    have hu:=h5
    exact ⟨_,by unfold Wz QeP;rw [←hq,←ho,if_pos (bne_iff_ne.1 h3)];exact hu.trans (by rw [ha];try (unfold Kw;rfl)),rfl,rfl,rfl,trivial⟩
  refine Qa 4 _ (Qa 16 _ (JC x1.1 x1.2.1 x1.2.2.1 x1.2.2.2 (fun x7 rh6_ h6=> ?_)))
  have ha:=h6
  refine wH x3.1 x7 (fun x8 h7=> ?_)
  have hu:=h7
  exact ⟨_,by unfold Wz QeP;rw [←hq,←ho,if_neg (by rw [bne_eq_false_iff_eq.1 h3];exact fun q=>q rfl)];exact hu.trans (by rw [ha];try (unfold Kw;rfl)),rfl,rfl,rfl,trivial⟩
abbrev UW (b bm bh bj:Nat) (m:KV) (t:Int) (KK:Int->Prop):Prop:=xh b bm bh bj m t (fun za zh zv zu zp=>Zh Tryz.prog 12 za zh Int zv zp KK)
theorem xp (b bm bh bj:Nat) (m:KV) (t:Int) {KK:Int->Prop} (kont: ∀J:Int,(J=Wz m t)->KK J) (hk:Xr Qi m:=by assumption):UW b bm bh bj m t KK:=QN (Qen b bm bh bj m t hk) (⟨_,rfl⟩) fun J hz=>by
  exact kont J hz
noncomputable def Qai:List Value->List Qf->ZB:=fun vs hs=>⟨List Int×Bool×BS,fun J=> .tuple #[Qv J.1, .bool J.2.1],fun J=> [.blk (QJ (Qd vs 1)) (.cells #[.pointer (some ⟨(QJ (Qw (Qh hs 0) 0)),0,none⟩), .pointer (some ⟨(QJ (Qw (Qh hs 0) 1)),0,none⟩), .slice none 0 0] 73 (0,0)),(mS Qi (QJ (Qw (Qh hs 0) 0)) (XI (Qh hs 1) 1) J.2.2.1),(mS Qt (QJ (Qw (Qh hs 0) 1)) (XI (Qh hs 1) 1) J.2.2.2.1),(jS QD (XI (Qh hs 1) 1) J.2.2.2.2)],fun J=>QY 80 J.1/\J=doX (QM (QJ (Qw (Qh hs 0) 0))) (Zm (QJ (Qw (Qh hs 0) 1))) (Jj (Qd vs 2)) (((V8 (Qh hs 1)),(V8 (Qh hs 2)),(KH (Qh hs 3))):BS) ((ci (cell (Qd vs 3) 0))%7) (ci (cell (Qd vs 3) 1)) (ci (cell (Qd vs 3) 2)) (Qe (.agg #[cell (Qd vs 3) 3,cell (Qd vs 3) 4,cell (Qd vs 3) 5,cell (Qd vs 3) 6]))⟩
abbrev Xf (b bm bh bj:Nat) (m h:KV) (L:List Zf) (xs:List Int) (k t a n:Int) (zv:Value) (zs0:Qf) (zs1:Qf) (zs2:Qf) (zs3:Qf):Prop:= ∃J:List Int×Bool×BS,(QY 80 J.1/\J=doX (QM bm) (Zm bh) (Jj (Qv xs)) ((m,h,L):BS) (k%7) t a (Qe (vI n)))/\zv= .tuple #[Qv J.1, .bool J.2.1]/\zs0=Qo b bm bh/\zs1=(mS Qi bm bj J.2.2.1)/\zs2=(mS Qt bh bj J.2.2.2.1)/\zs3=(jS QD bj J.2.2.2.2)/\True
abbrev HC (b bm bh bj:Nat) (m h:KV) (L:List Zf) (xs:List Int) (k t a n:Int) (zF:SF (List Int×Bool×BS)):Prop:=zF #[pp b 0,Qv xs, .agg #[.int .u8 k, .int .u8 t, .int .u8 a,uu (Qb n 0),uu (Qb n 1),uu (Qb n 2),uu (Qb n 3)]] [Qo b bm bh,(mS Qi bm bj m),(mS Qt bh bj h),(jS QD bj L)] (fun J=> .tuple #[Qv J.1, .bool J.2.1]) (fun J=> [Qo b bm bh,(mS Qi bm bj J.2.2.1),(mS Qt bh bj J.2.2.2.1),(jS QD bj J.2.2.2.2)]) (fun J=>(QY 80 J.1/\J=doX (QM bm) (Zm bh) (Jj (Qv xs)) ((m,h,L):BS) (k%7) t a (Qe (vI n))))
set_option maxHeartbeats 4000000 in
theorem dt (b bm bh bj:Nat) (m h:KV) (L:List Zf) (xs:List Int) (k t a n:Int):HC b bm bh bj m h L xs k t a n (fun za zh zv zu zp=>QB Tryz.prog 149 none 2000 none (Qk Tryz.f8) (.reg [.specw [] [4] (zE 42), .sem [.nw 5], .specw [] [6] (fun _ _=>⟨Nat,Yg,fun b=> [tb b 42 (Qv (List.replicate 80 0))],fun _=>True⟩),S0] (.reg [S0, .sem [.rd 5], .gen [] (fun vs=>Sx.one (.int .u8 (ci (Qd vs 0)%7)) vs), .gen [] (fun vs=>Sx.one (ii (ci (Qd vs 0))) vs),S0] (.reg [S0] (.reg [S0,S0] (.cond (.reg [.specr [4] Zl,S0, .sem [.rd 5],S0, .sem [.rd 5],S0, .sem (QV 4 5), .callr [] vf,S0,S0,S0,S0, .specw [] [7] (fun _ _=>⟨Nat,Yg,fun b=> [tb b 42 (Qv (List.replicate 80 0))],fun _=>True⟩), .sem [.nw 8], .specw [7] [7] (QX 42), .sem (Zq 4 8),S0] (.reg [S0,S0, .sem [.rd 5],S0, .sem [.rd 5],S0, .sem (QV 4 5), .callw [0,1,2,3] [0,1,2,3] wB,S0,S0,S0, .sem [.nw 9], .sem (Zq 4 9),S0] (.caseP (fun s=>Qe (.agg (Qm (s.H 9)))==Qe (.agg (Qm (s.H 8)))) (.reg [.specr [7] Zl, .sem (QV 4 9), .sem (QV 4 8), .specr [] (fun _ hs=>⟨Unit,fun _=> .bool true,fun _=>hs,fun _=>True⟩),S0,S0,S0,S0,S0, .specw [6] [6] (QX 42),S0] (.done)) (.reg [.specr [7] Zl, .sem (QV 4 9), .sem (QV 4 8), .specr [] (fun _ hs=>⟨Unit,fun _=> .bool false,fun _=>hs,fun _=>True⟩),S0, .no, .no, .no,S0, .specw [6] [6] (QX 42),S0] (.done))))) (.reg [S0,S0] (.cond (.reg [.specr [4] Zl,S0, .sem [.rd 5],S0, .sem [.rd 5],S0, .sem (QV 4 5), .callr [] FU,S0,S0,S0,S0, .specw [] [10] (fun _ _=>⟨Nat,Yg,fun b=> [tb b 42 (Qv (List.replicate 80 0))],fun _=>True⟩), .sem [.nw 11], .specw [10] [10] (QX 42), .sem (Zq 4 11),S0] (.reg [S0,S0, .sem [.rd 5],S0, .sem [.rd 5],S0, .sem (QV 4 5), .callw [0,1,2,3] [0,1,2,3] vh,S0,S0,S0, .sem [.nw 12], .sem (Zq 4 12),S0] (.caseP (fun s=>Qe (.agg (Qm (s.H 12)))==Qe (.agg (Qm (s.H 11)))) (.reg [.specr [10] Zl, .sem (QV 4 12), .sem (QV 4 11), .specr [] (fun _ hs=>⟨Unit,fun _=> .bool true,fun _=>hs,fun _=>True⟩),S0,S0,S0,S0,S0, .specw [6] [6] (QX 42),S0] (.done)) (.reg [.specr [10] Zl, .sem (QV 4 12), .sem (QV 4 11), .specr [] (fun _ hs=>⟨Unit,fun _=> .bool false,fun _=>hs,fun _=>True⟩),S0, .no, .no, .no,S0, .specw [6] [6] (QX 42),S0] (.done))))) (.reg [.specr [4] Zl,S0, .gen [] (fun vs=>Sx.one (ii (ci (Qd vs 0) - ci (Qd vs 1))) vs),S0, .sem [.rd 5],S0, .sem (QV 4 5), .callr [] GL,S0,S0,S0, .specw [] [13] (fun _ _=>⟨Nat,Yg,fun b=> [tb b 42 (Qv (List.replicate 80 0))],fun _=>True⟩), .specw [13] [13] (QX 42),S0] (.reg [S0] (.reg [S0] (.reg [S0,S0] (.cond (.reg [S0,S0, .sem [.rd 5],S0, .sem (QV 4 5), .callw [0,1,3] [0,1,3] vY,S0] (.reg [.specr [13] Zl,S0,S0,S0, .specw [6] [6] (QX 42),S0] (.done))) (.reg [S0,S0] (.cond (.reg [S0,S0, .sem [.rd 5],S0, .sem (QV 4 5), .callw [0,1,3] [0,1,3] GB,S0] (.reg [.specr [13] Zl,S0,S0,S0, .specw [6] [6] (QX 42),S0] (.done))) (.reg [S0,S0] (.cond (.reg [S0,S0, .sem [.rd 5],S0, .sem (QV 4 5), .callw [0,1,3] [0,1,3] Gk,S0] (.reg [.specr [13] Zl,S0,S0,S0, .specw [6] [6] (QX 42),S0] (.done))) (.reg [S0,S0] (.cond (.reg [S0,S0, .sem [.rd 5],S0, .sem (QV 4 5), .callw [0,1,3] [0,1,3] yC,S0] (.reg [.specr [13] Zl,S0,S0,S0, .specw [6] [6] (QX 42),S0] (.done))) (.reg [S0,S0, .sem [.rd 5],S0, .sem (QV 4 5), .callw [0,1,3] [0,1,3] DN,S0] (.reg [.specr [13] Zl,S0,S0,S0, .specw [6] [6] (QX 42),S0] (.done)))))))))))))))))))))
    (Q2 za zh) (Qd5 Tryz.prog Tryz.f8 [.tab 6] [0,1,2,3] (X:=List Int×Bool×BS) zv zu zp))=
    (Xc Tryz.prog (vS (Instr.box 42 (Qv xs))) [] Nat (fun J=>pp J 0) (fun J=> [(tb J 42 (Qv xs))]) (fun J=>True) (fun x1=> ∀b2:Nat,Xc Tryz.prog (vS (Instr.alloc 42 true (.tuple #[]))) [] Nat (fun J=>pp J 0) (fun J=> [(tb J 42 (Qv (List.replicate 80 0)))]) (fun J=>True) (fun x3=>Qj 1 b2 (gE (.int .u8 (Int.tmod k 7)) (.int .u8 (k%7)) (gE (ii (IntKind.i64.wrap (k%7))) (ii (k%7)) ((((k%7)==(0:Int))=true->Za Tryz.prog (vS (Instr.loadAt 42 (pp x1 0))) [(tb x1 42 (Qv xs))] Unit (fun _=>Qv xs) (fun _=>True) (fun _=>Qj 6 b2 (Zh Tryz.prog 25 #[Qv xs, .int .u8 t, .int .u8 a,vI n] [] (List Int×Int×Int) (fun J=> .tuple #[Qv J.1,vI J.2.1,ii J.2.2]) (fun J=>QY 80 J.1/\R4 J.2.1/\J=K8 (Jj (Qv xs)) t a (Qe (vI n))) (fun x4=>Xc Tryz.prog (vS (Instr.alloc 42 true (.tuple #[]))) [] Nat (fun J=>pp J 0) (fun J=> [(tb J 42 (Qv (List.replicate 80 0)))]) (fun J=>True) (fun x5=> ∀b6:Nat,Xc Tryz.prog (KJ (Instr.storeAt 42 (pp x5 0) (Qv x4.1))) [(tb x5 42 (Qv (List.replicate 80 0)))] Unit (fun _=> .tuple #[]) (fun _=> [(tb x5 42 (Qv x4.1))]) (fun _=>True) (fun _=>Qj 4 b6 (Qj 6 b2 (zN b bm bh bj m h L t a n (fun x7=> ∀b8:Nat,Qj 4 b8 (((Qe (vI x7.1.1)==Qe (vI x4.2.1))=true->Za Tryz.prog (vS (Instr.loadAt 42 (pp x5 0))) [(tb x5 42 (Qv x4.1))] Unit (fun _=>Qv x4.1) (fun _=>True) (fun _=>Qj 4 b8 (Qj 4 b6 (Za Tryz.prog (Q0 .eql 35 (vI x7.1.1) (vI x4.2.1)) [] Unit (fun _=> .bool true) (fun _=>True) (fun _=>true=true/\true=true/\true=true/\Xc Tryz.prog (KJ (Instr.storeAt 42 (pp x3 0) (Qv x4.1))) [(tb x3 42 (Qv (List.replicate 80 0)))] Unit (fun _=> .tuple #[]) (fun _=> [(tb x3 42 (Qv x4.1))]) (fun _=>True) (fun _=>(Zr Tryz.prog 42 (tb x3 42 (Qv x4.1)) (pp x3 0) (Qv x4.1))/\Xf b bm bh bj m h L xs k t a n (Value.tuple #[Qv x4.1, .bool (x7.1.2==x4.2.2)]) (Qo b bm bh) (mS Qi bm bj x7.2.1) (mS Qt bh bj x7.2.2.1) (jS QD bj x7.2.2.2)))))))/\((Qe (vI x7.1.1)==Qe (vI x4.2.1))=false->Za Tryz.prog (vS (Instr.loadAt 42 (pp x5 0))) [(tb x5 42 (Qv x4.1))] Unit (fun _=>Qv x4.1) (fun _=>True) (fun _=>Qj 4 b8 (Qj 4 b6 (Za Tryz.prog (Q0 .eql 35 (vI x7.1.1) (vI x4.2.1)) [] Unit (fun _=> .bool false) (fun _=>True) (fun _=>false= !true/\false= !true/\false= !true/\Xc Tryz.prog (KJ (Instr.storeAt 42 (pp x3 0) (Qv x4.1))) [(tb x3 42 (Qv (List.replicate 80 0)))] Unit (fun _=> .tuple #[]) (fun _=> [(tb x3 42 (Qv x4.1))]) (fun _=>True) (fun _=>(Zr Tryz.prog 42 (tb x3 42 (Qv x4.1)) (pp x3 0) (Qv x4.1))/\Xf b bm bh bj m h L xs k t a n (Value.tuple #[Qv x4.1, .bool false]) (Qo b bm bh) (mS Qi bm bj x7.2.1) (mS Qt bh bj x7.2.2.1) (jS QD bj x7.2.2.2)))))))))))))))))/\(((k%7)==(0:Int))=false->(((k%7)==(1:Int))=true->Za Tryz.prog (vS (Instr.loadAt 42 (pp x1 0))) [(tb x1 42 (Qv xs))] Unit (fun _=>Qv xs) (fun _=>True) (fun _=>Qj 6 b2 (Zh Tryz.prog 26 #[Qv xs, .int .u8 t, .int .u8 a,vI n] [] (List Int×Int×Int) (fun J=> .tuple #[Qv J.1,vI J.2.1,ii J.2.2]) (fun J=>QY 80 J.1/\R4 J.2.1/\J=Xk (Jj (Qv xs)) t a (Qe (vI n))) (fun x9=>Xc Tryz.prog (vS (Instr.alloc 42 true (.tuple #[]))) [] Nat (fun J=>pp J 0) (fun J=> [(tb J 42 (Qv (List.replicate 80 0)))]) (fun J=>True) (fun x10=> ∀b11:Nat,Xc Tryz.prog (KJ (Instr.storeAt 42 (pp x10 0) (Qv x9.1))) [(tb x10 42 (Qv (List.replicate 80 0)))] Unit (fun _=> .tuple #[]) (fun _=> [(tb x10 42 (Qv x9.1))]) (fun _=>True) (fun _=>Qj 4 b11 (Qj 6 b2 (Ze Tryz.prog 27 #[pp b 0, .int .u8 t, .int .u8 a,vI n] [Qo b bm bh,(mS Qi bm bj m),(mS Qt bh bj h),(jS QD bj L)] ((Int×Int)×BS) (fun J=> .tuple #[vI J.1.1,ii J.1.2]) (fun J=> [Qo b bm bh,(mS Qi bm bj J.2.1),(mS Qt bh bj J.2.2.1),(jS QD bj J.2.2.2)]) (fun J=>R4 J.1.1/\J=ZS (QM bm) (Zm bh) ((m,h,L):BS) t a (Qe (vI n))) (fun x12=> ∀b13:Nat,Qj 4 b13 (((Qe (vI x12.1.1)==Qe (vI x9.2.1))=true->Za Tryz.prog (vS (Instr.loadAt 42 (pp x10 0))) [(tb x10 42 (Qv x9.1))] Unit (fun _=>Qv x9.1) (fun _=>True) (fun _=>Qj 4 b13 (Qj 4 b11 (Za Tryz.prog (Q0 .eql 35 (vI x12.1.1) (vI x9.2.1)) [] Unit (fun _=> .bool true) (fun _=>True) (fun _=>true=true/\true=true/\true=true/\Xc Tryz.prog (KJ (Instr.storeAt 42 (pp x3 0) (Qv x9.1))) [(tb x3 42 (Qv (List.replicate 80 0)))] Unit (fun _=> .tuple #[]) (fun _=> [(tb x3 42 (Qv x9.1))]) (fun _=>True) (fun _=>(Zr Tryz.prog 42 (tb x3 42 (Qv x9.1)) (pp x3 0) (Qv x9.1))/\Xf b bm bh bj m h L xs k t a n (Value.tuple #[Qv x9.1, .bool (x12.1.2==x9.2.2)]) (Qo b bm bh) (mS Qi bm bj x12.2.1) (mS Qt bh bj x12.2.2.1) (jS QD bj x12.2.2.2)))))))/\((Qe (vI x12.1.1)==Qe (vI x9.2.1))=false->Za Tryz.prog (vS (Instr.loadAt 42 (pp x10 0))) [(tb x10 42 (Qv x9.1))] Unit (fun _=>Qv x9.1) (fun _=>True) (fun _=>Qj 4 b13 (Qj 4 b11 (Za Tryz.prog (Q0 .eql 35 (vI x12.1.1) (vI x9.2.1)) [] Unit (fun _=> .bool false) (fun _=>True) (fun _=>false= !true/\false= !true/\false= !true/\Xc Tryz.prog (KJ (Instr.storeAt 42 (pp x3 0) (Qv x9.1))) [(tb x3 42 (Qv (List.replicate 80 0)))] Unit (fun _=> .tuple #[]) (fun _=> [(tb x3 42 (Qv x9.1))]) (fun _=>True) (fun _=>(Zr Tryz.prog 42 (tb x3 42 (Qv x9.1)) (pp x3 0) (Qv x9.1))/\Xf b bm bh bj m h L xs k t a n (Value.tuple #[Qv x9.1, .bool false]) (Qo b bm bh) (mS Qi bm bj x12.2.1) (mS Qt bh bj x12.2.2.1) (jS QD bj x12.2.2.2)))))))))))))))))/\(((k%7)==(1:Int))=false->Za Tryz.prog (vS (Instr.loadAt 42 (pp x1 0))) [(tb x1 42 (Qv xs))] Unit (fun _=>Qv xs) (fun _=>True) (fun _=>gE (ii (IntKind.i64.wrap ((k%7) - 2))) (ii ((k%7) - 2)) (Qj 5 b2 (Zh Tryz.prog 28 #[Qv xs,ii ((k%7) - 2), .int .u8 t,vI n] [] (List Int×Int) (fun J=> .tuple #[Qv J.1,ii J.2]) (fun J=>QY 80 J.1/\J=qa (Jj (Qv xs)) ((k%7) - 2) t (Qe (vI n))) (fun x14=>Xc Tryz.prog (vS (Instr.alloc 42 true (.tuple #[]))) [] Nat (fun J=>pp J 0) (fun J=> [(tb J 42 (Qv (List.replicate 80 0)))]) (fun J=>True) (fun x15=>Xc Tryz.prog (KJ (Instr.storeAt 42 (pp x15 0) (Qv x14.1))) [(tb x15 42 (Qv (List.replicate 80 0)))] Unit (fun _=> .tuple #[]) (fun _=> [(tb x15 42 (Qv x14.1))]) (fun _=>True) (fun _=>(((k%7)==(2:Int))=true->Qj 5 b2 (Ze Tryz.prog 29 #[pp b 0, .int .u8 t,vI n] [Qo b bm bh,(mS Qi bm bj m),(jS QD bj L)] (Int×BS) (fun J=>ii J.1) (fun J=> [Qo b bm bh,(mS Qi bm bj J.2.1),(jS QD bj J.2.2.2)]) (fun J=>J=ZT (QM bm) Jy ((m,[],L):BS) t (Qe (vI n))) (fun x16=>Za Tryz.prog (vS (Instr.loadAt 42 (pp x15 0))) [(tb x15 42 (Qv x14.1))] Unit (fun _=>Qv x14.1) (fun _=>True) (fun _=>Xc Tryz.prog (KJ (Instr.storeAt 42 (pp x3 0) (Qv x14.1))) [(tb x3 42 (Qv (List.replicate 80 0)))] Unit (fun _=> .tuple #[]) (fun _=> [(tb x3 42 (Qv x14.1))]) (fun _=>True) (fun _=>(Zr Tryz.prog 42 (tb x3 42 (Qv x14.1)) (pp x3 0) (Qv x14.1))/\Xf b bm bh bj m h L xs k t a n (Value.tuple #[Qv x14.1, .bool (x16.1==x14.2)]) (Qo b bm bh) (mS Qi bm bj x16.2.1) (mS Qt bh bj h) (jS QD bj x16.2.2.2))))))/\(((k%7)==(2:Int))=false->(((k%7)==(3:Int))=true->Qj 5 b2 (Ze Tryz.prog 30 #[pp b 0, .int .u8 t,vI n] [Qo b bm bh,(mS Qi bm bj m),(jS QD bj L)] (Int×BS) (fun J=>ii J.1) (fun J=> [Qo b bm bh,(mS Qi bm bj J.2.1),(jS QD bj J.2.2.2)]) (fun J=>J=ZT (QM bm) qA ((m,[],L):BS) t (Qe (vI n))) (fun x17=>Za Tryz.prog (vS (Instr.loadAt 42 (pp x15 0))) [(tb x15 42 (Qv x14.1))] Unit (fun _=>Qv x14.1) (fun _=>True) (fun _=>Xc Tryz.prog (KJ (Instr.storeAt 42 (pp x3 0) (Qv x14.1))) [(tb x3 42 (Qv (List.replicate 80 0)))] Unit (fun _=> .tuple #[]) (fun _=> [(tb x3 42 (Qv x14.1))]) (fun _=>True) (fun _=>(Zr Tryz.prog 42 (tb x3 42 (Qv x14.1)) (pp x3 0) (Qv x14.1))/\Xf b bm bh bj m h L xs k t a n (Value.tuple #[Qv x14.1, .bool (x17.1==x14.2)]) (Qo b bm bh) (mS Qi bm bj x17.2.1) (mS Qt bh bj h) (jS QD bj x17.2.2.2))))))/\(((k%7)==(3:Int))=false->(((k%7)==(4:Int))=true->Qj 5 b2 (Ze Tryz.prog 31 #[pp b 0, .int .u8 t,vI n] [Qo b bm bh,(mS Qi bm bj m),(jS QD bj L)] (Int×BS) (fun J=>ii J.1) (fun J=> [Qo b bm bh,(mS Qi bm bj J.2.1),(jS QD bj J.2.2.2)]) (fun J=>J=ZT (QM bm) qU ((m,[],L):BS) t (Qe (vI n))) (fun x18=>Za Tryz.prog (vS (Instr.loadAt 42 (pp x15 0))) [(tb x15 42 (Qv x14.1))] Unit (fun _=>Qv x14.1) (fun _=>True) (fun _=>Xc Tryz.prog (KJ (Instr.storeAt 42 (pp x3 0) (Qv x14.1))) [(tb x3 42 (Qv (List.replicate 80 0)))] Unit (fun _=> .tuple #[]) (fun _=> [(tb x3 42 (Qv x14.1))]) (fun _=>True) (fun _=>(Zr Tryz.prog 42 (tb x3 42 (Qv x14.1)) (pp x3 0) (Qv x14.1))/\Xf b bm bh bj m h L xs k t a n (Value.tuple #[Qv x14.1, .bool (x18.1==x14.2)]) (Qo b bm bh) (mS Qi bm bj x18.2.1) (mS Qt bh bj h) (jS QD bj x18.2.2.2))))))/\(((k%7)==(4:Int))=false->(((k%7)==(5:Int))=true->Qj 5 b2 (Us b bm bh bj m L t n (fun x19=>Za Tryz.prog (vS (Instr.loadAt 42 (pp x15 0))) [(tb x15 42 (Qv x14.1))] Unit (fun _=>Qv x14.1) (fun _=>True) (fun _=>Xc Tryz.prog (KJ (Instr.storeAt 42 (pp x3 0) (Qv x14.1))) [(tb x3 42 (Qv (List.replicate 80 0)))] Unit (fun _=> .tuple #[]) (fun _=> [(tb x3 42 (Qv x14.1))]) (fun _=>True) (fun _=>(Zr Tryz.prog 42 (tb x3 42 (Qv x14.1)) (pp x3 0) (Qv x14.1))/\Xf b bm bh bj m h L xs k t a n (Value.tuple #[Qv x14.1, .bool (x19.1==x14.2)]) (Qo b bm bh) (mS Qi bm bj x19.2.1) (mS Qt bh bj h) (jS QD bj x19.2.2.2))))))/\(((k%7)==(5:Int))=false->Qj 5 b2 (Ze Tryz.prog 32 #[pp b 0, .int .u8 t,vI n] [Qo b bm bh,(mS Qi bm bj m),(jS QD bj L)] (Int×BS) (fun J=>ii J.1) (fun J=> [Qo b bm bh,(mS Qi bm bj J.2.1),(jS QD bj J.2.2.2)]) (fun J=>J=ZT (QM bm) Z5 ((m,[],L):BS) t (Qe (vI n))) (fun x20=>Za Tryz.prog (vS (Instr.loadAt 42 (pp x15 0))) [(tb x15 42 (Qv x14.1))] Unit (fun _=>Qv x14.1) (fun _=>True) (fun _=>Xc Tryz.prog (KJ (Instr.storeAt 42 (pp x3 0) (Qv x14.1))) [(tb x3 42 (Qv (List.replicate 80 0)))] Unit (fun _=> .tuple #[]) (fun _=> [(tb x3 42 (Qv x14.1))]) (fun _=>True) (fun _=>(Zr Tryz.prog 42 (tb x3 42 (Qv x14.1)) (pp x3 0) (Qv x14.1))/\Xf b bm bh bj m h L xs k t a n (Value.tuple #[Qv x14.1, .bool (x20.1==x14.2)]) (Qo b bm bh) (mS Qi bm bj x20.2.1) (mS Qt bh bj h) (jS QD bj x20.2.2.2))))))))))))))))))))))):=by kernel_rfl
set_option maxHeartbeats 4000000 in
theorem QeB (b bm bh bj:Nat) (m h:KV) (L:List Zf) (xs:List Int) (k t a n:Int) (r_xs:QY 80 xs) (r_n:R4 n) (wk:(Lit.int .u8 k).wf=true) (wt:(Lit.int .u8 t).wf=true) (wa:(Lit.int .u8 a).wf=true) (hk:Xr Qi m) (hh:Xr Qt h) (hl:L.length<=1000000):HC b bm bh bj m h L xs k t a n (fun za zh zv zu zp=>QC Tryz.prog 8 za zh (List Int×Bool×BS) zv zu zp):=by
  refine VA (c:=Qk Tryz.f8) (n:=149) (fn:=Tryz.f8) QF Tryz.func8 (by kernel_rfl) (by kernel_rfl) (by kernel_rfl) 2000 _ [.tab 6] [0,1,2,3] rfl rfl (Eq.mpr (dt b bm bh bj m h L xs k t a n) ?_)
  have wk' :=yb wk
  refine QG (We 42 xs) (⟨0,trivial⟩) fun x1 h1=>fun b2=>QG (Y2 42 (List.replicate 80 0) (fun w=>by kernel_rfl)) (⟨0,trivial⟩) fun x3 h2=>Qa 1 _ (Ql (congrArg (Value.int .u8) (QgW 7 wk'.1 wk'.2 (by decide))) (Ql (congrArg (Value.int .i64) (Qz _ (by omega) (by omega))) ⟨fun h3=> ?_,fun h3=> ?_⟩))
  · refine Qy (ZH (m:=80) 320 (fun w=>by kernel_rfl) (fun w=>by kernel_rfl) rfl x1 42 (show QY 80 xs from ‹_›).1) (⟨(),trivial⟩) fun _ _=>Qa 6 _ (QN (bX xs t a n ‹_› ‹_› (by first | assumption | decide) (by first | assumption | decide)) (⟨_,(vc (by first | assumption | exact QE _ | (rw [QR (n:=80) ‹_›];assumption)) _ _ (by first | exact Qu _ | exact by assumption)).1,(vc (by first | assumption | exact QE _ | (rw [QR (n:=80) ‹_›];assumption)) _ _ (by first | exact Qu _ | exact by assumption)).2,rfl⟩) fun x4 h4=> ?_)
    obtain ⟨rh4_1,h4⟩:=h4
    obtain ⟨rh4_21,h4⟩:=h4
    try simp only [QR (xs:=xs) ‹_›,Qc (n:=n) ‹_›] at h4
    have hr:=h4
    refine QG (Y2 42 (List.replicate 80 0) (fun w=>by kernel_rfl)) (⟨0,trivial⟩) fun x5 h5=>fun b6=>QG (Q5 (m:=80) 320 (fun w=>by kernel_rfl) x5 42 (show QY 80 (List.replicate 80 0) from (QE 80)).1 (show QY 80 x4.1 from ‹_›).1 rfl) (⟨(),trivial⟩) fun _ _=>Qa 4 _ (Qa 6 _ (wJ b bm bh bj m h L t a n (fun x7 rh6_11 h6=> ?_)))
    have hp:=h6
    intro b8
    refine Qa 4 _ ⟨fun h7=> ?_,fun h7=> ?_⟩
    · refine Qy (ZH (m:=80) 320 (fun w=>by kernel_rfl) (fun w=>by kernel_rfl) rfl x5 42 (show QY 80 x4.1 from ‹_›).1) (⟨(),trivial⟩) fun _ _=>Qa 4 _ (Qa 4 _ (Qy (YZ.ofPure (JD x7.1.1 x4.2.1) (congrArg Value.bool (h7))) (⟨(),trivial⟩) fun _ _=>⟨rfl,rfl,rfl,QG (Q5 (m:=80) 320 (fun w=>by kernel_rfl) x3 42 (show QY 80 (List.replicate 80 0) from (QE 80)).1 (show QY 80 x4.1 from ‹_›).1 rfl) (⟨(),trivial⟩) fun _ _=>⟨Zk (m:=80) 320 (fun w=>by kernel_rfl) (fun w=>by kernel_rfl) rfl (show QY 80 x4.1 by first | assumption | exact QE _).1,?_⟩⟩))
      unfold Xf
      have e0:=h7
      rw [Qc ‹_›,Qc ‹_›] at e0
      exact ⟨(x4.1,x7.1.2==x4.2.2,x7.2.1,x7.2.2.1,x7.2.2.2),⟨by assumption,by rw [QR r_xs,Qc r_n];exact (QhE (beq_iff_eq.1 h3) hr hp ((gQ e0))).symm⟩,rfl,rfl,rfl,rfl,rfl,trivial⟩
    refine Qy (ZH (m:=80) 320 (fun w=>by kernel_rfl) (fun w=>by kernel_rfl) rfl x5 42 (show QY 80 x4.1 from ‹_›).1) (⟨(),trivial⟩) fun _ _=>Qa 4 _ (Qa 4 _ (Qy (YZ.ofPure (JD x7.1.1 x4.2.1) (congrArg Value.bool (h7))) (⟨(),trivial⟩) fun _ _=>⟨rfl,rfl,rfl,QG (Q5 (m:=80) 320 (fun w=>by kernel_rfl) x3 42 (show QY 80 (List.replicate 80 0) from (QE 80)).1 (show QY 80 x4.1 from ‹_›).1 rfl) (⟨(),trivial⟩) fun _ _=>⟨Zk (m:=80) 320 (fun w=>by kernel_rfl) (fun w=>by kernel_rfl) rfl (show QY 80 x4.1 by first | assumption | exact QE _).1,?_⟩⟩))
    unfold Xf
    have e0:=h7
    rw [Qc ‹_›,Qc ‹_›] at e0
    exact ⟨(x4.1,false,x7.2.1,x7.2.2.1,x7.2.2.2),⟨by assumption,by rw [QR r_xs,Qc r_n];exact (QhE (beq_iff_eq.1 h3) hr hp (Qbh e0)).symm⟩,rfl,rfl,rfl,rfl,rfl,trivial⟩
  refine ⟨fun h8=> ?_,fun h8=> ?_⟩
  · refine Qy (ZH (m:=80) 320 (fun w=>by kernel_rfl) (fun w=>by kernel_rfl) rfl x1 42 (show QY 80 xs from ‹_›).1) (⟨(),trivial⟩) fun _ _=>Qa 6 _ (QN (gH xs t a n ‹_› ‹_› (by first | assumption | decide) (by first | assumption | decide)) (⟨_,(HO (by first | assumption | exact QE _ | (rw [QR (n:=80) ‹_›];assumption)) _ _ (by first | exact Qu _ | exact by assumption)).1,(HO (by first | assumption | exact QE _ | (rw [QR (n:=80) ‹_›];assumption)) _ _ (by first | exact Qu _ | exact by assumption)).2,rfl⟩) fun x9 h9=> ?_)
    obtain ⟨rh9_1,h9⟩:=h9
    obtain ⟨rh9_21,h9⟩:=h9
    try simp only [QR (xs:=xs) ‹_›,Qc (n:=n) ‹_›] at h9
    have hr:=h9
    refine QG (Y2 42 (List.replicate 80 0) (fun w=>by kernel_rfl)) (⟨0,trivial⟩) fun x10 h10=>fun b11=>QG (Q5 (m:=80) 320 (fun w=>by kernel_rfl) x10 42 (show QY 80 (List.replicate 80 0) from (QE 80)).1 (show QY 80 x9.1 from ‹_›).1 rfl) (⟨(),trivial⟩) fun _ _=>Qa 4 _ (Qa 6 _ (QH (Qau b bm bh bj m h L t a n ‹_› (by first | assumption | decide) (by first | assumption | decide) ‹_› ‹_› (by omega)) (⟨_,Qdz GX yH (by first | assumption | exact Xr.nil) (by first | assumption | exact Xr.nil) (by first | exact Qu _ | exact by assumption),rfl⟩) fun x12 h11=> ?_))
    obtain ⟨rh11_11,h11⟩:=h11
    try simp only [Qc (n:=n) ‹_›] at h11
    have hp:=h11
    intro b13
    refine Qa 4 _ ⟨fun h12=> ?_,fun h12=> ?_⟩
    · refine Qy (ZH (m:=80) 320 (fun w=>by kernel_rfl) (fun w=>by kernel_rfl) rfl x10 42 (show QY 80 x9.1 from ‹_›).1) (⟨(),trivial⟩) fun _ _=>Qa 4 _ (Qa 4 _ (Qy (YZ.ofPure (JD x12.1.1 x9.2.1) (congrArg Value.bool (h12))) (⟨(),trivial⟩) fun _ _=>⟨rfl,rfl,rfl,QG (Q5 (m:=80) 320 (fun w=>by kernel_rfl) x3 42 (show QY 80 (List.replicate 80 0) from (QE 80)).1 (show QY 80 x9.1 from ‹_›).1 rfl) (⟨(),trivial⟩) fun _ _=>⟨Zk (m:=80) 320 (fun w=>by kernel_rfl) (fun w=>by kernel_rfl) rfl (show QY 80 x9.1 by first | assumption | exact QE _).1,?_⟩⟩))
      unfold Xf
      have e0:=h12
      rw [Qc ‹_›,Qc ‹_›] at e0
      exact ⟨(x9.1,x12.1.2==x9.2.2,x12.2.1,x12.2.2.1,x12.2.2.2),⟨by assumption,by rw [QR r_xs,Qc r_n];exact (Qhu (beq_eq_false_iff_ne.1 h3) (beq_iff_eq.1 h8) hr hp ((gQ e0))).symm⟩,rfl,rfl,rfl,rfl,rfl,trivial⟩
    refine Qy (ZH (m:=80) 320 (fun w=>by kernel_rfl) (fun w=>by kernel_rfl) rfl x10 42 (show QY 80 x9.1 from ‹_›).1) (⟨(),trivial⟩) fun _ _=>Qa 4 _ (Qa 4 _ (Qy (YZ.ofPure (JD x12.1.1 x9.2.1) (congrArg Value.bool (h12))) (⟨(),trivial⟩) fun _ _=>⟨rfl,rfl,rfl,QG (Q5 (m:=80) 320 (fun w=>by kernel_rfl) x3 42 (show QY 80 (List.replicate 80 0) from (QE 80)).1 (show QY 80 x9.1 from ‹_›).1 rfl) (⟨(),trivial⟩) fun _ _=>⟨Zk (m:=80) 320 (fun w=>by kernel_rfl) (fun w=>by kernel_rfl) rfl (show QY 80 x9.1 by first | assumption | exact QE _).1,?_⟩⟩))
    unfold Xf
    have e0:=h12
    rw [Qc ‹_›,Qc ‹_›] at e0
    exact ⟨(x9.1,false,x12.2.1,x12.2.2.1,x12.2.2.2),⟨by assumption,by rw [QR r_xs,Qc r_n];exact (Qhu (beq_eq_false_iff_ne.1 h3) (beq_iff_eq.1 h8) hr hp (Qbh e0)).symm⟩,rfl,rfl,rfl,rfl,rfl,trivial⟩
  refine Qy (ZH (m:=80) 320 (fun w=>by kernel_rfl) (fun w=>by kernel_rfl) rfl x1 42 (show QY 80 xs from ‹_›).1) (⟨(),trivial⟩) fun _ _=>Ql (congrArg (Value.int .i64) (Qz _ (by omega) (by omega))) (Qa 5 _ (QN (Bv xs ((k%7) - 2) t n ‹_› ‹_› (by first | assumption | decide)) (⟨_,QdW (by first | assumption | exact QE _ | (rw [QR (n:=80) ‹_›];assumption)) _ _ (by first | exact Qu _ | exact by assumption) (yb ‹_›).1,rfl⟩) fun x14 h13=> ?_))
  obtain ⟨rh13_1,h13⟩:=h13
  try simp only [QR (xs:=xs) ‹_›,Qc (n:=n) ‹_›] at h13
  have hr:=h13
  refine QG (Y2 42 (List.replicate 80 0) (fun w=>by kernel_rfl)) (⟨0,trivial⟩) fun x15 h14=>QG (Q5 (m:=80) 320 (fun w=>by kernel_rfl) x15 42 (show QY 80 (List.replicate 80 0) from (QE 80)).1 (show QY 80 x14.1 from ‹_›).1 rfl) (⟨(),trivial⟩) fun _ _=>⟨fun h15=> ?_,fun h15=> ?_⟩
  · refine Qa 5 _ (QH (Qb0 b bm bh bj m L t n ‹_› ‹_› (by omega)) (⟨_,rfl⟩) fun x16 h16=> ?_)
    try simp only [Qc (n:=n) ‹_›] at h16
    have hp:=h16
    exact Qy (ZH (m:=80) 320 (fun w=>by kernel_rfl) (fun w=>by kernel_rfl) rfl x15 42 (show QY 80 x14.1 from ‹_›).1) (⟨(),trivial⟩) fun _ _=>QG (Q5 (m:=80) 320 (fun w=>by kernel_rfl) x3 42 (show QY 80 (List.replicate 80 0) from (QE 80)).1 (show QY 80 x14.1 from ‹_›).1 rfl) (⟨(),trivial⟩) fun _ _=>⟨Zk (m:=80) 320 (fun w=>by kernel_rfl) (fun w=>by kernel_rfl) rfl (show QY 80 x14.1 by first | assumption | exact QE _).1,⟨(x14.1,x16.1==x14.2,x16.2.1,h,x16.2.2.2),⟨by assumption,by rw [QR r_xs,Qc r_n];exact (Qc2 (beq_eq_false_iff_ne.1 h3) (beq_eq_false_iff_ne.1 h8) (Qii (beq_iff_eq.1 h15)) hr hp).symm⟩,rfl,rfl,rfl,rfl,rfl,trivial⟩⟩
  refine ⟨fun h17=> ?_,fun h17=> ?_⟩
  · refine Qa 5 _ (QH (DJ b bm bh bj m L t n ‹_› ‹_› (by omega)) (⟨_,rfl⟩) fun x17 h18=> ?_)
    try simp only [Qc (n:=n) ‹_›] at h18
    have hp:=h18
    exact Qy (ZH (m:=80) 320 (fun w=>by kernel_rfl) (fun w=>by kernel_rfl) rfl x15 42 (show QY 80 x14.1 from ‹_›).1) (⟨(),trivial⟩) fun _ _=>QG (Q5 (m:=80) 320 (fun w=>by kernel_rfl) x3 42 (show QY 80 (List.replicate 80 0) from (QE 80)).1 (show QY 80 x14.1 from ‹_›).1 rfl) (⟨(),trivial⟩) fun _ _=>⟨Zk (m:=80) 320 (fun w=>by kernel_rfl) (fun w=>by kernel_rfl) rfl (show QY 80 x14.1 by first | assumption | exact QE _).1,⟨(x14.1,x17.1==x14.2,x17.2.1,h,x17.2.2.2),⟨by assumption,by rw [QR r_xs,Qc r_n];exact (Qc2 (beq_eq_false_iff_ne.1 h3) (beq_eq_false_iff_ne.1 h8) (Qia (beq_iff_eq.1 h17)) hr hp).symm⟩,rfl,rfl,rfl,rfl,rfl,trivial⟩⟩
  refine ⟨fun h19=> ?_,fun h19=> ?_⟩
  · refine Qa 5 _ (QH (Bz b bm bh bj m L t n ‹_› ‹_› (by omega)) (⟨_,rfl⟩) fun x18 h20=> ?_)
    try simp only [Qc (n:=n) ‹_›] at h20
    have hp:=h20
    exact Qy (ZH (m:=80) 320 (fun w=>by kernel_rfl) (fun w=>by kernel_rfl) rfl x15 42 (show QY 80 x14.1 from ‹_›).1) (⟨(),trivial⟩) fun _ _=>QG (Q5 (m:=80) 320 (fun w=>by kernel_rfl) x3 42 (show QY 80 (List.replicate 80 0) from (QE 80)).1 (show QY 80 x14.1 from ‹_›).1 rfl) (⟨(),trivial⟩) fun _ _=>⟨Zk (m:=80) 320 (fun w=>by kernel_rfl) (fun w=>by kernel_rfl) rfl (show QY 80 x14.1 by first | assumption | exact QE _).1,⟨(x14.1,x18.1==x14.2,x18.2.1,h,x18.2.2.2),⟨by assumption,by rw [QR r_xs,Qc r_n];exact (Qc2 (beq_eq_false_iff_ne.1 h3) (beq_eq_false_iff_ne.1 h8) (Qig (beq_iff_eq.1 h19)) hr hp).symm⟩,rfl,rfl,rfl,rfl,rfl,trivial⟩⟩
  refine ⟨fun h21=> ?_,fun h21=> ?_⟩
  · refine Qa 5 _ (yz b bm bh bj m L t n (fun x19 h22=> ?_))
    have hp:=h22
    exact Qy (ZH (m:=80) 320 (fun w=>by kernel_rfl) (fun w=>by kernel_rfl) rfl x15 42 (show QY 80 x14.1 from ‹_›).1) (⟨(),trivial⟩) fun _ _=>QG (Q5 (m:=80) 320 (fun w=>by kernel_rfl) x3 42 (show QY 80 (List.replicate 80 0) from (QE 80)).1 (show QY 80 x14.1 from ‹_›).1 rfl) (⟨(),trivial⟩) fun _ _=>⟨Zk (m:=80) 320 (fun w=>by kernel_rfl) (fun w=>by kernel_rfl) rfl (show QY 80 x14.1 by first | assumption | exact QE _).1,⟨(x14.1,x19.1==x14.2,x19.2.1,h,x19.2.2.2),⟨by assumption,by rw [QR r_xs,Qc r_n];exact (Qc2 (beq_eq_false_iff_ne.1 h3) (beq_eq_false_iff_ne.1 h8) (Qie (beq_iff_eq.1 h21)) hr hp).symm⟩,rfl,rfl,rfl,rfl,rfl,trivial⟩⟩
  refine Qa 5 _ (QH (dU b bm bh bj m L t n ‹_› ‹_› (by omega)) (⟨_,rfl⟩) fun x20 h23=> ?_)
  try simp only [Qc (n:=n) ‹_›] at h23
  have hp:=h23
  exact Qy (ZH (m:=80) 320 (fun w=>by kernel_rfl) (fun w=>by kernel_rfl) rfl x15 42 (show QY 80 x14.1 from ‹_›).1) (⟨(),trivial⟩) fun _ _=>QG (Q5 (m:=80) 320 (fun w=>by kernel_rfl) x3 42 (show QY 80 (List.replicate 80 0) from (QE 80)).1 (show QY 80 x14.1 from ‹_›).1 rfl) (⟨(),trivial⟩) fun _ _=>⟨Zk (m:=80) 320 (fun w=>by kernel_rfl) (fun w=>by kernel_rfl) rfl (show QY 80 x14.1 by first | assumption | exact QE _).1,⟨(x14.1,x20.1==x14.2,x20.2.1,h,x20.2.2.2),⟨by assumption,by rw [QR r_xs,Qc r_n];exact (Qc2 (beq_eq_false_iff_ne.1 h3) (beq_eq_false_iff_ne.1 h8) (Qim (beq_eq_false_iff_ne.1 h15) (beq_eq_false_iff_ne.1 h17) (beq_eq_false_iff_ne.1 h19) (beq_eq_false_iff_ne.1 h21)) hr hp).symm⟩,rfl,rfl,rfl,rfl,rfl,trivial⟩⟩
noncomputable def jL:List Value->List Qf->ZB:=fun vs hs=>⟨Unit,fun _=> .bool true,fun _=>hs,fun _=>True⟩
abbrev FE  (zv:Value) :Prop:= ∃_:Unit,(True)/\zv= .bool true/\True
abbrev VZ  (zF:SF Unit):Prop:=zF #[] [] (fun _=> .bool true) (fun _=> []) (fun _=>True)
theorem HE :VZ  (fun za zh zv zu zp=>QB Tryz.prog 34 none 2000 none (Qk Tryz.f4) (.reg [S0] (.reg [S0, .specw [] [20] (Qdy QD),S0, .callw [] [21,22,23] HI,S0] (.reg [S0,S0] (.condF (.reg [S0, .callr [] Yn, .callw [21,22,23,20] [21,22,23,20] wB,S0,S0,S0, .sem [.nw 3], .sem (Zq 4 3),S0] (.reg [S0, .gen [] (Sx.one (.bool true)),S0, .sem (QV 4 3), .callr [] Yn, .specr [] (fun _ hs=>⟨Unit,fun _=> .bool true,fun _=>hs,fun _=>True⟩),S0,S0,S0, .callr [] Yn, .callw [21,22,20] [21,22,20] yC, .gen [] (Sx.one (.bool true)),S0,S0,S0, .callr [21,22] xQ, .gen [] (Sx.one (.bool true)),S0,S0] (.done)))))))
    (Q2 za zh) (Q8 Tryz.prog Tryz.f4 [] [] (X:=Unit) zv zu zp))=
    (Xc Tryz.prog (vS (Instr.box 27 (.agg #[.slice none 0 0]))) [] Nat (fun J=>pp J 0) (fun J=> [(jS QD J ([]))]) (fun J=>True) (fun x1=>xb x1 (fun x2=>(false=false)/\KC (100:Int) (fun _=>zN x2.1 x2.2.1 x2.2.2 x1 ([]) ([]) ([]) (0:Int) (1:Int) (100:Int) (fun x3=> ∀b4:Nat,Qj 4 b4 (gE (.bool (x3.1.2==(0:Int))) (.bool true) (true=true/\Qj 4 b4 (true=true/\KC (100:Int) (fun _=>true=true/\Za Tryz.prog (Q0 .eql 35 (vI x3.1.1) (vI (100:Int))) [] Unit (fun _=> .bool true) (fun _=>True) (fun _=>true=true/\true=true/\KC (40:Int) (fun _=>true=true/\Us x2.1 x2.2.1 x2.2.2 x1 x3.2.1 x3.2.2.2 (0:Int) (40:Int) (fun x5=>true=true/\gE (.bool (x5.1==(0:Int))) (.bool true) (true=true/\true=true/\UW x2.1 x2.2.1 x2.2.2 x1 x5.2.1 (0:Int) (fun x6=>true=true/\gE (.bool (x6==(400000:Int))) (.bool true) (FE  (Value.bool true)))))))))))))))):=by kernel_rfl
theorem hZ  :VZ  (fun za zh zv zu zp=>QC Tryz.prog 4 za zh Unit zv zu zp):=by
  refine Qx (c:=Qk Tryz.f4) (n:=34) (fn:=Tryz.f4) QF Tryz.func4 (by kernel_rfl) (by kernel_rfl) (by kernel_rfl) 2000 _ [] [] rfl rfl (Eq.mpr (HE) ?_)
  refine QG (Qgh (K:=QD) (Eq.mpr (by kernel_rfl:Zg Tryz.prog (do pure (Next.value (←Instr.box 27 (.agg #[.slice none 0 0])))) [.nw 0] (QL []) (fun nx H _=> ∃b,nx=Next.value (Yg b)/\H=Kj (QL []) 0 (.blk b (.cells #[.slice none 0 0] (JK.tj QD) (0,0))))=(∀b,∃b',Next.value (Yg b)= .value (Yg b')/\Kj (QL []) 0 (.blk b (.cells #[.slice none 0 0] 27 (0,0)))=Kj (QL []) 0 (.blk b' (.cells #[.slice none 0 0] (JK.tj QD) (0,0))))) fun b=>⟨b,rfl,rfl⟩)) (⟨0,trivial⟩) fun x1 h1=>Gr x1 (fun x2 h2=>⟨rfl,Yq (100:Int) (wJ x2.1 x2.2.1 x2.2.2 x1 ([]) ([]) ([]) (0:Int) (1:Int) (100:Int) (fun x3 rh3_11 h3=> ?_) (r_n:=by unfold R4;decide) (wt:=by decide) (wa:=by decide) (hk:=Xr.nil) (hh:=Xr.nil) (hl:=by decide))⟩)
  obtain ⟨j1,j2,j3,j4⟩:=QbN h3
  obtain ⟨j5,j6⟩:=j4 Qdc
  intro b4
  refine Qa 4 _ (Ql (congrArg Value.bool (by rw [j1];rfl)) ⟨rfl,Qa 4 _ ⟨rfl,Yq (100:Int) ⟨rfl,Qy (YZ.ofPure (JD x3.1.1 (100:Int)) (congrArg Value.bool ((by rw [j1];exact beq_self_eq_true _)))) (⟨(),trivial⟩) fun _ _=>⟨rfl,rfl,Yq (40:Int) ⟨rfl,yz x2.1 x2.2.1 x2.2.2 x1 x3.2.1 x3.2.2.2 (0:Int) (40:Int) (fun x5 h4=> ?_) (r_n:=by unfold R4;decide) (hk:=j5) (hl:=by rw [j3];decide)⟩⟩⟩⟩⟩)
  obtain ⟨f1,f2,f3⟩:=bG j2 h4
  have f4:=f3 GX ⟨_,rfl⟩ j5
  refine ⟨rfl,Ql (congrArg Value.bool (by rw [f1];rfl)) ⟨rfl,rfl,xp x2.1 x2.2.1 x2.2.2 x1 x5.2.1 (0:Int) (fun x6 h5=> ?_) (hk:=f4)⟩⟩
  have u1:=QcI f2 h5
  exact ⟨rfl,Ql (congrArg Value.bool (by rw [u1];rfl)) ⟨(),trivial,rfl,trivial⟩⟩
abbrev V1  (KK:Unit->Prop):Prop:=VZ  (fun za zh zv zu zp=>Zh Tryz.prog 4 za zh Unit zv zp KK)
theorem jA  {KK:Unit->Prop} (kont:KK ()) :V1  KK:=QN (hZ) (⟨(),trivial⟩) fun _ _=>kont
theorem Qbv:FY Tryz.prog 82 5 (.int .u8 0):=FY.of (by kernel_rfl) (by kernel_rfl) (by kernel_rfl) (by kernel_rfl) rfl
noncomputable def bo:List Value->List Qf->ZB:=fun vs hs=>⟨QK,fun J=>sv J,fun J=> [(Qh hs 0),(ss 5 J)],fun J=>Vj J/\(dg J).length=((X6 (Qd vs 1) (Qh hs 0))).length/\dg J=(X6 (Qd vs 1) (Qh hs 0))⟩
abbrev Uz (r:QK) (zv:Value) (zs0:Qf) (zs1:Qf):Prop:= ∃J:QK,(Vj J/\(dg J).length=((X6 (sv r) (ss 5 r))).length/\dg J=(X6 (sv r) (ss 5 r)))/\zv=sv J/\zs0=(ss 5 r)/\zs1=(ss 5 J)/\True
abbrev jV (r:QK) (zF:SF QK):Prop:=zF #[sv r] [(ss 5 r)] (fun J=>sv J) (fun J=> [(ss 5 r),(ss 5 J)]) (fun J=>(Vj J/\(dg J).length=((X6 (sv r) (ss 5 r))).length/\dg J=(X6 (sv r) (ss 5 r))))
theorem vQ (r:QK):jV r (fun za zh zv zu zp=>QB Tryz.prog 8 none 2000 none (Qk Tryz.f89) (.reg [S0] (.reg [S0, .eq (QhL)] (.cond (.reg [S0] (.done)) (.reg [.sem [.nw 1],S0, .specw [1,0] [40,0] (QdX 5),S0] (.done)))))
    (Q2 za zh) (Q8 Tryz.prog Tryz.f89 [] [0,40] (X:=QK) zv zu zp))=
    ((Qg Tryz.prog (Q0 .eql 82 (sv r) (.slice none 0 0)) (.bool (Qcf (sv r))))/\((Qcf (sv r))=true->Uz r (Value.slice none 0 0) (ss 5 r) (Qf.free))/\((Qcf (sv r))=false-> ∀b1:Nat,Xc Tryz.prog (vS (Builtin.append_ #[82,82] 82 #[sv (QK.mk b1 [] []),sv r])) [(ss 5 (QK.mk b1 [] [])),(ss 5 r)] QK (fun J=>sv J) (fun J=> [(ss 5 J),(ss 5 r)]) (fun J=>QS J=ZZ (sv (QK.mk b1 [] [])) (ss 5 (QK.mk b1 [] []))++Fp (sv r) (ss 5 r)) (fun x2=>Uz r (sv x2) (ss 5 r) (ss 5 x2)))):=by kernel_rfl
theorem Qef (r:QK) (r_r:Vj r) (hr:(dg r).length<=6000):jV r (fun za zh zv zu zp=>QC Tryz.prog 89 za zh QK zv zu zp):=by
  refine Qx (c:=Qk Tryz.f89) (n:=8) (fn:=Tryz.f89) QF Tryz.func89 (by kernel_rfl) (by kernel_rfl) (by kernel_rfl) 2000 _ [] [0,40] rfl rfl (Eq.mpr (vQ r) ?_)
  have d_r:=Zu r 5
  have e_r:=QW r
  refine ⟨Qho Qbv r,⟨fun h1=> ?_,fun h1=> ?_⟩⟩
  · unfold Uz
    have hr0:=Qde ‹_›
    subst hr0
    exact ⟨QK.nil,⟨QaB,rfl,rfl⟩,rfl,rfl,rfl,trivial⟩
  intro b1
  refine QG (QfI Qbv 82 (QK.mk b1 [] []) (by rw [GF];first | omega | decide | exact Nat.le_of_ble_eq_true rfl) r (by rw [GF];omega) (by rw [(show Vj r by assumption).eq];exact Qgi _)) (gw _) fun x2 h2=> ?_
  have hk32:(dg (QK.mk b1 [] [])).length=0:=rfl
  rw [Zd,gy,(show Vj r by assumption).eq] at h2
  obtain ⟨hBh2,hNh2,hDh2⟩:=Qbc (QfQ b1 _) h2
  unfold Uz
  rw [d_r]
  exact ⟨x2,⟨by assumption,by rw [hNh2];exact Nat.zero_add _,by rw [hDh2];rfl⟩,rfl,rfl,rfl,trivial⟩
abbrev Gq (r:QK) (KK:QK->Prop):Prop:=jV r (fun za zh zv zu zp=>Ze Tryz.prog 89 za zh QK zv zu zp KK)
theorem Qax (r:QK) {KK:QK->Prop} (kont: ∀J:QK,(Vj J/\(dg J).length=((dg r)).length/\dg J=(dg r))->KK J) (r_r:Vj r:=by assumption) (hr:(dg r).length<=6000:=by first | omega | decide):Gq r KK:=QH (Qef r r_r hr) (vL) fun J hz=>by
  simp only [Zu,W3] at hz
  exact kont J hz
end Go.Proofs
