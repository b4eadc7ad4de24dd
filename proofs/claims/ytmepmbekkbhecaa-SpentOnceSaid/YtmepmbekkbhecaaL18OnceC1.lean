/- Contracts of this program's functions, and their proofs, printed by a program of the prover's own (see the claim's other texts for what the words mean). -/
import Derived.Test.YtmepmbekkbhecaaF2
import Derived.Test.YtmepmbekkbhecaaF1
import Derived.Test.YtmepmbekkbhecaaProg
set_option linter.unusedVariables false
set_option linter.unusedSimpArgs false
namespace Go.Proofs
open Go.Sx
theorem Try.mixed:Try.prog.follows .mixedOrders=true:=by kernel_rfl
def Try.jk:JK:=⟨30,1⟩
theorem Try.sl28:SlT Try.prog 28 1 .nilFunc:=SlT.of (by kernel_rfl) (by kernel_rfl) (by kernel_rfl) (by kernel_rfl) rfl
noncomputable def Try.ent93 (b:Nat) (m:KV) (key:Value):Ent:=⟨55,b,key,mget m key, .int .u64 0,4,56,58,23⟩
def Try.mk93:MK:=⟨93,Value.func (.func 26) #[] #[],fun v=> ∃n:Int,v= .int .u32 n,fun x=> ∃v,(fun n=>(Lit.int .u64 n).wf=true) v/\x=(Value.int .u64) v⟩
theorem Try.kl93:KindL Try.prog Try.mk93 91 23 56 (.int .u64 0) (V:=Int) (Value.int .u64) (fun n=>(Lit.int .u64 n).wf=true):=⟨⟨by kernel_rfl,kl_int (by kernel_rfl),fun w=>by kernel_rfl⟩,fun _=>Iff.rfl,⟨0,rfl,rfl⟩⟩
abbrev stage_New_raw93_Q (bj:Nat) (zv:Value) (zs0:Slot) (zs1:Slot):Prop:= ∃zx:Nat×Nat,(True)/\zv=pp zx.1 0/\zs0= .blk zx.1 (.cells #[.map (some zx.2),pp bj 0, .func (.func 26) #[] #[]] 93 (0,0))/\zs1= .blk zx.2 (.map #[] 0)/\True
set_option maxRecDepth 100000 in
theorem stage_New_raw93_vc (bj:Nat):codeW Try.prog 10 none 2000 none (bodyOf Try.f25) (.reg [S0] (.reg [.sem [.nw 21],S0,S0,S0, .sem [.nw 20],S0] (.done)))
    (init #[pp bj 0, .func (.func 26) #[] #[]] []) (finW Try.prog Try.f25 [] [20,21] (X:=Nat×Nat) (fun zx=>pp zx.1 0) (fun zx=> [.blk zx.1 (.cells #[.map (some zx.2),pp bj 0, .func (.func 26) #[] #[]] 93 (0,0)), .blk zx.2 (.map #[] 0)]) (fun _=>True))=
    (∀b1:Nat,∀b2:Nat,stage_New_raw93_Q bj (pp b2 0) (Slot.blk b2 (.cells #[.map (some b1),pp bj 0, .func (.func 26) #[] #[]] 93 (0,0))) (Slot.blk b1 (.map #[] 0))):=by kernel_rfl
set_option maxRecDepth 100000 in
theorem stage_New_raw93 (bj:Nat) :CallT Try.prog 25 #[pp bj 0, .func (.func 26) #[] #[]] [] (Nat×Nat) (fun zx=>pp zx.1 0) (fun zx=> [.blk zx.1 (.cells #[.map (some zx.2),pp bj 0, .func (.func 26) #[] #[]] 93 (0,0)), .blk zx.2 (.map #[] 0)]) (fun _=>True):=by
  refine call_of (c:=bodyOf Try.f25) (n:=10) (fn:=Try.f25) Try.mixed Try.func25 (by kernel_rfl) (by kernel_rfl) (by kernel_rfl) 2000 _ [] [20,21] rfl rfl (Eq.mpr (stage_New_raw93_vc bj) ?_)
  intro b1
  intro b2
  exact ⟨(b2,b1),trivial,rfl,rfl,rfl,trivial⟩
def stage_New93_C:List Value->List Slot->Ctr:=fun vs hs=>⟨Nat,fun zx=>pp zx 0,fun zx=> [(mS Try.mk93 zx (vblk (varg vs 1)) ([]))],fun zx=>True⟩
theorem stage_New93 (bj:Nat) :CallT Try.prog 25 #[.pointer (some ⟨bj,0,none⟩), .func (.func 26) #[] #[]] [] Nat (fun zx=> .pointer (some ⟨zx,0,none⟩)) (fun zx=> [(mS Try.mk93 zx bj ([]))]) (fun zx=>(True)):=(stage_New_raw93 bj).exists fun x _=>⟨x.1,trivial,rfl,new_fold (K:=Try.mk93) x.1 x.2 bj⟩
abbrev stage_Get_raw93_Q (b bj r:Nat) (m:KV) (k:Int) (zv:Value) (zs0:Slot) (zs1:Slot):Prop:= ∃zx:Int×Bool,(zx.1=ci ((mget m (Value.int .u32 k)).getD (uu 0))/\zx.2=(mget m (Value.int .u32 k)).isSome)/\zv= .tuple #[uu zx.1, .bool zx.2]/\zs0= .blk b (.cells #[.map (some r),pp bj 0, .func (.func 26) #[] #[]] 93 (0,0))/\zs1=(mo r m)/\True
set_option maxRecDepth 100000 in
theorem stage_Get_raw93_vc (b bj r:Nat) (m:KV) (k:Int):codeW Try.prog 19 none 2000 none (bodyOf Try.f40) (.reg [S0,S0] (.reg [S0,S0,S0, .sem [.rd 0],S0, .specr [1] (F_look (V:=Int) (Value.int .u64) (fun n=>(Lit.int .u64 n).wf=true) (uu 0)),S0,S0,S0,S0,S0] (.reg [S0,S0,S0,S0] (.done))))
    (init #[pp b 0, .int .u32 k] [.blk b (.cells #[.map (some r),pp bj 0, .func (.func 26) #[] #[]] 93 (0,0)),(mo r m)]) (finW Try.prog Try.f40 [] [0,1] (X:=Int×Bool) (fun zx=> .tuple #[uu zx.1, .bool zx.2]) (fun zx=> [.blk b (.cells #[.map (some r),pp bj 0, .func (.func 26) #[] #[]] 93 (0,0)),(mo r m)]) (fun zx=>(zx.1=ci ((mget m (Value.int .u32 k)).getD (uu 0))/\zx.2=(mget m (Value.int .u32 k)).isSome)))=
    (rdQ 1 b (opQr Try.prog (vS (Instr.lookup 91 (.map (some r)) (.int .u32 k) true)) [(mo r m)] (Int×Bool) (fun zx=> .tuple #[uu zx.1, .bool zx.2]) (fun zx=>(fun n=>(Lit.int .u64 n).wf=true) zx.1/\zx.2=(mget m (Value.int .u32 k)).isSome/\(Value.int .u64) zx.1=(mget m (Value.int .u32 k)).getD (uu 0)) (fun x1=>stage_Get_raw93_Q b bj r m k (Value.tuple #[uu x1.1, .bool x1.2]) (Slot.blk b (.cells #[.map (some r),pp bj 0, .func (.func 26) #[] #[]] 93 (0,0))) (mo r m)))):=by kernel_rfl
set_option maxRecDepth 100000 in
theorem stage_Get_raw93 (b bj r:Nat) (m:KV) (k:Int) (hk:KOK Try.mk93 m):CallT Try.prog 40 #[pp b 0, .int .u32 k] [.blk b (.cells #[.map (some r),pp bj 0, .func (.func 26) #[] #[]] 93 (0,0)),(mo r m)] (Int×Bool) (fun zx=> .tuple #[uu zx.1, .bool zx.2]) (fun zx=> [.blk b (.cells #[.map (some r),pp bj 0, .func (.func 26) #[] #[]] 93 (0,0)),(mo r m)]) (fun zx=>(zx.1=ci ((mget m (Value.int .u32 k)).getD (uu 0))/\zx.2=(mget m (Value.int .u32 k)).isSome)):=by
  refine call_of (c:=bodyOf Try.f40) (n:=19) (fn:=Try.f40) Try.mixed Try.func40 (by kernel_rfl) (by kernel_rfl) (by kernel_rfl) 2000 _ [] [0,1] rfl rfl (Eq.mpr (stage_Get_raw93_vc b bj r m k) ?_)
  refine rdQ_mk 1 _ (opQr_mk (xlook Try.kl93 hk ⟨_,rfl⟩) (wlook Try.kl93 hk _) fun x1 h1=> ?_)
  have hx:=h1
  exact ⟨_,⟨by rw [←hx.2.2];rfl,hx.2.1⟩,rfl,rfl,rfl,trivial⟩
def stage_Get93_C:List Value->List Slot->Ctr:=fun vs hs=>⟨Int×Bool,fun zx=> .tuple #[uu zx.1, .bool zx.2],fun _=>hs,fun zx=>zx.1=ci ((mget (skv (sarg hs 0)) (varg vs 2)).getD (uu 0))/\zx.2=(mget (skv (sarg hs 0)) (varg vs 2)).isSome⟩
theorem stage_Get93 (b bj:Nat) (m:KV) (k:Int) :CallT Try.prog 40 #[.pointer (some ⟨b,0,none⟩), .int .u32 k] [(mS Try.mk93 b bj m)] (Int×Bool) (fun zx=> .tuple #[.int .u64 zx.1, .bool zx.2]) (fun zx=> [(mS Try.mk93 b bj m)]) (fun zx=>(zx.1=ci ((mget m (Value.int .u32 k)).getD (.int .u64 0))/\zx.2=(mget m (Value.int .u32 k)).isSome)):=by
  refine (mS_call (m' :=fun _=>m) (us:=fun _=> []) (enterOK (c:=bodyOf Try.f40) Try.func40 (by kernel_rfl) (by kernel_rfl)) (fun r hk=> ?_) (fun _ _ h=>h))
  exact stage_Get_raw93 b bj r m k hk
abbrev stage_note_raw93_Q (b bj r:Nat) (row:Rw) (m:KV) (k:Int) (zv:Value) (zs0:Slot) (zs1:Slot) (zs2:Slot) (zs3:Slot) (zs4:Slot) (zs5:Slot) (zs6:Slot) (zs7:Slot):Prop:= ∃zx:Row×N4×Int×Bool,(vals zx.1=vals row++ [(Try.ent93 b m (Value.int .u32 k)).fn zx.2.1]/\zx.2.2.2=(mget m (Value.int .u32 k)).isSome/\(Value.int .u64) zx.2.2.1=(mget m (Value.int .u32 k)).getD (uu 0))/\zv= .tuple #[]/\zs0= .blk b (.cells #[.map (some r),pp bj 0, .func (.func 26) #[] #[]] 93 (0,0))/\zs1=(mo r m)/\zs2=bk bj #[sv zx.1] 30/\zs3=(ss 1 zx.1)/\zs4=bk zx.2.1.1 #[.bool zx.2.2.2] 4/\zs5=bk zx.2.1.2.1 #[uu zx.2.2.1] 56/\zs6=bk zx.2.1.2.2.1 #[pp b 0] 58/\zs7=bk zx.2.1.2.2.2 #[.int .u32 k] 23/\True
set_option maxRecDepth 100000 in
theorem stage_note_raw93_vc (b bj r:Nat) (row:Rw) (m:KV) (k:Int):codeW Try.prog 31 none 2000 none (bodyOf Try.f42) (.reg [.sem [.nw 32], .sem [.nw 33]] (.reg [.sem [.rd 32],S0,S0, .sem [.rd 0], .sem [.rd 33], .specr [1] (F_look (V:=Int) (Value.int .u64) (fun n=>(Lit.int .u64 n).wf=true) (uu 0)),S0,S0,S0, .sem [.nw 31], .sem [.nw 30], .sem [.wr 31], .sem [.wr 30]] (.reg [.sem [.rd 32],S0,S0, .sem [.rd 0], .sem [.rd 32],S0,S0, .sem [.rd 0],S0,S0, .sem [.rd 2],S0, .sem [.nw 4], .specw [3,4] [3,4] (F_app 1),S0,S0, .specw [2] [2] F_put] (.done))))
    (init #[pp b 0, .int .u32 k] [.blk b (.cells #[.map (some r),pp bj 0, .func (.func 26) #[] #[]] 93 (0,0)),(mo r m),bk bj #[sv row] 30,(ss 1 row)]) (finW Try.prog Try.f42 [] [0,1,2,3,30,31,32,33] (X:=Row×N4×Int×Bool) (fun zx=> .tuple #[]) (fun zx=> [.blk b (.cells #[.map (some r),pp bj 0, .func (.func 26) #[] #[]] 93 (0,0)),(mo r m),bk bj #[sv zx.1] 30,(ss 1 zx.1),bk zx.2.1.1 #[.bool zx.2.2.2] 4,bk zx.2.1.2.1 #[uu zx.2.2.1] 56,bk zx.2.1.2.2.1 #[pp b 0] 58,bk zx.2.1.2.2.2 #[.int .u32 k] 23]) (fun zx=>(vals zx.1=vals row++ [(Try.ent93 b m (Value.int .u32 k)).fn zx.2.1]/\zx.2.2.2=(mget m (Value.int .u32 k)).isSome/\(Value.int .u64) zx.2.2.1=(mget m (Value.int .u32 k)).getD (uu 0))))=
    (∀b1:Nat,∀b2:Nat,rdQ 1 b1 (rdQ 1 b (rdQ 1 b2 (opQr Try.prog (vS (Instr.lookup 91 (.map (some r)) (.int .u32 k) true)) [(mo r m)] (Int×Bool) (fun zx=> .tuple #[uu zx.1, .bool zx.2]) (fun zx=>(fun n=>(Lit.int .u64 n).wf=true) zx.1/\zx.2=(mget m (Value.int .u32 k)).isSome/\(Value.int .u64) zx.1=(mget m (Value.int .u32 k)).getD (uu 0)) (fun x3=> ∀b4:Nat,∀b5:Nat,rdQ 1 b4 (rdQ 1 b5 (rdQ 1 b1 (rdQ 1 b (rdQ 1 b1 (rdQ 1 b (rdQ 1 bj (∀b6:Nat,opQ Try.prog (vS (Builtin.append_ #[28,28] 28 #[sv row, .slice (some ⟨b6,0,none⟩) 1 1])) [(ss 1 row), .blk b6 (.cells #[.func (.func 55) #[] #[pp b5 0,pp b4 0,pp b1 0,pp b2 0]] 1 (0,0))] Row (fun zx=>sv zx) (fun zx=> [(ss 1 zx), .blk b6 (.cells #[.func (.func 55) #[] #[pp b5 0,pp b4 0,pp b1 0,pp b2 0]] 1 (0,0))]) (fun zx=>vals zx=rvals (sv row) (ss 1 row)++ [Value.func (.func 55) #[] #[pp b5 0,pp b4 0,pp b1 0,pp b2 0]]) (fun x7=>opQ Try.prog (skS (Instr.storeAt 28 (pp bj 0) (sv x7))) [bk bj #[sv row] 30] Unit (fun _=> .tuple #[]) (fun _=> [bk bj #[sv x7] 30]) (fun _=>True) (fun _=>stage_note_raw93_Q b bj r row m k (Value.tuple #[]) (Slot.blk b (.cells #[.map (some r),pp bj 0, .func (.func 26) #[] #[]] 93 (0,0))) (mo r m) (bk bj #[sv x7] 30) (ss 1 x7) (bk b5 #[.bool x3.2] 4) (bk b4 #[uu x3.1] 56) (bk b1 #[pp b 0] 58) (bk b2 #[.int .u32 k] 23))))))))))))))):=by kernel_rfl
set_option maxRecDepth 100000 in
theorem stage_note_raw93 (b bj r:Nat) (row:Rw) (m:KV) (k:Int) (hk:KOK Try.mk93 m) (hl:(vals row).length<=1073741824):CallT Try.prog 42 #[pp b 0, .int .u32 k] [.blk b (.cells #[.map (some r),pp bj 0, .func (.func 26) #[] #[]] 93 (0,0)),(mo r m),bk bj #[sv row] 30,(ss 1 row)] (Row×N4×Int×Bool) (fun zx=> .tuple #[]) (fun zx=> [.blk b (.cells #[.map (some r),pp bj 0, .func (.func 26) #[] #[]] 93 (0,0)),(mo r m),bk bj #[sv zx.1] 30,(ss 1 zx.1),bk zx.2.1.1 #[.bool zx.2.2.2] 4,bk zx.2.1.2.1 #[uu zx.2.2.1] 56,bk zx.2.1.2.2.1 #[pp b 0] 58,bk zx.2.1.2.2.2 #[.int .u32 k] 23]) (fun zx=>(vals zx.1=vals row++ [(Try.ent93 b m (Value.int .u32 k)).fn zx.2.1]/\zx.2.2.2=(mget m (Value.int .u32 k)).isSome/\(Value.int .u64) zx.2.2.1=(mget m (Value.int .u32 k)).getD (uu 0))):=by
  refine call_of (c:=bodyOf Try.f42) (n:=31) (fn:=Try.f42) Try.mixed Try.func42 (by kernel_rfl) (by kernel_rfl) (by kernel_rfl) 2000 _ [] [0,1,2,3,30,31,32,33] rfl rfl (Eq.mpr (stage_note_raw93_vc b bj r row m k) ?_)
  intro b1
  intro b2
  refine rdQ_mk 1 _ (rdQ_mk 1 _ (rdQ_mk 1 _ (opQr_mk (xlook Try.kl93 hk ⟨_,rfl⟩) (wlook Try.kl93 hk _) fun x3 h1=> ?_)))
  have hx:=h1
  intro b4
  intro b5
  refine rdQ_mk 1 _ (rdQ_mk 1 _ (rdQ_mk 1 _ (rdQ_mk 1 _ (rdQ_mk 1 _ (rdQ_mk 1 _ (rdQ_mk 1 _ (fun b6=>opQ_mk (xappendR Try.sl28 28 row (by rw [dg_len];omega) b6 1 (Value.func (.func 55) #[] #[pp b5 0,pp b4 0,pp b1 0,pp b2 0]) rfl) (wit_app _) fun x7 h2=> ?_)))))))
  rw [rvals_eq] at h2
  have ha:=h2
  exact opQ_mk (xputv (b:=bj) (cs:= #[sv row]) (ty:=30) (te:=28) (fun w=>by kernel_rfl) 0 (sv x7) (cells_sv _) (one_sv _) (by show 0<1;decide)) (⟨(),trivial⟩) fun _ _=>⟨(x7,(b5,b4,b1,b2),x3),⟨ha,hx.2.1,hx.2.2⟩,rfl,rfl,rfl,rfl,rfl,rfl,rfl,rfl,rfl,trivial⟩
def stage_note93_C:List Value->List Slot->Ctr:=fun vs hs=>⟨List Ent,fun zx=> .tuple #[],fun zx=> [.blk (vblk (varg vs 1)) (.cells #[.map (some (snum (sarg hs 1) 0)), .pointer (some ⟨(vblk (scell (sarg hs 0) 1)),0,none⟩), .func (.func 26) #[] #[]] 93 (0,0)),(mo (snum (sarg hs 1) 0) (skv (sarg hs 1))),(jS Try.jk (vblk (scell (sarg hs 0) 1)) zx)],fun zx=>zx=(sents (sarg hs 2))++ [(Try.ent93 (vblk (varg vs 1)) (skv (sarg hs 1)) (varg vs 2))]⟩
theorem stage_note93 (b bj r:Nat) (m:KV) (L:List Ent) (k:Int) (hk:KOK Try.mk93 m) (hl:L.length<=1073741824):CallT Try.prog 42 #[.pointer (some ⟨b,0,none⟩), .int .u32 k] [.blk b (.cells #[.map (some r), .pointer (some ⟨bj,0,none⟩), .func (.func 26) #[] #[]] 93 (0,0)),(mo r m),(jS Try.jk bj L)] (List Ent) (fun zx=> .tuple #[]) (fun zx=> [.blk b (.cells #[.map (some r), .pointer (some ⟨bj,0,none⟩), .func (.func 26) #[] #[]] 93 (0,0)),(mo r m),(jS Try.jk bj zx)]) (fun zx=>(zx=L++ [(Try.ent93 b m (Value.int .u32 k))])):=by
  have c:=jS_note (K:=Try.jk) (bj:=bj) (L:=L) (vv:=Value.int .u64) (e:=(Try.ent93 b m (Value.int .u32 k))) (mk:=fun _=>default_ent) (enterOK (c:=bodyOf Try.f42) Try.func42 (by kernel_rfl) (by kernel_rfl)) rfl (fun row hr=>stage_note_raw93 b bj r row m k hk (by omega))
  exact c.exists fun _ _=>⟨_,rfl,rfl,Imp.refl _⟩
abbrev stage_Set_raw93_Q (b bj r:Nat) (m:KV) (L:List Ent) (k v:Int) (zv:Value) (zs0:Slot) (zs1:Slot) (zs2:Slot):Prop:= ∃zx:KV×List Ent,(zx.1=mset m (Value.int .u32 k) (uu v)/\zx.2=L++ [(Try.ent93 b m (Value.int .u32 k))])/\zv= .tuple #[]/\zs0= .blk b (.cells #[.map (some r),pp bj 0, .func (.func 26) #[] #[]] 93 (0,0))/\zs1=(mo r zx.1)/\zs2=(jS Try.jk bj zx.2)/\True
set_option maxRecDepth 100000 in
theorem stage_Set_raw93_vc (b bj r:Nat) (m:KV) (L:List Ent) (k v:Int):codeW Try.prog 15 none 2000 none (bodyOf Try.f27) (.reg [S0,S0, .callw [0,1,2] [0,1,2] stage_note93_C] (.reg [S0,S0,S0, .sem [.rd 0],S0,S0, .specw [1] [1] F_upd] (.done)))
    (init #[pp b 0, .int .u32 k,uu v] [.blk b (.cells #[.map (some r),pp bj 0, .func (.func 26) #[] #[]] 93 (0,0)),(mo r m),(jS Try.jk bj L)]) (finW Try.prog Try.f27 [] [0,1,2] (X:=KV×List Ent) (fun zx=> .tuple #[]) (fun zx=> [.blk b (.cells #[.map (some r),pp bj 0, .func (.func 26) #[] #[]] 93 (0,0)),(mo r zx.1),(jS Try.jk bj zx.2)]) (fun zx=>(zx.1=mset m (Value.int .u32 k) (uu v)/\zx.2=L++ [(Try.ent93 b m (Value.int .u32 k))])))=
    (callQ Try.prog 42 #[pp b 0, .int .u32 k] [.blk b (.cells #[.map (some r),pp bj 0, .func (.func 26) #[] #[]] 93 (0,0)),(mo r m),(jS Try.jk bj L)] (List Ent) (fun zx=> .tuple #[]) (fun zx=> [.blk b (.cells #[.map (some r),pp bj 0, .func (.func 26) #[] #[]] 93 (0,0)),(mo r m),(jS Try.jk bj zx)]) (fun zx=>zx=L++ [(Try.ent93 b m (Value.int .u32 k))]) (fun x1=>rdQ 1 b (opQ Try.prog (skS (Instr.mapUpdate 91 (.map (some r)) (.int .u32 k) (uu v))) [(mo r m)] KV (fun zx=> .tuple #[]) (fun zx=> [(mo r zx)]) (fun zx=>zx=mset m (Value.int .u32 k) (uu v)) (fun x2=>stage_Set_raw93_Q b bj r m L k v (Value.tuple #[]) (Slot.blk b (.cells #[.map (some r),pp bj 0, .func (.func 26) #[] #[]] 93 (0,0))) (mo r x2) (jS Try.jk bj x1))))):=by kernel_rfl
set_option maxRecDepth 100000 in
theorem stage_Set_raw93 (b bj r:Nat) (m:KV) (L:List Ent) (k v:Int) (hk:KOK Try.mk93 m) (hl:L.length<=1073741824):CallT Try.prog 27 #[pp b 0, .int .u32 k,uu v] [.blk b (.cells #[.map (some r),pp bj 0, .func (.func 26) #[] #[]] 93 (0,0)),(mo r m),(jS Try.jk bj L)] (KV×List Ent) (fun zx=> .tuple #[]) (fun zx=> [.blk b (.cells #[.map (some r),pp bj 0, .func (.func 26) #[] #[]] 93 (0,0)),(mo r zx.1),(jS Try.jk bj zx.2)]) (fun zx=>(zx.1=mset m (Value.int .u32 k) (uu v)/\zx.2=L++ [(Try.ent93 b m (Value.int .u32 k))])):=by
  refine call_of (c:=bodyOf Try.f27) (n:=15) (fn:=Try.f27) Try.mixed Try.func27 (by kernel_rfl) (by kernel_rfl) (by kernel_rfl) 2000 _ [] [0,1,2] rfl rfl (Eq.mpr (stage_Set_raw93_vc b bj r m L k v) ?_)
  refine callQ_mk (stage_note93 b bj r m L k (hk) (hl)) (⟨_,rfl⟩) fun x1 h1=> ?_
  have hn:=h1
  refine rdQ_mk 1 _ (opQ_mk (xupd Try.kl93 hk ⟨_,rfl⟩ (Value.int .u64 v)) (⟨_,rfl⟩) fun x2 h2=> ?_)
  have hs:=h2
  exact ⟨(_,_),⟨hs,hn⟩,rfl,rfl,rfl,rfl,trivial⟩
def stage_Set93_C:List Value->List Slot->Ctr:=fun vs hs=>⟨KV×List Ent,fun zx=> .tuple #[],fun zx=> [(mS Try.mk93 (vblk (varg vs 1)) (snum (sarg hs 0) 1) zx.1),(jS Try.jk (snum (sarg hs 0) 1) zx.2)],fun zx=>zx.1=mset (skv (sarg hs 0)) (varg vs 2) (varg vs 3)/\zx.2=(sents (sarg hs 1))++ [(Try.ent93 (vblk (varg vs 1)) (skv (sarg hs 0)) (varg vs 2))]⟩
theorem stage_Set93 (b bj:Nat) (m:KV) (L:List Ent) (k v:Int) (hv:(Lit.int .u64 v).wf=true) (hl:L.length<=1073741824):CallT Try.prog 27 #[.pointer (some ⟨b,0,none⟩), .int .u32 k, .int .u64 v] [(mS Try.mk93 b bj m),(jS Try.jk bj L)] (KV×List Ent) (fun zx=> .tuple #[]) (fun zx=> [(mS Try.mk93 b bj zx.1),(jS Try.jk bj zx.2)]) (fun zx=>(zx.1=mset m (Value.int .u32 k) (Value.int .u64 v)/\zx.2=L++ [(Try.ent93 b m (Value.int .u32 k))])):=by
  refine mS_call (m' :=fun x:KV×List Ent=>x.1) (us:=fun x=> [(jS Try.jk bj x.2)]) (enterOK (c:=bodyOf Try.f27) Try.func27 (by kernel_rfl) (by kernel_rfl)) (fun r hk=> ?_) (fun x hx h=> ?_)
  · exact (stage_Set_raw93 b bj r m L k v hk hl)
  · exact hx.1▸h.set (⟨_,rfl⟩) (⟨_,hv,rfl⟩)
abbrev keys_it93_Q (l:Nat) (rec:Loop) (r c:Nat) (m:KV) (T:List Value->Slot) (zv:Value) (zs0:Slot) (zs1:Slot) (zs2:Slot) (zs3:Slot):Prop:= ∃zx:List Value,(zx.Perm (m.map (·.1)))/\zv= .tuple #[]/\zs0=(loopB l rec)/\zs1=bk c #[.map (some r)] 91/\zs2=(mo r m)/\zs3=(T zx)/\True
set_option maxRecDepth 100000 in
theorem keys_it93_vc (l:Nat) (rec:Loop) (r c:Nat) (m:KV) (T:List Value->Slot):codeW Try.prog 14 none 2000 none (bodyOf Try.f65) (.reg [.sem [.rd 1], .specw [2] [2] (fun _ _=>⟨Nat,ptr,fun it=> [mit r it m []],fun _=>True⟩)] (.inv (List Value×Nat) (fun zx=> [(0, .func (.yield l) #[] #[]),(1,pp c 0),(5,pp zx.2 0)]) (fun zx=> [(0,(loopB l rec)),(1,bk c #[.map (some r)] 91),(2,(mit r zx.2 m zx.1)),(3,(T zx.1))]) (fun zx=>zx.1.Nodup/\ ∀k∈zx.1,k∈m.map (·.1)) (fun zx=>m.length - zx.1.length) (fun x2=> .reg [.specw [2] [2] (fun _ _=>⟨Option Value,nxv m,fun x=> [mitE r x2.2 m x2.1 x],nxP m x2.1⟩), .eq (fun vs=> .bool (cb (cell (varg vs 0) 0)))] (.cond (.reg [.specr [2] (fun _ hs=>⟨Unit,fun _=> .tuple #[slast (sarg hs 0),(mget m (slast (sarg hs 0))).getD undef],fun _=>hs,fun _=>True⟩),S0,S0] (.reg [S0,S0, .callw [0,3] [0,3] (fun vs _=>⟨Unit,fun _=> .bool true,fun _=> [loopB l rec,T (x2.1++ [varg vs 1])],fun _=>True⟩),S0] (.condF (.done)))) (.done)))))
    (init #[.func (.yield l) #[] #[],pp c 0] [(loopB l rec),bk c #[.map (some r)] 91,(mo r m),(T [])]) (finW Try.prog Try.f65 [] [0,1,2,3] (X:=List Value) (fun zx=> .tuple #[]) (fun zx=> [(loopB l rec),bk c #[.map (some r)] 91,(mo r m),(T zx)]) (fun zx=>(zx.Perm (m.map (·.1)))))=
    (rdQ 1 c (opQ Try.prog (vS (Instr.range 91 (.map (some r)))) [(mo r m)] Nat (fun zx=>pp zx 0) (fun zx=> [(mit r zx m ([]))]) (fun zx=>True) (fun x1=>(∃zx:List Value×Nat,(zx.1.Nodup/\ ∀k∈zx.1,k∈m.map (·.1))/\Value.func (.yield l) #[] #[]= .func (.yield l) #[] #[]/\pp c 0=pp c 0/\pp x1 0=pp zx.2 0/\(loopB l rec)=(loopB l rec)/\bk c #[.map (some r)] 91=bk c #[.map (some r)] 91/\(mit r x1 m ([]))=(mit r zx.2 m zx.1)/\(T [])=(T zx.1)/\True)/\ ∀x2:List Value×Nat,∀jx2:Nat->Value,(x2.1.Nodup/\ ∀k∈x2.1,k∈m.map (·.1))->opQ Try.prog (vS (Instr.next (pp x2.2 0) false 0)) [(mit r x2.2 m x2.1)] (Option Value) (fun zx=>(nxv m zx)) (fun zx=> [(mitE r x2.2 m x2.1 zx)]) (fun zx=>nxP m x2.1 zx) (fun x3=>(PureRun Try.prog (vS (Instr.extract (nxv m x3) 0)) (.bool (cb (cell (nxv m x3) 0))))/\((cb (cell (nxv m x3) 0))=true->opQr Try.prog (vS (Instr.entry (pp x2.2 0))) [(mitE r x2.2 m x2.1 x3)] Unit (fun _=> .tuple #[(slast (mitE r x2.2 m x2.1 x3)),((mget m (slast (mitE r x2.2 m x2.1 x3))).getD undef)]) (fun _=>True) (fun _=>rndQ Try.prog l #[(slast (mitE r x2.2 m x2.1 x3))] [(loopB l rec),(T x2.1)] Unit (fun _=> .bool true) (fun _=> [(loopB l rec),(T (x2.1++ [(slast (mitE r x2.2 m x2.1 x3))]))]) (fun _=>True) (fun _=>(false=false)/\ ∃zy:List Value×Nat,(zy.1.Nodup/\ ∀k∈zy.1,k∈m.map (·.1))/\m.length - zy.1.length<m.length - x2.1.length/\Value.func (.yield l) #[] #[]= .func (.yield l) #[] #[]/\pp c 0=pp c 0/\pp x2.2 0=pp zy.2 0/\(loopB l rec)=(loopB l rec)/\bk c #[.map (some r)] 91=bk c #[.map (some r)] 91/\(mitE r x2.2 m x2.1 x3)=(mit r zy.2 m zy.1)/\(T (x2.1++ [(slast (mitE r x2.2 m x2.1 x3))]))=(T zy.1)/\True)))/\((cb (cell (nxv m x3) 0))=false->keys_it93_Q l rec r c m T (Value.tuple #[]) (loopB l rec) (bk c #[.map (some r)] 91) (mitE r x2.2 m x2.1 x3) (T x2.1)))))):=by kernel_rfl
set_option maxRecDepth 100000 in
theorem keys_it93 (l:Nat) (rec:Loop) (r c:Nat) (m:KV) (T:List Value->Slot) (hm:MOK m) (hT: ∀ (ks:List Value) (k:Value),(ks.Nodup/\ ∀j∈ks,j∈m.map (·.1))->k∉ks->k∈m.map (·.1)->RoundT Try.prog l #[k] [loopB l rec,T ks] Unit (fun _=> .bool true) (fun _=> [loopB l rec,T (ks++ [k])]) (fun _=>True)):CallT Try.prog 65 #[.func (.yield l) #[] #[],pp c 0] [(loopB l rec),bk c #[.map (some r)] 91,(mo r m),(T [])] (List Value) (fun zx=> .tuple #[]) (fun zx=> [(loopB l rec),bk c #[.map (some r)] 91,(mo r m),(T zx)]) (fun zx=>(zx.Perm (m.map (·.1)))):=by
  refine call_of (c:=bodyOf Try.f65) (n:=14) (fn:=Try.f65) Try.mixed Try.func65 (by kernel_rfl) (by kernel_rfl) (by kernel_rfl) 2000 _ [] [0,1,2,3] rfl rfl (Eq.mpr (keys_it93_vc l rec r c m T) ?_)
  refine rdQ_mk 1 _ (opQ_mk (xrange (kt:=23) (vt:=56) (by kernel_rfl)) (⟨0,trivial⟩) fun x1 h1=>⟨?_,fun x2 jx2 h2=> ?_⟩)
  · exact ⟨([],x1),⟨List.nodup_nil,fun k h=>by cases h⟩,rfl,rfl,rfl,rfl,rfl,rfl,rfl,trivial⟩
  have hN:=h2
  refine opQ_mk (xnext 0 hm) (wit_next hm hN) fun x3 h3=> ?_
  have hX:=h3
  refine ⟨xfirst' _ _,⟨fun h4=> ?_,fun h4=> ?_⟩⟩
  · refine opQr_mk (xentry' hm (nx_some h4)) (⟨(),trivial⟩) fun _ _=>rndQ_mk (keys_yield hX (nx_some h4) (fun k=>hT x2.1 k hN)) (⟨(),trivial⟩) fun _ _=>⟨rfl,?_⟩
    have hS:=nx_some h4
    have hP:=nxP_some hX hS
    rw [slast_some hS,mitE_some hS]
    exact ⟨(x2.1++ [_],x2.2),keys_step hN hP,keys_mu hN hP,rfl,rfl,rfl,rfl,rfl,rfl,rfl,trivial⟩
  unfold keys_it93_Q
  rw [mitE_none (nx_none h4)]
  exact ⟨x2.1,nxP_none hX (nx_none h4),rfl,rfl,rfl,rfl,rfl,trivial⟩
theorem Try.sl22:SlT Try.prog 22 23 (.int .u32 0):=SlT.of (by kernel_rfl) (by kernel_rfl) (by kernel_rfl) (by kernel_rfl) rfl
noncomputable def Try.rfA69:Code:=((rfs (bodyOf Try.f69)).getD 0 (.skip, .skip)).1
noncomputable def Try.rfB69:Code:=((rfs (bodyOf Try.f69)).getD 0 (.skip, .skip)).2
set_option maxRecDepth 100000 in
theorem keys_round93_vc (l D:Nat) (fn:FuncId) (tmps:Array Value) (b:Nat) (y:Row) (n:Int) (fr:Nat->Value):roundW Try.prog 13 l 400 Try.rfA69 Try.rfB69 (.reg [.sem []] (.reg [.sem [.rd 1], .sem [], .sem [.nw 3], .specw [2,3] [2,3] (F_appN 23), .specw [1] [1] F_put] (.done))) (recOf fn tmps #[7] Try.rfA69 Try.rfB69 D) ⟨putFr (upd fr 2 (Value.pointer (some ⟨b,0,none⟩))) [(7, .int .u32 n)],ofList (loopB l (recOf fn tmps #[7] Try.rfA69 Try.rfB69 D):: [.blk b (.cells #[sv y] 22 (0,0)),(ss 23 y)]),[]⟩ [1,2] (X:=Row) (fun zx:Row=> [.blk b (.cells #[sv zx] 22 (0,0)),(ss 23 zx)]) (fun zx:Row=>vals zx=vals y++ [.int .u32 n])=
    ((loopB l (recOf fn tmps #[7] Try.rfA69 Try.rfB69 D))=loopB l (recOf fn tmps #[7] Try.rfA69 Try.rfB69 D)/\rdQ 1 b (∀b1:Nat,opQ Try.prog (do pure (.value (←Builtin.append_ #[22,22] 22 #[sv y, .slice (some ⟨b1,0,none⟩) 1 1]))) [(ss 23 y), .blk b1 (.cells #[.int .u32 n] 23 (0,0))] Row (fun zx=>sv zx) (fun zx=> [(ss 23 zx), .blk b1 (.cells #[.int .u32 n] 23 (0,0))]) (fun zx=>vals zx=rvals (sv y) (ss 23 y)++srcv (Value.slice (some ⟨b1,0,none⟩) 1 1) (Slot.blk b1 (.cells #[.int .u32 n] 23 (0,0)))) (fun x2=>opQ Try.prog (do Instr.storeAt 22 (.pointer (some ⟨b,0,none⟩)) (sv x2);pure .skip) [.blk b (.cells #[sv y] 22 (0,0))] Unit (fun _=> .tuple #[]) (fun _=> [.blk b (.cells #[sv x2] 22 (0,0))]) (fun _=>True) (fun _=>(loopB l { (recOf fn tmps #[7] Try.rfA69 Try.rfB69 D) with state:= .busy })=loopB l { (recOf fn tmps #[7] Try.rfA69 Try.rfB69 D) with state:= .busy }/\ ∃zx:Row,(vals zx=vals y++ [.int .u32 n])/\Slot.blk b (.cells #[sv x2] 22 (0,0))= .blk b (.cells #[sv zx] 22 (0,0))/\(ss 23 x2)=(ss 23 zx)/\True)))):=by kernel_rfl
set_option maxRecDepth 100000 in
theorem keys_round93 (l D:Nat) (fn:FuncId) (tmps:Array Value) (b:Nat) (y:Row) (n:Int) (hz:tmps.size=13) (t2:tmps.getD 2 undef=Value.pointer (some ⟨b,0,none⟩)) (hy:(vals y).length<=1048576):RoundT Try.prog l #[.int .u32 n] (loopB l (recOf fn tmps #[7] Try.rfA69 Try.rfB69 D):: [.blk b (.cells #[sv y] 22 (0,0)),(ss 23 y)]) Row (fun _=> .bool true) (fun zx:Row=>loopB l (recOf fn tmps #[7] Try.rfA69 Try.rfB69 D):: [.blk b (.cells #[sv zx] 22 (0,0)),(ss 23 zx)]) (fun zx:Row=>vals zx=vals y++ [.int .u32 n]):=by
  refine round_of (n:=13) (fuel:=400) (fr:=(upd (fun i=>tmps.getD i undef) 2 (Value.pointer (some ⟨b,0,none⟩)))) (Hs:= [.blk b (.cells #[sv y] 22 (0,0)),(ss 23 y)]) (us:=(fun zx:Row=> [.blk b (.cells #[sv zx] 22 (0,0)),(ss 23 zx)])) Try.mixed hz (fun i=>congrFun (upd_known (f:=(fun i=>tmps.getD i undef)) (t:=2) (v:=Value.pointer (some ⟨b,0,none⟩)) (t2)) i) rfl rfl _ [1,2] rfl (Eq.mpr (keys_round93_vc l D fn tmps b y n (fun i=>tmps.getD i undef)) ?_)
  refine ⟨rfl,?_⟩
  refine rdQ_mk 1 _ ?_
  intro b1
  refine opQ_mk (xappNR Try.sl22 22 y (by omega) (Nat.le_of_ble_eq_true rfl) (by decide) rfl) (wit_appN _) fun x2 h1=> ?_
  rw [rvals_eq] at h1
  replace h1:vals x2=vals y++ [Value.int .u32 n]:=h1
  have ha:=h1
  refine opQ_mk (xputv (b:=b) (cs:= #[sv y]) (ty:=22) (te:=22) (fun w=>by kernel_rfl) 0 (sv x2) (cells_sv _) (one_sv _) (by show 0<1;decide)) (⟨(),trivial⟩) fun _ _=> ?_
  exact ⟨rfl,x2,ha,rfl,rfl,trivial⟩
theorem key_int93 {m:KV} (hk:KOK Try.mk93 m) {k:Value} (h:k∈m.map (·.1)): ∃n:Int,k= .int .u32 n:=by
  obtain ⟨x,hx,rfl⟩:=List.mem_map.1 h
  exact (hk.ok x hx).1
def keys_AppendSeq93_C:List Value->List Slot->Ctr:=fun vs hs=>⟨Row,fun zx=>sv zx,fun zx=> [.blk (sblk (sarg hs 0)) (.cells #[.map (some (vblk (scell (sarg hs 0) 0)))] 91 (0,0)),(mo (vblk (scell (sarg hs 0) 0)) (skv (sarg hs 1))),(ss 23 zx)],fun zx=>(vals zx).Perm ((skv (sarg hs 1)).map (·.1))⟩
abbrev keys_AppendSeq93_Q (r c:Nat) (m:KV) (zv:Value) (zs0:Slot) (zs1:Slot) (zs2:Slot):Prop:= ∃zx:Row,((vals zx).Perm (m.map (·.1)))/\zv=sv zx/\zs0=bk c #[.map (some r)] 91/\zs1=(mo r m)/\zs2=(ss 23 zx)/\True
abbrev keys_AppendSeq93_A (r c:Nat) (m:KV) (zF:SF Row):Prop:=zF #[.slice none 0 0, .func (.func 65) #[] #[pp c 0]] [bk c #[.map (some r)] 91,(mo r m)] (fun zx=>sv zx) (fun zx=> [bk c #[.map (some r)] 91,(mo r m),(ss 23 zx)]) (fun zx=>((vals zx).Perm (m.map (·.1))))
set_option maxRecDepth 100000 in
theorem keys_AppendSeq93_vc (r c:Nat) (m:KV):keys_AppendSeq93_A r c m (fun za zh zv zu zp=>codeW Try.prog 13 none 2000 none (bodyOf Try.f69) (.reg [.sem [.nw 2],S0] (.reg [S0] (.rf [6,2] [0,1,2] [50,0,1,60,61] (fun _ hs=>⟨Row,fun _=>undef,fun zx=> [bk c #[.map (some r)] 91,(mo r m), .blk (sblk (sarg hs 2)) (.cells #[sv zx] 22 (0,0)),(ss 23 zx)],fun zx=>(vals zx).Perm (m.map (·.1))⟩) (.reg [.sem [.rd 60],S0] (.done)))))
    (init za zh) (finM Try.prog Try.f69 [] [0,1,61] 50 (X:=Row) zv zu zp))=
    (∀b1:Nat,(∀fr' :Nat->Value,fr' 6=Value.func (.func 65) #[] #[pp c 0]->fr' 2=pp b1 0->RangeT Try.prog 13 (Operand.tmp 6) #[7] Try.rfA69 Try.rfB69 fr' [bk c #[.map (some r)] 91,(mo r m),bk b1 #[.slice none 0 0] 22] Row (fun zx=> [bk c #[.map (some r)] 91,(mo r m),bk b1 #[sv zx] 22,(ss 23 zx)]) (fun zx=>(vals zx).Perm (m.map (·.1))))/\(∃zx:Row,(vals zx).Perm (m.map (·.1)))/\ ∀ (d2:Nat) (x3:Row),((vals x3).Perm (m.map (·.1)))->rdQ 1 b1 (Slot.blk d2 (.deferred (some []))= .blk d2 (.deferred (some []))/\keys_AppendSeq93_Q r c m (sv x3) (bk c #[.map (some r)] 91) (mo r m) (ss 23 x3))):=by kernel_rfl
set_option maxRecDepth 100000 in
theorem keys_AppendSeq93 (r c:Nat) (m:KV) (hk:KOK Try.mk93 m) (hl:m.length<=1048576):keys_AppendSeq93_A r c m (fun za zh zv zu zp=>CallT Try.prog 69 za zh Row zv zu zp):=by
  refine call_of_mark (c:=bodyOf Try.f69) (n:=13) (fn:=Try.f69) Try.mixed Try.func69 (by kernel_rfl) (by kernel_rfl) (by kernel_rfl) 2000 _ [] [0,1,61] 50 rfl rfl (Eq.mpr (keys_AppendSeq93_vc r c m) ?_)
  intro b1
  exact ⟨fun fr' ht hb=>range_keys (gf:=65) ht hk.once hl (fun l rec T hT=>keys_it93 l rec r c m T hk.once hT) (fun l D fn tmps y k hkm hy hz hf=>(key_int93 hk hkm).elim fun n hn=>hn▸keys_round93 l D fn tmps b1 y n hz ((hf 2).trans hb) hy),⟨.mk 0 (m.map (·.1)) [],List.Perm.refl _⟩,fun d2 x3 h1=>rdQ_mk 1 _ ⟨rfl,⟨x3,h1,rfl,rfl,rfl,rfl,trivial⟩⟩⟩
def keys_Collect93_C:List Value->List Slot->Ctr:=fun vs hs=>⟨Row,fun zx=>sv zx,fun zx=> [.blk (sblk (sarg hs 0)) (.cells #[.map (some (vblk (scell (sarg hs 0) 0)))] 91 (0,0)),(mo (vblk (scell (sarg hs 0) 0)) (skv (sarg hs 1))),(ss 23 zx)],fun zx=>(vals zx).Perm ((skv (sarg hs 1)).map (·.1))⟩
abbrev keys_Collect93_Q (r c:Nat) (m:KV) (zv:Value) (zs0:Slot) (zs1:Slot) (zs2:Slot):Prop:= ∃zx:Row,((vals zx).Perm (m.map (·.1)))/\zv=sv zx/\zs0=bk c #[.map (some r)] 91/\zs1=(mo r m)/\zs2=(ss 23 zx)/\True
abbrev keys_Collect93_A (r c:Nat) (m:KV) (zF:SF Row):Prop:=zF #[.func (.func 65) #[] #[pp c 0]] [bk c #[.map (some r)] 91,(mo r m)] (fun zx=>sv zx) (fun zx=> [bk c #[.map (some r)] 91,(mo r m),(ss 23 zx)]) (fun zx=>((vals zx).Perm (m.map (·.1))))
set_option maxRecDepth 100000 in
theorem keys_Collect93_vc (r c:Nat) (m:KV):keys_Collect93_A r c m (fun za zh zv zu zp=>codeW Try.prog 5 none 2000 none (bodyOf Try.f63) (.reg [S0] (.reg [S0, .callw [0,1] [0,1,40] keys_AppendSeq93_C,S0] (.done)))
    (init za zh) (finW Try.prog Try.f63 [] [0,1,40] (X:=Row) zv zu zp))=
    (callQ Try.prog 69 #[.slice none 0 0, .func (.func 65) #[] #[pp c 0]] [bk c #[.map (some r)] 91,(mo r m)] Row (fun zx=>sv zx) (fun zx=> [bk c #[.map (some r)] 91,(mo r m),(ss 23 zx)]) (fun zx=>(vals zx).Perm (m.map (·.1))) (fun x1=>keys_Collect93_Q r c m (sv x1) (bk c #[.map (some r)] 91) (mo r m) (ss 23 x1))):=by kernel_rfl
set_option maxRecDepth 100000 in
theorem keys_Collect93 (r c:Nat) (m:KV) (hk:KOK Try.mk93 m) (hl:m.length<=1048576):keys_Collect93_A r c m (fun za zh zv zu zp=>CallT Try.prog 63 za zh Row zv zu zp):=by
  refine call_of (c:=bodyOf Try.f63) (n:=5) (fn:=Try.f63) Try.mixed Try.func63 (by kernel_rfl) (by kernel_rfl) (by kernel_rfl) 2000 _ [] [0,1,40] rfl rfl (Eq.mpr (keys_Collect93_vc r c m) ?_)
  exact callQ_mk (keys_AppendSeq93 r c m (by assumption) (by assumption)) (⟨.mk 0 (m.map (·.1)) [],List.Perm.refl _⟩) fun x1 h1=>⟨x1,h1,rfl,rfl,rfl,rfl,trivial⟩
def maps_Keys93_C:List Value->List Slot->Ctr:=fun vs hs=>⟨Nat,fun zx=> .func (.func 65) #[] #[pp zx 0],fun zx=> [bk zx #[.map (some (vblk (varg vs 1)))] 91],fun zx=>True⟩
abbrev maps_Keys93_Q (r:Nat) (zv:Value) (zs0:Slot):Prop:= ∃zx:Nat,(True)/\zv= .func (.func 65) #[] #[pp zx 0]/\zs0=bk zx #[.map (some r)] 91/\True
abbrev maps_Keys93_A (r:Nat) (zF:SF Nat):Prop:=zF #[.map (some r)] [] (fun zx=> .func (.func 65) #[] #[pp zx 0]) (fun zx=> [bk zx #[.map (some r)] 91]) (fun zx=>(True))
set_option maxRecDepth 100000 in
theorem maps_Keys93_vc (r:Nat):maps_Keys93_A r (fun za zh zv zu zp=>codeW Try.prog 4 none 2000 none (bodyOf Try.f57) (.reg [.sem [.nw 40],S0] (.reg [S0,S0] (.done)))
    (init za zh) (finW Try.prog Try.f57 [] [40] (X:=Nat) zv zu zp))=
    (∀b1:Nat,maps_Keys93_Q r (Value.func (.func 65) #[] #[pp b1 0]) (bk b1 #[.map (some r)] 91)):=by kernel_rfl
set_option maxRecDepth 100000 in
theorem maps_Keys93 (r:Nat) :maps_Keys93_A r (fun za zh zv zu zp=>CallT Try.prog 57 za zh Nat zv zu zp):=by
  refine call_of (c:=bodyOf Try.f57) (n:=4) (fn:=Try.f57) Try.mixed Try.func57 (by kernel_rfl) (by kernel_rfl) (by kernel_rfl) 2000 _ [] [40] rfl rfl (Eq.mpr (maps_Keys93_vc r) ?_)
  intro b1
  exact ⟨b1,trivial,rfl,rfl,trivial⟩
def keys_nan93_C:List Value->List Slot->Ctr:=fun vs hs=>⟨Unit,fun _=> .bool false,fun _=>hs,fun _=>True⟩
abbrev keys_nan93_Q (x:Int) (zv:Value) :Prop:= ∃_:Unit,(True)/\zv= .bool false/\True
abbrev keys_nan93_A (x:Int) (zF:SF Unit):Prop:=zF #[.int .u32 x] [] (fun _=> .bool false) (fun _=> []) (fun _=>True)
set_option maxRecDepth 100000 in
theorem keys_nan93_vc (x:Int):keys_nan93_A x (fun za zh zv zu zp=>codeW Try.prog 6 none 2000 none (bodyOf Try.f41) (.reg [S0] (.reg [S0,S0, .gen [] (Sx.one (.bool false)),S0] (.done)))
    (init za zh) (finW Try.prog Try.f41 [] [] (X:=Unit) zv zu zp))=
    ((∃_:Unit,True/\Value.bool (x !=x)= .bool false)/\ ∀_:Unit,(True)->keys_nan93_Q x (Value.bool false)):=by kernel_rfl
set_option maxRecDepth 100000 in
theorem keys_nan93 (x:Int) :keys_nan93_A x (fun za zh zv zu zp=>CallT Try.prog 41 za zh Unit zv zu zp):=by
  refine call_of (c:=bodyOf Try.f41) (n:=6) (fn:=Try.f41) Try.mixed Try.func41 (by kernel_rfl) (by kernel_rfl) (by kernel_rfl) 2000 _ [] [] rfl rfl (Eq.mpr (keys_nan93_vc x) ?_)
  exact ⟨⟨(),trivial,congrArg Value.bool (bne_self_eq_false _)⟩,fun _=>fun _=>⟨(),trivial,rfl,trivial⟩⟩
def keys_less93_C:List Value->List Slot->Ctr:=fun vs hs=>⟨Unit,fun _=> .bool (decide ((ci (varg vs 1))<(ci (varg vs 2)))),fun _=>hs,fun _=>True⟩
abbrev keys_less93_Q (x y:Int) (zv:Value) :Prop:= ∃_:Unit,(True)/\zv= .bool (decide (x<y))/\True
abbrev keys_less93_A (x y:Int) (zF:SF Unit):Prop:=zF #[.int .u32 x, .int .u32 y] [] (fun _=> .bool (decide (x<y))) (fun _=> []) (fun _=>True)
set_option maxRecDepth 100000 in
theorem keys_less93_vc (x y:Int):keys_less93_A x y (fun za zh zv zu zp=>codeW Try.prog 17 none 2000 none (bodyOf Try.f26) (.reg [S0] (.reg [S0, .callr [] keys_nan93_C,S0, .no, .no, .no,S0,S0,S0,S0,S0,S0,S0] (.done)))
    (init za zh) (finW Try.prog Try.f26 [] [] (X:=Unit) zv zu zp))=
    (callQr Try.prog 41 #[.int .u32 x] [] Unit (fun _=> .bool false) (fun _=>True) (fun _=>false= !true/\false= !true/\false= !true/\false=false/\false=false/\false=false/\keys_less93_Q x y (Value.bool (decide (x<y))))):=by kernel_rfl
set_option maxRecDepth 100000 in
theorem keys_less93 (x y:Int) :keys_less93_A x y (fun za zh zv zu zp=>CallT Try.prog 26 za zh Unit zv zu zp):=by
  refine call_of (c:=bodyOf Try.f26) (n:=17) (fn:=Try.f26) Try.mixed Try.func26 (by kernel_rfl) (by kernel_rfl) (by kernel_rfl) 2000 _ [] [] rfl rfl (Eq.mpr (keys_less93_vc x y) ?_)
  exact callQr_mk (keys_nan93 x) (⟨(),trivial⟩) fun _ _=>⟨rfl,rfl,rfl,rfl,rfl,rfl,⟨(),trivial,rfl,trivial⟩⟩
abbrev keys_cmp93_Q (w0:World) (c b:Nat) (x y:Int) (zv:Value) (zs0:Slot):Prop:= ∃_:Unit,(True)/\zv= .int .i64 (cmpI x y)/\zs0=(old w0)/\True
set_option maxRecDepth 100000 in
theorem keys_cmp93_vc (w0:World) (c b:Nat) (x y:Int):codeW Try.prog 22 none 2000 none (bodyOf Try.f58) (.reg [S0] (.reg [.specr [0] (fun _ hs=>⟨Unit,fun _=>pp b 0,fun _=>hs,fun _=>True⟩),S0,S0, .specr [0] (fun _ hs=>⟨Unit,fun _=> .func (.func 26) #[] #[],fun _=>hs,fun _=>True⟩),S0,S0, .callr [] keys_less93_C,S0] (.cond (.reg [S0] (.done)) (.reg [.specr [0] (fun _ hs=>⟨Unit,fun _=>pp b 0,fun _=>hs,fun _=>True⟩),S0,S0, .specr [0] (fun _ hs=>⟨Unit,fun _=> .func (.func 26) #[] #[],fun _=>hs,fun _=>True⟩),S0,S0, .callr [] keys_less93_C,S0] (.cond (.reg [S0] (.done)) (.reg [S0] (.done)))))))
    (init #[.int .u32 x, .int .u32 y,pp c 0] [(old w0)]) (finW Try.prog Try.f58 [] [0] (X:=Unit) (fun _=> .int .i64 (cmpI x y)) (fun _=> [(old w0)]) (fun _=>True))=
    (opQr Try.prog (vS (Instr.loadAt 58 (pp c 0))) [(old w0)] Unit (fun _=>pp b 0) (fun _=>True) (fun _=>opQr Try.prog (vS (Instr.loadAt 60 (pp b 2))) [(old w0)] Unit (fun _=> .func (.func 26) #[] #[]) (fun _=>True) (fun _=>callQr Try.prog 26 #[.int .u32 x, .int .u32 y] [] Unit (fun _=> .bool (decide (x<y))) (fun _=>True) (fun _=>((decide (x<y))=true->keys_cmp93_Q w0 c b x y (Value.int .i64 (-1)) (old w0))/\((decide (x<y))=false->opQr Try.prog (vS (Instr.loadAt 58 (pp c 0))) [(old w0)] Unit (fun _=>pp b 0) (fun _=>True) (fun _=>opQr Try.prog (vS (Instr.loadAt 60 (pp b 2))) [(old w0)] Unit (fun _=> .func (.func 26) #[] #[]) (fun _=>True) (fun _=>callQr Try.prog 26 #[.int .u32 y, .int .u32 x] [] Unit (fun _=> .bool (decide (y<x))) (fun _=>True) (fun _=>((decide (y<x))=true->keys_cmp93_Q w0 c b x y (Value.int .i64 1) (old w0))/\((decide (y<x))=false->keys_cmp93_Q w0 c b x y (Value.int .i64 0) (old w0)))))))))):=by kernel_rfl
set_option maxRecDepth 100000 in
theorem keys_cmp93 (w0:World) (c b:Nat) (x y:Int) (hc1:w0.cell? ⟨c,0,none⟩=some (pp b 0)) (hc2:w0.cell? ⟨b,2,none⟩=some (.func (.func 26) #[] #[])):CallT Try.prog 58 #[.int .u32 x, .int .u32 y,pp c 0] [(old w0)] Unit (fun _=> .int .i64 (cmpI x y)) (fun _=> [(old w0)]) (fun _=>True):=by
  refine call_of (c:=bodyOf Try.f58) (n:=22) (fn:=Try.f58) Try.mixed Try.func58 (by kernel_rfl) (by kernel_rfl) (by kernel_rfl) 2000 _ [] [0] rfl rfl (Eq.mpr (keys_cmp93_vc w0 c b x y) ?_)
  refine opQr_mk (xold1 Try.isAgg58 hc1) (⟨(),trivial⟩) fun _ _=>opQr_mk (xold1 Try.isAgg60 hc2) (⟨(),trivial⟩) fun _ _=>callQr_mk (keys_less93 x y) (⟨(),trivial⟩) fun _ _=>⟨fun h1=> ?_,fun h1=> ?_⟩
  · refine ⟨(),trivial,?_,rfl,trivial⟩
    unfold cmpI
    simp only [decide_eq_true_eq,decide_eq_false_iff_not] at h1
    simp only [h1,if_true,if_false,ite_true,ite_false]
  refine opQr_mk (xold1 Try.isAgg58 hc1) (⟨(),trivial⟩) fun _ _=>opQr_mk (xold1 Try.isAgg60 hc2) (⟨(),trivial⟩) fun _ _=>callQr_mk (keys_less93 y x) (⟨(),trivial⟩) fun _ _=>⟨fun h2=> ?_,fun h2=> ?_⟩
  · refine ⟨(),trivial,?_,rfl,trivial⟩
    unfold cmpI
    simp only [decide_eq_true_eq,decide_eq_false_iff_not] at h1 h2
    simp only [h1,h2,if_true,if_false,ite_true,ite_false]
  refine ⟨(),trivial,?_,rfl,trivial⟩
  unfold cmpI
  simp only [decide_eq_true_eq,decide_eq_false_iff_not] at h1 h2
  simp only [h1,h2,if_true,if_false,ite_true,ite_false]
def Try.sort64_ren:Go.Shelf.Ren:=⟨fun | 6=>64 | 15=>68 | 14=>70 | 28=>79 | 29=>80 | 20=>81 | 21=>82 | 22=>83 | 23=>84 | 24=>85 | 25=>86 | 26=>87 | 27=>88 | 46=>94 | 47=>90 | 48=>91 | 49=>95 | 50=>96 | 57=>98 | n=>n,fun | 22=>22 | 24=>23 | 25=>112 | 3=>3 | 39=>98 | 0=>0 | 53=>23 | 55=>56 | 4=>4 | 46=>125 | 45=>124 | 50=>52 | 5=>5 | 9=>9 | 66=>136 | 70=>140 | 76=>144 | 77=>145 | n=>n,fun | n=>n⟩
theorem Try.sort64:Go.Proofs.SlLaysF.n6 Try.prog Try.sort64_ren:= {
  mixed:=by kernel_rfl
  f6:=⟨Try.f64.name,by decide,Try.func64.trans (congrArg some (by kernel_rfl))⟩
  f14:=⟨Try.f70.name,by decide,Try.func70.trans (congrArg some (by kernel_rfl))⟩
  f15:=Try.func68.trans (congrArg some (by kernel_rfl))
  f20:=⟨Try.f81.name,by decide,Try.func81.trans (congrArg some (by kernel_rfl))⟩
  f21:=⟨Try.f82.name,by decide,Try.func82.trans (congrArg some (by kernel_rfl))⟩
  f22:=⟨Try.f83.name,by decide,Try.func83.trans (congrArg some (by kernel_rfl))⟩
  f23:=⟨Try.f84.name,by decide,Try.func84.trans (congrArg some (by kernel_rfl))⟩
  f24:=⟨Try.f85.name,by decide,Try.func85.trans (congrArg some (by kernel_rfl))⟩
  f25:=⟨Try.f86.name,by decide,Try.func86.trans (congrArg some (by kernel_rfl))⟩
  f26:=⟨Try.f87.name,by decide,Try.func87.trans (congrArg some (by kernel_rfl))⟩
  f27:=⟨Try.f88.name,by decide,Try.func88.trans (congrArg some (by kernel_rfl))⟩
  f28:=Try.func79.trans (congrArg some (by kernel_rfl))
  f29:=Try.func80.trans (congrArg some (by kernel_rfl))
  f46:=⟨Try.f94.name,by decide,Try.func94.trans (congrArg some (by kernel_rfl))⟩
  f47:=Try.func90.trans (congrArg some (by kernel_rfl))
  f48:=Try.func91.trans (congrArg some (by kernel_rfl))
  f49:=⟨Try.f95.name,by decide,Try.func95.trans (congrArg some (by kernel_rfl))⟩
  f50:=⟨Try.f96.name,by decide,Try.func96.trans (congrArg some (by kernel_rfl))⟩
  f57:=⟨Try.f98.name,by decide,Try.func98.trans (congrArg some (by kernel_rfl))⟩
  t0:=Try.underlying0
  a0:=Try.isAgg0
  z0:=Try.sizeOf0
  v0:=Try.zeroValue0
  t3:=Try.underlying3
  a3:=Try.isAgg3
  z3:=Try.sizeOf3
  v3:=Try.zeroValue3
  t4:=Try.underlying4
  a4:=Try.isAgg4
  z4:=Try.sizeOf4
  v4:=Try.zeroValue4
  t5:=Try.underlying5
  a5:=Try.isAgg5
  z5:=Try.sizeOf5
  v5:=Try.zeroValue5
  t9:=Try.underlying9
  a9:=Try.isAgg9
  z9:=Try.sizeOf9
  v9:=Try.zeroValue9
  t22:=Try.underlying22
  a22:=Try.isAgg22
  z22:=Try.sizeOf22
  v22:=Try.zeroValue22
  a24:=Try.isAgg23
  z24:=Try.sizeOf23
  t25:=Try.underlying112
  a25:=Try.isAgg112
  z25:=Try.sizeOf112
  v25:=Try.zeroValue112
  t39:=Try.underlying98
  a39:=Try.isAgg98
  z39:=Try.sizeOf98
  v39:=Try.zeroValue98
  t45:=Try.underlying124
  a45:=Try.isAgg124
  z45:=Try.sizeOf124
  v45:=Try.zeroValue124
  t46:=Try.underlying125
  a46:=Try.isAgg125
  z46:=Try.sizeOf125
  v46:=Try.zeroValue125
  t50:=Try.underlying52
  a50:=Try.isAgg52
  z50:=Try.sizeOf52
  v50:=Try.zeroValue52
  t53:=Try.underlying23
  a53:=Try.isAgg23
  z53:=Try.sizeOf23
  v53:=Try.zeroValue23
  t55:=Try.underlying56
  a55:=Try.isAgg56
  z55:=Try.sizeOf56
  v55:=Try.zeroValue56
  t66:=Try.underlying136
  a66:=Try.isAgg136
  z66:=Try.sizeOf136
  v66:=Try.zeroValue136
  t70:=Try.underlying140
  a70:=Try.isAgg140
  z70:=Try.sizeOf140
  v70:=Try.zeroValue140
  t76:=Try.underlying144
  a76:=Try.isAgg144
  z76:=Try.sizeOf144
  v76:=Try.zeroValue144
  t77:=Try.underlying145
  a77:=Try.isAgg145
  z77:=Try.sizeOf145
  v77:=Try.zeroValue145 }
abbrev keys_SortedFunc93_Q (r c c2 b bj:Nat) (m:KV) (zv:Value) (zs0:Slot) (zs1:Slot) (zs2:Slot) (zs3:Slot) (zs4:Slot):Prop:= ∃zx:Row,(KeysOf .u32 m (vals zx))/\zv=sv zx/\zs0=bk c #[.map (some r)] 91/\zs1=(mo r m)/\zs2=bk c2 #[pp b 0] 58/\zs3= .blk b (.cells #[.map (some r),pp bj 0, .func (.func 26) #[] #[]] 93 (0,0))/\zs4=(ss 23 zx)/\True
set_option maxRecDepth 100000 in
theorem keys_SortedFunc93_vc (r c c2 b bj:Nat) (m:KV):codeW Try.prog 12 none 2000 none (bodyOf Try.f56) (.reg [S0] (.reg [S0, .callw [0,1] [0,1,40] keys_Collect93_C,S0] (.reg [S0,S0, .callw [40,2,3] [40,2,3] (fun vs hs=>⟨Row,fun _=>undef,fun zx=> [ss 23 zx,sarg hs 1,sarg hs 2],fun zx=>sv zx=varg vs 1/\(vals zx).Perm (rvals (varg vs 1) (sarg hs 0))/\SortedBy cmpI (vals zx)⟩)] (.reg [S0,S0] (.done)))))
    (init #[.func (.func 65) #[] #[pp c 0], .func (.func 58) #[] #[pp c2 0]] [bk c #[.map (some r)] 91,(mo r m),bk c2 #[pp b 0] 58, .blk b (.cells #[.map (some r),pp bj 0, .func (.func 26) #[] #[]] 93 (0,0))]) (finW Try.prog Try.f56 [] [0,1,2,3,40] (X:=Row) (fun zx=>sv zx) (fun zx=> [bk c #[.map (some r)] 91,(mo r m),bk c2 #[pp b 0] 58, .blk b (.cells #[.map (some r),pp bj 0, .func (.func 26) #[] #[]] 93 (0,0)),(ss 23 zx)]) (fun zx=>(KeysOf .u32 m (vals zx))))=
    (callQ Try.prog 63 #[.func (.func 65) #[] #[pp c 0]] [bk c #[.map (some r)] 91,(mo r m)] Row (fun zx=>sv zx) (fun zx=> [bk c #[.map (some r)] 91,(mo r m),(ss 23 zx)]) (fun zx=>(vals zx).Perm (m.map (·.1))) (fun x1=>callQ Try.prog 64 #[sv x1, .func (.func 58) #[] #[pp c2 0]] [(ss 23 x1),bk c2 #[pp b 0] 58, .blk b (.cells #[.map (some r),pp bj 0, .func (.func 26) #[] #[]] 93 (0,0))] Row (fun zx=> .tuple #[]) (fun zx=> [(ss 23 zx),bk c2 #[pp b 0] 58, .blk b (.cells #[.map (some r),pp bj 0, .func (.func 26) #[] #[]] 93 (0,0))]) (fun zx=>sv zx=sv x1/\(vals zx).Perm (rvals (sv x1) (ss 23 x1))/\SortedBy cmpI (vals zx)) (fun x2=>keys_SortedFunc93_Q r c c2 b bj m (sv x1) (bk c #[.map (some r)] 91) (mo r m) (bk c2 #[pp b 0] 58) (Slot.blk b (.cells #[.map (some r),pp bj 0, .func (.func 26) #[] #[]] 93 (0,0))) (ss 23 x2)))):=by kernel_rfl
set_option maxRecDepth 100000 in
theorem keys_SortedFunc93 (r c c2 b bj:Nat) (m:KV) (hk:KOK Try.mk93 m) (hl:m.length<=1048576):CallT Try.prog 56 #[.func (.func 65) #[] #[pp c 0], .func (.func 58) #[] #[pp c2 0]] [bk c #[.map (some r)] 91,(mo r m),bk c2 #[pp b 0] 58, .blk b (.cells #[.map (some r),pp bj 0, .func (.func 26) #[] #[]] 93 (0,0))] Row (fun zx=>sv zx) (fun zx=> [bk c #[.map (some r)] 91,(mo r m),bk c2 #[pp b 0] 58, .blk b (.cells #[.map (some r),pp bj 0, .func (.func 26) #[] #[]] 93 (0,0)),(ss 23 zx)]) (fun zx=>(KeysOf .u32 m (vals zx))):=by
  refine call_of (c:=bodyOf Try.f56) (n:=12) (fn:=Try.f56) Try.mixed Try.func56 (by kernel_rfl) (by kernel_rfl) (by kernel_rfl) 2000 _ [] [0,1,2,3,40] rfl rfl (Eq.mpr (keys_SortedFunc93_vc r c c2 b bj m) ?_)
  refine callQ_mk (keys_Collect93 r c m (by assumption) (by assumption)) (⟨.mk 0 (m.map (·.1)) [],List.Perm.refl _⟩) fun x1 h1=>callQ_mk (sort_row Try.sort64 rfl (enterOK (c:=bodyOf Try.f64) Try.func64 (by kernel_rfl) (by kernel_rfl)) (enterOK (c:=bodyOf Try.f58) Try.func58 (by kernel_rfl) (by kernel_rfl)) swoI (fun w0 h1 h2 x y=>keys_cmp93 w0 c2 b x y h1 h2) (fun v hv=>key_int93 hk (h1.mem_iff.1 hv)) (by have:=h1.length_eq;simp at this;omega)) (sort_wit (x1)) fun x2 h2=> ?_
  rw [rvals_eq] at h2
  exact ⟨x2,keysOf_of hk.once (fun v hv=>key_int93 hk hv) (h2.2.1.trans h1) h2.2.2,h2.1.symm,rfl,rfl,rfl,rfl,rfl,trivial⟩
def Try.clone44_ren:Go.Shelf.Ren:=⟨fun | 5=>44 | 7=>59 | n=>n,fun | 23=>91 | 25=>23 | 3=>56 | 4=>4 | 20=>20 | n=>n,fun | n=>n⟩
theorem Try.clone44:Go.Proofs.SlLaysW.n5 Try.prog Try.clone44_ren:= {
  mixed:=by kernel_rfl
  f5:=⟨Try.f44.name,by decide,Try.func44.trans (congrArg some (by kernel_rfl))⟩
  f7:=Try.func59.trans (congrArg some (by kernel_rfl))
  t4:=Try.underlying4
  a4:=Try.isAgg4
  z4:=Try.sizeOf4
  v4:=Try.zeroValue4
  t20:=Try.underlying20
  a20:=Try.isAgg20
  z20:=Try.sizeOf20
  v20:=Try.zeroValue20
  t23:=Try.underlying91
  a23:=Try.isAgg91
  z23:=Try.sizeOf91
  v23:=Try.zeroValue91 }
def keys_Keys_raw93_C:List Value->List Slot->Ctr:=fun vs hs=>⟨Row,fun zx=>sv zx,fun zx=> [(ss 23 zx)],fun zx=>KeysOf .u32 (skv (sarg hs 1)) (vals zx)⟩
abbrev keys_Keys_raw93_Q (b r bj:Nat) (m:KV) (zv:Value) (zs0:Slot) (zs1:Slot) (zs2:Slot):Prop:= ∃zx:Row,(KeysOf .u32 m (vals zx))/\zv=sv zx/\zs0= .blk b (.cells #[.map (some r),pp bj 0, .func (.func 26) #[] #[]] 93 (0,0))/\zs1=(mo r m)/\zs2=(ss 23 zx)/\True
abbrev keys_Keys_raw93_A (b r bj:Nat) (m:KV) (zF:SF Row):Prop:=zF #[pp b 0] [.blk b (.cells #[.map (some r),pp bj 0, .func (.func 26) #[] #[]] 93 (0,0)),(mo r m)] (fun zx=>sv zx) (fun zx=> [.blk b (.cells #[.map (some r),pp bj 0, .func (.func 26) #[] #[]] 93 (0,0)),(mo r m),(ss 23 zx)]) (fun zx=>(KeysOf .u32 m (vals zx)))
set_option maxRecDepth 100000 in
theorem keys_Keys_raw93_vc (b r bj:Nat) (m:KV):keys_Keys_raw93_A b r bj m (fun za zh zv zu zp=>codeW Try.prog 10 none 2000 none (bodyOf Try.f43) (.reg [.sem [.nw 40],S0] (.reg [.sem [.rd 40],S0,S0, .sem [.rd 0], .callw [] [41] maps_Keys93_C,S0, .callw [41,1,40,0] [41,1,40,0,45] (fun vs hs=>⟨Row,fun zx=>sv zx,fun zx=>hs++ [ss 23 zx],fun zx=>KeysOf .u32 (skv (sarg hs 1)) (vals zx)⟩),S0] (.done)))
    (init za zh) (finW Try.prog Try.f43 [] [0,1,45] (X:=Row) zv zu zp))=
    (∀b1:Nat,rdQ 1 b1 (rdQ 1 b (callQ Try.prog 57 #[.map (some r)] [] Nat (fun zx=> .func (.func 65) #[] #[pp zx 0]) (fun zx=> [bk zx #[.map (some r)] 91]) (fun zx=>True) (fun x2=>callQ Try.prog 56 #[.func (.func 65) #[] #[pp x2 0], .func (.func 58) #[] #[pp b1 0]] [bk x2 #[.map (some r)] 91,(mo r m),bk b1 #[pp b 0] 58, .blk b (.cells #[.map (some r),pp bj 0, .func (.func 26) #[] #[]] 93 (0,0))] Row (fun zx=>sv zx) (fun zx=> [bk x2 #[.map (some r)] 91,(mo r m),bk b1 #[pp b 0] 58, .blk b (.cells #[.map (some r),pp bj 0, .func (.func 26) #[] #[]] 93 (0,0)),(ss 23 zx)]) (fun zx=>KeysOf .u32 m (vals zx)) (fun x3=>keys_Keys_raw93_Q b r bj m (sv x3) (Slot.blk b (.cells #[.map (some r),pp bj 0, .func (.func 26) #[] #[]] 93 (0,0))) (mo r m) (ss 23 x3)))))):=by kernel_rfl
set_option maxRecDepth 100000 in
theorem keys_Keys_raw93 (b r bj:Nat) (m:KV) (hk:KOK Try.mk93 m) (hl:m.length<=1048576):keys_Keys_raw93_A b r bj m (fun za zh zv zu zp=>CallT Try.prog 43 za zh Row zv zu zp):=by
  refine call_of (c:=bodyOf Try.f43) (n:=10) (fn:=Try.f43) Try.mixed Try.func43 (by kernel_rfl) (by kernel_rfl) (by kernel_rfl) 2000 _ [] [0,1,45] rfl rfl (Eq.mpr (keys_Keys_raw93_vc b r bj m) ?_)
  intro b1
  exact rdQ_mk 1 _ (rdQ_mk 1 _ (callQ_mk (maps_Keys93 r) (⟨0,trivial⟩) fun x2 h1=>callQ_mk (keys_SortedFunc93 r x2 b1 b bj m hk hl) (keysOf_wit (fun v hv=>key_int93 hk hv) hk.once) fun x3 h2=>⟨x3,h2,rfl,rfl,rfl,rfl,trivial⟩))
def maps_Clone93_C:List Value->List Slot->Ctr:=fun vs hs=>⟨Nat,fun zx=> .map (some zx),fun zx=> [(mo zx (skv (sarg hs 0)))],fun zx=>True⟩
theorem maps_Clone93 (r:Nat) (m:KV) :CallT Try.prog 44 #[.map (some r)] [(mo r m)] Nat (fun zx=> .map (some zx)) (fun zx=> [(mo r m),(mo zx m)]) (fun zx=>(True)):=clone_map Try.clone44 rfl (enterOK (c:=bodyOf Try.f44) Try.func44 (by kernel_rfl) (by kernel_rfl))
abbrev keys_All_raw93_Q (b r bj:Nat) (m:KV) (zv:Value) (zs0:Slot) (zs1:Slot) (zs2:Slot) (zs3:Slot) (zs4:Slot) (zs5:Slot):Prop:= ∃zx:Nat×Nat×Nat×Row,(KeysOf .u32 m (vals zx.2.2.2))/\zv= .func (.func 45) #[] #[pp zx.1 0,pp zx.2.1 0]/\zs0= .blk b (.cells #[.map (some r),pp bj 0, .func (.func 26) #[] #[]] 93 (0,0))/\zs1=(mo r m)/\zs2=bk zx.1 #[sv zx.2.2.2] 22/\zs3=(ss 23 zx.2.2.2)/\zs4=bk zx.2.1 #[.map (some zx.2.2.1)] 91/\zs5=(mo zx.2.2.1 m)/\True
abbrev keys_All_raw93_A (b r bj:Nat) (m:KV) (zF:SF (Nat×Nat×Nat×Row)):Prop:=zF #[pp b 0] [.blk b (.cells #[.map (some r),pp bj 0, .func (.func 26) #[] #[]] 93 (0,0)),(mo r m)] (fun zx=> .func (.func 45) #[] #[pp zx.1 0,pp zx.2.1 0]) (fun zx=> [.blk b (.cells #[.map (some r),pp bj 0, .func (.func 26) #[] #[]] 93 (0,0)),(mo r m),bk zx.1 #[sv zx.2.2.2] 22,(ss 23 zx.2.2.2),bk zx.2.1 #[.map (some zx.2.2.1)] 91,(mo zx.2.2.1 m)]) (fun zx=>(KeysOf .u32 m (vals zx.2.2.2)))
set_option maxRecDepth 100000 in
theorem keys_All_raw93_vc (b r bj:Nat) (m:KV):keys_All_raw93_A b r bj m (fun za zh zv zu zp=>codeW Try.prog 13 none 2000 none (bodyOf Try.f28) (.reg [S0] (.reg [S0, .calln [0,1] [52] keys_Keys_raw93_C,S0,S0,S0, .sem [.rd 0], .calln [1] [53] maps_Clone93_C, .sem [.nw 50], .sem [.nw 51], .specw [50] [50] F_put, .sem [.wr 51]] (.reg [S0,S0] (.done))))
    (init za zh) (finW Try.prog Try.f28 [] [0,1,50,52,51,53] (X:=Nat×Nat×Nat×Row) zv zu zp))=
    (callQ Try.prog 43 #[pp b 0] [.blk b (.cells #[.map (some r),pp bj 0, .func (.func 26) #[] #[]] 93 (0,0)),(mo r m)] Row (fun zx=>sv zx) (fun zx=> [.blk b (.cells #[.map (some r),pp bj 0, .func (.func 26) #[] #[]] 93 (0,0)),(mo r m),(ss 23 zx)]) (fun zx=>KeysOf .u32 m (vals zx)) (fun x1=>rdQ 1 b (callQ Try.prog 44 #[.map (some r)] [(mo r m)] Nat (fun zx=> .map (some zx)) (fun zx=> [(mo r m),(mo zx m)]) (fun zx=>True) (fun x2=> ∀b3:Nat,∀b4:Nat,opQ Try.prog (skS (Instr.storeAt 22 (pp b3 0) (sv x1))) [bk b3 #[.slice none 0 0] 22] Unit (fun _=> .tuple #[]) (fun _=> [bk b3 #[sv x1] 22]) (fun _=>True) (fun _=>rdQ 1 b4 (keys_All_raw93_Q b r bj m (Value.func (.func 45) #[] #[pp b3 0,pp b4 0]) (Slot.blk b (.cells #[.map (some r),pp bj 0, .func (.func 26) #[] #[]] 93 (0,0))) (mo r m) (bk b3 #[sv x1] 22) (ss 23 x1) (bk b4 #[.map (some x2)] 91) (mo x2 m))))))):=by kernel_rfl
set_option maxRecDepth 100000 in
theorem keys_All_raw93 (b r bj:Nat) (m:KV) (hk:KOK Try.mk93 m) (hl:m.length<=1048576):keys_All_raw93_A b r bj m (fun za zh zv zu zp=>CallT Try.prog 28 za zh (Nat×Nat×Nat×Row) zv zu zp):=by
  refine call_of (c:=bodyOf Try.f28) (n:=13) (fn:=Try.f28) Try.mixed Try.func28 (by kernel_rfl) (by kernel_rfl) (by kernel_rfl) 2000 _ [] [0,1,50,52,51,53] rfl rfl (Eq.mpr (keys_All_raw93_vc b r bj m) ?_)
  exact callQ_mk (keys_Keys_raw93 b r bj m (hk) (hl)) (keysOf_wit (fun v hv=>key_int93 hk hv) hk.once) fun x1 h1=>rdQ_mk 1 _ (callQ_mk (maps_Clone93 r m) (⟨0,trivial⟩) fun x2 h2=>fun b3=>fun b4=>opQ_mk (xputv (b:=b3) (cs:= #[.slice none 0 0]) (ty:=22) (te:=22) (fun w=>by kernel_rfl) 0 (sv x1) (cells_sv _) (one_sv _) (by show 0<1;decide)) (⟨(),trivial⟩) fun _ _=>rdQ_mk 1 _ ⟨(b3,b4,x2,x1),h1,rfl,rfl,rfl,rfl,rfl,rfl,rfl,trivial⟩)
def keys_All93_C:List Value->List Slot->Ctr:=fun vs hs=>⟨Nat×Nat×Nat×Row,fun zx=> .func (.func 45) #[] #[pp zx.1 0,pp zx.2.1 0],fun zx=> [bk zx.1 #[sv zx.2.2.2] 22,(ss 23 zx.2.2.2),bk zx.2.1 #[.map (some zx.2.2.1)] 91,(mo zx.2.2.1 (skv (sarg hs 0)))],fun zx=>KeysOf .u32 (skv (sarg hs 0)) (vals zx.2.2.2)⟩
theorem keys_All93 (b bj:Nat) (m:KV) (hi:IntKeys .u32 m) (hl:m.length<=1048576):CallT Try.prog 28 #[.pointer (some ⟨b,0,none⟩)] [(mS Try.mk93 b bj m)] (Nat×Nat×Nat×Row) (fun zx=> .func (.func 45) #[] #[.pointer (some ⟨zx.1,0,none⟩), .pointer (some ⟨zx.2.1,0,none⟩)]) (fun zx=> [(mS Try.mk93 b bj m), .blk zx.1 (.cells #[sv zx.2.2.2] 22 (0,0)),(ss 23 zx.2.2.2), .blk zx.2.1 (.cells #[.map (some zx.2.2.1)] 91 (0,0)),(mo zx.2.2.1 m)]) (fun zx=>(KeysOf .u32 m (vals zx.2.2.2))):=by
  refine mS_call (m' :=fun _=>m) (us:=fun x:Nat×Nat×Nat×Row=> [.blk x.1 (.cells #[sv x.2.2.2] 22 (0,0)),(ss 23 x.2.2.2), .blk x.2.1 (.cells #[.map (some x.2.2.1)] 91 (0,0)),(mo x.2.2.1 m)]) (enterOK (c:=bodyOf Try.f28) Try.func28 (by kernel_rfl) (by kernel_rfl)) (fun r hk=> ?_) (fun _ _ h=>h)
  exact keys_All_raw93 b r bj m hk hl
abbrev keys_All1_93_Q (l:Nat) (rec:Loop) (c1 c2 n:Nat) (x:Rw) (m:KV) (T:Nat->Slot) (zv:Value) (zs0:Slot) (zs1:Slot) (zs2:Slot) (zs3:Slot) (zs4:Slot) (zs5:Slot):Prop:= ∃_:Unit,(True)/\zv= .tuple #[]/\zs0=(loopB l rec)/\zs1=bk c1 #[sv x] 22/\zs2=(ss 23 x)/\zs3=bk c2 #[.map (some n)] 91/\zs4=(mo n m)/\zs5=(T (vals x).length)/\True
set_option maxRecDepth 100000 in
theorem keys_All1_93_vc (l:Nat) (rec:Loop) (c1 c2 n:Nat) (x:Rw) (m:KV) (T:Nat->Slot):codeW Try.prog 20 none 2000 none (bodyOf Try.f45) (.reg [.sem [.rd 1], .eq (f_len),S0] (.inv Nat (fun zx=> [(0, .func (.yield l) #[] #[]),(1,pp c1 0),(2,pp c2 0),(6,sv x),(7, .int .i64 ((vlen (sv x):Nat):Int)),(8, .int .i64 ((zx:Nat):Int))]) (fun zx=> [(0,(loopB l rec)),(1,bk c1 #[sv x] 22),(2,(ss 23 x)),(3,bk c2 #[.map (some n)] 91),(4,(mo n m)),(5,(T zx))]) (fun zx=>zx<=(vals x).length) (fun zx=>(vals x).length - zx) (fun x1=> .reg [S0] (.cond (.reg [.eq (f_idx), .specr [2] (fun _ hs=>⟨Unit,fun _=>((vals x).getD (Int.toNat ((x1:Nat):Int)) undef),fun _=>hs,fun _=>True⟩),S0] (.reg [S0,S0, .sem [.rd 3],S0, .specr [4] (fun _ hs=>⟨Unit,fun _=>((mget m (((vals x).getD (Int.toNat ((x1:Nat):Int)) undef))).getD (uu 0)),fun _=>hs,fun _=>True⟩), .callw [0,5] [0,5] (fun _ _=>⟨Unit,fun _=> .bool true,fun _=> [loopB l rec,T (x1+1)],fun _=>True⟩),S0] (.condF (.reg [S0,S0] (.done))))) (.done)))))
    (init #[.func (.yield l) #[] #[],pp c1 0,pp c2 0] [(loopB l rec),bk c1 #[sv x] 22,(ss 23 x),bk c2 #[.map (some n)] 91,(mo n m),(T 0)]) (finW Try.prog Try.f45 [] [0,1,2,3,4,5] (X:=Unit) (fun _=> .tuple #[]) (fun _=> [(loopB l rec),bk c1 #[sv x] 22,(ss 23 x),bk c2 #[.map (some n)] 91,(mo n m),(T (vals x).length)]) (fun _=>True))=
    (rdQ 1 c1 ((PureRun Try.prog (vS (Builtin.len_ #[22] 3 #[sv x])) (.int .i64 ((vlen (sv x):Nat):Int)))/\(∃zx:Nat,(zx<=(vals x).length)/\Value.func (.yield l) #[] #[]= .func (.yield l) #[] #[]/\pp c1 0=pp c1 0/\pp c2 0=pp c2 0/\sv x=sv x/\Value.int .i64 ((vlen (sv x):Nat):Int)= .int .i64 ((vlen (sv x):Nat):Int)/\Value.int .i64 0= .int .i64 ((zx:Nat):Int)/\(loopB l rec)=(loopB l rec)/\bk c1 #[sv x] 22=bk c1 #[sv x] 22/\(ss 23 x)=(ss 23 x)/\bk c2 #[.map (some n)] 91=bk c2 #[.map (some n)] 91/\(mo n m)=(mo n m)/\(T 0)=(T zx)/\True)/\ ∀x1:Nat,∀jx1:Nat->Value,(x1<=(vals x).length)->((decide (((x1:Nat):Int)<((vlen (sv x):Nat):Int)))=true->(PureRun Try.prog (vS (Instr.indexAt 22 (sv x) (.int .i64 ((x1:Nat):Int)))) (.pointer (some ⟨(vblk (sv x)),(Int.toNat ((x1:Nat):Int)),none⟩)))/\opQr Try.prog (vS (Instr.loadAt 23 (.pointer (some ⟨(vblk (sv x)),(Int.toNat ((x1:Nat):Int)),none⟩)))) [(ss 23 x)] Unit (fun _=>((vals x).getD (Int.toNat ((x1:Nat):Int)) undef)) (fun _=>True) (fun _=>rdQ 1 c2 (opQr Try.prog (vS (Instr.lookup 91 (.map (some n)) (((vals x).getD (Int.toNat ((x1:Nat):Int)) undef)) false)) [(mo n m)] Unit (fun _=>((mget m (((vals x).getD (Int.toNat ((x1:Nat):Int)) undef))).getD (uu 0))) (fun _=>True) (fun _=>rndQ Try.prog l #[((vals x).getD (Int.toNat ((x1:Nat):Int)) undef),((mget m (((vals x).getD (Int.toNat ((x1:Nat):Int)) undef))).getD (uu 0))] [(loopB l rec),(T x1)] Unit (fun _=> .bool true) (fun _=> [(loopB l rec),(T (x1+1))]) (fun _=>True) (fun _=>(false=false)/\ ∃zy:Nat,(zy<=(vals x).length)/\(vals x).length - zy<(vals x).length - x1/\Value.func (.yield l) #[] #[]= .func (.yield l) #[] #[]/\pp c1 0=pp c1 0/\pp c2 0=pp c2 0/\sv x=sv x/\Value.int .i64 ((vlen (sv x):Nat):Int)= .int .i64 ((vlen (sv x):Nat):Int)/\Value.int .i64 (IntKind.i64.wrap (((x1:Nat):Int)+1))= .int .i64 ((zy:Nat):Int)/\(loopB l rec)=(loopB l rec)/\bk c1 #[sv x] 22=bk c1 #[sv x] 22/\(ss 23 x)=(ss 23 x)/\bk c2 #[.map (some n)] 91=bk c2 #[.map (some n)] 91/\(mo n m)=(mo n m)/\(T (x1+1))=(T zy)/\True)))))/\((decide (((x1:Nat):Int)<((vlen (sv x):Nat):Int)))=false->keys_All1_93_Q l rec c1 c2 n x m T (Value.tuple #[]) (loopB l rec) (bk c1 #[sv x] 22) (ss 23 x) (bk c2 #[.map (some n)] 91) (mo n m) (T x1)))):=by kernel_rfl
set_option maxRecDepth 100000 in
theorem keys_All1_93 (l:Nat) (rec:Loop) (c1 c2 n:Nat) (x:Rw) (m:KV) (T:Nat->Slot) (hk:KOK Try.mk93 m) (hl:m.length<=1048576) (hx:KeysOf .u32 m (vals x)) (hT: ∀i,i<(vals x).length->RoundT Try.prog l #[(vals x).getD i undef,(mget m ((vals x).getD i undef)).getD (uu 0)] [loopB l rec,T i] Unit (fun _=> .bool true) (fun _=> [loopB l rec,T (i+1)]) (fun _=>True)):CallT Try.prog 45 #[.func (.yield l) #[] #[],pp c1 0,pp c2 0] [(loopB l rec),bk c1 #[sv x] 22,(ss 23 x),bk c2 #[.map (some n)] 91,(mo n m),(T 0)] Unit (fun _=> .tuple #[]) (fun _=> [(loopB l rec),bk c1 #[sv x] 22,(ss 23 x),bk c2 #[.map (some n)] 91,(mo n m),(T (vals x).length)]) (fun _=>True):=by
  refine call_of (c:=bodyOf Try.f45) (n:=20) (fn:=Try.f45) Try.mixed Try.func45 (by kernel_rfl) (by kernel_rfl) (by kernel_rfl) 2000 _ [] [0,1,2,3,4,5] rfl rfl (Eq.mpr (keys_All1_93_vc l rec c1 c2 n x m T) ?_)
  have hL:(vals x).length<=1048576:=by have:=hx.1.length_eq;simp at this;omega
  refine rdQ_mk 1 _ ⟨xlen Try.sl22 3 x,⟨?_,fun x1 jx1 h1=> ?_⟩⟩
  · exact ⟨0,Nat.zero_le _,rfl,rfl,rfl,rfl,rfl,rfl,rfl,rfl,rfl,rfl,rfl,rfl,trivial⟩
  have hlen:=vlen_sv x
  refine ⟨fun h2=> ?_,fun h2=> ?_⟩
  · refine ⟨xidx Try.sl22 x .i64 ((x1:Nat):Int) (by omega) (by have:=(ilt_of hlen h2);omega),opQr_mk (xget x 23 (fun w=>by kernel_rfl) (Int.toNat ((x1:Nat):Int)) _ (getD_some (by have:=(ilt_of hlen h2);omega))) (⟨(),trivial⟩) fun _ _=>rdQ_mk 1 _ (opQr_mk (xlookup1 Try.kl93.tm hk.keys (hx.2.2 _ (getD_mem (by have:=(ilt_of hlen h2);omega)))) (⟨(),trivial⟩) fun _ _=>rndQ_mk (hT x1 (ilt_of hlen h2)) (⟨(),trivial⟩) fun _ _=>⟨rfl,?_⟩)⟩
    simp only [decide_eq_true_eq] at h2
    refine ⟨x1+1,by omega,by omega,rfl,rfl,rfl,rfl,rfl,?_,rfl,rfl,rfl,rfl,rfl,rfl,trivial⟩
    exact congrArg (Value.int .i64) (wrap_succ (n:=x1) (N:=(vals x).length) (by omega) (by omega))
  unfold keys_All1_93_Q
  simp only [decide_eq_false_iff_not] at h2
  have he:x1=(vals x).length:=by omega
  rw [he]
  exact ⟨(),trivial,rfl,rfl,rfl,rfl,rfl,rfl,rfl,trivial⟩
theorem Try.sl33:SlT Try.prog 33 5 (.int .u8 0):=SlT.of (by kernel_rfl) (by kernel_rfl) (by kernel_rfl) (by kernel_rfl) rfl
noncomputable def pk_num4_C:List Value->List Slot->Ctr:=fun vs hs=>⟨Row,fun zx=> .pointer (some ⟨(vblk (varg vs 1)),0,none⟩),fun zx=> [.blk (vblk (varg vs 1)) (.cells #[sv zx] 70 (0,0)),(ss 5 zx)],fun zx=>BOK zx/\(dg zx).length=((rdv (scell (sarg hs 0) 0) (sarg hs 1))).length+4/\dg zx=(rdv (scell (sarg hs 0) 0) (sarg hs 1))++nb4 (ci (varg vs 2))⟩
abbrev pk_num4_Q (bw:Nat) (r:Row) (x:Int) (zv:Value) (zs0:Slot) (zs1:Slot):Prop:= ∃zx:Row,(BOK zx/\(dg zx).length=((rdv (sv r) (ss 5 r))).length+4/\dg zx=(rdv (sv r) (ss 5 r))++nb4 x)/\zv=pp bw 0/\zs0=bk bw #[sv zx] 70/\zs1=(ss 5 zx)/\True
abbrev pk_num4_A (bw:Nat) (r:Row) (x:Int) (zF:SF Row):Prop:=zF #[pp bw 0,uu x, .int .i64 4] [bk bw #[sv r] 70,(ss 5 r)] (fun zx=>pp bw 0) (fun zx=> [bk bw #[sv zx] 70,(ss 5 zx)]) (fun zx=>(BOK zx/\(dg zx).length=((rdv (sv r) (ss 5 r))).length+4/\dg zx=(rdv (sv r) (ss 5 r))++nb4 x))
set_option maxRecDepth 100000 in
theorem pk_num4_vc (bw:Nat) (r:Row) (x:Int):pk_num4_A bw r x (fun za zh zv zu zp=>codeW Try.prog 29 none 2000 none (bodyOf Try.f46) (.reg [S0] (.reg [S0,S0,S0] (.reg [S0,S0] (.condT (.reg [S0,S0,S0,S0, .sem [.rd 0],S0,S0,S0,S0,S0, .sem [.nw 2], .specw [1,2] [1,2] (F_appN 5),S0,S0, .specw [0] [0] F_put] (.reg [S0,S0,S0] (.reg [S0,S0] (.condT (.reg [S0,S0,S0,S0, .sem [.rd 0],S0,S0,S0,S0,S0, .sem [.nw 2], .specw [1,2] [1,2] (F_appN 5),S0,S0, .specw [0] [0] F_put] (.reg [S0,S0,S0] (.reg [S0,S0] (.condT (.reg [S0,S0,S0,S0, .sem [.rd 0],S0,S0,S0,S0,S0, .sem [.nw 2], .specw [1,2] [1,2] (F_appN 5),S0,S0, .specw [0] [0] F_put] (.reg [S0,S0,S0] (.reg [S0,S0] (.condT (.reg [S0,S0,S0,S0, .sem [.rd 0],S0,S0,S0,S0,S0, .sem [.nw 2], .specw [1,2] [1,2] (F_appN 5),S0,S0, .specw [0] [0] F_put] (.reg [S0,S0,S0] (.reg [S0,S0] (.condF (.reg [S0,S0] (.done))))))))))))))))))))))
    (init za zh) (finW Try.prog Try.f46 [] [0,1] (X:=Row) zv zu zp))=
    ((true=true)/\rdQ 1 bw (∀b1:Nat,opQ Try.prog (vS (Builtin.append_ #[33,33] 33 #[sv r, .slice (some ⟨b1,0,none⟩) 1 1])) [(ss 5 r),bk b1 #[.int .u8 (IntKind.u8.wrap (Int.fdiv x (2^24)))] 5] Row (fun zx=>sv zx) (fun zx=> [(ss 5 zx),bk b1 #[.int .u8 (IntKind.u8.wrap (Int.fdiv x (2^24)))] 5]) (fun zx=>vals zx=rvals (sv r) (ss 5 r)++srcv (Value.slice (some ⟨b1,0,none⟩) 1 1) (bk b1 #[.int .u8 (IntKind.u8.wrap (Int.fdiv x (2^24)))] 5)) (fun x2=>opQ Try.prog (skS (Instr.storeAt 33 (pp bw 0) (sv x2))) [bk bw #[sv r] 70] Unit (fun _=> .tuple #[]) (fun _=> [bk bw #[sv x2] 70]) (fun _=>True) (fun _=>(true=true)/\rdQ 1 bw (∀b3:Nat,opQ Try.prog (vS (Builtin.append_ #[33,33] 33 #[sv x2, .slice (some ⟨b3,0,none⟩) 1 1])) [(ss 5 x2),bk b3 #[.int .u8 (IntKind.u8.wrap (Int.fdiv x (2^16)))] 5] Row (fun zx=>sv zx) (fun zx=> [(ss 5 zx),bk b3 #[.int .u8 (IntKind.u8.wrap (Int.fdiv x (2^16)))] 5]) (fun zx=>vals zx=rvals (sv x2) (ss 5 x2)++srcv (Value.slice (some ⟨b3,0,none⟩) 1 1) (bk b3 #[.int .u8 (IntKind.u8.wrap (Int.fdiv x (2^16)))] 5)) (fun x4=>opQ Try.prog (skS (Instr.storeAt 33 (pp bw 0) (sv x4))) [bk bw #[sv x2] 70] Unit (fun _=> .tuple #[]) (fun _=> [bk bw #[sv x4] 70]) (fun _=>True) (fun _=>(true=true)/\rdQ 1 bw (∀b5:Nat,opQ Try.prog (vS (Builtin.append_ #[33,33] 33 #[sv x4, .slice (some ⟨b5,0,none⟩) 1 1])) [(ss 5 x4),bk b5 #[.int .u8 (IntKind.u8.wrap (Int.fdiv x (2^8)))] 5] Row (fun zx=>sv zx) (fun zx=> [(ss 5 zx),bk b5 #[.int .u8 (IntKind.u8.wrap (Int.fdiv x (2^8)))] 5]) (fun zx=>vals zx=rvals (sv x4) (ss 5 x4)++srcv (Value.slice (some ⟨b5,0,none⟩) 1 1) (bk b5 #[.int .u8 (IntKind.u8.wrap (Int.fdiv x (2^8)))] 5)) (fun x6=>opQ Try.prog (skS (Instr.storeAt 33 (pp bw 0) (sv x6))) [bk bw #[sv x4] 70] Unit (fun _=> .tuple #[]) (fun _=> [bk bw #[sv x6] 70]) (fun _=>True) (fun _=>(true=true)/\rdQ 1 bw (∀b7:Nat,opQ Try.prog (vS (Builtin.append_ #[33,33] 33 #[sv x6, .slice (some ⟨b7,0,none⟩) 1 1])) [(ss 5 x6),bk b7 #[.int .u8 (IntKind.u8.wrap (Int.fdiv x (2^0)))] 5] Row (fun zx=>sv zx) (fun zx=> [(ss 5 zx),bk b7 #[.int .u8 (IntKind.u8.wrap (Int.fdiv x (2^0)))] 5]) (fun zx=>vals zx=rvals (sv x6) (ss 5 x6)++srcv (Value.slice (some ⟨b7,0,none⟩) 1 1) (bk b7 #[.int .u8 (IntKind.u8.wrap (Int.fdiv x (2^0)))] 5)) (fun x8=>opQ Try.prog (skS (Instr.storeAt 33 (pp bw 0) (sv x8))) [bk bw #[sv x6] 70] Unit (fun _=> .tuple #[]) (fun _=> [bk bw #[sv x8] 70]) (fun _=>True) (fun _=>(false=false)/\pk_num4_Q bw r x (pp bw 0) (bk bw #[sv x8] 70) (ss 5 x8)))))))))))))):=by kernel_rfl
set_option maxRecDepth 100000 in
theorem pk_num4 (bw:Nat) (r:Row) (x:Int) (r_r:BOK r) (hr:(dg r).length<=1000):pk_num4_A bw r x (fun za zh zv zu zp=>CallT Try.prog 46 za zh Row zv zu zp):=by
  refine call_of (c:=bodyOf Try.f46) (n:=29) (fn:=Try.f46) Try.mixed Try.func46 (by kernel_rfl) (by kernel_rfl) (by kernel_rfl) 2000 _ [] [0,1] rfl rfl (Eq.mpr (pk_num4_vc bw r x) ?_)
  have d_r:=rdv_eq r 5
  have e_r:=vlen_dg r
  refine ⟨rfl,rdQ_mk 1 _ (fun b1=>opQ_mk (xappNR Try.sl33 33 r (by rw [vals_len];first | omega | decide | exact Nat.le_of_ble_eq_true rfl) (Nat.le_of_ble_eq_true rfl) (by decide) rfl) (wit_appN _) fun x2 h1=> ?_)⟩
  obtain ⟨hBh1,hNh1,hDh1⟩:=bok_app (r:=r) (l:= [(IntKind.u8.wrap (Int.fdiv x (2^24)))]) (by assumption) (by rw [rvals_eq] at h1;exact h1)
  simp only [List.length_cons,List.length_nil,List.length_replicate,Nat.zero_add,l32_length] at hNh1
  refine opQ_mk (xputv (b:=bw) (cs:= #[sv r]) (ty:=70) (te:=33) (fun w=>by kernel_rfl) 0 (sv x2) (cells_sv _) (one_sv _) (by show 0<1;decide)) (⟨(),trivial⟩) fun _ _=>⟨rfl,rdQ_mk 1 _ (fun b3=>opQ_mk (xappNR Try.sl33 33 x2 (by rw [vals_len];first | omega | decide | exact Nat.le_of_ble_eq_true rfl) (Nat.le_of_ble_eq_true rfl) (by decide) rfl) (wit_appN _) fun x4 h2=> ?_)⟩
  obtain ⟨hBh2,hNh2,hDh2⟩:=bok_app (r:=x2) (l:= [(IntKind.u8.wrap (Int.fdiv x (2^16)))]) (by assumption) (by rw [rvals_eq] at h2;exact h2)
  simp only [List.length_cons,List.length_nil,List.length_replicate,Nat.zero_add,l32_length] at hNh2
  refine opQ_mk (xputv (b:=bw) (cs:= #[sv x2]) (ty:=70) (te:=33) (fun w=>by kernel_rfl) 0 (sv x4) (cells_sv _) (one_sv _) (by show 0<1;decide)) (⟨(),trivial⟩) fun _ _=>⟨rfl,rdQ_mk 1 _ (fun b5=>opQ_mk (xappNR Try.sl33 33 x4 (by rw [vals_len];first | omega | decide | exact Nat.le_of_ble_eq_true rfl) (Nat.le_of_ble_eq_true rfl) (by decide) rfl) (wit_appN _) fun x6 h3=> ?_)⟩
  obtain ⟨hBh3,hNh3,hDh3⟩:=bok_app (r:=x4) (l:= [(IntKind.u8.wrap (Int.fdiv x (2^8)))]) (by assumption) (by rw [rvals_eq] at h3;exact h3)
  simp only [List.length_cons,List.length_nil,List.length_replicate,Nat.zero_add,l32_length] at hNh3
  refine opQ_mk (xputv (b:=bw) (cs:= #[sv x4]) (ty:=70) (te:=33) (fun w=>by kernel_rfl) 0 (sv x6) (cells_sv _) (one_sv _) (by show 0<1;decide)) (⟨(),trivial⟩) fun _ _=>⟨rfl,rdQ_mk 1 _ (fun b7=>opQ_mk (xappNR Try.sl33 33 x6 (by rw [vals_len];first | omega | decide | exact Nat.le_of_ble_eq_true rfl) (Nat.le_of_ble_eq_true rfl) (by decide) rfl) (wit_appN _) fun x8 h4=> ?_)⟩
  obtain ⟨hBh4,hNh4,hDh4⟩:=bok_app (r:=x6) (l:= [(IntKind.u8.wrap (Int.fdiv x (2^0)))]) (by assumption) (by rw [rvals_eq] at h4;exact h4)
  simp only [List.length_cons,List.length_nil,List.length_replicate,Nat.zero_add,l32_length] at hNh4
  refine opQ_mk (xputv (b:=bw) (cs:= #[sv x6]) (ty:=70) (te:=33) (fun w=>by kernel_rfl) 0 (sv x8) (cells_sv _) (one_sv _) (by show 0<1;decide)) (⟨(),trivial⟩) fun _ _=>⟨rfl,?_⟩
  unfold pk_num4_Q
  rw [d_r]
  exact ⟨x8,⟨by assumption,by omega,by simp only [hDh1,hDh2,hDh3,hDh4,List.append_assoc,List.nil_append,List.cons_append];rfl⟩,rfl,rfl,rfl,trivial⟩
abbrev pk_num4_K (bw:Nat) (r:Row) (x:Int) (KK:Row->Prop):Prop:=pk_num4_A bw r x (fun za zh zv zu zp=>callQ Try.prog 46 za zh Row zv zu zp KK)
theorem pk_num4_m (bw:Nat) (r:Row) (x:Int) {KK:Row->Prop} (kont: ∀zx:Row,(BOK zx/\(dg zx).length=((dg r)).length+4/\dg zx=(dg r)++nb4 x)->KK zx) (r_r:BOK r:=by assumption) (hr:(dg r).length<=1000:=by first | omega | decide):pk_num4_K bw r x KK:=callQ_mk (pk_num4 bw r x r_r hr) (wit_bok rfl) fun zx hz=>by
  simp only [rdv_eq,rdv_nil] at hz
  exact kont zx hz
noncomputable def pk_U32_C:List Value->List Slot->Ctr:=fun vs hs=>⟨Row,fun zx=> .pointer (some ⟨(vblk (varg vs 1)),0,none⟩),fun zx=> [.blk (vblk (varg vs 1)) (.cells #[sv zx] 70 (0,0)),(ss 5 zx)],fun zx=>BOK zx/\(dg zx).length=((rdv (scell (sarg hs 0) 0) (sarg hs 1))).length+4/\dg zx=(rdv (scell (sarg hs 0) 0) (sarg hs 1))++nb4 (IntKind.u64.wrap (ci (varg vs 2)))⟩
abbrev pk_U32_Q (bw:Nat) (r:Row) (x:Int) (zv:Value) (zs0:Slot) (zs1:Slot):Prop:= ∃zx:Row,(BOK zx/\(dg zx).length=((rdv (sv r) (ss 5 r))).length+4/\dg zx=(rdv (sv r) (ss 5 r))++nb4 (IntKind.u64.wrap x))/\zv=pp bw 0/\zs0=bk bw #[sv zx] 70/\zs1=(ss 5 zx)/\True
abbrev pk_U32_A (bw:Nat) (r:Row) (x:Int) (zF:SF Row):Prop:=zF #[pp bw 0, .int .u32 x] [bk bw #[sv r] 70,(ss 5 r)] (fun zx=>pp bw 0) (fun zx=> [bk bw #[sv zx] 70,(ss 5 zx)]) (fun zx=>(BOK zx/\(dg zx).length=((rdv (sv r) (ss 5 r))).length+4/\dg zx=(rdv (sv r) (ss 5 r))++nb4 (IntKind.u64.wrap x)))
set_option maxRecDepth 100000 in
theorem pk_U32_vc (bw:Nat) (r:Row) (x:Int):pk_U32_A bw r x (fun za zh zv zu zp=>codeW Try.prog 9 none 2000 none (bodyOf Try.f30) (.reg [S0] (.reg [S0,S0,S0, .callw [0,1] [0,1] pk_num4_C,S0] (.done)))
    (init za zh) (finW Try.prog Try.f30 [] [0,1] (X:=Row) zv zu zp))=
    (pk_num4_K bw r (IntKind.u64.wrap x) (fun x1=>pk_U32_Q bw r x (pp bw 0) (bk bw #[sv x1] 70) (ss 5 x1))):=by kernel_rfl
set_option maxRecDepth 100000 in
theorem pk_U32 (bw:Nat) (r:Row) (x:Int) (r_r:BOK r) (hr:(dg r).length<=1000):pk_U32_A bw r x (fun za zh zv zu zp=>CallT Try.prog 30 za zh Row zv zu zp):=by
  refine call_of (c:=bodyOf Try.f30) (n:=9) (fn:=Try.f30) Try.mixed Try.func30 (by kernel_rfl) (by kernel_rfl) (by kernel_rfl) 2000 _ [] [0,1] rfl rfl (Eq.mpr (pk_U32_vc bw r x) ?_)
  have d_r:=rdv_eq r 5
  have e_r:=vlen_dg r
  refine pk_num4_m bw r (IntKind.u64.wrap x) (fun x1 h1=> ?_)
  unfold pk_U32_Q
  rw [d_r]
  exact ⟨x1,h1,rfl,rfl,rfl,trivial⟩
abbrev pk_U32_K (bw:Nat) (r:Row) (x:Int) (KK:Row->Prop):Prop:=pk_U32_A bw r x (fun za zh zv zu zp=>callQ Try.prog 30 za zh Row zv zu zp KK)
theorem pk_U32_m (bw:Nat) (r:Row) (x:Int) {KK:Row->Prop} (kont: ∀zx:Row,(BOK zx/\(dg zx).length=((dg r)).length+4/\dg zx=(dg r)++nb4 (IntKind.u64.wrap x))->KK zx) (r_r:BOK r:=by assumption) (hr:(dg r).length<=1000:=by first | omega | decide):pk_U32_K bw r x KK:=callQ_mk (pk_U32 bw r x r_r hr) (wit_bok rfl) fun zx hz=>by
  simp only [rdv_eq,rdv_nil] at hz
  exact kont zx hz
noncomputable def pk_num8_C:List Value->List Slot->Ctr:=fun vs hs=>⟨Row,fun zx=> .pointer (some ⟨(vblk (varg vs 1)),0,none⟩),fun zx=> [.blk (vblk (varg vs 1)) (.cells #[sv zx] 70 (0,0)),(ss 5 zx)],fun zx=>BOK zx/\(dg zx).length=((rdv (scell (sarg hs 0) 0) (sarg hs 1))).length+8/\dg zx=(rdv (scell (sarg hs 0) 0) (sarg hs 1))++nb8 (ci (varg vs 2))⟩
abbrev pk_num8_Q (bw:Nat) (r:Row) (x:Int) (zv:Value) (zs0:Slot) (zs1:Slot):Prop:= ∃zx:Row,(BOK zx/\(dg zx).length=((rdv (sv r) (ss 5 r))).length+8/\dg zx=(rdv (sv r) (ss 5 r))++nb8 x)/\zv=pp bw 0/\zs0=bk bw #[sv zx] 70/\zs1=(ss 5 zx)/\True
abbrev pk_num8_A (bw:Nat) (r:Row) (x:Int) (zF:SF Row):Prop:=zF #[pp bw 0,uu x, .int .i64 8] [bk bw #[sv r] 70,(ss 5 r)] (fun zx=>pp bw 0) (fun zx=> [bk bw #[sv zx] 70,(ss 5 zx)]) (fun zx=>(BOK zx/\(dg zx).length=((rdv (sv r) (ss 5 r))).length+8/\dg zx=(rdv (sv r) (ss 5 r))++nb8 x))
set_option maxRecDepth 100000 in
theorem pk_num8_vc (bw:Nat) (r:Row) (x:Int):pk_num8_A bw r x (fun za zh zv zu zp=>codeW Try.prog 29 none 2000 none (bodyOf Try.f46) (.reg [S0] (.reg [S0,S0,S0] (.reg [S0,S0] (.condT (.reg [S0,S0,S0,S0, .sem [.rd 0],S0,S0,S0,S0,S0, .sem [.nw 2], .specw [1,2] [1,2] (F_appN 5),S0,S0, .specw [0] [0] F_put] (.reg [S0,S0,S0] (.reg [S0,S0] (.condT (.reg [S0,S0,S0,S0, .sem [.rd 0],S0,S0,S0,S0,S0, .sem [.nw 2], .specw [1,2] [1,2] (F_appN 5),S0,S0, .specw [0] [0] F_put] (.reg [S0,S0,S0] (.reg [S0,S0] (.condT (.reg [S0,S0,S0,S0, .sem [.rd 0],S0,S0,S0,S0,S0, .sem [.nw 2], .specw [1,2] [1,2] (F_appN 5),S0,S0, .specw [0] [0] F_put] (.reg [S0,S0,S0] (.reg [S0,S0] (.condT (.reg [S0,S0,S0,S0, .sem [.rd 0],S0,S0,S0,S0,S0, .sem [.nw 2], .specw [1,2] [1,2] (F_appN 5),S0,S0, .specw [0] [0] F_put] (.reg [S0,S0,S0] (.reg [S0,S0] (.condT (.reg [S0,S0,S0,S0, .sem [.rd 0],S0,S0,S0,S0,S0, .sem [.nw 2], .specw [1,2] [1,2] (F_appN 5),S0,S0, .specw [0] [0] F_put] (.reg [S0,S0,S0] (.reg [S0,S0] (.condT (.reg [S0,S0,S0,S0, .sem [.rd 0],S0,S0,S0,S0,S0, .sem [.nw 2], .specw [1,2] [1,2] (F_appN 5),S0,S0, .specw [0] [0] F_put] (.reg [S0,S0,S0] (.reg [S0,S0] (.condT (.reg [S0,S0,S0,S0, .sem [.rd 0],S0,S0,S0,S0,S0, .sem [.nw 2], .specw [1,2] [1,2] (F_appN 5),S0,S0, .specw [0] [0] F_put] (.reg [S0,S0,S0] (.reg [S0,S0] (.condT (.reg [S0,S0,S0,S0, .sem [.rd 0],S0,S0,S0,S0,S0, .sem [.nw 2], .specw [1,2] [1,2] (F_appN 5),S0,S0, .specw [0] [0] F_put] (.reg [S0,S0,S0] (.reg [S0,S0] (.condF (.reg [S0,S0] (.done))))))))))))))))))))))))))))))))))))))
    (init za zh) (finW Try.prog Try.f46 [] [0,1] (X:=Row) zv zu zp))=
    ((true=true)/\rdQ 1 bw (∀b1:Nat,opQ Try.prog (vS (Builtin.append_ #[33,33] 33 #[sv r, .slice (some ⟨b1,0,none⟩) 1 1])) [(ss 5 r),bk b1 #[.int .u8 (IntKind.u8.wrap (Int.fdiv x (2^56)))] 5] Row (fun zx=>sv zx) (fun zx=> [(ss 5 zx),bk b1 #[.int .u8 (IntKind.u8.wrap (Int.fdiv x (2^56)))] 5]) (fun zx=>vals zx=rvals (sv r) (ss 5 r)++srcv (Value.slice (some ⟨b1,0,none⟩) 1 1) (bk b1 #[.int .u8 (IntKind.u8.wrap (Int.fdiv x (2^56)))] 5)) (fun x2=>opQ Try.prog (skS (Instr.storeAt 33 (pp bw 0) (sv x2))) [bk bw #[sv r] 70] Unit (fun _=> .tuple #[]) (fun _=> [bk bw #[sv x2] 70]) (fun _=>True) (fun _=>(true=true)/\rdQ 1 bw (∀b3:Nat,opQ Try.prog (vS (Builtin.append_ #[33,33] 33 #[sv x2, .slice (some ⟨b3,0,none⟩) 1 1])) [(ss 5 x2),bk b3 #[.int .u8 (IntKind.u8.wrap (Int.fdiv x (2^48)))] 5] Row (fun zx=>sv zx) (fun zx=> [(ss 5 zx),bk b3 #[.int .u8 (IntKind.u8.wrap (Int.fdiv x (2^48)))] 5]) (fun zx=>vals zx=rvals (sv x2) (ss 5 x2)++srcv (Value.slice (some ⟨b3,0,none⟩) 1 1) (bk b3 #[.int .u8 (IntKind.u8.wrap (Int.fdiv x (2^48)))] 5)) (fun x4=>opQ Try.prog (skS (Instr.storeAt 33 (pp bw 0) (sv x4))) [bk bw #[sv x2] 70] Unit (fun _=> .tuple #[]) (fun _=> [bk bw #[sv x4] 70]) (fun _=>True) (fun _=>(true=true)/\rdQ 1 bw (∀b5:Nat,opQ Try.prog (vS (Builtin.append_ #[33,33] 33 #[sv x4, .slice (some ⟨b5,0,none⟩) 1 1])) [(ss 5 x4),bk b5 #[.int .u8 (IntKind.u8.wrap (Int.fdiv x (2^40)))] 5] Row (fun zx=>sv zx) (fun zx=> [(ss 5 zx),bk b5 #[.int .u8 (IntKind.u8.wrap (Int.fdiv x (2^40)))] 5]) (fun zx=>vals zx=rvals (sv x4) (ss 5 x4)++srcv (Value.slice (some ⟨b5,0,none⟩) 1 1) (bk b5 #[.int .u8 (IntKind.u8.wrap (Int.fdiv x (2^40)))] 5)) (fun x6=>opQ Try.prog (skS (Instr.storeAt 33 (pp bw 0) (sv x6))) [bk bw #[sv x4] 70] Unit (fun _=> .tuple #[]) (fun _=> [bk bw #[sv x6] 70]) (fun _=>True) (fun _=>(true=true)/\rdQ 1 bw (∀b7:Nat,opQ Try.prog (vS (Builtin.append_ #[33,33] 33 #[sv x6, .slice (some ⟨b7,0,none⟩) 1 1])) [(ss 5 x6),bk b7 #[.int .u8 (IntKind.u8.wrap (Int.fdiv x (2^32)))] 5] Row (fun zx=>sv zx) (fun zx=> [(ss 5 zx),bk b7 #[.int .u8 (IntKind.u8.wrap (Int.fdiv x (2^32)))] 5]) (fun zx=>vals zx=rvals (sv x6) (ss 5 x6)++srcv (Value.slice (some ⟨b7,0,none⟩) 1 1) (bk b7 #[.int .u8 (IntKind.u8.wrap (Int.fdiv x (2^32)))] 5)) (fun x8=>opQ Try.prog (skS (Instr.storeAt 33 (pp bw 0) (sv x8))) [bk bw #[sv x6] 70] Unit (fun _=> .tuple #[]) (fun _=> [bk bw #[sv x8] 70]) (fun _=>True) (fun _=>(true=true)/\rdQ 1 bw (∀b9:Nat,opQ Try.prog (vS (Builtin.append_ #[33,33] 33 #[sv x8, .slice (some ⟨b9,0,none⟩) 1 1])) [(ss 5 x8),bk b9 #[.int .u8 (IntKind.u8.wrap (Int.fdiv x (2^24)))] 5] Row (fun zx=>sv zx) (fun zx=> [(ss 5 zx),bk b9 #[.int .u8 (IntKind.u8.wrap (Int.fdiv x (2^24)))] 5]) (fun zx=>vals zx=rvals (sv x8) (ss 5 x8)++srcv (Value.slice (some ⟨b9,0,none⟩) 1 1) (bk b9 #[.int .u8 (IntKind.u8.wrap (Int.fdiv x (2^24)))] 5)) (fun x10=>opQ Try.prog (skS (Instr.storeAt 33 (pp bw 0) (sv x10))) [bk bw #[sv x8] 70] Unit (fun _=> .tuple #[]) (fun _=> [bk bw #[sv x10] 70]) (fun _=>True) (fun _=>(true=true)/\rdQ 1 bw (∀b11:Nat,opQ Try.prog (vS (Builtin.append_ #[33,33] 33 #[sv x10, .slice (some ⟨b11,0,none⟩) 1 1])) [(ss 5 x10),bk b11 #[.int .u8 (IntKind.u8.wrap (Int.fdiv x (2^16)))] 5] Row (fun zx=>sv zx) (fun zx=> [(ss 5 zx),bk b11 #[.int .u8 (IntKind.u8.wrap (Int.fdiv x (2^16)))] 5]) (fun zx=>vals zx=rvals (sv x10) (ss 5 x10)++srcv (Value.slice (some ⟨b11,0,none⟩) 1 1) (bk b11 #[.int .u8 (IntKind.u8.wrap (Int.fdiv x (2^16)))] 5)) (fun x12=>opQ Try.prog (skS (Instr.storeAt 33 (pp bw 0) (sv x12))) [bk bw #[sv x10] 70] Unit (fun _=> .tuple #[]) (fun _=> [bk bw #[sv x12] 70]) (fun _=>True) (fun _=>(true=true)/\rdQ 1 bw (∀b13:Nat,opQ Try.prog (vS (Builtin.append_ #[33,33] 33 #[sv x12, .slice (some ⟨b13,0,none⟩) 1 1])) [(ss 5 x12),bk b13 #[.int .u8 (IntKind.u8.wrap (Int.fdiv x (2^8)))] 5] Row (fun zx=>sv zx) (fun zx=> [(ss 5 zx),bk b13 #[.int .u8 (IntKind.u8.wrap (Int.fdiv x (2^8)))] 5]) (fun zx=>vals zx=rvals (sv x12) (ss 5 x12)++srcv (Value.slice (some ⟨b13,0,none⟩) 1 1) (bk b13 #[.int .u8 (IntKind.u8.wrap (Int.fdiv x (2^8)))] 5)) (fun x14=>opQ Try.prog (skS (Instr.storeAt 33 (pp bw 0) (sv x14))) [bk bw #[sv x12] 70] Unit (fun _=> .tuple #[]) (fun _=> [bk bw #[sv x14] 70]) (fun _=>True) (fun _=>(true=true)/\rdQ 1 bw (∀b15:Nat,opQ Try.prog (vS (Builtin.append_ #[33,33] 33 #[sv x14, .slice (some ⟨b15,0,none⟩) 1 1])) [(ss 5 x14),bk b15 #[.int .u8 (IntKind.u8.wrap (Int.fdiv x (2^0)))] 5] Row (fun zx=>sv zx) (fun zx=> [(ss 5 zx),bk b15 #[.int .u8 (IntKind.u8.wrap (Int.fdiv x (2^0)))] 5]) (fun zx=>vals zx=rvals (sv x14) (ss 5 x14)++srcv (Value.slice (some ⟨b15,0,none⟩) 1 1) (bk b15 #[.int .u8 (IntKind.u8.wrap (Int.fdiv x (2^0)))] 5)) (fun x16=>opQ Try.prog (skS (Instr.storeAt 33 (pp bw 0) (sv x16))) [bk bw #[sv x14] 70] Unit (fun _=> .tuple #[]) (fun _=> [bk bw #[sv x16] 70]) (fun _=>True) (fun _=>(false=false)/\pk_num8_Q bw r x (pp bw 0) (bk bw #[sv x16] 70) (ss 5 x16)))))))))))))))))))))))))):=by kernel_rfl
set_option maxRecDepth 100000 in
theorem pk_num8 (bw:Nat) (r:Row) (x:Int) (r_r:BOK r) (hr:(dg r).length<=1000):pk_num8_A bw r x (fun za zh zv zu zp=>CallT Try.prog 46 za zh Row zv zu zp):=by
  refine call_of (c:=bodyOf Try.f46) (n:=29) (fn:=Try.f46) Try.mixed Try.func46 (by kernel_rfl) (by kernel_rfl) (by kernel_rfl) 2000 _ [] [0,1] rfl rfl (Eq.mpr (pk_num8_vc bw r x) ?_)
  have d_r:=rdv_eq r 5
  have e_r:=vlen_dg r
  refine ⟨rfl,rdQ_mk 1 _ (fun b1=>opQ_mk (xappNR Try.sl33 33 r (by rw [vals_len];first | omega | decide | exact Nat.le_of_ble_eq_true rfl) (Nat.le_of_ble_eq_true rfl) (by decide) rfl) (wit_appN _) fun x2 h1=> ?_)⟩
  obtain ⟨hBh1,hNh1,hDh1⟩:=bok_app (r:=r) (l:= [(IntKind.u8.wrap (Int.fdiv x (2^56)))]) (by assumption) (by rw [rvals_eq] at h1;exact h1)
  simp only [List.length_cons,List.length_nil,List.length_replicate,Nat.zero_add,l32_length] at hNh1
  refine opQ_mk (xputv (b:=bw) (cs:= #[sv r]) (ty:=70) (te:=33) (fun w=>by kernel_rfl) 0 (sv x2) (cells_sv _) (one_sv _) (by show 0<1;decide)) (⟨(),trivial⟩) fun _ _=>⟨rfl,rdQ_mk 1 _ (fun b3=>opQ_mk (xappNR Try.sl33 33 x2 (by rw [vals_len];first | omega | decide | exact Nat.le_of_ble_eq_true rfl) (Nat.le_of_ble_eq_true rfl) (by decide) rfl) (wit_appN _) fun x4 h2=> ?_)⟩
  obtain ⟨hBh2,hNh2,hDh2⟩:=bok_app (r:=x2) (l:= [(IntKind.u8.wrap (Int.fdiv x (2^48)))]) (by assumption) (by rw [rvals_eq] at h2;exact h2)
  simp only [List.length_cons,List.length_nil,List.length_replicate,Nat.zero_add,l32_length] at hNh2
  refine opQ_mk (xputv (b:=bw) (cs:= #[sv x2]) (ty:=70) (te:=33) (fun w=>by kernel_rfl) 0 (sv x4) (cells_sv _) (one_sv _) (by show 0<1;decide)) (⟨(),trivial⟩) fun _ _=>⟨rfl,rdQ_mk 1 _ (fun b5=>opQ_mk (xappNR Try.sl33 33 x4 (by rw [vals_len];first | omega | decide | exact Nat.le_of_ble_eq_true rfl) (Nat.le_of_ble_eq_true rfl) (by decide) rfl) (wit_appN _) fun x6 h3=> ?_)⟩
  obtain ⟨hBh3,hNh3,hDh3⟩:=bok_app (r:=x4) (l:= [(IntKind.u8.wrap (Int.fdiv x (2^40)))]) (by assumption) (by rw [rvals_eq] at h3;exact h3)
  simp only [List.length_cons,List.length_nil,List.length_replicate,Nat.zero_add,l32_length] at hNh3
  refine opQ_mk (xputv (b:=bw) (cs:= #[sv x4]) (ty:=70) (te:=33) (fun w=>by kernel_rfl) 0 (sv x6) (cells_sv _) (one_sv _) (by show 0<1;decide)) (⟨(),trivial⟩) fun _ _=>⟨rfl,rdQ_mk 1 _ (fun b7=>opQ_mk (xappNR Try.sl33 33 x6 (by rw [vals_len];first | omega | decide | exact Nat.le_of_ble_eq_true rfl) (Nat.le_of_ble_eq_true rfl) (by decide) rfl) (wit_appN _) fun x8 h4=> ?_)⟩
  obtain ⟨hBh4,hNh4,hDh4⟩:=bok_app (r:=x6) (l:= [(IntKind.u8.wrap (Int.fdiv x (2^32)))]) (by assumption) (by rw [rvals_eq] at h4;exact h4)
  simp only [List.length_cons,List.length_nil,List.length_replicate,Nat.zero_add,l32_length] at hNh4
  refine opQ_mk (xputv (b:=bw) (cs:= #[sv x6]) (ty:=70) (te:=33) (fun w=>by kernel_rfl) 0 (sv x8) (cells_sv _) (one_sv _) (by show 0<1;decide)) (⟨(),trivial⟩) fun _ _=>⟨rfl,rdQ_mk 1 _ (fun b9=>opQ_mk (xappNR Try.sl33 33 x8 (by rw [vals_len];first | omega | decide | exact Nat.le_of_ble_eq_true rfl) (Nat.le_of_ble_eq_true rfl) (by decide) rfl) (wit_appN _) fun x10 h5=> ?_)⟩
  obtain ⟨hBh5,hNh5,hDh5⟩:=bok_app (r:=x8) (l:= [(IntKind.u8.wrap (Int.fdiv x (2^24)))]) (by assumption) (by rw [rvals_eq] at h5;exact h5)
  simp only [List.length_cons,List.length_nil,List.length_replicate,Nat.zero_add,l32_length] at hNh5
  refine opQ_mk (xputv (b:=bw) (cs:= #[sv x8]) (ty:=70) (te:=33) (fun w=>by kernel_rfl) 0 (sv x10) (cells_sv _) (one_sv _) (by show 0<1;decide)) (⟨(),trivial⟩) fun _ _=>⟨rfl,rdQ_mk 1 _ (fun b11=>opQ_mk (xappNR Try.sl33 33 x10 (by rw [vals_len];first | omega | decide | exact Nat.le_of_ble_eq_true rfl) (Nat.le_of_ble_eq_true rfl) (by decide) rfl) (wit_appN _) fun x12 h6=> ?_)⟩
  obtain ⟨hBh6,hNh6,hDh6⟩:=bok_app (r:=x10) (l:= [(IntKind.u8.wrap (Int.fdiv x (2^16)))]) (by assumption) (by rw [rvals_eq] at h6;exact h6)
  simp only [List.length_cons,List.length_nil,List.length_replicate,Nat.zero_add,l32_length] at hNh6
  refine opQ_mk (xputv (b:=bw) (cs:= #[sv x10]) (ty:=70) (te:=33) (fun w=>by kernel_rfl) 0 (sv x12) (cells_sv _) (one_sv _) (by show 0<1;decide)) (⟨(),trivial⟩) fun _ _=>⟨rfl,rdQ_mk 1 _ (fun b13=>opQ_mk (xappNR Try.sl33 33 x12 (by rw [vals_len];first | omega | decide | exact Nat.le_of_ble_eq_true rfl) (Nat.le_of_ble_eq_true rfl) (by decide) rfl) (wit_appN _) fun x14 h7=> ?_)⟩
  obtain ⟨hBh7,hNh7,hDh7⟩:=bok_app (r:=x12) (l:= [(IntKind.u8.wrap (Int.fdiv x (2^8)))]) (by assumption) (by rw [rvals_eq] at h7;exact h7)
  simp only [List.length_cons,List.length_nil,List.length_replicate,Nat.zero_add,l32_length] at hNh7
  refine opQ_mk (xputv (b:=bw) (cs:= #[sv x12]) (ty:=70) (te:=33) (fun w=>by kernel_rfl) 0 (sv x14) (cells_sv _) (one_sv _) (by show 0<1;decide)) (⟨(),trivial⟩) fun _ _=>⟨rfl,rdQ_mk 1 _ (fun b15=>opQ_mk (xappNR Try.sl33 33 x14 (by rw [vals_len];first | omega | decide | exact Nat.le_of_ble_eq_true rfl) (Nat.le_of_ble_eq_true rfl) (by decide) rfl) (wit_appN _) fun x16 h8=> ?_)⟩
  obtain ⟨hBh8,hNh8,hDh8⟩:=bok_app (r:=x14) (l:= [(IntKind.u8.wrap (Int.fdiv x (2^0)))]) (by assumption) (by rw [rvals_eq] at h8;exact h8)
  simp only [List.length_cons,List.length_nil,List.length_replicate,Nat.zero_add,l32_length] at hNh8
  refine opQ_mk (xputv (b:=bw) (cs:= #[sv x14]) (ty:=70) (te:=33) (fun w=>by kernel_rfl) 0 (sv x16) (cells_sv _) (one_sv _) (by show 0<1;decide)) (⟨(),trivial⟩) fun _ _=>⟨rfl,?_⟩
  unfold pk_num8_Q
  rw [d_r]
  exact ⟨x16,⟨by assumption,by omega,by simp only [hDh1,hDh2,hDh3,hDh4,hDh5,hDh6,hDh7,hDh8,List.append_assoc,List.nil_append,List.cons_append];rfl⟩,rfl,rfl,rfl,trivial⟩
abbrev pk_num8_K (bw:Nat) (r:Row) (x:Int) (KK:Row->Prop):Prop:=pk_num8_A bw r x (fun za zh zv zu zp=>callQ Try.prog 46 za zh Row zv zu zp KK)
theorem pk_num8_m (bw:Nat) (r:Row) (x:Int) {KK:Row->Prop} (kont: ∀zx:Row,(BOK zx/\(dg zx).length=((dg r)).length+8/\dg zx=(dg r)++nb8 x)->KK zx) (r_r:BOK r:=by assumption) (hr:(dg r).length<=1000:=by first | omega | decide):pk_num8_K bw r x KK:=callQ_mk (pk_num8 bw r x r_r hr) (wit_bok rfl) fun zx hz=>by
  simp only [rdv_eq,rdv_nil] at hz
  exact kont zx hz
noncomputable def pk_U64_C:List Value->List Slot->Ctr:=fun vs hs=>⟨Row,fun zx=> .pointer (some ⟨(vblk (varg vs 1)),0,none⟩),fun zx=> [.blk (vblk (varg vs 1)) (.cells #[sv zx] 70 (0,0)),(ss 5 zx)],fun zx=>BOK zx/\(dg zx).length=((rdv (scell (sarg hs 0) 0) (sarg hs 1))).length+8/\dg zx=(rdv (scell (sarg hs 0) 0) (sarg hs 1))++nb8 (ci (varg vs 2))⟩
abbrev pk_U64_Q (bw:Nat) (r:Row) (x:Int) (zv:Value) (zs0:Slot) (zs1:Slot):Prop:= ∃zx:Row,(BOK zx/\(dg zx).length=((rdv (sv r) (ss 5 r))).length+8/\dg zx=(rdv (sv r) (ss 5 r))++nb8 x)/\zv=pp bw 0/\zs0=bk bw #[sv zx] 70/\zs1=(ss 5 zx)/\True
abbrev pk_U64_A (bw:Nat) (r:Row) (x:Int) (zF:SF Row):Prop:=zF #[pp bw 0,uu x] [bk bw #[sv r] 70,(ss 5 r)] (fun zx=>pp bw 0) (fun zx=> [bk bw #[sv zx] 70,(ss 5 zx)]) (fun zx=>(BOK zx/\(dg zx).length=((rdv (sv r) (ss 5 r))).length+8/\dg zx=(rdv (sv r) (ss 5 r))++nb8 x))
set_option maxRecDepth 100000 in
theorem pk_U64_vc (bw:Nat) (r:Row) (x:Int):pk_U64_A bw r x (fun za zh zv zu zp=>codeW Try.prog 8 none 2000 none (bodyOf Try.f31) (.reg [S0] (.reg [S0,S0, .callw [0,1] [0,1] pk_num8_C,S0] (.done)))
    (init za zh) (finW Try.prog Try.f31 [] [0,1] (X:=Row) zv zu zp))=
    (pk_num8_K bw r x (fun x1=>pk_U64_Q bw r x (pp bw 0) (bk bw #[sv x1] 70) (ss 5 x1))):=by kernel_rfl
set_option maxRecDepth 100000 in
theorem pk_U64 (bw:Nat) (r:Row) (x:Int) (r_r:BOK r) (hr:(dg r).length<=1000):pk_U64_A bw r x (fun za zh zv zu zp=>CallT Try.prog 31 za zh Row zv zu zp):=by
  refine call_of (c:=bodyOf Try.f31) (n:=8) (fn:=Try.f31) Try.mixed Try.func31 (by kernel_rfl) (by kernel_rfl) (by kernel_rfl) 2000 _ [] [0,1] rfl rfl (Eq.mpr (pk_U64_vc bw r x) ?_)
  have d_r:=rdv_eq r 5
  have e_r:=vlen_dg r
  refine pk_num8_m bw r x (fun x1 h1=> ?_)
  unfold pk_U64_Q
  rw [d_r]
  exact ⟨x1,h1,rfl,rfl,rfl,trivial⟩
abbrev pk_U64_K (bw:Nat) (r:Row) (x:Int) (KK:Row->Prop):Prop:=pk_U64_A bw r x (fun za zh zv zu zp=>callQ Try.prog 31 za zh Row zv zu zp KK)
theorem pk_U64_m (bw:Nat) (r:Row) (x:Int) {KK:Row->Prop} (kont: ∀zx:Row,(BOK zx/\(dg zx).length=((dg r)).length+8/\dg zx=(dg r)++nb8 x)->KK zx) (r_r:BOK r:=by assumption) (hr:(dg r).length<=1000:=by first | omega | decide):pk_U64_K bw r x KK:=callQ_mk (pk_U64 bw r x r_r hr) (wit_bok rfl) fun zx hz=>by
  simp only [rdv_eq,rdv_nil] at hz
  exact kont zx hz
noncomputable def by_Clone_C:List Value->List Slot->Ctr:=fun vs hs=>⟨Row,fun zx=>sv zx,fun zx=> [(sarg hs 0),(ss 5 zx)],fun zx=>BOK zx/\(dg zx).length=((rdv (varg vs 1) (sarg hs 0))).length/\dg zx=(rdv (varg vs 1) (sarg hs 0))⟩
abbrev by_Clone_Q (r:Row) (zv:Value) (zs0:Slot) (zs1:Slot):Prop:= ∃zx:Row,(BOK zx/\(dg zx).length=((rdv (sv r) (ss 5 r))).length/\dg zx=(rdv (sv r) (ss 5 r)))/\zv=sv zx/\zs0=(ss 5 r)/\zs1=(ss 5 zx)/\True
abbrev by_Clone_A (r:Row) (zF:SF Row):Prop:=zF #[sv r] [(ss 5 r)] (fun zx=>sv zx) (fun zx=> [(ss 5 r),(ss 5 zx)]) (fun zx=>(BOK zx/\(dg zx).length=((rdv (sv r) (ss 5 r))).length/\dg zx=(rdv (sv r) (ss 5 r))))
set_option maxRecDepth 100000 in
theorem by_Clone_vc (r:Row):by_Clone_A r (fun za zh zv zu zp=>codeW Try.prog 8 none 2000 none (bodyOf Try.f47) (.reg [S0] (.reg [S0, .eq (f_nil)] (.cond (.reg [S0] (.done)) (.reg [.sem [.nw 1],S0, .specw [1,0] [40,0] (F_appN 5),S0] (.done)))))
    (init za zh) (finW Try.prog Try.f47 [] [0,40] (X:=Row) zv zu zp))=
    ((PureRun Try.prog (xBin .eql 33 (sv r) (.slice none 0 0)) (.bool (vnil (sv r))))/\((vnil (sv r))=true->by_Clone_Q r (Value.slice none 0 0) (ss 5 r) (Slot.free))/\((vnil (sv r))=false-> ∀b1:Nat,opQ Try.prog (vS (Builtin.append_ #[33,33] 33 #[sv (Row.mk b1 [] []),sv r])) [(ss 5 (Row.mk b1 [] [])),(ss 5 r)] Row (fun zx=>sv zx) (fun zx=> [(ss 5 zx),(ss 5 r)]) (fun zx=>vals zx=rvals (sv (Row.mk b1 [] [])) (ss 5 (Row.mk b1 [] []))++srcv (sv r) (ss 5 r)) (fun x2=>by_Clone_Q r (sv x2) (ss 5 r) (ss 5 x2)))):=by kernel_rfl
set_option maxRecDepth 100000 in
theorem by_Clone (r:Row) (r_r:BOK r) (hr:(dg r).length<=1000):by_Clone_A r (fun za zh zv zu zp=>CallT Try.prog 47 za zh Row zv zu zp):=by
  refine call_of (c:=bodyOf Try.f47) (n:=8) (fn:=Try.f47) Try.mixed Try.func47 (by kernel_rfl) (by kernel_rfl) (by kernel_rfl) 2000 _ [] [0,40] rfl rfl (Eq.mpr (by_Clone_vc r) ?_)
  have d_r:=rdv_eq r 5
  have e_r:=vlen_dg r
  refine ⟨xnilq Try.sl33 r,⟨fun h1=> ?_,fun h1=> ?_⟩⟩
  · unfold by_Clone_Q
    have hr0:=vnil_row ‹_›
    subst hr0
    exact ⟨Row.nil,⟨bok_nil,rfl,rfl⟩,rfl,rfl,rfl,trivial⟩
  intro b1
  refine opQ_mk (xappRow Try.sl33 33 (Row.mk b1 [] []) (by rw [vals_len];first | omega | decide | exact Nat.le_of_ble_eq_true rfl) r (by rw [vals_len];omega) (by rw [(show BOK r by assumption).eq];exact bv_one _)) (wit_appN _) fun x2 h2=> ?_
  rw [rvals_eq,srcv_row,(show BOK r by assumption).eq] at h2
  obtain ⟨hBh2,hNh2,hDh2⟩:=bok_app (bok_mk0 b1 _) h2
  unfold by_Clone_Q
  rw [d_r]
  exact ⟨x2,⟨by assumption,by rw [hNh2];exact Nat.zero_add _,by rw [hDh2];rfl⟩,rfl,rfl,rfl,trivial⟩
abbrev by_Clone_K (r:Row) (KK:Row->Prop):Prop:=by_Clone_A r (fun za zh zv zu zp=>callQ Try.prog 47 za zh Row zv zu zp KK)
theorem by_Clone_m (r:Row) {KK:Row->Prop} (kont: ∀zx:Row,(BOK zx/\(dg zx).length=((dg r)).length/\dg zx=(dg r))->KK zx) (r_r:BOK r:=by assumption) (hr:(dg r).length<=1000:=by first | omega | decide):by_Clone_K r KK:=callQ_mk (by_Clone r r_r hr) (wit_bok0) fun zx hz=>by
  simp only [rdv_eq,rdv_nil] at hz
  exact kont zx hz
noncomputable def pk_Bytes_C:List Value->List Slot->Ctr:=fun vs hs=>⟨Row,fun zx=>sv zx,fun zx=> [.blk (vblk (varg vs 1)) (.cells #[(scell (sarg hs 0) 0)] 70 (0,0)),(sarg hs 1),(ss 5 zx)],fun zx=>BOK zx/\(dg zx).length=((rdv (scell (sarg hs 0) 0) (sarg hs 1))).length/\dg zx=(rdv (scell (sarg hs 0) 0) (sarg hs 1))⟩
abbrev pk_Bytes_Q (bw:Nat) (r:Row) (zv:Value) (zs0:Slot) (zs1:Slot) (zs2:Slot):Prop:= ∃zx:Row,(BOK zx/\(dg zx).length=((rdv (sv r) (ss 5 r))).length/\dg zx=(rdv (sv r) (ss 5 r)))/\zv=sv zx/\zs0=bk bw #[sv r] 70/\zs1=(ss 5 r)/\zs2=(ss 5 zx)/\True
abbrev pk_Bytes_A (bw:Nat) (r:Row) (zF:SF Row):Prop:=zF #[pp bw 0] [bk bw #[sv r] 70,(ss 5 r)] (fun zx=>sv zx) (fun zx=> [bk bw #[sv r] 70,(ss 5 r),(ss 5 zx)]) (fun zx=>(BOK zx/\(dg zx).length=((rdv (sv r) (ss 5 r))).length/\dg zx=(rdv (sv r) (ss 5 r))))
set_option maxRecDepth 100000 in
theorem pk_Bytes_vc (bw:Nat) (r:Row):pk_Bytes_A bw r (fun za zh zv zu zp=>codeW Try.prog 8 none 2000 none (bodyOf Try.f32) (.reg [S0] (.reg [S0,S0,S0, .sem [.rd 0], .callw [1] [1,40] by_Clone_C,S0] (.done)))
    (init za zh) (finW Try.prog Try.f32 [] [0,1,40] (X:=Row) zv zu zp))=
    (rdQ 1 bw (by_Clone_K r (fun x1=>pk_Bytes_Q bw r (sv x1) (bk bw #[sv r] 70) (ss 5 r) (ss 5 x1)))):=by kernel_rfl
set_option maxRecDepth 100000 in
theorem pk_Bytes (bw:Nat) (r:Row) (r_r:BOK r) (hr:(dg r).length<=1000):pk_Bytes_A bw r (fun za zh zv zu zp=>CallT Try.prog 32 za zh Row zv zu zp):=by
  refine call_of (c:=bodyOf Try.f32) (n:=8) (fn:=Try.f32) Try.mixed Try.func32 (by kernel_rfl) (by kernel_rfl) (by kernel_rfl) 2000 _ [] [0,1,40] rfl rfl (Eq.mpr (pk_Bytes_vc bw r) ?_)
  have d_r:=rdv_eq r 5
  have e_r:=vlen_dg r
  refine rdQ_mk 1 _ (by_Clone_m r (fun x1 h1=> ?_))
  unfold pk_Bytes_Q
  rw [d_r]
  exact ⟨x1,h1,rfl,rfl,rfl,rfl,trivial⟩
abbrev pk_Bytes_K (bw:Nat) (r:Row) (KK:Row->Prop):Prop:=pk_Bytes_A bw r (fun za zh zv zu zp=>callQ Try.prog 32 za zh Row zv zu zp KK)
theorem pk_Bytes_m (bw:Nat) (r:Row) {KK:Row->Prop} (kont: ∀zx:Row,(BOK zx/\(dg zx).length=((dg r)).length/\dg zx=(dg r))->KK zx) (r_r:BOK r:=by assumption) (hr:(dg r).length<=1000:=by first | omega | decide):pk_Bytes_K bw r KK:=callQ_mk (pk_Bytes bw r r_r hr) (wit_bok0) fun zx hz=>by
  simp only [rdv_eq,rdv_nil] at hz
  exact kont zx hz
noncomputable def bits_Ones_C:List Value->List Slot->Ctr:=fun vs hs=>⟨Unit,fun _=> .int .i64 (onesI (ci (varg vs 1))),fun _=>hs,fun _=>True⟩
abbrev bits_Ones_Q (x:Int) (zv:Value) :Prop:= ∃_:Unit,(True)/\zv= .int .i64 (onesI x)/\True
abbrev bits_Ones_A (x:Int) (zF:SF Unit):Prop:=zF #[uu x] [] (fun _=> .int .i64 (onesI x)) (fun _=> []) (fun _=>True)
set_option maxRecDepth 100000 in
theorem bits_Ones_vc (x:Int):bits_Ones_A x (fun za zh zv zu zp=>codeW Try.prog 35 none 2000 none (bodyOf Try.f29) (.reg [S0] (.reg [S0,S0,S0,S0,S0, .gen [] (Sx.one (uu (onI on1 x))),S0] (.reg [S0,S0,S0,S0,S0, .gen [] (Sx.one (uu (onI on2 (onI on1 x)))),S0] (.reg [S0,S0,S0,S0, .gen [] (Sx.one (uu (onI on3 (onI on2 (onI on1 x))))),S0] (.reg [S0,S0,S0, .gen [] (Sx.one (uu (onI (fun n=>n+n/2^8) (onI on3 (onI on2 (onI on1 x)))))),S0] (.reg [S0,S0,S0, .gen [] (Sx.one (uu (onI (fun n=>n+n/2^16) (onI (fun n=>n+n/2^8) (onI on3 (onI on2 (onI on1 x))))))),S0] (.reg [S0,S0,S0, .gen [] (Sx.one (uu (onI (fun n=>n+n/2^32) (onI (fun n=>n+n/2^16) (onI (fun n=>n+n/2^8) (onI on3 (onI on2 (onI on1 x)))))))),S0] (.reg [S0,S0,S0,S0] (.done)))))))))
    (init za zh) (finW Try.prog Try.f29 [] [] (X:=Unit) zv zu zp))=
    ((∃_:Unit,True/\uu (IntKind.u64.wrap ((IntKind.u64.wrap ((BitVec.ofInt 64 (Int.fdiv x (2^1)) &&& BitVec.ofInt 64 6148914691236517205:BitVec 64).toNat:Int))+(IntKind.u64.wrap ((BitVec.ofInt 64 x &&& BitVec.ofInt 64 6148914691236517205:BitVec 64).toNat:Int))))=uu (onI on1 x))/\ ∀_:Unit,(True)->(∃_:Unit,True/\uu (IntKind.u64.wrap ((IntKind.u64.wrap ((BitVec.ofInt 64 (Int.fdiv (onI on1 x) (2^2)) &&& BitVec.ofInt 64 3689348814741910323:BitVec 64).toNat:Int))+(IntKind.u64.wrap ((BitVec.ofInt 64 (onI on1 x) &&& BitVec.ofInt 64 3689348814741910323:BitVec 64).toNat:Int))))=uu (onI on2 (onI on1 x)))/\ ∀_:Unit,(True)->(∃_:Unit,True/\uu (IntKind.u64.wrap ((BitVec.ofInt 64 (IntKind.u64.wrap ((Int.fdiv (onI on2 (onI on1 x)) (2^4))+(onI on2 (onI on1 x)))) &&& BitVec.ofInt 64 1085102592571150095:BitVec 64).toNat:Int))=uu (onI on3 (onI on2 (onI on1 x))))/\ ∀_:Unit,(True)->(∃_:Unit,True/\uu (IntKind.u64.wrap ((onI on3 (onI on2 (onI on1 x)))+(Int.fdiv (onI on3 (onI on2 (onI on1 x))) (2^8))))=uu (onI (fun n=>n+n/2^8) (onI on3 (onI on2 (onI on1 x)))))/\ ∀_:Unit,(True)->(∃_:Unit,True/\uu (IntKind.u64.wrap ((onI (fun n=>n+n/2^8) (onI on3 (onI on2 (onI on1 x))))+(Int.fdiv (onI (fun n=>n+n/2^8) (onI on3 (onI on2 (onI on1 x)))) (2^16))))=uu (onI (fun n=>n+n/2^16) (onI (fun n=>n+n/2^8) (onI on3 (onI on2 (onI on1 x))))))/\ ∀_:Unit,(True)->(∃_:Unit,True/\uu (IntKind.u64.wrap ((onI (fun n=>n+n/2^16) (onI (fun n=>n+n/2^8) (onI on3 (onI on2 (onI on1 x)))))+(Int.fdiv (onI (fun n=>n+n/2^16) (onI (fun n=>n+n/2^8) (onI on3 (onI on2 (onI on1 x))))) (2^32))))=uu (onI (fun n=>n+n/2^32) (onI (fun n=>n+n/2^16) (onI (fun n=>n+n/2^8) (onI on3 (onI on2 (onI on1 x)))))))/\ ∀_:Unit,(True)->bits_Ones_Q x (Value.int .i64 (IntKind.i64.wrap ((BitVec.ofInt 64 (IntKind.i64.wrap (onI (fun n=>n+n/2^32) (onI (fun n=>n+n/2^16) (onI (fun n=>n+n/2^8) (onI on3 (onI on2 (onI on1 x))))))) &&& BitVec.ofInt 64 127:BitVec 64).toNat:Int)))):=by kernel_rfl
set_option maxRecDepth 100000 in
theorem bits_Ones (x:Int) (hx:W x):bits_Ones_A x (fun za zh zv zu zp=>CallT Try.prog 29 za zh Unit zv zu zp):=by
  refine call_of (c:=bodyOf Try.f29) (n:=35) (fn:=Try.f29) Try.mixed Try.func29 (by kernel_rfl) (by kernel_rfl) (by kernel_rfl) 2000 _ [] [] rfl rfl (Eq.mpr (bits_Ones_vc x) ?_)
  exact ⟨⟨(),trivial,congrArg (Value.int .u64) (on1_w hx)⟩,fun _=>fun _=>⟨⟨(),trivial,congrArg (Value.int .u64) (on2_w (on1_W _))⟩,fun _=>fun _=>⟨⟨(),trivial,congrArg (Value.int .u64) (on3_w (on2_b _))⟩,fun _=>fun _=>⟨⟨(),trivial,congrArg (Value.int .u64) (on4_w 8 ⟨(on3_b (onI on2 (onI on1 x))).1,by have:=(on3_b (onI on2 (onI on1 x))).2;omega⟩ (by decide))⟩,fun _=>fun _=>⟨⟨(),trivial,congrArg (Value.int .u64) (on4_w 16 ⟨(on4_b (on3_b (onI on2 (onI on1 x))) (k:=8) (by decide)).1,by have:=(on4_b (on3_b (onI on2 (onI on1 x))) (k:=8) (by decide)).2;omega⟩ (by decide))⟩,fun _=>fun _=>⟨⟨(),trivial,congrArg (Value.int .u64) (on4_w 32 ⟨(on4_b (on4_b (on3_b (onI on2 (onI on1 x))) (k:=8) (by decide)) (k:=16) (by decide)).1,by have:=(on4_b (on4_b (on3_b (onI on2 (onI on1 x))) (k:=8) (by decide)) (k:=16) (by decide)).2;omega⟩ (by decide))⟩,fun _=>fun _=>⟨(),trivial,congrArg (Value.int .i64) ((on7_w ⟨(on4_b (on4_b (on4_b (on3_b (onI on2 (onI on1 x))) (k:=8) (by decide)) (k:=16) (by decide)) (k:=32) (by decide)).1,by have:=(on4_b (on4_b (on4_b (on3_b (onI on2 (onI on1 x))) (k:=8) (by decide)) (k:=16) (by decide)) (k:=32) (by decide)).2;omega⟩).trans (onesI_of x)),trivial⟩⟩⟩⟩⟩⟩⟩
abbrev bits_Ones_K (x:Int) (KK:Unit->Prop):Prop:=bits_Ones_A x (fun za zh zv zu zp=>callQr Try.prog 29 za zh Unit zv zp KK)
theorem bits_Ones_m (x:Int) {KK:Unit->Prop} (kont:KK ()) (hx:W x:=by assumption):bits_Ones_K x KK:=callQr_mk (bits_Ones x hx) (⟨(),trivial⟩) fun _ _=>kont
theorem Try.wdK93:WdK Try.mk93:=⟨fun n=>⟨n,rfl⟩,fun v h=>h,fun n h=>⟨n,W_wf h,rfl⟩,fun v h=>h.elim fun n q=>⟨n,wf_W q.1,q.2⟩⟩
noncomputable def spent_New_C:List Value->List Slot->Ctr:=fun vs hs=>⟨Nat×Nat,fun zx=>pp zx.1 0,fun zx=> [bk zx.1 #[pp zx.2 0] 62,(mS Try.mk93 zx.2 (vblk (varg vs 1)) ([]))],fun zx=>True⟩
abbrev spent_New_Q (bj:Nat) (zv:Value) (zs0:Slot) (zs1:Slot):Prop:= ∃zx:Nat×Nat,(True)/\zv=pp zx.1 0/\zs0=bk zx.1 #[pp zx.2 0] 62/\zs1=(mS Try.mk93 zx.2 bj ([]))/\True
abbrev spent_New_A (bj:Nat) (zF:SF (Nat×Nat)):Prop:=zF #[pp bj 0] [] (fun zx=>pp zx.1 0) (fun zx=> [bk zx.1 #[pp zx.2 0] 62,(mS Try.mk93 zx.2 bj ([]))]) (fun zx=>(True))
set_option maxRecDepth 100000 in
theorem spent_New_vc (bj:Nat):spent_New_A bj (fun za zh zv zu zp=>codeW Try.prog 7 none 2000 none (bodyOf Try.f6) (.reg [S0] (.reg [S0, .callw [] [21] stage_New93_C,S0, .sem [.nw 20],S0] (.done)))
    (init za zh) (finW Try.prog Try.f6 [] [20,21] (X:=Nat×Nat) zv zu zp))=
    (callQ Try.prog 25 #[pp bj 0, .func (.func 26) #[] #[]] [] Nat (fun zx=>pp zx 0) (fun zx=> [(mS Try.mk93 zx bj ([]))]) (fun zx=>True) (fun x1=> ∀b2:Nat,spent_New_Q bj (pp b2 0) (bk b2 #[pp x1 0] 62) (mS Try.mk93 x1 bj ([])))):=by kernel_rfl
set_option maxRecDepth 100000 in
theorem spent_New (bj:Nat) :spent_New_A bj (fun za zh zv zu zp=>CallT Try.prog 6 za zh (Nat×Nat) zv zu zp):=by
  refine call_of (c:=bodyOf Try.f6) (n:=7) (fn:=Try.f6) Try.mixed Try.func6 (by kernel_rfl) (by kernel_rfl) (by kernel_rfl) 2000 _ [] [20,21] rfl rfl (Eq.mpr (spent_New_vc bj) ?_)
  exact callQ_mk (stage_New93 bj) (⟨0,trivial⟩) fun x1 h1=>fun b2=>⟨(b2,x1),trivial,rfl,rfl,rfl,trivial⟩
abbrev spent_New_K (bj:Nat) (KK:(Nat×Nat)->Prop):Prop:=spent_New_A bj (fun za zh zv zu zp=>callQ Try.prog 6 za zh (Nat×Nat) zv zu zp KK)
theorem spent_New_m (bj:Nat) {KK:(Nat×Nat)->Prop} (kont: ∀zx:Nat×Nat,(True)->KK zx) :spent_New_K bj KK:=callQ_mk (spent_New bj) (⟨(0,0),trivial⟩) fun zx hz=>by
  exact kont zx hz
noncomputable def spent_Word_C:List Value->List Slot->Ctr:=fun vs hs=>⟨Unit,fun _=>uu (wd (skv (sarg hs 1)) (ci (varg vs 2))),fun _=>hs,fun _=>True⟩
abbrev spent_Word_Q (s0 b bj:Nat) (m:KV) (i:Int) (zv:Value) (zs0:Slot) (zs1:Slot):Prop:= ∃_:Unit,(True)/\zv=uu (wd m i)/\zs0=bk s0 #[pp b 0] 62/\zs1=(mS Try.mk93 b bj m)/\True
abbrev spent_Word_A (s0 b bj:Nat) (m:KV) (i:Int) (zF:SF Unit):Prop:=zF #[pp s0 0, .int .u32 i] [bk s0 #[pp b 0] 62,(mS Try.mk93 b bj m)] (fun _=>uu (wd m i)) (fun _=> [bk s0 #[pp b 0] 62,(mS Try.mk93 b bj m)]) (fun _=>True)
set_option maxRecDepth 100000 in
theorem spent_Word_vc (s0 b bj:Nat) (m:KV) (i:Int):spent_Word_A s0 b bj m i (fun za zh zv zu zp=>codeW Try.prog 17 none 2000 none (bodyOf Try.f24) (.reg [S0] (.reg [S0,S0,S0, .sem [.rd 0],S0, .callr [1] stage_Get93_C,S0,S0,S0,S0,S0] (.reg [S0,S0] (.done))))
    (init za zh) (finW Try.prog Try.f24 [] [0,1] (X:=Unit) zv zu zp))=
    (rdQ 1 s0 (callQr Try.prog 40 #[pp b 0, .int .u32 i] [(mS Try.mk93 b bj m)] (Int×Bool) (fun zx=> .tuple #[uu zx.1, .bool zx.2]) (fun zx=>zx.1=ci ((mget m (Value.int .u32 i)).getD (uu 0))/\zx.2=(mget m (Value.int .u32 i)).isSome) (fun x1=>spent_Word_Q s0 b bj m i (uu x1.1) (bk s0 #[pp b 0] 62) (mS Try.mk93 b bj m)))):=by kernel_rfl
set_option maxRecDepth 100000 in
theorem spent_Word (s0 b bj:Nat) (m:KV) (i:Int) :spent_Word_A s0 b bj m i (fun za zh zv zu zp=>CallT Try.prog 24 za zh Unit zv zu zp):=by
  refine call_of (c:=bodyOf Try.f24) (n:=17) (fn:=Try.f24) Try.mixed Try.func24 (by kernel_rfl) (by kernel_rfl) (by kernel_rfl) 2000 _ [] [0,1] rfl rfl (Eq.mpr (spent_Word_vc s0 b bj m i) ?_)
  refine rdQ_mk 1 _ (callQr_mk (stage_Get93 b bj m i) (⟨(_,_),rfl,rfl⟩) fun x1 h1=> ?_)
  have hx:=h1
  exact ⟨(),trivial,congrArg (Value.int .u64) hx.1,rfl,rfl,trivial⟩
abbrev spent_Word_K (s0 b bj:Nat) (m:KV) (i:Int) (KK:Unit->Prop):Prop:=spent_Word_A s0 b bj m i (fun za zh zv zu zp=>callQr Try.prog 24 za zh Unit zv zp KK)
theorem spent_Word_m (s0 b bj:Nat) (m:KV) (i:Int) {KK:Unit->Prop} (kont:KK ()) :spent_Word_K s0 b bj m i KK:=callQr_mk (spent_Word s0 b bj m i) (⟨(),trivial⟩) fun _ _=>kont
noncomputable def spent_Has_C:List Value->List Slot->Ctr:=fun vs hs=>⟨Unit,fun _=> .bool (hasI (skv (sarg hs 1)) (ci (varg vs 2))),fun _=>hs,fun _=>True⟩
abbrev spent_Has_Q (s0 b bj:Nat) (m:KV) (i:Int) (zv:Value) (zs0:Slot) (zs1:Slot):Prop:= ∃_:Unit,(True)/\zv= .bool (hasI m i)/\zs0=bk s0 #[pp b 0] 62/\zs1=(mS Try.mk93 b bj m)/\True
abbrev spent_Has_A (s0 b bj:Nat) (m:KV) (i:Int) (zF:SF Unit):Prop:=zF #[pp s0 0, .int .u32 i] [bk s0 #[pp b 0] 62,(mS Try.mk93 b bj m)] (fun _=> .bool (hasI m i)) (fun _=> [bk s0 #[pp b 0] 62,(mS Try.mk93 b bj m)]) (fun _=>True)
set_option maxRecDepth 100000 in
theorem spent_Has_vc (s0 b bj:Nat) (m:KV) (i:Int):spent_Has_A s0 b bj m i (fun za zh zv zu zp=>codeW Try.prog 14 none 2000 none (bodyOf Try.f7) (.reg [S0] (.reg [S0,S0, .gen [] (Sx.one (.int .u32 (i/64))), .callr [0,1] spent_Word_C,S0, .gen [] (Sx.one (.int .u32 (i%64))), .eq (f_shr),S0, .gen [] (Sx.one (.bool (hasI m i))),S0] (.done)))
    (init za zh) (finW Try.prog Try.f7 [] [0,1] (X:=Unit) zv zu zp))=
    ((∃_:Unit,True/\Value.int .u32 (IntKind.u32.wrap (Int.tdiv i 64))= .int .u32 (i/64))/\ ∀_:Unit,(True)->spent_Word_K s0 b bj m (i/64) (fun _=>(∃_:Unit,True/\Value.int .u32 (Int.tmod i 64)= .int .u32 (i%64))/\ ∀_:Unit,(True)->(PureRun Try.prog (xBin .shr 56 (uu (wd m (i/64))) (.int .u32 (i%64))) (uu (Int.fdiv (wd m (i/64)) (2^(min (Int.toNat (i%64)) 64)))))/\(∃_:Unit,True/\Value.bool ((IntKind.u64.wrap ((BitVec.ofInt 64 (Int.fdiv (wd m (i/64)) (2^(min (Int.toNat (i%64)) 64))) &&& BitVec.ofInt 64 1:BitVec 64).toNat:Int))==(1:Int))= .bool (hasI m i))/\ ∀_:Unit,(True)->spent_Has_Q s0 b bj m i (Value.bool (hasI m i)) (bk s0 #[pp b 0] 62) (mS Try.mk93 b bj m))):=by kernel_rfl
set_option maxRecDepth 100000 in
theorem spent_Has (s0 b bj:Nat) (m:KV) (i:Int) (hk:KOK Try.mk93 m) (hi:(Lit.int .u32 i).wf=true):spent_Has_A s0 b bj m i (fun za zh zv zu zp=>CallT Try.prog 7 za zh Unit zv zu zp):=by
  refine call_of (c:=bodyOf Try.f7) (n:=14) (fn:=Try.f7) Try.mixed Try.func7 (by kernel_rfl) (by kernel_rfl) (by kernel_rfl) 2000 _ [] [0,1] rfl rfl (Eq.mpr (spent_Has_vc s0 b bj m i) ?_)
  exact ⟨⟨(),trivial,congrArg (Value.int .u32) (quo64 hi)⟩,fun _=>fun _=>spent_Word_m s0 b bj m (i/64) ⟨⟨(),trivial,congrArg (Value.int .u32) (rem64 hi)⟩,fun _=>fun _=>⟨xshr (by omega),⟨(),trivial,congrArg Value.bool (has_w (wd_W Try.wdK93 hk _) (by omega) (by omega))⟩,fun _=>fun _=>⟨(),trivial,rfl,rfl,rfl,trivial⟩⟩⟩⟩
abbrev spent_Has_K (s0 b bj:Nat) (m:KV) (i:Int) (KK:Unit->Prop):Prop:=spent_Has_A s0 b bj m i (fun za zh zv zu zp=>callQr Try.prog 7 za zh Unit zv zp KK)
theorem spent_Has_m (s0 b bj:Nat) (m:KV) (i:Int) {KK:Unit->Prop} (kont:KK ()) (hk:KOK Try.mk93 m:=by assumption) (hi:(Lit.int .u32 i).wf=true:=by assumption):spent_Has_K s0 b bj m i KK:=callQr_mk (spent_Has s0 b bj m i hk hi) (⟨(),trivial⟩) fun _ _=>kont
noncomputable def spent_Put_C:List Value->List Slot->Ctr:=fun vs hs=>⟨KV×List Ent,fun zx=> .bool (!hasI (skv (sarg hs 1)) (ci (varg vs 2))),fun zx=> [.blk (vblk (varg vs 1)) (.cells #[.pointer (some ⟨(vblk (scell (sarg hs 0) 0)),0,none⟩)] 62 (0,0)),(mS Try.mk93 (vblk (scell (sarg hs 0) 0)) (snum (sarg hs 1) 1) zx.1),(jS Try.jk (snum (sarg hs 1) 1) zx.2)],fun zx=>zx.1=putO (skv (sarg hs 1)) (ci (varg vs 2))/\zx.2=bif hasI (skv (sarg hs 1)) (ci (varg vs 2)) then (sents (sarg hs 2)) else (sents (sarg hs 2))++ [(Try.ent93 (vblk (scell (sarg hs 0) 0)) (skv (sarg hs 1)) (u32v ((ci (varg vs 2))/64)))]⟩
abbrev spent_Put_Q (s0 b bj:Nat) (m:KV) (L:List Ent) (i:Int) (zv:Value) (zs0:Slot) (zs1:Slot) (zs2:Slot):Prop:= ∃zx:KV×List Ent,(zx.1=putO m i/\zx.2=bif hasI m i then L else L++ [(Try.ent93 b m (u32v (i/64)))])/\zv= .bool (!hasI m i)/\zs0=bk s0 #[pp b 0] 62/\zs1=(mS Try.mk93 b bj zx.1)/\zs2=(jS Try.jk bj zx.2)/\True
abbrev spent_Put_A (s0 b bj:Nat) (m:KV) (L:List Ent) (i:Int) (zF:SF (KV×List Ent)):Prop:=zF #[pp s0 0, .int .u32 i] [bk s0 #[pp b 0] 62,(mS Try.mk93 b bj m),(jS Try.jk bj L)] (fun zx=> .bool (!hasI m i)) (fun zx=> [bk s0 #[pp b 0] 62,(mS Try.mk93 b bj zx.1),(jS Try.jk bj zx.2)]) (fun zx=>(zx.1=putO m i/\zx.2=bif hasI m i then L else L++ [(Try.ent93 b m (u32v (i/64)))]))
set_option maxRecDepth 100000 in
theorem spent_Put_vc (s0 b bj:Nat) (m:KV) (L:List Ent) (i:Int):spent_Put_A s0 b bj m L i (fun za zh zv zu zp=>codeW Try.prog 23 none 2000 none (bodyOf Try.f8) (.reg [S0] (.reg [S0,S0, .callr [0,1] spent_Has_C] (.cond (.reg [S0] (.done)) (.reg [S0,S0,S0, .sem [.rd 0],S0, .gen [] (Sx.one (.int .u32 (i/64))),S0,S0, .gen [] (Sx.one (.int .u32 (i/64))), .callr [0,1] spent_Word_C,S0, .gen [] (Sx.one (.int .u32 (i%64))), .eq (f_shl), .gen [] (Sx.one (uu (setW (wd m (i/64)) (Int.toNat (i%64))))), .callw [1,2] [1,2] stage_Set93_C] (.reg [S0] (.done))))))
    (init za zh) (finW Try.prog Try.f8 [] [0,1,2] (X:=KV×List Ent) zv zu zp))=
    (spent_Has_K s0 b bj m i (fun _=>((hasI m i)=true->spent_Put_Q s0 b bj m L i (Value.bool false) (bk s0 #[pp b 0] 62) (mS Try.mk93 b bj m) (jS Try.jk bj L))/\((hasI m i)=false->rdQ 1 s0 ((∃_:Unit,True/\Value.int .u32 (IntKind.u32.wrap (Int.tdiv i 64))= .int .u32 (i/64))/\ ∀_:Unit,(True)->(∃_:Unit,True/\Value.int .u32 (IntKind.u32.wrap (Int.tdiv i 64))= .int .u32 (i/64))/\ ∀_:Unit,(True)->spent_Word_K s0 b bj m (i/64) (fun _=>(∃_:Unit,True/\Value.int .u32 (Int.tmod i 64)= .int .u32 (i%64))/\ ∀_:Unit,(True)->(PureRun Try.prog (xBin .shl 56 (uu 1) (.int .u32 (i%64))) (uu (IntKind.u64.wrap (1*2^(min (Int.toNat (i%64)) 64)))))/\(∃_:Unit,True/\uu (IntKind.u64.wrap ((BitVec.ofInt 64 (wd m (i/64)) ||| BitVec.ofInt 64 (IntKind.u64.wrap (1*2^(min (Int.toNat (i%64)) 64))):BitVec 64).toNat:Int))=uu (setW (wd m (i/64)) (Int.toNat (i%64))))/\ ∀_:Unit,(True)->callQ Try.prog 27 #[pp b 0, .int .u32 (i/64),uu (setW (wd m (i/64)) (Int.toNat (i%64)))] [(mS Try.mk93 b bj m),(jS Try.jk bj L)] (KV×List Ent) (fun zx=> .tuple #[]) (fun zx=> [(mS Try.mk93 b bj zx.1),(jS Try.jk bj zx.2)]) (fun zx=>zx.1=mset m (Value.int .u32 (i/64)) (uu (setW (wd m (i/64)) (Int.toNat (i%64))))/\zx.2=L++ [(Try.ent93 b m (Value.int .u32 (i/64)))]) (fun x1=>spent_Put_Q s0 b bj m L i (Value.bool true) (bk s0 #[pp b 0] 62) (mS Try.mk93 b bj x1.1) (jS Try.jk bj x1.2))))))):=by kernel_rfl
set_option maxRecDepth 100000 in
theorem spent_Put (s0 b bj:Nat) (m:KV) (L:List Ent) (i:Int) (hk:KOK Try.mk93 m) (hi:(Lit.int .u32 i).wf=true) (hl:L.length<=1000000):spent_Put_A s0 b bj m L i (fun za zh zv zu zp=>CallT Try.prog 8 za zh (KV×List Ent) zv zu zp):=by
  refine call_of (c:=bodyOf Try.f8) (n:=23) (fn:=Try.f8) Try.mixed Try.func8 (by kernel_rfl) (by kernel_rfl) (by kernel_rfl) 2000 _ [] [0,1,2] rfl rfl (Eq.mpr (spent_Put_vc s0 b bj m L i) ?_)
  refine spent_Has_m s0 b bj m i ⟨fun h1=> ?_,fun h1=> ?_⟩
  · exact ⟨(m,L),⟨by unfold putO;rw [if_pos h1],by rw [h1];rfl⟩,congrArg Value.bool (by rw [h1];rfl),rfl,rfl,rfl,trivial⟩
  refine rdQ_mk 1 _ ⟨⟨(),trivial,congrArg (Value.int .u32) (quo64 hi)⟩,fun _=>fun _=>⟨⟨(),trivial,congrArg (Value.int .u32) (quo64 hi)⟩,fun _=>fun _=>spent_Word_m s0 b bj m (i/64) ⟨⟨(),trivial,congrArg (Value.int .u32) (rem64 hi)⟩,fun _=>fun _=>⟨xshl (by omega),⟨(),trivial,congrArg (Value.int .u64) (or_put (wd_W Try.wdK93 hk _) (by omega) (by omega))⟩,fun _=>fun _=>callQ_mk (stage_Set93 b bj m L (i/64) (setW (wd m (i/64)) (Int.toNat (i%64))) (W_wf (setW_W (wd_W Try.wdK93 hk _) (by omega))) (by omega)) (⟨(_,_),rfl,rfl⟩) fun x1 h2=> ?_⟩⟩⟩⟩
  have hs:=h2
  exact ⟨(_,_),⟨by unfold putO;rw [if_neg (by rw [h1];decide),hs.1];rfl,by rw [h1,hs.2];rfl⟩,congrArg Value.bool (by rw [h1];rfl),rfl,rfl,rfl,trivial⟩
abbrev spent_Put_K (s0 b bj:Nat) (m:KV) (L:List Ent) (i:Int) (KK:(KV×List Ent)->Prop):Prop:=spent_Put_A s0 b bj m L i (fun za zh zv zu zp=>callQ Try.prog 8 za zh (KV×List Ent) zv zu zp KK)
theorem spent_Put_m (s0 b bj:Nat) (m:KV) (L:List Ent) (i:Int) {KK:(KV×List Ent)->Prop} (kont: ∀zx:KV×List Ent,(zx.1=putO m i/\zx.2=bif hasI m i then L else L++ [(Try.ent93 b m (u32v (i/64)))])->KK zx) (hk:KOK Try.mk93 m:=by assumption) (hi:(Lit.int .u32 i).wf=true:=by assumption) (hl:L.length<=1000000:=by omega):spent_Put_K s0 b bj m L i KK:=callQ_mk (spent_Put s0 b bj m L i hk hi hl) (⟨(_,_),rfl,rfl⟩) fun zx hz=>by
  exact kont zx hz
noncomputable def Try.rfA9:Code:=((rfs (bodyOf Try.f9)).getD 0 (.skip, .skip)).1
noncomputable def Try.rfB9:Code:=((rfs (bodyOf Try.f9)).getD 0 (.skip, .skip)).2
set_option maxRecDepth 100000 in
theorem spent_lround_vc (l D:Nat) (fn:FuncId) (tmps:Array Value) (b3:Nat) (c:Nat) (wx vx:Int) (fr:Nat->Value):roundW Try.prog 18 l 400 Try.rfA9 Try.rfB9 (.reg [.sem []] (.reg [.sem [.rd 1], .sem [], .callr [] bits_Ones_C, .gen [] (Sx.one (.int .i64 ((c+pcn 64 (Int.toNat vx):Nat):Int))), .sem [.wr 1]] (.done))) (recOf fn tmps #[11,12] Try.rfA9 Try.rfB9 D) ⟨putFr (upd fr 3 (Value.pointer (some ⟨b3,0,none⟩))) [(11, .int .u32 wx),(12, .int .u64 vx)],ofList (loopB l (recOf fn tmps #[11,12] Try.rfA9 Try.rfB9 D):: [.blk b3 (.cells #[.int .i64 ((c:Nat):Int)] 3 (0,0))]),[]⟩ [1] (X:=Nat) (fun zx:Nat=> [.blk b3 (.cells #[.int .i64 ((zx:Nat):Int)] 3 (0,0))]) (fun zx:Nat=>zx=c+pcn 64 (Int.toNat vx))=
    ((loopB l (recOf fn tmps #[11,12] Try.rfA9 Try.rfB9 D))=loopB l (recOf fn tmps #[11,12] Try.rfA9 Try.rfB9 D)/\rdQ 1 b3 (bits_Ones_K vx (fun _=>(∃_:Unit,True/\Value.int .i64 (IntKind.i64.wrap (((c:Nat):Int)+(onesI vx)))= .int .i64 ((c+pcn 64 (Int.toNat vx):Nat):Int))/\ ∀_:Unit,(True)->rdQ 1 b3 ((loopB l { (recOf fn tmps #[11,12] Try.rfA9 Try.rfB9 D) with state:= .busy })=loopB l { (recOf fn tmps #[11,12] Try.rfA9 Try.rfB9 D) with state:= .busy }/\ ∃zx:Nat,(zx=c+pcn 64 (Int.toNat vx))/\Slot.blk b3 (.cells #[.int .i64 ((c+pcn 64 (Int.toNat vx):Nat):Int)] 3 (0,0))= .blk b3 (.cells #[.int .i64 ((zx:Nat):Int)] 3 (0,0))/\True)))):=by kernel_rfl
set_option maxRecDepth 100000 in
theorem spent_lround (l D:Nat) (fn:FuncId) (tmps:Array Value) (b3:Nat) (c:Nat) (wx vx:Int) (hz:tmps.size=18) (t3:tmps.getD 3 undef=Value.pointer (some ⟨b3,0,none⟩)) (hx:W vx) (hc:c<=100000):RoundT Try.prog l #[.int .u32 wx, .int .u64 vx] (loopB l (recOf fn tmps #[11,12] Try.rfA9 Try.rfB9 D):: [.blk b3 (.cells #[.int .i64 ((c:Nat):Int)] 3 (0,0))]) Nat (fun _=> .bool true) (fun zx:Nat=>loopB l (recOf fn tmps #[11,12] Try.rfA9 Try.rfB9 D):: [.blk b3 (.cells #[.int .i64 ((zx:Nat):Int)] 3 (0,0))]) (fun zx:Nat=>zx=c+pcn 64 (Int.toNat vx)):=by
  refine round_of (n:=18) (fuel:=400) (fr:=(upd (fun i=>tmps.getD i undef) 3 (Value.pointer (some ⟨b3,0,none⟩)))) (Hs:= [.blk b3 (.cells #[.int .i64 ((c:Nat):Int)] 3 (0,0))]) (us:=(fun zx:Nat=> [.blk b3 (.cells #[.int .i64 ((zx:Nat):Int)] 3 (0,0))])) Try.mixed hz (fun i=>congrFun (upd_known (f:=(fun i=>tmps.getD i undef)) (t:=3) (v:=Value.pointer (some ⟨b3,0,none⟩)) (t3)) i) rfl rfl _ [1] rfl (Eq.mpr (spent_lround_vc l D fn tmps b3 c wx vx (fun i=>tmps.getD i undef)) ?_)
  refine ⟨rfl,?_⟩
  refine rdQ_mk 1 _ ?_
  refine bits_Ones_m vx ?_
  refine ⟨⟨(),trivial,congrArg (Value.int .i64) (len_add hx hc)⟩,?_⟩
  intro _
  intro _
  refine rdQ_mk 1 _ ?_
  exact ⟨rfl,_,rfl,rfl,trivial⟩
noncomputable def spent_Len_C:List Value->List Slot->Ctr:=fun vs hs=>⟨Unit,fun _=> .int .i64 ((totW (skv (sarg hs 1)):Nat):Int),fun _=> [.blk (vblk (varg vs 1)) (.cells #[.pointer (some ⟨(vblk (scell (sarg hs 0) 0)),0,none⟩)] 62 (0,0)),(mS Try.mk93 (vblk (scell (sarg hs 0) 0)) (snum (sarg hs 1) 1) (skv (sarg hs 1)))],fun _=>True⟩
abbrev spent_Len_Q (s0 b bj:Nat) (m:KV) (zv:Value) (zs0:Slot) (zs1:Slot):Prop:= ∃_:Unit,(True)/\zv= .int .i64 ((totW m:Nat):Int)/\zs0=bk s0 #[pp b 0] 62/\zs1=(mS Try.mk93 b bj m)/\True
abbrev spent_Len_A (s0 b bj:Nat) (m:KV) (zF:SF Unit):Prop:=zF #[pp s0 0] [bk s0 #[pp b 0] 62,(mS Try.mk93 b bj m)] (fun _=> .int .i64 ((totW m:Nat):Int)) (fun _=> [bk s0 #[pp b 0] 62,(mS Try.mk93 b bj m)]) (fun _=>True)
set_option maxRecDepth 100000 in
theorem spent_Len_vc (s0 b bj:Nat) (m:KV):spent_Len_A s0 b bj m (fun za zh zv zu zp=>codeW Try.prog 18 none 2000 none (bodyOf Try.f9) (.reg [S0] (.reg [.sem [.nw 2], .sem [.wr 2]] (.reg [S0,S0,S0, .sem [.rd 0], .calln [1] [30,31,32,33] keys_All93_C] (.rf [10,3] [30,31,32,33,2] [50,30,31,32,33,2] (fun _ hs=>⟨Nat,fun _=>undef,fun zx=> [(sarg hs 0),(sarg hs 1),(sarg hs 2),(sarg hs 3), .blk (sblk (sarg hs 4)) (.cells #[.int .i64 ((zx:Nat):Int)] 3 (0,0))],fun zx=>zx=sumK (skv (sarg hs 3)) ((rvals (scell (sarg hs 0) 0) (sarg hs 1)).take (rvals (scell (sarg hs 0) 0) (sarg hs 1)).length)⟩) (.reg [.sem [.rd 2],S0] (.done))))))
    (init za zh) (finM Try.prog Try.f9 [] [0,1] 50 (X:=Unit) zv zu zp))=
    (∀b1:Nat,rdQ 1 b1 (rdQ 1 s0 (callQ Try.prog 28 #[pp b 0] [(mS Try.mk93 b bj m)] (Nat×Nat×Nat×Row) (fun zx=> .func (.func 45) #[] #[pp zx.1 0,pp zx.2.1 0]) (fun zx=> [(mS Try.mk93 b bj m),bk zx.1 #[sv zx.2.2.2] 22,(ss 23 zx.2.2.2),bk zx.2.1 #[.map (some zx.2.2.1)] 91,(mo zx.2.2.1 m)]) (fun zx=>KeysOf .u32 m (vals zx.2.2.2)) (fun x2=>(∀fr' :Nat->Value,fr' 10=Value.func (.func 45) #[] #[pp x2.1 0,pp x2.2.1 0]->fr' 3=pp b1 0->RangeT Try.prog 18 (Operand.tmp 10) #[11,12] Try.rfA9 Try.rfB9 fr' [bk x2.1 #[sv x2.2.2.2] 22,(ss 23 x2.2.2.2),bk x2.2.1 #[.map (some x2.2.2.1)] 91,(mo x2.2.2.1 m),bk b1 #[.int .i64 0] 3] Nat (fun zx=> [bk x2.1 #[sv x2.2.2.2] 22,(ss 23 x2.2.2.2),bk x2.2.1 #[.map (some x2.2.2.1)] 91,(mo x2.2.2.1 m),bk b1 #[.int .i64 ((zx:Nat):Int)] 3]) (fun zx=>zx=sumK m ((rvals (sv x2.2.2.2) (ss 23 x2.2.2.2)).take (rvals (sv x2.2.2.2) (ss 23 x2.2.2.2)).length)))/\(∃zx:Nat,zx=sumK m ((rvals (sv x2.2.2.2) (ss 23 x2.2.2.2)).take (rvals (sv x2.2.2.2) (ss 23 x2.2.2.2)).length))/\ ∀ (d3:Nat) (x4:Nat),(x4=sumK m ((rvals (sv x2.2.2.2) (ss 23 x2.2.2.2)).take (rvals (sv x2.2.2.2) (ss 23 x2.2.2.2)).length))->rdQ 1 b1 (Slot.blk d3 (.deferred (some []))= .blk d3 (.deferred (some []))/\spent_Len_Q s0 b bj m (Value.int .i64 ((x4:Nat):Int)) (bk s0 #[pp b 0] 62) (mS Try.mk93 b bj m)))))):=by kernel_rfl
set_option maxRecDepth 100000 in
theorem spent_Len (s0 b bj:Nat) (m:KV) (hk:KOK Try.mk93 m) (hl:m.length<=1000):spent_Len_A s0 b bj m (fun za zh zv zu zp=>CallT Try.prog 9 za zh Unit zv zu zp):=by
  refine call_of_mark (c:=bodyOf Try.f9) (n:=18) (fn:=Try.f9) Try.mixed Try.func9 (by kernel_rfl) (by kernel_rfl) (by kernel_rfl) 2000 _ [] [0,1] 50 rfl rfl (Eq.mpr (spent_Len_vc s0 b bj m) ?_)
  intro b1
  refine rdQ_mk 1 _ (rdQ_mk 1 _ (callQ_mk (keys_All93 b bj m (SpS.int Try.wdK93 hk) (by omega)) (keysOf_wit4 (SpS.int Try.wdK93 hk).1 (SpS.int Try.wdK93 hk).2) fun x2 h1=> ?_))
  have hX:=h1
  have hL:=hX.len
  refine ⟨fun fr' ht hb=>by
  rw [rvals_eq]
  exact range_all [.blk x2.1 (.cells #[sv x2.2.2.2] 22 (0,0)),(ss 23 x2.2.2.2), .blk x2.2.1 (.cells #[.map (some x2.2.2.1)] 91 (0,0)),(mo x2.2.2.1 m)] (len:=(vals x2.2.2.2).length) (fun i=> #[(vals x2.2.2.2).getD i undef,(mget m ((vals x2.2.2.2).getD i undef)).getD (Value.int .u64 0)]) (by exact ht) (fun l rec T hT=>keys_All1_93 l rec x2.1 x2.2.1 x2.2.2.1 x2.2.2.2 m T hk (by omega) hX hT) (fun y=> [.blk b1 (.cells #[.int .i64 ((y:Nat):Int)] 3 (0,0))]) (fun i y=>y=sumK m ((vals x2.2.2.2).take i)) (fun l D fn tmps i y hi hy hz hf=>by
    obtain ⟨wx,hwx⟩:=hX.2.2 _ (getD_mem (d:=undef) hi)
    obtain ⟨vx,hvw,hvx⟩:=kok_val hk (z:=(Value.int .u64 0)) ⟨0,rfl,rfl⟩ ((vals x2.2.2.2).getD i undef)
    exact round_conv (spent_lround l D fn tmps b1 y wx vx hz ((hf 3).trans hb) (wf_W hvw) (by rw [hy];have:=sumK_le m ((vals x2.2.2.2).take i);rw [List.length_take] at this;omega)) (by show #[_,_]=_;rw [hvx,hwx]) (fun z hz=>by rw [hz,hy,sumK_take hi,hvx];rfl)) 0 rfl (Imp.refl _),⟨_,rfl⟩,fun d3 x4 h2=> ?_⟩
  have hR:=h2
  exact rdQ_mk 1 _ ⟨rfl,⟨(),trivial,congrArg (Value.int .i64) (by rw [h2,rvals_eq,List.take_length,sumK_totW hk.once hX]),rfl,rfl,trivial⟩⟩
abbrev spent_Len_K (s0 b bj:Nat) (m:KV) (KK:Unit->Prop):Prop:=spent_Len_A s0 b bj m (fun za zh zv zu zp=>callQ Try.prog 9 za zh Unit zv zu zp KK)
theorem spent_Len_m (s0 b bj:Nat) (m:KV) {KK:Unit->Prop} (kont:KK ()) (hk:KOK Try.mk93 m:=by assumption) (hl:m.length<=1000:=by omega):spent_Len_K s0 b bj m KK:=callQ_mk (spent_Len s0 b bj m hk hl) (⟨(),trivial⟩) fun _ _=>kont
noncomputable def Try.rfA10:Code:=((rfs (bodyOf Try.f10)).getD 0 (.skip, .skip)).1
noncomputable def Try.rfB10:Code:=((rfs (bodyOf Try.f10)).getD 0 (.skip, .skip)).2
set_option maxRecDepth 100000 in
theorem spent_bround_vc (l D:Nat) (fn:FuncId) (tmps:Array Value) (b3 bw:Nat) (y:Row) (wx vx:Int) (fr:Nat->Value):roundW Try.prog 22 l 400 Try.rfA10 Try.rfB10 (.reg [.sem []] (.reg [.sem []] (.reg [.sem [.rd 1], .sem [], .callw [2,3] [2,3] pk_U32_C, .sem [], .callw [2,3] [2,3] pk_U64_C] (.done)))) (recOf fn tmps #[13,14] Try.rfA10 Try.rfB10 D) ⟨putFr (upd fr 3 (Value.pointer (some ⟨b3,0,none⟩))) [(13, .int .u32 wx),(14, .int .u64 vx)],ofList (loopB l (recOf fn tmps #[13,14] Try.rfA10 Try.rfB10 D):: [.blk b3 (.cells #[.pointer (some ⟨bw,0,none⟩)] 68 (0,0)), .blk bw (.cells #[sv y] 70 (0,0)),(ss 5 y)]),[]⟩ [1,2,3] (X:=Row) (fun zx:Row=> [.blk b3 (.cells #[.pointer (some ⟨bw,0,none⟩)] 68 (0,0)), .blk bw (.cells #[sv zx] 70 (0,0)),(ss 5 zx)]) (fun zx:Row=>BOK zx/\dg zx=dg y++(nb4 (IntKind.u64.wrap wx)++nb8 vx))=
    ((loopB l (recOf fn tmps #[13,14] Try.rfA10 Try.rfB10 D))=loopB l (recOf fn tmps #[13,14] Try.rfA10 Try.rfB10 D)/\rdQ 1 b3 (pk_U32_K bw y wx (fun x1=>pk_U64_K bw x1 vx (fun x2=>(loopB l { (recOf fn tmps #[13,14] Try.rfA10 Try.rfB10 D) with state:= .busy })=loopB l { (recOf fn tmps #[13,14] Try.rfA10 Try.rfB10 D) with state:= .busy }/\ ∃zx:Row,(BOK zx/\dg zx=dg y++(nb4 (IntKind.u64.wrap wx)++nb8 vx))/\Slot.blk b3 (.cells #[.pointer (some ⟨bw,0,none⟩)] 68 (0,0))= .blk b3 (.cells #[.pointer (some ⟨bw,0,none⟩)] 68 (0,0))/\Slot.blk bw (.cells #[sv x2] 70 (0,0))= .blk bw (.cells #[sv zx] 70 (0,0))/\(ss 5 x2)=(ss 5 zx)/\True)))):=by kernel_rfl
set_option maxRecDepth 100000 in
theorem spent_bround (l D:Nat) (fn:FuncId) (tmps:Array Value) (b3 bw:Nat) (y:Row) (wx vx:Int) (hz:tmps.size=22) (t3:tmps.getD 3 undef=Value.pointer (some ⟨b3,0,none⟩)) (hb:BOK y) (hl:(dg y).length<=980):RoundT Try.prog l #[.int .u32 wx, .int .u64 vx] (loopB l (recOf fn tmps #[13,14] Try.rfA10 Try.rfB10 D):: [.blk b3 (.cells #[.pointer (some ⟨bw,0,none⟩)] 68 (0,0)), .blk bw (.cells #[sv y] 70 (0,0)),(ss 5 y)]) Row (fun _=> .bool true) (fun zx:Row=>loopB l (recOf fn tmps #[13,14] Try.rfA10 Try.rfB10 D):: [.blk b3 (.cells #[.pointer (some ⟨bw,0,none⟩)] 68 (0,0)), .blk bw (.cells #[sv zx] 70 (0,0)),(ss 5 zx)]) (fun zx:Row=>BOK zx/\dg zx=dg y++(nb4 (IntKind.u64.wrap wx)++nb8 vx)):=by
  refine round_of (n:=22) (fuel:=400) (fr:=(upd (fun i=>tmps.getD i undef) 3 (Value.pointer (some ⟨b3,0,none⟩)))) (Hs:= [.blk b3 (.cells #[.pointer (some ⟨bw,0,none⟩)] 68 (0,0)), .blk bw (.cells #[sv y] 70 (0,0)),(ss 5 y)]) (us:=(fun zx:Row=> [.blk b3 (.cells #[.pointer (some ⟨bw,0,none⟩)] 68 (0,0)), .blk bw (.cells #[sv zx] 70 (0,0)),(ss 5 zx)])) Try.mixed hz (fun i=>congrFun (upd_known (f:=(fun i=>tmps.getD i undef)) (t:=3) (v:=Value.pointer (some ⟨b3,0,none⟩)) (t3)) i) rfl rfl _ [1,2,3] rfl (Eq.mpr (spent_bround_vc l D fn tmps b3 bw y wx vx (fun i=>tmps.getD i undef)) ?_)
  refine ⟨rfl,?_⟩
  refine rdQ_mk 1 _ ?_
  refine pk_U32_m bw y wx (fun x1 h1=> ?_)
  have q1:=h1
  have b1:=q1.1
  refine pk_U64_m bw x1 vx (fun x2 h2=> ?_)
  have q2:=h2
  exact ⟨rfl,x2,⟨q2.1,by rw [q2.2.2,q1.2.2,List.append_assoc]⟩,rfl,rfl,rfl,trivial⟩
noncomputable def spent_Bytes_C:List Value->List Slot->Ctr:=fun vs hs=>⟨Row,fun zx=>sv zx,fun zx=> [.blk (vblk (varg vs 1)) (.cells #[.pointer (some ⟨(vblk (scell (sarg hs 0) 0)),0,none⟩)] 62 (0,0)),(mS Try.mk93 (vblk (scell (sarg hs 0) 0)) (snum (sarg hs 1) 1) (skv (sarg hs 1))),(ss 5 zx)],fun zx=>BOK zx/\ ∃l,KeysOf .u32 (skv (sarg hs 1)) l/\dg zx=wordsB (skv (sarg hs 1)) l⟩
abbrev spent_Bytes_Q (s0 b bj:Nat) (m:KV) (zv:Value) (zs0:Slot) (zs1:Slot) (zs2:Slot):Prop:= ∃zx:Row,(BOK zx/\ ∃l,KeysOf .u32 m l/\dg zx=wordsB m l)/\zv=sv zx/\zs0=bk s0 #[pp b 0] 62/\zs1=(mS Try.mk93 b bj m)/\zs2=(ss 5 zx)/\True
abbrev spent_Bytes_A (s0 b bj:Nat) (m:KV) (zF:SF Row):Prop:=zF #[pp s0 0] [bk s0 #[pp b 0] 62,(mS Try.mk93 b bj m)] (fun zx=>sv zx) (fun zx=> [bk s0 #[pp b 0] 62,(mS Try.mk93 b bj m),(ss 5 zx)]) (fun zx=>(BOK zx/\ ∃l,KeysOf .u32 m l/\dg zx=wordsB m l))
set_option maxRecDepth 100000 in
theorem spent_Bytes_vc (s0 b bj:Nat) (m:KV):spent_Bytes_A s0 b bj m (fun za zh zv zu zp=>codeW Try.prog 22 none 2000 none (bodyOf Try.f10) (.reg [S0] (.reg [S0, .sem [.nw 2], .sem [.nw 3], .sem [.wr 3]] (.reg [S0,S0,S0, .sem [.rd 0], .calln [1] [30,31,32,33] keys_All93_C] (.rf [12,3] [30,31,32,33,3,2] [50,30,31,32,33,3,2,61] (fun _ hs=>⟨Row,fun _=>undef,fun zx=> [(sarg hs 0),(sarg hs 1),(sarg hs 2),(sarg hs 3), .blk (sblk (sarg hs 4)) (.cells #[.pointer (some ⟨(sblk (sarg hs 5)),0,none⟩)] 68 (0,0)), .blk (sblk (sarg hs 5)) (.cells #[sv zx] 70 (0,0)),(ss 5 zx)],fun zx=>BOK zx/\dg zx=wordsB (skv (sarg hs 3)) ((rvals (scell (sarg hs 0) 0) (sarg hs 1)).take (rvals (scell (sarg hs 0) 0) (sarg hs 1)).length)⟩) (.reg [.sem [.rd 3], .callw [2,61] [2,61,62] pk_Bytes_C,S0] (.done))))))
    (init za zh) (finM Try.prog Try.f10 [] [0,1,62] 50 (X:=Row) zv zu zp))=
    (∀b1:Nat,∀b2:Nat,rdQ 1 b2 (rdQ 1 s0 (callQ Try.prog 28 #[pp b 0] [(mS Try.mk93 b bj m)] (Nat×Nat×Nat×Row) (fun zx=> .func (.func 45) #[] #[pp zx.1 0,pp zx.2.1 0]) (fun zx=> [(mS Try.mk93 b bj m),bk zx.1 #[sv zx.2.2.2] 22,(ss 23 zx.2.2.2),bk zx.2.1 #[.map (some zx.2.2.1)] 91,(mo zx.2.2.1 m)]) (fun zx=>KeysOf .u32 m (vals zx.2.2.2)) (fun x3=>(∀fr' :Nat->Value,fr' 12=Value.func (.func 45) #[] #[pp x3.1 0,pp x3.2.1 0]->fr' 3=pp b2 0->RangeT Try.prog 22 (Operand.tmp 12) #[13,14] Try.rfA10 Try.rfB10 fr' [bk x3.1 #[sv x3.2.2.2] 22,(ss 23 x3.2.2.2),bk x3.2.1 #[.map (some x3.2.2.1)] 91,(mo x3.2.2.1 m),bk b2 #[pp b1 0] 68,bk b1 #[.slice none 0 0] 70] Row (fun zx=> [bk x3.1 #[sv x3.2.2.2] 22,(ss 23 x3.2.2.2),bk x3.2.1 #[.map (some x3.2.2.1)] 91,(mo x3.2.2.1 m),bk b2 #[pp b1 0] 68,bk b1 #[sv zx] 70,(ss 5 zx)]) (fun zx=>BOK zx/\dg zx=wordsB m ((rvals (sv x3.2.2.2) (ss 23 x3.2.2.2)).take (rvals (sv x3.2.2.2) (ss 23 x3.2.2.2)).length)))/\(∃zx:Row,BOK zx/\dg zx=wordsB m ((rvals (sv x3.2.2.2) (ss 23 x3.2.2.2)).take (rvals (sv x3.2.2.2) (ss 23 x3.2.2.2)).length))/\ ∀ (d4:Nat) (x5:Row),(BOK x5/\dg x5=wordsB m ((rvals (sv x3.2.2.2) (ss 23 x3.2.2.2)).take (rvals (sv x3.2.2.2) (ss 23 x3.2.2.2)).length))->rdQ 1 b2 (pk_Bytes_K b1 x5 (fun x6=>Slot.blk d4 (.deferred (some []))= .blk d4 (.deferred (some []))/\spent_Bytes_Q s0 b bj m (sv x6) (bk s0 #[pp b 0] 62) (mS Try.mk93 b bj m) (ss 5 x6))))))):=by kernel_rfl
set_option maxRecDepth 100000 in
theorem spent_Bytes (s0 b bj:Nat) (m:KV) (hk:KOK Try.mk93 m) (hl:m.length<=80):spent_Bytes_A s0 b bj m (fun za zh zv zu zp=>CallT Try.prog 10 za zh Row zv zu zp):=by
  refine call_of_mark (c:=bodyOf Try.f10) (n:=22) (fn:=Try.f10) Try.mixed Try.func10 (by kernel_rfl) (by kernel_rfl) (by kernel_rfl) 2000 _ [] [0,1,62] 50 rfl rfl (Eq.mpr (spent_Bytes_vc s0 b bj m) ?_)
  intro b1
  intro b2
  refine rdQ_mk 1 _ (rdQ_mk 1 _ (callQ_mk (keys_All93 b bj m (SpS.int Try.wdK93 hk) (by omega)) (keysOf_wit4 (SpS.int Try.wdK93 hk).1 (SpS.int Try.wdK93 hk).2) fun x3 h1=> ?_))
  have hX:=h1
  have hL:=hX.len
  refine ⟨fun fr' ht hb=>by
  rw [rvals_eq]
  exact range_all [.blk x3.1 (.cells #[sv x3.2.2.2] 22 (0,0)),(ss 23 x3.2.2.2), .blk x3.2.1 (.cells #[.map (some x3.2.2.1)] 91 (0,0)),(mo x3.2.2.1 m)] (len:=(vals x3.2.2.2).length) (fun i=> #[(vals x3.2.2.2).getD i undef,(mget m ((vals x3.2.2.2).getD i undef)).getD (Value.int .u64 0)]) (by exact ht) (fun l rec T hT=>keys_All1_93 l rec x3.1 x3.2.1 x3.2.2.1 x3.2.2.2 m T hk (by omega) hX hT) (fun y=> [.blk b2 (.cells #[pp b1 0] 68 (0,0)), .blk b1 (.cells #[sv y] 70 (0,0)),(ss 5 y)]) (fun i y=>BOK y/\dg y=wordsB m ((vals x3.2.2.2).take i)) (fun l D fn tmps i y hi hy hz hf=>by
    obtain ⟨wx,hwx⟩:=hX.2.2 _ (getD_mem (d:=undef) hi)
    obtain ⟨vx,hvw,hvx⟩:=kok_val hk (z:=(Value.int .u64 0)) ⟨0,rfl,rfl⟩ ((vals x3.2.2.2).getD i undef)
    exact round_conv (spent_bround l D fn tmps b2 b1 y wx vx hz ((hf 3).trans hb) hy.1 (by rw [hy.2,wordsB_len,List.length_take];omega)) (by show #[_,_]=_;rw [hvx,hwx]) (fun z hz=>⟨hz.1,by rw [hz.2,hy.2,wordsB_take hi,wordB,hvx,hwx];rfl⟩)) Row.nil ⟨bok_nil,rfl⟩ imp_free2,⟨.mk 0 (bv (wordsB m ((rvals (sv x3.2.2.2) (ss 23 x3.2.2.2)).take (rvals (sv x3.2.2.2) (ss 23 x3.2.2.2)).length))) [],bok_lit 0 _ _,bv_ci _⟩,fun d4 x5 h2=> ?_⟩
  have hR:=h2
  have hRB:=hR.1
  refine rdQ_mk 1 _ (pk_Bytes_m b1 x5 (fun x6 h3=> ?_) (hr:=by rw [hR.2,wordsB_len,List.length_take,rvals_eq];omega))
  have qf:=h3
  exact ⟨rfl,⟨x6,⟨qf.1,_,hX,by rw [qf.2.2,h2.2,rvals_eq,List.take_length]⟩,rfl,rfl,rfl,rfl,trivial⟩⟩
abbrev spent_Bytes_K (s0 b bj:Nat) (m:KV) (KK:Row->Prop):Prop:=spent_Bytes_A s0 b bj m (fun za zh zv zu zp=>callQ Try.prog 10 za zh Row zv zu zp KK)
theorem spent_Bytes_m (s0 b bj:Nat) (m:KV) {KK:Row->Prop} (kont: ∀zx:Row,(BOK zx/\ ∃l,KeysOf .u32 m l/\dg zx=wordsB m l)->KK zx) (hk:KOK Try.mk93 m:=by assumption) (hl:m.length<=80:=by omega):spent_Bytes_K s0 b bj m KK:=callQ_mk (spent_Bytes s0 b bj m hk hl) (wit_wordsB (Try.wdK93) hk) fun zx hz=>by
  exact kont zx hz
noncomputable def law18_lives_C:List Value->List Slot->Ctr:=fun vs hs=>⟨Unit,fun _=> .bool true,fun _=>hs,fun _=>True⟩
abbrev law18_lives_Q  (zv:Value) :Prop:= ∃_:Unit,(True)/\zv= .bool true/\True
abbrev law18_lives_A  (zF:SF Unit):Prop:=zF #[] [] (fun _=> .bool true) (fun _=> []) (fun _=>True)
set_option maxRecDepth 100000 in
theorem law18_lives_vc :law18_lives_A  (fun za zh zv zu zp=>codeW Try.prog 21 none 2000 none (bodyOf Try.f5) (.reg [S0] (.reg [S0, .specw [] [20] (F_newj Try.jk), .callw [] [21,22] spent_New_C,S0] (.reg [S0,S0,S0,S0, .callw [21,22,20] [21,22,20] spent_Put_C,S0, .gen [] (Sx.one (.bool true)),S0, .callw [21,22,20] [21,22,20] spent_Put_C, .gen [] (Sx.one (.bool true)),S0,S0,S0, .callr [21,22] spent_Word_C, .gen [] (Sx.one (.bool true)),S0,S0] (.done))))
    (init za zh) (finW Try.prog Try.f5 [] [] (X:=Unit) zv zu zp))=
    (opQ Try.prog (vS (Instr.box 30 (.agg #[.slice none 0 0]))) [] Nat (fun zx=>pp zx 0) (fun zx=> [(jS Try.jk zx ([]))]) (fun zx=>True) (fun x1=>spent_New_K x1 (fun x2=>true=true/\true=true/\spent_Put_K x2.1 x2.2 x1 ([]) ([]) (64:Int) (fun x3=>(∃_:Unit,True/\Value.bool (!hasI ([]) (64:Int))= .bool true)/\ ∀_:Unit,(True)->true=true/\true=true/\spent_Put_K x2.1 x2.2 x1 x3.1 x3.2 (64:Int) (fun x4=>true=true/\(∃_:Unit,True/\Value.bool (!(!hasI x3.1 (64:Int)))= .bool true)/\ ∀_:Unit,(True)->true=true/\true=true/\spent_Word_K x2.1 x2.2 x1 x4.1 (1:Int) (fun _=>true=true/\(∃_:Unit,True/\Value.bool ((wd x4.1 (1:Int))==(1:Int))= .bool true)/\ ∀_:Unit,(True)->law18_lives_Q  (Value.bool true))))))):=by kernel_rfl
set_option maxRecDepth 100000 in
theorem law18_lives  :law18_lives_A  (fun za zh zv zu zp=>CallT Try.prog 5 za zh Unit zv zu zp):=by
  refine call_of (c:=bodyOf Try.f5) (n:=21) (fn:=Try.f5) Try.mixed Try.func5 (by kernel_rfl) (by kernel_rfl) (by kernel_rfl) 2000 _ [] [] rfl rfl (Eq.mpr (law18_lives_vc) ?_)
  refine opQ_mk (xnewj (K:=Try.jk) (Eq.mpr (by kernel_rfl:symW Try.prog (do pure (Next.value (←Instr.box 30 (.agg #[.slice none 0 0])))) [.nw 0] (ofList []) (fun nx H _=> ∃b,nx=Next.value (ptr b)/\H=upd (ofList []) 0 (.blk b (.cells #[.slice none 0 0] (JK.tj Try.jk) (0,0))))=(∀b,∃b',Next.value (ptr b)= .value (ptr b')/\upd (ofList []) 0 (.blk b (.cells #[.slice none 0 0] 30 (0,0)))=upd (ofList []) 0 (.blk b' (.cells #[.slice none 0 0] (JK.tj Try.jk) (0,0))))) fun b=>⟨b,rfl,rfl⟩)) (⟨0,trivial⟩) fun x1 h1=>spent_New_m x1 (fun x2 h2=>⟨rfl,rfl,spent_Put_m x2.1 x2.2 x1 ([]) ([]) (64:Int) (fun x3 h3=> ?_) (hk:=KOK.nil) (hi:=by decide) (hl:=by decide)⟩)
  have p1:=h3
  refine ⟨⟨(),trivial,congrArg Value.bool (by rw [spl1];rfl)⟩,fun _=>fun _=>⟨rfl,rfl,spent_Put_m x2.1 x2.2 x1 x3.1 x3.2 (64:Int) (fun x4 h4=> ?_) (hk:=by rw [p1.1];exact (SpS.nil.put Try.wdK93 64).ok) (hi:=by decide) (hl:=by rw [p1.2];exact Nat.le_trans bif_len (by decide))⟩⟩
  have p2:=h4
  have e2:x4.1=putO [] 64:=by rw [p2.1,p1.1,put_again (spl2 Try.wdK93)]
  exact ⟨rfl,⟨(),trivial,congrArg Value.bool (by rw [p1.1,spl2 Try.wdK93];rfl)⟩,fun _=>fun _=>⟨rfl,rfl,spent_Word_m x2.1 x2.2 x1 x4.1 (1:Int) ⟨rfl,⟨(),trivial,congrArg Value.bool (by rw [e2,spl3];rfl)⟩,fun _=>fun _=>⟨(),trivial,rfl,trivial⟩⟩⟩⟩
abbrev law18_lives_K  (KK:Unit->Prop):Prop:=law18_lives_A  (fun za zh zv zu zp=>callQr Try.prog 5 za zh Unit zv zp KK)
theorem law18_lives_m  {KK:Unit->Prop} (kont:KK ()) :law18_lives_K  KK:=callQr_mk (law18_lives) (⟨(),trivial⟩) fun _ _=>kont
theorem Try.elt22:ElT Try.prog 22 23 1:=⟨by kernel_rfl,fun w=>by kernel_rfl⟩
theorem Try.elk23:ElK Try.prog 23 1 (X:=Int) (Value.int .u32) (fun n=>(Lit.int .u32 n).wf=true):=elK_int (fun w=>by kernel_rfl) (fun w=>by kernel_rfl) _
abbrev law18_SpentOnce_Q (w:World) (l:Value) (o:Int) (ls:List Int) (zv:Value) (zs0:Slot):Prop:= ∃_:Unit,(True)/\zv= .bool true/\zs0=(old w)/\True
set_option maxRecDepth 100000 in
set_option maxHeartbeats 8000000 in
theorem law18_SpentOnce_vc (w:World) (l:Value) (o:Int) (ls:List Int):codeW Try.prog 88 none 2000 none (bodyOf Try.f3) (.reg [S0] (.reg [.callr [] law18_lives_C,S0,S0,S0, .eq (f_len),S0,S0] (.cond (.reg [.callr [] law18_lives_C,S0] (.done)) (.reg [S0, .specw [] [20] (F_newj Try.jk), .callw [] [21,22] spent_New_C,S0, .specw [] [24] (F_newj Try.jk), .callw [] [25,26] spent_New_C,S0,S0] (.reg [S0] (.reg [S0] (.reg [S0, .eq (f_len),S0] (.inv (Nat×KV×List Ent×KV×List Ent×Nat×Bool×Nat×Nat×Nat×Nat×Nat×Nat) (fun zx=> [(0,l),(1, .int .u32 o),(5,pp zx.2.2.2.2.2.2.2.2.1 0),(6,pp zx.2.2.2.2.2.2.2.2.2.2.2.1 0),(7, .int .i64 ((zx.2.2.2.2.2.1:Nat):Int)),(8, .bool zx.2.2.2.2.2.2.1),(26,l),(27, .int .i64 ((vlen l:Nat):Int)),(28, .int .i64 ((zx.1:Nat):Int))]) (fun zx=> [(0,(old w)),(20,(jS Try.jk zx.2.2.2.2.2.2.2.1 zx.2.2.1)),(21,bk zx.2.2.2.2.2.2.2.2.1 #[pp zx.2.2.2.2.2.2.2.2.2.1 0] 62),(22,(mS Try.mk93 zx.2.2.2.2.2.2.2.2.2.1 zx.2.2.2.2.2.2.2.1 zx.2.1)),(24,(jS Try.jk zx.2.2.2.2.2.2.2.2.2.2.1 zx.2.2.2.2.1)),(25,bk zx.2.2.2.2.2.2.2.2.2.2.2.1 #[pp zx.2.2.2.2.2.2.2.2.2.2.2.2 0] 62),(26,(mS Try.mk93 zx.2.2.2.2.2.2.2.2.2.2.2.2 zx.2.2.2.2.2.2.2.2.2.2.1 zx.2.2.2.1))]) (fun zx=>SpO Try.mk93 ls o zx.1 zx.2.1 zx.2.2.1 zx.2.2.2.1 zx.2.2.2.2.1 zx.2.2.2.2.2.1 zx.2.2.2.2.2.2.1) (fun zx=>ls.length - zx.1) (fun x5=> .reg [S0] (.cond (.reg [S0, .eq (f_oidx 1), .specr [0] (F_old (Value.int .u32) (fun n=>(Lit.int .u32 n).wf=true)),S0,S0] (.reg [S0,S0, .callr [21,22] spent_Has_C,S0] (.reg [S0,S0, .callw [21,22,20] [21,22,20] spent_Put_C,S0, .gen [] (Sx.one (.bool false)),S0,S0,S0, .callr [21,22] spent_Has_C, .gen [] (Sx.one (.bool false)),S0] (.condF (.reg [S0,S0] (.cond (.reg [S0, .gen [] (fun vs=>Sx.one (.int .i64 (ci (varg vs 0)+ci (varg vs 1))) vs),S0] (.reg [S0,S0,S0, .eq (f_len), .gen [] (fun vs=>Sx.one (.int .i64 (ci (varg vs 0) - ci (varg vs 1))) vs),S0, .gen [] (fun vs=>Sx.one (.int .i64 (ci (varg vs 0) - ci (varg vs 1))) vs), .eq (f_oidx 1), .specr [0] (F_old (Value.int .u32) (fun n=>(Lit.int .u32 n).wf=true)), .callw [25,26,24] [25,26,24] spent_Put_C] (.caseP (fun s=>(cb (s.fr 8))) (.reg [.gen [] (Sx.one (.bool true)),S0, .no, .no, .no,S0,S0] (.reg [.gen [] (fun vs=>Sx.one (.int .i64 (ci (varg vs 0)+ci (varg vs 1))) vs),S0] (.done))) (.reg [.gen [] (Sx.one (.bool false)),S0,S0,S0,S0,S0,S0] (.reg [.gen [] (fun vs=>Sx.one (.int .i64 (ci (varg vs 0)+ci (varg vs 1))) vs),S0] (.done)))))) (.reg [S0,S0,S0, .eq (f_len), .gen [] (fun vs=>Sx.one (.int .i64 (ci (varg vs 0) - ci (varg vs 1))) vs),S0, .gen [] (fun vs=>Sx.one (.int .i64 (ci (varg vs 0) - ci (varg vs 1))) vs), .eq (f_oidx 1), .specr [0] (F_old (Value.int .u32) (fun n=>(Lit.int .u32 n).wf=true)), .callw [25,26,24] [25,26,24] spent_Put_C] (.caseP (fun s=>(cb (s.fr 8))) (.reg [.gen [] (Sx.one (.bool true)),S0, .no, .no, .no,S0,S0] (.reg [.gen [] (fun vs=>Sx.one (.int .i64 (ci (varg vs 0)+ci (varg vs 1))) vs),S0] (.done))) (.reg [.gen [] (Sx.one (.bool false)),S0,S0,S0,S0,S0,S0] (.reg [.gen [] (fun vs=>Sx.one (.int .i64 (ci (varg vs 0)+ci (varg vs 1))) vs),S0] (.done))))))))))) (.reg [S0, .callw [21,22] [21,22] spent_Len_C,S0, .gen [] (Sx.one (.bool true)),S0,S0,S0, .callr [21,22] spent_Has_C,S0, .gen [] (Sx.one (.bool true)),S0,S0,S0, .callw [21,22] [21,22,30] spent_Bytes_C, .specr [30] F_str,S0, .callw [25,26] [25,26,31] spent_Bytes_C, .specr [31] F_str, .gen [] (Sx.one (.bool true)),S0,S0] (.done))))))))))))
    (init #[l, .int .u32 o] [(old w)]) (finW Try.prog Try.f3 [] [0] (X:=Unit) (fun _=> .bool true) (fun _=> [(old w)]) (fun _=>True))=
    (law18_lives_K  (fun _=>false=false/\false=false/\(PureRun Try.prog (vS (Builtin.len_ #[22] 3 #[l])) (.int .i64 ((vlen l:Nat):Int)))/\false=false/\((decide (((vlen l:Nat):Int)>(60:Int)))=true->law18_lives_K  (fun _=>law18_SpentOnce_Q w l o ls (Value.bool true) (old w)))/\((decide (((vlen l:Nat):Int)>(60:Int)))=false->opQ Try.prog (vS (Instr.box 30 (.agg #[.slice none 0 0]))) [] Nat (fun zx=>pp zx 0) (fun zx=> [(jS Try.jk zx ([]))]) (fun zx=>True) (fun x1=>spent_New_K x1 (fun x2=>opQ Try.prog (vS (Instr.box 30 (.agg #[.slice none 0 0]))) [] Nat (fun zx=>pp zx 0) (fun zx=> [(jS Try.jk zx ([]))]) (fun zx=>True) (fun x3=>spent_New_K x3 (fun x4=>(PureRun Try.prog (vS (Builtin.len_ #[22] 3 #[l])) (.int .i64 ((vlen l:Nat):Int)))/\(∃zx:Nat×KV×List Ent×KV×List Ent×Nat×Bool×Nat×Nat×Nat×Nat×Nat×Nat,(SpO Try.mk93 ls o zx.1 zx.2.1 zx.2.2.1 zx.2.2.2.1 zx.2.2.2.2.1 zx.2.2.2.2.2.1 zx.2.2.2.2.2.2.1)/\l=l/\Value.int .u32 o= .int .u32 o/\pp x2.1 0=pp zx.2.2.2.2.2.2.2.2.1 0/\pp x4.1 0=pp zx.2.2.2.2.2.2.2.2.2.2.2.1 0/\Value.int .i64 0= .int .i64 ((zx.2.2.2.2.2.1:Nat):Int)/\Value.bool false= .bool zx.2.2.2.2.2.2.1/\l=l/\Value.int .i64 ((vlen l:Nat):Int)= .int .i64 ((vlen l:Nat):Int)/\Value.int .i64 0= .int .i64 ((zx.1:Nat):Int)/\(old w)=(old w)/\(jS Try.jk x1 ([]))=(jS Try.jk zx.2.2.2.2.2.2.2.1 zx.2.2.1)/\bk x2.1 #[pp x2.2 0] 62=bk zx.2.2.2.2.2.2.2.2.1 #[pp zx.2.2.2.2.2.2.2.2.2.1 0] 62/\(mS Try.mk93 x2.2 x1 ([]))=(mS Try.mk93 zx.2.2.2.2.2.2.2.2.2.1 zx.2.2.2.2.2.2.2.1 zx.2.1)/\(jS Try.jk x3 ([]))=(jS Try.jk zx.2.2.2.2.2.2.2.2.2.2.1 zx.2.2.2.2.1)/\bk x4.1 #[pp x4.2 0] 62=bk zx.2.2.2.2.2.2.2.2.2.2.2.1 #[pp zx.2.2.2.2.2.2.2.2.2.2.2.2 0] 62/\(mS Try.mk93 x4.2 x3 ([]))=(mS Try.mk93 zx.2.2.2.2.2.2.2.2.2.2.2.2 zx.2.2.2.2.2.2.2.2.2.2.1 zx.2.2.2.1)/\True)/\ ∀x5:Nat×KV×List Ent×KV×List Ent×Nat×Bool×Nat×Nat×Nat×Nat×Nat×Nat,∀jx5:Nat->Value,(SpO Try.mk93 ls o x5.1 x5.2.1 x5.2.2.1 x5.2.2.2.1 x5.2.2.2.2.1 x5.2.2.2.2.2.1 x5.2.2.2.2.2.2.1)->((decide (((x5.1:Nat):Int)<((vlen l:Nat):Int)))=true->(PureRun Try.prog (vS (Instr.indexAt 22 l (.int .i64 ((x5.1:Nat):Int)))) (.pointer (some ⟨(vblk l),(voff l+(Int.toNat ((x5.1:Nat):Int))*1),none⟩)))/\opQr Try.prog (vS (Instr.loadAt 23 (.pointer (some ⟨(vblk l),(voff l+(Int.toNat ((x5.1:Nat):Int))*1),none⟩)))) [(old w)] Int (fun zx=> .int .u32 zx) (fun zx=>((fun n=>(Lit.int .u32 n).wf=true)) zx/\ ∃w',old w=old w' /\At w' (.pointer (some ⟨(vblk l),(voff l+(Int.toNat ((x5.1:Nat):Int))*1),none⟩)) ((Value.int .u32) zx).cells.toList) (fun x6=>spent_Has_K x5.2.2.2.2.2.2.2.2.1 x5.2.2.2.2.2.2.2.2.2.1 x5.2.2.2.2.2.2.2.1 x5.2.1 x6 (fun _=>spent_Put_K x5.2.2.2.2.2.2.2.2.1 x5.2.2.2.2.2.2.2.2.2.1 x5.2.2.2.2.2.2.2.1 x5.2.1 x5.2.2.1 x6 (fun x7=>(∃_:Unit,True/\Value.bool ((!hasI x5.2.1 x6)==(hasI x5.2.1 x6))= .bool false)/\ ∀_:Unit,(True)->false=false/\false=false/\false=false/\spent_Has_K x5.2.2.2.2.2.2.2.2.1 x5.2.2.2.2.2.2.2.2.2.1 x5.2.2.2.2.2.2.2.1 x7.1 x6 (fun _=>false=false/\(∃_:Unit,True/\Value.bool (!(hasI x7.1 x6))= .bool false)/\ ∀_:Unit,(True)->(false=false)/\((!(hasI x5.2.1 x6))=true->(∃_:Unit,True/\Value.int .i64 (IntKind.i64.wrap (((x5.2.2.2.2.2.1:Nat):Int)+1))= .int .i64 (((x5.2.2.2.2.2.1:Nat):Int)+1))/\ ∀_:Unit,(True)->(PureRun Try.prog (vS (Builtin.len_ #[22] 3 #[l])) (.int .i64 ((vlen l:Nat):Int)))/\(∃_:Unit,True/\Value.int .i64 (IntKind.i64.wrap (((vlen l:Nat):Int) - 1))= .int .i64 (((vlen l:Nat):Int) - 1))/\ ∀_:Unit,(True)->(∃_:Unit,True/\Value.int .i64 (IntKind.i64.wrap ((((vlen l:Nat):Int) - 1) - ((x5.1:Nat):Int)))= .int .i64 ((((vlen l:Nat):Int) - 1) - ((x5.1:Nat):Int)))/\ ∀_:Unit,(True)->(PureRun Try.prog (vS (Instr.indexAt 22 l (.int .i64 ((((vlen l:Nat):Int) - 1) - ((x5.1:Nat):Int))))) (.pointer (some ⟨(vblk l),(voff l+(Int.toNat ((((vlen l:Nat):Int) - 1) - ((x5.1:Nat):Int)))*1),none⟩)))/\opQr Try.prog (vS (Instr.loadAt 23 (.pointer (some ⟨(vblk l),(voff l+(Int.toNat ((((vlen l:Nat):Int) - 1) - ((x5.1:Nat):Int)))*1),none⟩)))) [(old w)] Int (fun zx=> .int .u32 zx) (fun zx=>((fun n=>(Lit.int .u32 n).wf=true)) zx/\ ∃w',old w=old w' /\At w' (.pointer (some ⟨(vblk l),(voff l+(Int.toNat ((((vlen l:Nat):Int) - 1) - ((x5.1:Nat):Int)))*1),none⟩)) ((Value.int .u32) zx).cells.toList) (fun x8=>spent_Put_K x5.2.2.2.2.2.2.2.2.2.2.2.1 x5.2.2.2.2.2.2.2.2.2.2.2.2 x5.2.2.2.2.2.2.2.2.2.2.1 x5.2.2.2.1 x5.2.2.2.2.1 x8 (fun x9=>(x5.2.2.2.2.2.2.1=true->(∃_:Unit,True/\Value.bool x5.2.2.2.2.2.2.1= .bool true)/\ ∀_:Unit,(True)->true= !false/\true= !false/\true= !false/\(∃_:Unit,True/\Value.int .i64 (IntKind.i64.wrap (((x5.1:Nat):Int)+1))= .int .i64 (((x5.1:Nat):Int)+1))/\ ∀_:Unit,(True)-> ∃zy:Nat×KV×List Ent×KV×List Ent×Nat×Bool×Nat×Nat×Nat×Nat×Nat×Nat,(SpO Try.mk93 ls o zy.1 zy.2.1 zy.2.2.1 zy.2.2.2.1 zy.2.2.2.2.1 zy.2.2.2.2.2.1 zy.2.2.2.2.2.2.1)/\ls.length - zy.1<ls.length - x5.1/\l=l/\Value.int .u32 o= .int .u32 o/\pp x5.2.2.2.2.2.2.2.2.1 0=pp zy.2.2.2.2.2.2.2.2.1 0/\pp x5.2.2.2.2.2.2.2.2.2.2.2.1 0=pp zy.2.2.2.2.2.2.2.2.2.2.2.1 0/\Value.int .i64 (((x5.2.2.2.2.2.1:Nat):Int)+1)= .int .i64 ((zy.2.2.2.2.2.1:Nat):Int)/\Value.bool true= .bool zy.2.2.2.2.2.2.1/\l=l/\Value.int .i64 ((vlen l:Nat):Int)= .int .i64 ((vlen l:Nat):Int)/\Value.int .i64 (((x5.1:Nat):Int)+1)= .int .i64 ((zy.1:Nat):Int)/\(old w)=(old w)/\(jS Try.jk x5.2.2.2.2.2.2.2.1 x7.2)=(jS Try.jk zy.2.2.2.2.2.2.2.1 zy.2.2.1)/\bk x5.2.2.2.2.2.2.2.2.1 #[pp x5.2.2.2.2.2.2.2.2.2.1 0] 62=bk zy.2.2.2.2.2.2.2.2.1 #[pp zy.2.2.2.2.2.2.2.2.2.1 0] 62/\(mS Try.mk93 x5.2.2.2.2.2.2.2.2.2.1 x5.2.2.2.2.2.2.2.1 x7.1)=(mS Try.mk93 zy.2.2.2.2.2.2.2.2.2.1 zy.2.2.2.2.2.2.2.1 zy.2.1)/\(jS Try.jk x5.2.2.2.2.2.2.2.2.2.2.1 x9.2)=(jS Try.jk zy.2.2.2.2.2.2.2.2.2.2.1 zy.2.2.2.2.1)/\bk x5.2.2.2.2.2.2.2.2.2.2.2.1 #[pp x5.2.2.2.2.2.2.2.2.2.2.2.2 0] 62=bk zy.2.2.2.2.2.2.2.2.2.2.2.1 #[pp zy.2.2.2.2.2.2.2.2.2.2.2.2 0] 62/\(mS Try.mk93 x5.2.2.2.2.2.2.2.2.2.2.2.2 x5.2.2.2.2.2.2.2.2.2.2.1 x9.1)=(mS Try.mk93 zy.2.2.2.2.2.2.2.2.2.2.2.2 zy.2.2.2.2.2.2.2.2.2.2.1 zy.2.2.2.1)/\True)/\(x5.2.2.2.2.2.2.1=false->(∃_:Unit,True/\Value.bool x5.2.2.2.2.2.2.1= .bool false)/\ ∀_:Unit,(True)->false=false/\false=false/\false=false/\(∃_:Unit,True/\Value.int .i64 (IntKind.i64.wrap (((x5.1:Nat):Int)+1))= .int .i64 (((x5.1:Nat):Int)+1))/\ ∀_:Unit,(True)-> ∃zy:Nat×KV×List Ent×KV×List Ent×Nat×Bool×Nat×Nat×Nat×Nat×Nat×Nat,(SpO Try.mk93 ls o zy.1 zy.2.1 zy.2.2.1 zy.2.2.2.1 zy.2.2.2.2.1 zy.2.2.2.2.2.1 zy.2.2.2.2.2.2.1)/\ls.length - zy.1<ls.length - x5.1/\l=l/\Value.int .u32 o= .int .u32 o/\pp x5.2.2.2.2.2.2.2.2.1 0=pp zy.2.2.2.2.2.2.2.2.1 0/\pp x5.2.2.2.2.2.2.2.2.2.2.2.1 0=pp zy.2.2.2.2.2.2.2.2.2.2.2.1 0/\Value.int .i64 (((x5.2.2.2.2.2.1:Nat):Int)+1)= .int .i64 ((zy.2.2.2.2.2.1:Nat):Int)/\Value.bool (x6==o)= .bool zy.2.2.2.2.2.2.1/\l=l/\Value.int .i64 ((vlen l:Nat):Int)= .int .i64 ((vlen l:Nat):Int)/\Value.int .i64 (((x5.1:Nat):Int)+1)= .int .i64 ((zy.1:Nat):Int)/\(old w)=(old w)/\(jS Try.jk x5.2.2.2.2.2.2.2.1 x7.2)=(jS Try.jk zy.2.2.2.2.2.2.2.1 zy.2.2.1)/\bk x5.2.2.2.2.2.2.2.2.1 #[pp x5.2.2.2.2.2.2.2.2.2.1 0] 62=bk zy.2.2.2.2.2.2.2.2.1 #[pp zy.2.2.2.2.2.2.2.2.2.1 0] 62/\(mS Try.mk93 x5.2.2.2.2.2.2.2.2.2.1 x5.2.2.2.2.2.2.2.1 x7.1)=(mS Try.mk93 zy.2.2.2.2.2.2.2.2.2.1 zy.2.2.2.2.2.2.2.1 zy.2.1)/\(jS Try.jk x5.2.2.2.2.2.2.2.2.2.2.1 x9.2)=(jS Try.jk zy.2.2.2.2.2.2.2.2.2.2.1 zy.2.2.2.2.1)/\bk x5.2.2.2.2.2.2.2.2.2.2.2.1 #[pp x5.2.2.2.2.2.2.2.2.2.2.2.2 0] 62=bk zy.2.2.2.2.2.2.2.2.2.2.2.1 #[pp zy.2.2.2.2.2.2.2.2.2.2.2.2 0] 62/\(mS Try.mk93 x5.2.2.2.2.2.2.2.2.2.2.2.2 x5.2.2.2.2.2.2.2.2.2.2.1 x9.1)=(mS Try.mk93 zy.2.2.2.2.2.2.2.2.2.2.2.2 zy.2.2.2.2.2.2.2.2.2.2.1 zy.2.2.2.1)/\True))))/\((!(hasI x5.2.1 x6))=false->(PureRun Try.prog (vS (Builtin.len_ #[22] 3 #[l])) (.int .i64 ((vlen l:Nat):Int)))/\(∃_:Unit,True/\Value.int .i64 (IntKind.i64.wrap (((vlen l:Nat):Int) - 1))= .int .i64 (((vlen l:Nat):Int) - 1))/\ ∀_:Unit,(True)->(∃_:Unit,True/\Value.int .i64 (IntKind.i64.wrap ((((vlen l:Nat):Int) - 1) - ((x5.1:Nat):Int)))= .int .i64 ((((vlen l:Nat):Int) - 1) - ((x5.1:Nat):Int)))/\ ∀_:Unit,(True)->(PureRun Try.prog (vS (Instr.indexAt 22 l (.int .i64 ((((vlen l:Nat):Int) - 1) - ((x5.1:Nat):Int))))) (.pointer (some ⟨(vblk l),(voff l+(Int.toNat ((((vlen l:Nat):Int) - 1) - ((x5.1:Nat):Int)))*1),none⟩)))/\opQr Try.prog (vS (Instr.loadAt 23 (.pointer (some ⟨(vblk l),(voff l+(Int.toNat ((((vlen l:Nat):Int) - 1) - ((x5.1:Nat):Int)))*1),none⟩)))) [(old w)] Int (fun zx=> .int .u32 zx) (fun zx=>((fun n=>(Lit.int .u32 n).wf=true)) zx/\ ∃w',old w=old w' /\At w' (.pointer (some ⟨(vblk l),(voff l+(Int.toNat ((((vlen l:Nat):Int) - 1) - ((x5.1:Nat):Int)))*1),none⟩)) ((Value.int .u32) zx).cells.toList) (fun x10=>spent_Put_K x5.2.2.2.2.2.2.2.2.2.2.2.1 x5.2.2.2.2.2.2.2.2.2.2.2.2 x5.2.2.2.2.2.2.2.2.2.2.1 x5.2.2.2.1 x5.2.2.2.2.1 x10 (fun x11=>(x5.2.2.2.2.2.2.1=true->(∃_:Unit,True/\Value.bool x5.2.2.2.2.2.2.1= .bool true)/\ ∀_:Unit,(True)->true= !false/\true= !false/\true= !false/\(∃_:Unit,True/\Value.int .i64 (IntKind.i64.wrap (((x5.1:Nat):Int)+1))= .int .i64 (((x5.1:Nat):Int)+1))/\ ∀_:Unit,(True)-> ∃zy:Nat×KV×List Ent×KV×List Ent×Nat×Bool×Nat×Nat×Nat×Nat×Nat×Nat,(SpO Try.mk93 ls o zy.1 zy.2.1 zy.2.2.1 zy.2.2.2.1 zy.2.2.2.2.1 zy.2.2.2.2.2.1 zy.2.2.2.2.2.2.1)/\ls.length - zy.1<ls.length - x5.1/\l=l/\Value.int .u32 o= .int .u32 o/\pp x5.2.2.2.2.2.2.2.2.1 0=pp zy.2.2.2.2.2.2.2.2.1 0/\pp x5.2.2.2.2.2.2.2.2.2.2.2.1 0=pp zy.2.2.2.2.2.2.2.2.2.2.2.1 0/\Value.int .i64 ((x5.2.2.2.2.2.1:Nat):Int)= .int .i64 ((zy.2.2.2.2.2.1:Nat):Int)/\Value.bool true= .bool zy.2.2.2.2.2.2.1/\l=l/\Value.int .i64 ((vlen l:Nat):Int)= .int .i64 ((vlen l:Nat):Int)/\Value.int .i64 (((x5.1:Nat):Int)+1)= .int .i64 ((zy.1:Nat):Int)/\(old w)=(old w)/\(jS Try.jk x5.2.2.2.2.2.2.2.1 x7.2)=(jS Try.jk zy.2.2.2.2.2.2.2.1 zy.2.2.1)/\bk x5.2.2.2.2.2.2.2.2.1 #[pp x5.2.2.2.2.2.2.2.2.2.1 0] 62=bk zy.2.2.2.2.2.2.2.2.1 #[pp zy.2.2.2.2.2.2.2.2.2.1 0] 62/\(mS Try.mk93 x5.2.2.2.2.2.2.2.2.2.1 x5.2.2.2.2.2.2.2.1 x7.1)=(mS Try.mk93 zy.2.2.2.2.2.2.2.2.2.1 zy.2.2.2.2.2.2.2.1 zy.2.1)/\(jS Try.jk x5.2.2.2.2.2.2.2.2.2.2.1 x11.2)=(jS Try.jk zy.2.2.2.2.2.2.2.2.2.2.1 zy.2.2.2.2.1)/\bk x5.2.2.2.2.2.2.2.2.2.2.2.1 #[pp x5.2.2.2.2.2.2.2.2.2.2.2.2 0] 62=bk zy.2.2.2.2.2.2.2.2.2.2.2.1 #[pp zy.2.2.2.2.2.2.2.2.2.2.2.2 0] 62/\(mS Try.mk93 x5.2.2.2.2.2.2.2.2.2.2.2.2 x5.2.2.2.2.2.2.2.2.2.2.1 x11.1)=(mS Try.mk93 zy.2.2.2.2.2.2.2.2.2.2.2.2 zy.2.2.2.2.2.2.2.2.2.2.1 zy.2.2.2.1)/\True)/\(x5.2.2.2.2.2.2.1=false->(∃_:Unit,True/\Value.bool x5.2.2.2.2.2.2.1= .bool false)/\ ∀_:Unit,(True)->false=false/\false=false/\false=false/\(∃_:Unit,True/\Value.int .i64 (IntKind.i64.wrap (((x5.1:Nat):Int)+1))= .int .i64 (((x5.1:Nat):Int)+1))/\ ∀_:Unit,(True)-> ∃zy:Nat×KV×List Ent×KV×List Ent×Nat×Bool×Nat×Nat×Nat×Nat×Nat×Nat,(SpO Try.mk93 ls o zy.1 zy.2.1 zy.2.2.1 zy.2.2.2.1 zy.2.2.2.2.1 zy.2.2.2.2.2.1 zy.2.2.2.2.2.2.1)/\ls.length - zy.1<ls.length - x5.1/\l=l/\Value.int .u32 o= .int .u32 o/\pp x5.2.2.2.2.2.2.2.2.1 0=pp zy.2.2.2.2.2.2.2.2.1 0/\pp x5.2.2.2.2.2.2.2.2.2.2.2.1 0=pp zy.2.2.2.2.2.2.2.2.2.2.2.1 0/\Value.int .i64 ((x5.2.2.2.2.2.1:Nat):Int)= .int .i64 ((zy.2.2.2.2.2.1:Nat):Int)/\Value.bool (x6==o)= .bool zy.2.2.2.2.2.2.1/\l=l/\Value.int .i64 ((vlen l:Nat):Int)= .int .i64 ((vlen l:Nat):Int)/\Value.int .i64 (((x5.1:Nat):Int)+1)= .int .i64 ((zy.1:Nat):Int)/\(old w)=(old w)/\(jS Try.jk x5.2.2.2.2.2.2.2.1 x7.2)=(jS Try.jk zy.2.2.2.2.2.2.2.1 zy.2.2.1)/\bk x5.2.2.2.2.2.2.2.2.1 #[pp x5.2.2.2.2.2.2.2.2.2.1 0] 62=bk zy.2.2.2.2.2.2.2.2.1 #[pp zy.2.2.2.2.2.2.2.2.2.1 0] 62/\(mS Try.mk93 x5.2.2.2.2.2.2.2.2.2.1 x5.2.2.2.2.2.2.2.1 x7.1)=(mS Try.mk93 zy.2.2.2.2.2.2.2.2.2.1 zy.2.2.2.2.2.2.2.1 zy.2.1)/\(jS Try.jk x5.2.2.2.2.2.2.2.2.2.2.1 x11.2)=(jS Try.jk zy.2.2.2.2.2.2.2.2.2.2.1 zy.2.2.2.2.1)/\bk x5.2.2.2.2.2.2.2.2.2.2.2.1 #[pp x5.2.2.2.2.2.2.2.2.2.2.2.2 0] 62=bk zy.2.2.2.2.2.2.2.2.2.2.2.1 #[pp zy.2.2.2.2.2.2.2.2.2.2.2.2 0] 62/\(mS Try.mk93 x5.2.2.2.2.2.2.2.2.2.2.2.2 x5.2.2.2.2.2.2.2.2.2.2.1 x11.1)=(mS Try.mk93 zy.2.2.2.2.2.2.2.2.2.2.2.2 zy.2.2.2.2.2.2.2.2.2.2.1 zy.2.2.2.1)/\True)))))))))/\((decide (((x5.1:Nat):Int)<((vlen l:Nat):Int)))=false->spent_Len_K x5.2.2.2.2.2.2.2.2.1 x5.2.2.2.2.2.2.2.2.2.1 x5.2.2.2.2.2.2.2.1 x5.2.1 (fun _=>(∃_:Unit,True/\Value.bool (((totW x5.2.1:Nat):Int)==((x5.2.2.2.2.2.1:Nat):Int))= .bool true)/\ ∀_:Unit,(True)->true=true/\true=true/\true=true/\spent_Has_K x5.2.2.2.2.2.2.2.2.1 x5.2.2.2.2.2.2.2.2.2.1 x5.2.2.2.2.2.2.2.1 x5.2.1 o (fun _=>true=true/\true=true/\(∃_:Unit,True/\Value.bool ((hasI x5.2.1 o)==x5.2.2.2.2.2.2.1)= .bool true)/\ ∀_:Unit,(True)->true=true/\true=true/\spent_Bytes_K x5.2.2.2.2.2.2.2.2.1 x5.2.2.2.2.2.2.2.2.2.1 x5.2.2.2.2.2.2.2.1 x5.2.1 (fun x12=>true=true/\opQr Try.prog (vS (convert 33 9 (sv x12))) [(ss 5 x12)] Unit (fun _=> .string (strOf (rvals (sv x12) (ss 5 x12)))) (fun _=>True) (fun _=>true=true/\true=true/\spent_Bytes_K x5.2.2.2.2.2.2.2.2.2.2.2.1 x5.2.2.2.2.2.2.2.2.2.2.2.2 x5.2.2.2.2.2.2.2.2.2.2.1 x5.2.2.2.1 (fun x13=>true=true/\opQr Try.prog (vS (convert 33 9 (sv x13))) [(ss 5 x13)] Unit (fun _=> .string (strOf (rvals (sv x13) (ss 5 x13)))) (fun _=>True) (fun _=>true=true/\(∃_:Unit,True/\Value.bool ((strOf (rvals (sv x12) (ss 5 x12))).toList==(strOf (rvals (sv x13) (ss 5 x13))).toList)= .bool true)/\ ∀_:Unit,(True)->law18_SpentOnce_Q w l o ls (Value.bool true) (old w))))))))))))))):=by kernel_rfl
set_option maxRecDepth 100000 in
set_option maxHeartbeats 8000000 in
theorem law18_SpentOnce (w : World) (l : Value) (o : Int) (ls : List Int) (h_l : SlX w 1 (X := Int) (Value.int .u32) (fun n => (Lit.int .u32 n).wf = true) l ls) (wo : (Lit.int .u32 o).wf = true) (ml : ls.length <= 9223372036854775807) : CallT Try.prog 3 #[l, .int .u32 o] [(old w)] Unit (fun _ => .bool true) (fun _ => [(old w)]) (fun _ => True) := by
  refine call_of (c:=bodyOf Try.f3) (n:=88) (fn:=Try.f3) Try.mixed Try.func3 (by kernel_rfl) (by kernel_rfl) (by kernel_rfl) 2000 _ [] [0] rfl rfl (Eq.mpr (law18_SpentOnce_vc w l o ls) ?_)
  have vl:=h_l.vlen
  refine law18_lives_m  ⟨rfl,rfl,xolen Try.elt22 h_l.sl 3,rfl,⟨fun h1=> ?_,fun h1=> ?_⟩⟩
  · exact law18_lives_m  ⟨(),trivial,rfl,rfl,trivial⟩
  refine opQ_mk (xnewj (K:=Try.jk) (Eq.mpr (by kernel_rfl:symW Try.prog (do pure (Next.value (←Instr.box 30 (.agg #[.slice none 0 0])))) [.nw 0] (ofList []) (fun nx H _=> ∃b,nx=Next.value (ptr b)/\H=upd (ofList []) 0 (.blk b (.cells #[.slice none 0 0] (JK.tj Try.jk) (0,0))))=(∀b,∃b',Next.value (ptr b)= .value (ptr b')/\upd (ofList []) 0 (.blk b (.cells #[.slice none 0 0] 30 (0,0)))=upd (ofList []) 0 (.blk b' (.cells #[.slice none 0 0] (JK.tj Try.jk) (0,0))))) fun b=>⟨b,rfl,rfl⟩)) (⟨0,trivial⟩) fun x1 h2=>spent_New_m x1 (fun x2 h3=>opQ_mk (xnewj (K:=Try.jk) (Eq.mpr (by kernel_rfl:symW Try.prog (do pure (Next.value (←Instr.box 30 (.agg #[.slice none 0 0])))) [.nw 0] (ofList []) (fun nx H _=> ∃b,nx=Next.value (ptr b)/\H=upd (ofList []) 0 (.blk b (.cells #[.slice none 0 0] (JK.tj Try.jk) (0,0))))=(∀b,∃b',Next.value (ptr b)= .value (ptr b')/\upd (ofList []) 0 (.blk b (.cells #[.slice none 0 0] 30 (0,0)))=upd (ofList []) 0 (.blk b' (.cells #[.slice none 0 0] (JK.tj Try.jk) (0,0))))) fun b=>⟨b,rfl,rfl⟩)) (⟨0,trivial⟩) fun x3 h4=>spent_New_m x3 (fun x4 h5=>⟨xolen Try.elt22 h_l.sl 3,⟨?_,fun x5 jx5 h6=> ?_⟩⟩))
  · exact ⟨(0,[],[],[],[],0,false,x1,x2.1,x2.2,x3,x4.1,x4.2),SpO.start,rfl,rfl,rfl,rfl,rfl,rfl,rfl,rfl,rfl,rfl,rfl,rfl,rfl,rfl,rfl,rfl,trivial⟩
  have S:=h6
  have h60:ls.length<=60:=by (try simp only [decide_eq_true_eq,decide_eq_false_iff_not,gt_iff_lt,ge_iff_le,Int.not_lt,Int.not_le] at *);omega
  have hle:=S.le;have hl1:=S.l1;have hl2:=S.l2;have hm1:=S.m1 Try.wdK93;have hm2:=S.m2 Try.wdK93
  have hc:=S.a.cle Try.wdK93;rw [List.length_take] at hc
  refine ⟨fun h7=> ?_,fun h7=> ?_⟩
  · refine ⟨xoidx Try.elt22 h_l.sl .i64 ((x5.1:Nat):Int) (by omega) (by rw [List.length_map];(try simp only [decide_eq_true_eq,decide_eq_false_iff_not,gt_iff_lt,ge_iff_le,Int.not_lt,Int.not_le] at *);omega),opQr_mk (xold Try.elk23 h_l (Int.toNat ((x5.1:Nat):Int)) (gx_some (xs:=ls) (i:=(Int.toNat ((x5.1:Nat):Int))) (by (try simp only [decide_eq_true_eq,decide_eq_false_iff_not,gt_iff_lt,ge_iff_le,Int.not_lt,Int.not_le] at *);omega))) (wold h_l (Int.toNat ((x5.1:Nat):Int)) (gx_some (xs:=ls) (i:=(Int.toNat ((x5.1:Nat):Int))) (by (try simp only [decide_eq_true_eq,decide_eq_false_iff_not,gt_iff_lt,ge_iff_le,Int.not_lt,Int.not_le] at *);omega))) fun x6 h8=> ?_⟩
    have kh8:=h8.1
    replace h8:=eold Try.elk23 h_l (Int.toNat ((x5.1:Nat):Int)) (gx_some (xs:=ls) (i:=(Int.toNat ((x5.1:Nat):Int))) (by (try simp only [decide_eq_true_eq,decide_eq_false_iff_not,gt_iff_lt,ge_iff_le,Int.not_lt,Int.not_le] at *);omega)) h8
    have hlt:x5.1<ls.length:=by (try simp only [decide_eq_true_eq,decide_eq_false_iff_not,gt_iff_lt,ge_iff_le,Int.not_lt,Int.not_le] at *);omega
    have hz:ls[x5.1]? =some x6:=by rw [h8,Int.toNat_natCast];exact gx_some hlt
    have hok:=h_l.ok _ (List.mem_of_getElem? hz)
    refine spent_Has_m x5.2.2.2.2.2.2.2.2.1 x5.2.2.2.2.2.2.2.2.2.1 x5.2.2.2.2.2.2.2.1 x5.2.1 x6 ?_ (hk:=S.a.ok) (hi:=hok)
    skip
    refine spent_Put_m x5.2.2.2.2.2.2.2.2.1 x5.2.2.2.2.2.2.2.2.2.1 x5.2.2.2.2.2.2.2.1 x5.2.1 x5.2.2.1 x6 (fun x7 h9=> ?_) (hk:=S.a.ok) (hi:=hok)
    have p1:=h9
    have A1:=S.a.put Try.wdK93 x6
    refine ⟨⟨(),trivial,congrArg Value.bool (nbeq _)⟩,fun _=>fun _=>⟨rfl,rfl,rfl,spent_Has_m x5.2.2.2.2.2.2.2.2.1 x5.2.2.2.2.2.2.2.2.2.1 x5.2.2.2.2.2.2.2.1 x7.1 x6 ?_ (hk:=by rw [p1.1];exact A1.ok) (hi:=hok)⟩⟩
    refine ⟨rfl,⟨(),trivial,congrArg Value.bool (by rw [p1.1,(A1.has x6).2 (by simp)];rfl)⟩,fun _=>fun _=>⟨rfl,⟨fun h10=> ?_,fun h10=> ?_⟩⟩⟩
    · refine ⟨⟨(),trivial,congrArg (Value.int .i64) (wrap_i64 _ (by omega) (by omega))⟩,fun _=>fun _=>⟨xolen Try.elt22 h_l.sl 3,⟨(),trivial,congrArg (Value.int .i64) (wrap_i64 _ (by omega) (by omega))⟩,fun _=>fun _=>⟨⟨(),trivial,congrArg (Value.int .i64) (wrap_i64 _ (by omega) (by omega))⟩,fun _=>fun _=>⟨xoidx Try.elt22 h_l.sl .i64 ((((vlen l:Nat):Int) - 1) - ((x5.1:Nat):Int)) (by omega) (by rw [List.length_map];(try simp only [decide_eq_true_eq,decide_eq_false_iff_not,gt_iff_lt,ge_iff_le,Int.not_lt,Int.not_le] at *);omega),opQr_mk (xold Try.elk23 h_l (Int.toNat ((((vlen l:Nat):Int) - 1) - ((x5.1:Nat):Int))) (gx_some (xs:=ls) (i:=(Int.toNat ((((vlen l:Nat):Int) - 1) - ((x5.1:Nat):Int)))) (by (try simp only [decide_eq_true_eq,decide_eq_false_iff_not,gt_iff_lt,ge_iff_le,Int.not_lt,Int.not_le] at *);omega))) (wold h_l (Int.toNat ((((vlen l:Nat):Int) - 1) - ((x5.1:Nat):Int))) (gx_some (xs:=ls) (i:=(Int.toNat ((((vlen l:Nat):Int) - 1) - ((x5.1:Nat):Int)))) (by (try simp only [decide_eq_true_eq,decide_eq_false_iff_not,gt_iff_lt,ge_iff_le,Int.not_lt,Int.not_le] at *);omega))) fun x8 h11=> ?_⟩⟩⟩⟩
      have kh11:=h11.1
      replace h11:=eold Try.elk23 h_l (Int.toNat ((((vlen l:Nat):Int) - 1) - ((x5.1:Nat):Int))) (gx_some (xs:=ls) (i:=(Int.toNat ((((vlen l:Nat):Int) - 1) - ((x5.1:Nat):Int)))) (by (try simp only [decide_eq_true_eq,decide_eq_false_iff_not,gt_iff_lt,ge_iff_le,Int.not_lt,Int.not_le] at *);omega)) h11
      have hy:ls[ls.length - 1 - x5.1]? =some x8:=by rw [h11,show Int.toNat (((vlen l:Nat):Int) - 1 - ((x5.1:Nat):Int))=ls.length - 1 - x5.1 by omega];exact gx_some (by omega)
      have hok2:=h_l.ok _ (List.mem_of_getElem? hy)
      refine spent_Put_m x5.2.2.2.2.2.2.2.2.2.2.2.1 x5.2.2.2.2.2.2.2.2.2.2.2.2 x5.2.2.2.2.2.2.2.2.2.2.1 x5.2.2.2.1 x5.2.2.2.2.1 x8 (fun x9 h12=> ?_) (hk:=hm2.1) (hi:=hok2)
      have p2:=h12
      refine ⟨fun h13=> ?_,fun h13=> ?_⟩
      · refine ⟨⟨(),trivial,congrArg Value.bool h13⟩,fun _=>fun _=>⟨rfl,rfl,rfl,⟨⟨(),trivial,congrArg (Value.int .i64) (wrap_i64 _ (by omega) (by omega))⟩,fun _=>fun _=> ?_⟩⟩⟩
        have hq:hasI x5.2.1 x6=false:=by simpa using h10
        have T:=S.step Try.wdK93 hz hy p1 p2 (c' :=(x5.2.2.2.2.2.1+1)) (inb' :=true) (by rw [hq];rfl) (by rw [h13];simp)
        exact ⟨(x5.1+1,x7.1,x7.2,x9.1,x9.2,(x5.2.2.2.2.2.1+1),true,x5.2.2.2.2.2.2.2.1,x5.2.2.2.2.2.2.2.2.1,x5.2.2.2.2.2.2.2.2.2.1,x5.2.2.2.2.2.2.2.2.2.2.1,x5.2.2.2.2.2.2.2.2.2.2.2.1,x5.2.2.2.2.2.2.2.2.2.2.2.2),T,by (try dsimp only);omega,rfl,rfl,rfl,rfl,congrArg (Value.int .i64) (by first | rfl | ((try dsimp only);omega)),rfl,rfl,rfl,congrArg (Value.int .i64) (by (try dsimp only);omega),rfl,rfl,rfl,rfl,rfl,rfl,rfl,trivial⟩
      refine ⟨⟨(),trivial,congrArg Value.bool h13⟩,fun _=>fun _=>⟨rfl,rfl,rfl,⟨⟨(),trivial,congrArg (Value.int .i64) (wrap_i64 _ (by omega) (by omega))⟩,fun _=>fun _=> ?_⟩⟩⟩
      have hq:hasI x5.2.1 x6=false:=by simpa using h10
      have T:=S.step Try.wdK93 hz hy p1 p2 (c' :=(x5.2.2.2.2.2.1+1)) (inb' :=x6==o) (by rw [hq];rfl) (by rw [h13];simp)
      exact ⟨(x5.1+1,x7.1,x7.2,x9.1,x9.2,(x5.2.2.2.2.2.1+1),x6==o,x5.2.2.2.2.2.2.2.1,x5.2.2.2.2.2.2.2.2.1,x5.2.2.2.2.2.2.2.2.2.1,x5.2.2.2.2.2.2.2.2.2.2.1,x5.2.2.2.2.2.2.2.2.2.2.2.1,x5.2.2.2.2.2.2.2.2.2.2.2.2),T,by (try dsimp only);omega,rfl,rfl,rfl,rfl,congrArg (Value.int .i64) (by first | rfl | ((try dsimp only);omega)),rfl,rfl,rfl,congrArg (Value.int .i64) (by (try dsimp only);omega),rfl,rfl,rfl,rfl,rfl,rfl,rfl,trivial⟩
    refine ⟨xolen Try.elt22 h_l.sl 3,⟨(),trivial,congrArg (Value.int .i64) (wrap_i64 _ (by omega) (by omega))⟩,fun _=>fun _=>⟨⟨(),trivial,congrArg (Value.int .i64) (wrap_i64 _ (by omega) (by omega))⟩,fun _=>fun _=>⟨xoidx Try.elt22 h_l.sl .i64 ((((vlen l:Nat):Int) - 1) - ((x5.1:Nat):Int)) (by omega) (by rw [List.length_map];(try simp only [decide_eq_true_eq,decide_eq_false_iff_not,gt_iff_lt,ge_iff_le,Int.not_lt,Int.not_le] at *);omega),opQr_mk (xold Try.elk23 h_l (Int.toNat ((((vlen l:Nat):Int) - 1) - ((x5.1:Nat):Int))) (gx_some (xs:=ls) (i:=(Int.toNat ((((vlen l:Nat):Int) - 1) - ((x5.1:Nat):Int)))) (by (try simp only [decide_eq_true_eq,decide_eq_false_iff_not,gt_iff_lt,ge_iff_le,Int.not_lt,Int.not_le] at *);omega))) (wold h_l (Int.toNat ((((vlen l:Nat):Int) - 1) - ((x5.1:Nat):Int))) (gx_some (xs:=ls) (i:=(Int.toNat ((((vlen l:Nat):Int) - 1) - ((x5.1:Nat):Int)))) (by (try simp only [decide_eq_true_eq,decide_eq_false_iff_not,gt_iff_lt,ge_iff_le,Int.not_lt,Int.not_le] at *);omega))) fun x10 h14=> ?_⟩⟩⟩
    have kh14:=h14.1
    replace h14:=eold Try.elk23 h_l (Int.toNat ((((vlen l:Nat):Int) - 1) - ((x5.1:Nat):Int))) (gx_some (xs:=ls) (i:=(Int.toNat ((((vlen l:Nat):Int) - 1) - ((x5.1:Nat):Int)))) (by (try simp only [decide_eq_true_eq,decide_eq_false_iff_not,gt_iff_lt,ge_iff_le,Int.not_lt,Int.not_le] at *);omega)) h14
    have hy:ls[ls.length - 1 - x5.1]? =some x10:=by rw [h14,show Int.toNat (((vlen l:Nat):Int) - 1 - ((x5.1:Nat):Int))=ls.length - 1 - x5.1 by omega];exact gx_some (by omega)
    have hok2:=h_l.ok _ (List.mem_of_getElem? hy)
    refine spent_Put_m x5.2.2.2.2.2.2.2.2.2.2.2.1 x5.2.2.2.2.2.2.2.2.2.2.2.2 x5.2.2.2.2.2.2.2.2.2.2.1 x5.2.2.2.1 x5.2.2.2.2.1 x10 (fun x11 h15=> ?_) (hk:=hm2.1) (hi:=hok2)
    have p2:=h15
    refine ⟨fun h16=> ?_,fun h16=> ?_⟩
    · refine ⟨⟨(),trivial,congrArg Value.bool h16⟩,fun _=>fun _=>⟨rfl,rfl,rfl,⟨⟨(),trivial,congrArg (Value.int .i64) (wrap_i64 _ (by omega) (by omega))⟩,fun _=>fun _=> ?_⟩⟩⟩
      have hq:hasI x5.2.1 x6=true:=by simpa using h10
      have T:=S.step Try.wdK93 hz hy p1 p2 (c' :=x5.2.2.2.2.2.1) (inb' :=true) (by rw [hq];rfl) (by rw [h16];simp)
      exact ⟨(x5.1+1,x7.1,x7.2,x11.1,x11.2,x5.2.2.2.2.2.1,true,x5.2.2.2.2.2.2.2.1,x5.2.2.2.2.2.2.2.2.1,x5.2.2.2.2.2.2.2.2.2.1,x5.2.2.2.2.2.2.2.2.2.2.1,x5.2.2.2.2.2.2.2.2.2.2.2.1,x5.2.2.2.2.2.2.2.2.2.2.2.2),T,by (try dsimp only);omega,rfl,rfl,rfl,rfl,congrArg (Value.int .i64) (by first | rfl | ((try dsimp only);omega)),rfl,rfl,rfl,congrArg (Value.int .i64) (by (try dsimp only);omega),rfl,rfl,rfl,rfl,rfl,rfl,rfl,trivial⟩
    refine ⟨⟨(),trivial,congrArg Value.bool h16⟩,fun _=>fun _=>⟨rfl,rfl,rfl,⟨⟨(),trivial,congrArg (Value.int .i64) (wrap_i64 _ (by omega) (by omega))⟩,fun _=>fun _=> ?_⟩⟩⟩
    have hq:hasI x5.2.1 x6=true:=by simpa using h10
    have T:=S.step Try.wdK93 hz hy p1 p2 (c' :=x5.2.2.2.2.2.1) (inb' :=x6==o) (by rw [hq];rfl) (by rw [h16];simp)
    exact ⟨(x5.1+1,x7.1,x7.2,x11.1,x11.2,x5.2.2.2.2.2.1,x6==o,x5.2.2.2.2.2.2.2.1,x5.2.2.2.2.2.2.2.2.1,x5.2.2.2.2.2.2.2.2.2.1,x5.2.2.2.2.2.2.2.2.2.2.1,x5.2.2.2.2.2.2.2.2.2.2.2.1,x5.2.2.2.2.2.2.2.2.2.2.2.2),T,by (try dsimp only);omega,rfl,rfl,rfl,rfl,congrArg (Value.int .i64) (by first | rfl | ((try dsimp only);omega)),rfl,rfl,rfl,congrArg (Value.int .i64) (by (try dsimp only);omega),rfl,rfl,rfl,rfl,rfl,rfl,rfl,trivial⟩
  have hi:x5.1=ls.length:=by (try simp only [decide_eq_true_eq,decide_eq_false_iff_not,gt_iff_lt,ge_iff_le,Int.not_lt,Int.not_le] at *);omega
  refine spent_Len_m x5.2.2.2.2.2.2.2.2.1 x5.2.2.2.2.2.2.2.2.2.1 x5.2.2.2.2.2.2.2.1 x5.2.1 ?_ (hk:=S.a.ok)
  refine ⟨⟨(),trivial,congrArg Value.bool (by rw [S.a.cnt];exact beq_self_eq_true _)⟩,fun _=>fun _=>⟨rfl,rfl,rfl,spent_Has_m x5.2.2.2.2.2.2.2.2.1 x5.2.2.2.2.2.2.2.2.2.1 x5.2.2.2.2.2.2.2.1 x5.2.1 o ?_ (hk:=S.a.ok) (hi:=wo)⟩⟩
  refine ⟨rfl,rfl,⟨(),trivial,congrArg Value.bool (by rw [S.last];exact beq_self_eq_true _)⟩,fun _=>fun _=>⟨rfl,rfl,spent_Bytes_m x5.2.2.2.2.2.2.2.2.1 x5.2.2.2.2.2.2.2.2.2.1 x5.2.2.2.2.2.2.2.1 x5.2.1 (fun x12 h17=> ?_) (hk:=S.a.ok)⟩⟩
  have q1:=h17
  have q1b:=q1.1
  refine ⟨rfl,opQr_mk (xstr (e:=5) (by kernel_rfl) (by kernel_rfl) (by kernel_rfl) x12 5 (by assumption)) (⟨(),trivial⟩) fun _ _=>⟨rfl,rfl,spent_Bytes_m x5.2.2.2.2.2.2.2.2.2.2.2.1 x5.2.2.2.2.2.2.2.2.2.2.2.2 x5.2.2.2.2.2.2.2.2.2.2.1 x5.2.2.2.1 (fun x13 h18=> ?_) (hk:=hm2.1) (hl:=by have:=hm2.2;omega)⟩⟩
  have q2:=h18
  have q2b:=q2.1
  exact ⟨rfl,opQr_mk (xstr (e:=5) (by kernel_rfl) (by kernel_rfl) (by kernel_rfl) x13 5 (by assumption)) (⟨(),trivial⟩) fun _ _=>⟨rfl,⟨(),trivial,congrArg Value.bool (streq (str_eq q1.1 q2.1 (S.bytes Try.wdK93 hi q1 q2)))⟩,fun _=>fun _=>⟨(),trivial,rfl,rfl,trivial⟩⟩⟩
end Go.Proofs
