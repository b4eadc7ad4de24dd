/- Contracts of this program's functions, and their proofs, printed by a program of the prover's own (see the claim's other texts for what the words mean). -/
import Derived.Test.YtgijahglgolafaaF1
import Derived.Test.YtgijahglgolafaaF2
import Derived.Test.YtgijahglgolafaaF3
import Derived.Test.YtgijahglgolafaaProg
set_option linter.unusedVariables false
set_option linter.unusedSimpArgs false
namespace Go.Proofs
open Go.Sx
theorem Try.mixed:Try.prog.follows .mixedOrders=true:=by kernel_rfl
def limb_bit_C:List Value->List Slot->Ctr:=fun vs hs=>⟨Unit,fun _=>uu (bit (cb (varg vs 1))),fun _=>hs,fun _=>True⟩
abbrev limb_bit_Q (b:Bool) (zv:Value) :Prop:= ∃_:Unit,(True)/\zv=uu (bit b)/\True
abbrev limb_bit_A (b:Bool) (zF:SF Unit):Prop:=zF #[.bool b] [] (fun _=>uu (bit b)) (fun _=> []) (fun _=>True)
set_option maxRecDepth 100000 in
theorem limb_bit_vc (b:Bool):limb_bit_A b (fun za zh zv zu zp=>codeW Try.prog 4 none 2000 none (bodyOf Try.f67) (.reg [S0] (.reg [S0] (.cond (.reg [S0] (.done)) (.reg [S0] (.done)))))
    (init za zh) (finW Try.prog Try.f67 [] [] (X:=Unit) zv zu zp))=
    ((b=true->limb_bit_Q b (uu 1))/\(b=false->limb_bit_Q b (uu 0))):=by kernel_rfl
set_option maxRecDepth 100000 in
theorem limb_bit (b:Bool) :limb_bit_A b (fun za zh zv zu zp=>CallT Try.prog 67 za zh Unit zv zu zp):=by
  refine call_of (c:=bodyOf Try.f67) (n:=4) (fn:=Try.f67) Try.mixed Try.func67 (by kernel_rfl) (by kernel_rfl) (by kernel_rfl) 2000 _ [] [] rfl rfl (Eq.mpr (limb_bit_vc b) ?_)
  refine ⟨fun h1=> ?_,fun h1=> ?_⟩
  · refine ⟨(),trivial,?_,trivial⟩
    simp [bit, *]
  refine ⟨(),trivial,?_,trivial⟩
  simp [bit, *]
abbrev limb_bit_K (b:Bool) (KK:Unit->Prop):Prop:=limb_bit_A b (fun za zh zv zu zp=>callQr Try.prog 67 za zh Unit zv zp KK)
theorem limb_bit_m (b:Bool) {KK:Unit->Prop} (kont:KK ()) :limb_bit_K b KK:=callQr_mk (limb_bit b) (⟨(),trivial⟩) fun _ _=>kont
def limb_Add_C:List Value->List Slot->Ctr:=fun vs hs=>⟨Int×Int,fun zx=> .tuple #[uu zx.1,uu zx.2],fun _=>hs,fun zx=>AddR (ci (varg vs 1)) (ci (varg vs 2)) (ci (varg vs 3)) zx.1 zx.2⟩
abbrev limb_Add_Q (a b c:Int) (zv:Value) :Prop:= ∃zx:Int×Int,(AddR a b c zx.1 zx.2)/\zv= .tuple #[uu zx.1,uu zx.2]/\True
abbrev limb_Add_A (a b c:Int) (zF:SF (Int×Int)):Prop:=zF #[uu a,uu b,uu c] [] (fun zx=> .tuple #[uu zx.1,uu zx.2]) (fun zx=> []) (fun zx=>(AddR a b c zx.1 zx.2))
set_option maxRecDepth 100000 in
theorem limb_Add_vc (a b c:Int):limb_Add_A a b c (fun za zh zv zu zp=>codeW Try.prog 26 none 2000 none (bodyOf Try.f45) (.reg [S0,S0] (.reg [S0,S0,S0,S0] (.reg [S0,S0,S0, .callr [] limb_bit_C,S0] (.reg [S0,S0] (.cond (.reg [S0,S0,S0] (.reg [S0,S0,S0, .callr [] limb_bit_C,S0,S0] (.reg [S0,S0,S0,S0] (.done)))) (.reg [S0,S0,S0,S0] (.done)))))))
    (init za zh) (finW Try.prog Try.f45 [] [] (X:=Int×Int) zv zu zp))=
    (limb_bit_K (decide ((IntKind.u64.wrap (a+b))<a)) (fun _=>((c !=(0:Int))=true->limb_bit_K ((IntKind.u64.wrap ((IntKind.u64.wrap (a+b))+1))==(0:Int)) (fun _=>limb_Add_Q a b c (Value.tuple #[uu (IntKind.u64.wrap ((IntKind.u64.wrap (a+b))+1)),uu (IntKind.u64.wrap ((BitVec.ofInt 64 (bit (decide ((IntKind.u64.wrap (a+b))<a))) ||| BitVec.ofInt 64 (bit ((IntKind.u64.wrap ((IntKind.u64.wrap (a+b))+1))==(0:Int))):BitVec 64).toNat:Int))])))/\((c !=(0:Int))=false->limb_Add_Q a b c (Value.tuple #[uu (IntKind.u64.wrap (a+b)),uu (bit (decide ((IntKind.u64.wrap (a+b))<a)))])))):=by kernel_rfl
set_option maxRecDepth 100000 in
theorem limb_Add (a b c:Int) (ha:W a) (hb:W b):limb_Add_A a b c (fun za zh zv zu zp=>CallT Try.prog 45 za zh (Int×Int) zv zu zp):=by
  refine call_of (c:=bodyOf Try.f45) (n:=26) (fn:=Try.f45) Try.mixed Try.func45 (by kernel_rfl) (by kernel_rfl) (by kernel_rfl) 2000 _ [] [] rfl rfl (Eq.mpr (limb_Add_vc a b c) ?_)
  refine limb_bit_m (decide ((IntKind.u64.wrap (a+b))<a)) ⟨fun h1=> ?_,fun h1=> ?_⟩
  · exact limb_bit_m ((IntKind.u64.wrap ((IntKind.u64.wrap (a+b))+1))==(0:Int)) ⟨((IntKind.u64.wrap ((IntKind.u64.wrap (a+b))+1)),(IntKind.u64.wrap ((BitVec.ofInt 64 (bit (decide ((IntKind.u64.wrap (a+b))<a))) ||| BitVec.ofInt 64 (bit ((IntKind.u64.wrap ((IntKind.u64.wrap (a+b))+1))==(0:Int))):BitVec 64).toNat:Int))),add_fin ha hb (by first | exact .inl ⟨‹_›,rfl,rfl⟩ | exact .inr ⟨‹_›,rfl,rfl⟩),rfl,trivial⟩
  exact ⟨((IntKind.u64.wrap (a+b)),(bit (decide ((IntKind.u64.wrap (a+b))<a)))),add_fin ha hb (by first | exact .inl ⟨‹_›,rfl,rfl⟩ | exact .inr ⟨‹_›,rfl,rfl⟩),rfl,trivial⟩
abbrev limb_Add_K (a b c:Int) (KK:(Int×Int)->Prop):Prop:=limb_Add_A a b c (fun za zh zv zu zp=>callQr Try.prog 45 za zh (Int×Int) zv zp KK)
theorem limb_Add_m (a b c:Int) {KK:(Int×Int)->Prop} (kont: ∀zx:Int×Int,(AddR a b c zx.1 zx.2)->KK zx) (ha:W a:=by first | assumption | exact W_lim _ _ | (unfold W;decide)) (hb:W b:=by first | assumption | exact W_lim _ _ | (unfold W;decide)):limb_Add_K a b c KK:=callQr_mk (limb_Add a b c ha hb) (wit_add (ha) (hb)) fun zx hz=>by
  exact kont zx hz
def limb_Sub_C:List Value->List Slot->Ctr:=fun vs hs=>⟨Int×Int,fun zx=> .tuple #[uu zx.1,uu zx.2],fun _=>hs,fun zx=>SubR (ci (varg vs 1)) (ci (varg vs 2)) (ci (varg vs 3)) zx.1 zx.2⟩
abbrev limb_Sub_Q (a b c:Int) (zv:Value) :Prop:= ∃zx:Int×Int,(SubR a b c zx.1 zx.2)/\zv= .tuple #[uu zx.1,uu zx.2]/\True
abbrev limb_Sub_A (a b c:Int) (zF:SF (Int×Int)):Prop:=zF #[uu a,uu b,uu c] [] (fun zx=> .tuple #[uu zx.1,uu zx.2]) (fun zx=> []) (fun zx=>(SubR a b c zx.1 zx.2))
set_option maxRecDepth 100000 in
theorem limb_Sub_vc (a b c:Int):limb_Sub_A a b c (fun za zh zv zu zp=>codeW Try.prog 26 none 2000 none (bodyOf Try.f49) (.reg [S0,S0] (.reg [S0,S0,S0,S0] (.reg [S0,S0,S0, .callr [] limb_bit_C,S0] (.reg [S0,S0] (.cond (.reg [S0,S0,S0, .callr [] limb_bit_C,S0,S0] (.reg [S0,S0,S0] (.reg [S0,S0,S0,S0] (.done)))) (.reg [S0,S0,S0,S0] (.done)))))))
    (init za zh) (finW Try.prog Try.f49 [] [] (X:=Int×Int) zv zu zp))=
    (limb_bit_K (decide (a<b)) (fun _=>((c !=(0:Int))=true->limb_bit_K ((IntKind.u64.wrap (a - b))==(0:Int)) (fun _=>limb_Sub_Q a b c (Value.tuple #[uu (IntKind.u64.wrap ((IntKind.u64.wrap (a - b)) - 1)),uu (IntKind.u64.wrap ((BitVec.ofInt 64 (bit (decide (a<b))) ||| BitVec.ofInt 64 (bit ((IntKind.u64.wrap (a - b))==(0:Int))):BitVec 64).toNat:Int))])))/\((c !=(0:Int))=false->limb_Sub_Q a b c (Value.tuple #[uu (IntKind.u64.wrap (a - b)),uu (bit (decide (a<b)))])))):=by kernel_rfl
set_option maxRecDepth 100000 in
theorem limb_Sub (a b c:Int) (ha:W a) (hb:W b):limb_Sub_A a b c (fun za zh zv zu zp=>CallT Try.prog 49 za zh (Int×Int) zv zu zp):=by
  refine call_of (c:=bodyOf Try.f49) (n:=26) (fn:=Try.f49) Try.mixed Try.func49 (by kernel_rfl) (by kernel_rfl) (by kernel_rfl) 2000 _ [] [] rfl rfl (Eq.mpr (limb_Sub_vc a b c) ?_)
  refine limb_bit_m (decide (a<b)) ⟨fun h1=> ?_,fun h1=> ?_⟩
  · exact limb_bit_m ((IntKind.u64.wrap (a - b))==(0:Int)) ⟨((IntKind.u64.wrap ((IntKind.u64.wrap (a - b)) - 1)),(IntKind.u64.wrap ((BitVec.ofInt 64 (bit (decide (a<b))) ||| BitVec.ofInt 64 (bit ((IntKind.u64.wrap (a - b))==(0:Int))):BitVec 64).toNat:Int))),sub_fin ha hb (by first | exact .inl ⟨‹_›,rfl,rfl⟩ | exact .inr ⟨‹_›,rfl,rfl⟩),rfl,trivial⟩
  exact ⟨((IntKind.u64.wrap (a - b)),(bit (decide (a<b)))),sub_fin ha hb (by first | exact .inl ⟨‹_›,rfl,rfl⟩ | exact .inr ⟨‹_›,rfl,rfl⟩),rfl,trivial⟩
abbrev limb_Sub_K (a b c:Int) (KK:(Int×Int)->Prop):Prop:=limb_Sub_A a b c (fun za zh zv zu zp=>callQr Try.prog 49 za zh (Int×Int) zv zp KK)
theorem limb_Sub_m (a b c:Int) {KK:(Int×Int)->Prop} (kont: ∀zx:Int×Int,(SubR a b c zx.1 zx.2)->KK zx) (ha:W a:=by first | assumption | exact W_lim _ _ | (unfold W;decide)) (hb:W b:=by first | assumption | exact W_lim _ _ | (unfold W;decide)):limb_Sub_K a b c KK:=callQr_mk (limb_Sub a b c ha hb) (wit_sub (ha) (hb)) fun zx hz=>by
  exact kont zx hz
def huge_chainAdd_C:List Value->List Slot->Ctr:=fun vs hs=>⟨Int×Int,fun zx=> .tuple #[vI zx.1, .int .i64 zx.2],fun _=>hs,fun zx=>R4 zx.1/\zx=hAdd (num (varg vs 1)) (num (varg vs 2))⟩
abbrev huge_chainAdd_Q (a b:Int) (zv:Value) :Prop:= ∃zx:Int×Int,(R4 zx.1/\zx=hAdd (num (vI a)) (num (vI b)))/\zv= .tuple #[vI zx.1, .int .i64 zx.2]/\True
abbrev huge_chainAdd_A (a b:Int) (zF:SF (Int×Int)):Prop:=zF #[vI a,vI b, .func (.func 45) #[] #[]] [] (fun zx=> .tuple #[vI zx.1, .int .i64 zx.2]) (fun zx=> []) (fun zx=>(R4 zx.1/\zx=hAdd (num (vI a)) (num (vI b))))
set_option maxRecDepth 100000 in
theorem huge_chainAdd_vc (a b:Int):huge_chainAdd_A a b (fun za zh zv zu zp=>codeW Try.prog 33 none 2000 none (bodyOf Try.f44) (.reg [.sem [.nw 0], .sem [.nw 1], .sem [.nw 2],S0] (.reg [.sem [.nw 3]] (.reg [S0] (.reg [S0] (.reg [S0] (.condT (.reg [S0,S0] (.reg [S0,S0,S0,S0, .sem [.rd 0],S0,S0, .sem [.rd 1],S0, .callr [] limb_Add_C,S0,S0,S0,S0, .sem [.wr 3],S0] (.reg [S0,S0] (.reg [S0] (.condT (.reg [S0,S0] (.reg [S0,S0,S0,S0, .sem [.rd 0],S0,S0, .sem [.rd 1],S0, .callr [] limb_Add_C,S0,S0,S0,S0, .sem [.wr 3],S0] (.reg [S0,S0] (.reg [S0] (.condT (.reg [S0,S0] (.reg [S0,S0,S0,S0, .sem [.rd 0],S0,S0, .sem [.rd 1],S0, .callr [] limb_Add_C,S0,S0,S0,S0, .sem [.wr 3],S0] (.reg [S0,S0] (.reg [S0] (.condT (.reg [S0,S0] (.reg [S0,S0,S0,S0, .sem [.rd 0],S0,S0, .sem [.rd 1],S0, .callr [] limb_Add_C,S0,S0,S0,S0, .sem [.wr 3],S0] (.reg [S0,S0] (.reg [S0] (.condF (.reg [S0,S0] (.cond (.reg [S0, .sem (wrs 4 2),S0] (.done)) (.reg [.sem (rds 4 3), .sem (wrs 4 2),S0] (.done))))))))))))))))))))))))))))))
    (init za zh) (finW Try.prog Try.f44 [.rd 2, .rd 2, .rd 2, .rd 2] [] (X:=Int×Int) zv zu zp))=
    (∀b1:Nat,∀b2:Nat,∀b3:Nat,∀b4:Nat,(true=true)/\rdQ 1 b1 (rdQ 1 b2 (limb_Add_K (lim a 0) (lim b 0) (0:Int) (fun x5=>rdQ 1 b4 ((true=true)/\rdQ 1 b1 (rdQ 1 b2 (limb_Add_K (lim a 1) (lim b 1) x5.2 (fun x6=>rdQ 1 b4 ((true=true)/\rdQ 1 b1 (rdQ 1 b2 (limb_Add_K (lim a 2) (lim b 2) x6.2 (fun x7=>rdQ 1 b4 ((true=true)/\rdQ 1 b1 (rdQ 1 b2 (limb_Add_K (lim a 3) (lim b 3) x7.2 (fun x8=>rdQ 1 b4 ((false=false)/\((x8.2 !=(0:Int))=true->rdQ 4 b3 (rdQ 4 b3 (huge_chainAdd_Q a b (Value.tuple #[.agg #[uu 0,uu 0,uu 0,uu 0], .int .i64 2]))))/\((x8.2 !=(0:Int))=false->rdQ 4 b4 (rdQ 4 b3 (rdQ 4 b3 (huge_chainAdd_Q a b (Value.tuple #[.agg #[uu x5.1,uu x6.1,uu x7.1,uu x8.1], .int .i64 0])))))))))))))))))))))):=by kernel_rfl
set_option maxRecDepth 100000 in
theorem huge_chainAdd (a b:Int) (r_a:R4 a) (r_b:R4 b):huge_chainAdd_A a b (fun za zh zv zu zp=>CallT Try.prog 44 za zh (Int×Int) zv zu zp):=by
  refine call_of (c:=bodyOf Try.f44) (n:=33) (fn:=Try.f44) Try.mixed Try.func44 (by kernel_rfl) (by kernel_rfl) (by kernel_rfl) 2000 _ [.rd 2, .rd 2, .rd 2, .rd 2] [] rfl rfl (Eq.mpr (huge_chainAdd_vc a b) ?_)
  intro b1
  intro b2
  intro b3
  intro b4
  refine ⟨rfl,rdQ_mk 1 _ (rdQ_mk 1 _ (limb_Add_m (lim a 0) (lim b 0) (0:Int) (fun x5 h1=> ?_)))⟩
  have wh1:=h1.s
  refine rdQ_mk 1 _ ⟨rfl,rdQ_mk 1 _ (rdQ_mk 1 _ (limb_Add_m (lim a 1) (lim b 1) x5.2 (fun x6 h2=> ?_)))⟩
  have wh2:=h2.s
  refine rdQ_mk 1 _ ⟨rfl,rdQ_mk 1 _ (rdQ_mk 1 _ (limb_Add_m (lim a 2) (lim b 2) x6.2 (fun x7 h3=> ?_)))⟩
  have wh3:=h3.s
  refine rdQ_mk 1 _ ⟨rfl,rdQ_mk 1 _ (rdQ_mk 1 _ (limb_Add_m (lim a 3) (lim b 3) x7.2 (fun x8 h4=> ?_)))⟩
  have wh4:=h4.s
  refine rdQ_mk 1 _ ⟨rfl,⟨fun h5=> ?_,fun h5=> ?_⟩⟩
  · exact rdQ_mk 4 _ (rdQ_mk 4 _ (fin2 (chain_add_ov (by assumption) (by assumption) (by assumption) (by assumption) ‹_›) R4_zero vI_zero))
  exact rdQ_mk 4 _ (rdQ_mk 4 _ (rdQ_mk 4 _ (fin2 (chain_add_ok (by assumption) (by assumption) (by assumption) (by assumption) ‹_›) (R4_num4 (by assumption) (by assumption) (by assumption) (by assumption)) (vI_num4 (by assumption) (by assumption) (by assumption) (by assumption)))))
abbrev huge_chainAdd_K (a b:Int) (KK:(Int×Int)->Prop):Prop:=huge_chainAdd_A a b (fun za zh zv zu zp=>callQr Try.prog 44 za zh (Int×Int) zv zp KK)
theorem huge_chainAdd_m (a b:Int) {KK:(Int×Int)->Prop} (kont: ∀zx:Int×Int,R4 zx.1->(zx=hAdd a b)->KK zx) (r_a:R4 a:=by assumption) (r_b:R4 b:=by assumption):huge_chainAdd_K a b KK:=callQr_mk (huge_chainAdd a b r_a r_b) (⟨hAdd (num (vI a)) (num (vI b)),hAdd_R (R4_num _) (R4_num _),rfl⟩) fun zx hz=>by
  obtain ⟨rhz_1,hz⟩:=hz
  try simp only [num_vI (n:=a) r_a,num_vI (n:=b) r_b] at hz
  exact kont zx rhz_1 hz
def huge_chainSub_C:List Value->List Slot->Ctr:=fun vs hs=>⟨Int×Int,fun zx=> .tuple #[vI zx.1, .int .i64 zx.2],fun _=>hs,fun zx=>R4 zx.1/\zx=hSub (num (varg vs 1)) (num (varg vs 2))⟩
abbrev huge_chainSub_Q (a b:Int) (zv:Value) :Prop:= ∃zx:Int×Int,(R4 zx.1/\zx=hSub (num (vI a)) (num (vI b)))/\zv= .tuple #[vI zx.1, .int .i64 zx.2]/\True
abbrev huge_chainSub_A (a b:Int) (zF:SF (Int×Int)):Prop:=zF #[vI a,vI b, .func (.func 49) #[] #[]] [] (fun zx=> .tuple #[vI zx.1, .int .i64 zx.2]) (fun zx=> []) (fun zx=>(R4 zx.1/\zx=hSub (num (vI a)) (num (vI b))))
set_option maxRecDepth 100000 in
theorem huge_chainSub_vc (a b:Int):huge_chainSub_A a b (fun za zh zv zu zp=>codeW Try.prog 33 none 2000 none (bodyOf Try.f44) (.reg [.sem [.nw 0], .sem [.nw 1], .sem [.nw 2],S0] (.reg [.sem [.nw 3]] (.reg [S0] (.reg [S0] (.reg [S0] (.condT (.reg [S0,S0] (.reg [S0,S0,S0,S0, .sem [.rd 0],S0,S0, .sem [.rd 1],S0, .callr [] limb_Sub_C,S0,S0,S0,S0, .sem [.wr 3],S0] (.reg [S0,S0] (.reg [S0] (.condT (.reg [S0,S0] (.reg [S0,S0,S0,S0, .sem [.rd 0],S0,S0, .sem [.rd 1],S0, .callr [] limb_Sub_C,S0,S0,S0,S0, .sem [.wr 3],S0] (.reg [S0,S0] (.reg [S0] (.condT (.reg [S0,S0] (.reg [S0,S0,S0,S0, .sem [.rd 0],S0,S0, .sem [.rd 1],S0, .callr [] limb_Sub_C,S0,S0,S0,S0, .sem [.wr 3],S0] (.reg [S0,S0] (.reg [S0] (.condT (.reg [S0,S0] (.reg [S0,S0,S0,S0, .sem [.rd 0],S0,S0, .sem [.rd 1],S0, .callr [] limb_Sub_C,S0,S0,S0,S0, .sem [.wr 3],S0] (.reg [S0,S0] (.reg [S0] (.condF (.reg [S0,S0] (.cond (.reg [S0, .sem (wrs 4 2),S0] (.done)) (.reg [.sem (rds 4 3), .sem (wrs 4 2),S0] (.done))))))))))))))))))))))))))))))
    (init za zh) (finW Try.prog Try.f44 [.rd 2, .rd 2, .rd 2, .rd 2] [] (X:=Int×Int) zv zu zp))=
    (∀b1:Nat,∀b2:Nat,∀b3:Nat,∀b4:Nat,(true=true)/\rdQ 1 b1 (rdQ 1 b2 (limb_Sub_K (lim a 0) (lim b 0) (0:Int) (fun x5=>rdQ 1 b4 ((true=true)/\rdQ 1 b1 (rdQ 1 b2 (limb_Sub_K (lim a 1) (lim b 1) x5.2 (fun x6=>rdQ 1 b4 ((true=true)/\rdQ 1 b1 (rdQ 1 b2 (limb_Sub_K (lim a 2) (lim b 2) x6.2 (fun x7=>rdQ 1 b4 ((true=true)/\rdQ 1 b1 (rdQ 1 b2 (limb_Sub_K (lim a 3) (lim b 3) x7.2 (fun x8=>rdQ 1 b4 ((false=false)/\((x8.2 !=(0:Int))=true->rdQ 4 b3 (rdQ 4 b3 (huge_chainSub_Q a b (Value.tuple #[.agg #[uu 0,uu 0,uu 0,uu 0], .int .i64 2]))))/\((x8.2 !=(0:Int))=false->rdQ 4 b4 (rdQ 4 b3 (rdQ 4 b3 (huge_chainSub_Q a b (Value.tuple #[.agg #[uu x5.1,uu x6.1,uu x7.1,uu x8.1], .int .i64 0])))))))))))))))))))))):=by kernel_rfl
set_option maxRecDepth 100000 in
theorem huge_chainSub (a b:Int) (r_a:R4 a) (r_b:R4 b):huge_chainSub_A a b (fun za zh zv zu zp=>CallT Try.prog 44 za zh (Int×Int) zv zu zp):=by
  refine call_of (c:=bodyOf Try.f44) (n:=33) (fn:=Try.f44) Try.mixed Try.func44 (by kernel_rfl) (by kernel_rfl) (by kernel_rfl) 2000 _ [.rd 2, .rd 2, .rd 2, .rd 2] [] rfl rfl (Eq.mpr (huge_chainSub_vc a b) ?_)
  intro b1
  intro b2
  intro b3
  intro b4
  refine ⟨rfl,rdQ_mk 1 _ (rdQ_mk 1 _ (limb_Sub_m (lim a 0) (lim b 0) (0:Int) (fun x5 h1=> ?_)))⟩
  have wh1:=h1.s
  refine rdQ_mk 1 _ ⟨rfl,rdQ_mk 1 _ (rdQ_mk 1 _ (limb_Sub_m (lim a 1) (lim b 1) x5.2 (fun x6 h2=> ?_)))⟩
  have wh2:=h2.s
  refine rdQ_mk 1 _ ⟨rfl,rdQ_mk 1 _ (rdQ_mk 1 _ (limb_Sub_m (lim a 2) (lim b 2) x6.2 (fun x7 h3=> ?_)))⟩
  have wh3:=h3.s
  refine rdQ_mk 1 _ ⟨rfl,rdQ_mk 1 _ (rdQ_mk 1 _ (limb_Sub_m (lim a 3) (lim b 3) x7.2 (fun x8 h4=> ?_)))⟩
  have wh4:=h4.s
  refine rdQ_mk 1 _ ⟨rfl,⟨fun h5=> ?_,fun h5=> ?_⟩⟩
  · exact rdQ_mk 4 _ (rdQ_mk 4 _ (fin2 (chain_sub_ov (by assumption) (by assumption) (by assumption) (by assumption) ‹_›) R4_zero vI_zero))
  exact rdQ_mk 4 _ (rdQ_mk 4 _ (rdQ_mk 4 _ (fin2 (chain_sub_ok (by assumption) (by assumption) (by assumption) (by assumption) ‹_›) (R4_num4 (by assumption) (by assumption) (by assumption) (by assumption)) (vI_num4 (by assumption) (by assumption) (by assumption) (by assumption)))))
abbrev huge_chainSub_K (a b:Int) (KK:(Int×Int)->Prop):Prop:=huge_chainSub_A a b (fun za zh zv zu zp=>callQr Try.prog 44 za zh (Int×Int) zv zp KK)
theorem huge_chainSub_m (a b:Int) {KK:(Int×Int)->Prop} (kont: ∀zx:Int×Int,R4 zx.1->(zx=hSub a b)->KK zx) (r_a:R4 a:=by assumption) (r_b:R4 b:=by assumption):huge_chainSub_K a b KK:=callQr_mk (huge_chainSub a b r_a r_b) (⟨hSub (num (vI a)) (num (vI b)),hSub_R (R4_num _) (R4_num _),rfl⟩) fun zx hz=>by
  obtain ⟨rhz_1,hz⟩:=hz
  try simp only [num_vI (n:=a) r_a,num_vI (n:=b) r_b] at hz
  exact kont zx rhz_1 hz
def huge_Add_C:List Value->List Slot->Ctr:=fun vs hs=>⟨Int×Int,fun zx=> .tuple #[vI zx.1, .int .i64 zx.2],fun _=>hs,fun zx=>R4 zx.1/\zx=hAdd (num (varg vs 1)) (num (varg vs 2))⟩
abbrev huge_Add_Q (a b:Int) (zv:Value) :Prop:= ∃zx:Int×Int,(R4 zx.1/\zx=hAdd (num (vI a)) (num (vI b)))/\zv= .tuple #[vI zx.1, .int .i64 zx.2]/\True
abbrev huge_Add_A (a b:Int) (zF:SF (Int×Int)):Prop:=zF #[vI a,vI b] [] (fun zx=> .tuple #[vI zx.1, .int .i64 zx.2]) (fun zx=> []) (fun zx=>(R4 zx.1/\zx=hAdd (num (vI a)) (num (vI b))))
set_option maxRecDepth 100000 in
theorem huge_Add_vc (a b:Int):huge_Add_A a b (fun za zh zv zu zp=>codeW Try.prog 11 none 2000 none (bodyOf Try.f22) (.reg [.sem [.nw 0], .sem [.nw 1], .sem [.nw 2],S0] (.reg [.sem (rds 4 0), .sem (rds 4 1), .callr [] huge_chainAdd_C,S0,S0, .sem (wrs 4 2),S0] (.done)))
    (init za zh) (finW Try.prog Try.f22 [.rd 2, .rd 2, .rd 2, .rd 2] [] (X:=Int×Int) zv zu zp))=
    (∀b1:Nat,∀b2:Nat,∀b3:Nat,rdQ 4 b1 (rdQ 4 b2 (huge_chainAdd_K a b (fun x4=>rdQ 4 b3 (rdQ 4 b3 (huge_Add_Q a b (Value.tuple #[vI x4.1, .int .i64 x4.2]))))))):=by kernel_rfl
set_option maxRecDepth 100000 in
theorem huge_Add (a b:Int) (r_a:R4 a) (r_b:R4 b):huge_Add_A a b (fun za zh zv zu zp=>CallT Try.prog 22 za zh (Int×Int) zv zu zp):=by
  refine call_of (c:=bodyOf Try.f22) (n:=11) (fn:=Try.f22) Try.mixed Try.func22 (by kernel_rfl) (by kernel_rfl) (by kernel_rfl) 2000 _ [.rd 2, .rd 2, .rd 2, .rd 2] [] rfl rfl (Eq.mpr (huge_Add_vc a b) ?_)
  intro b1
  intro b2
  intro b3
  exact rdQ_mk 4 _ (rdQ_mk 4 _ (huge_chainAdd_m a b (fun x4 rh1_1 h1=>rdQ_mk 4 _ (rdQ_mk 4 _ ⟨_,⟨rh1_1,by rw [num_vI r_a,num_vI r_b];exact h1⟩,rfl,trivial⟩))))
abbrev huge_Add_K (a b:Int) (KK:(Int×Int)->Prop):Prop:=huge_Add_A a b (fun za zh zv zu zp=>callQr Try.prog 22 za zh (Int×Int) zv zp KK)
theorem huge_Add_m (a b:Int) {KK:(Int×Int)->Prop} (kont: ∀zx:Int×Int,R4 zx.1->(zx=hAdd a b)->KK zx) (r_a:R4 a:=by assumption) (r_b:R4 b:=by assumption):huge_Add_K a b KK:=callQr_mk (huge_Add a b r_a r_b) (⟨hAdd (num (vI a)) (num (vI b)),hAdd_R (R4_num _) (R4_num _),rfl⟩) fun zx hz=>by
  obtain ⟨rhz_1,hz⟩:=hz
  try simp only [num_vI (n:=a) r_a,num_vI (n:=b) r_b] at hz
  exact kont zx rhz_1 hz
def huge_Sub_C:List Value->List Slot->Ctr:=fun vs hs=>⟨Int×Int,fun zx=> .tuple #[vI zx.1, .int .i64 zx.2],fun _=>hs,fun zx=>R4 zx.1/\zx=hSub (num (varg vs 1)) (num (varg vs 2))⟩
abbrev huge_Sub_Q (a b:Int) (zv:Value) :Prop:= ∃zx:Int×Int,(R4 zx.1/\zx=hSub (num (vI a)) (num (vI b)))/\zv= .tuple #[vI zx.1, .int .i64 zx.2]/\True
abbrev huge_Sub_A (a b:Int) (zF:SF (Int×Int)):Prop:=zF #[vI a,vI b] [] (fun zx=> .tuple #[vI zx.1, .int .i64 zx.2]) (fun zx=> []) (fun zx=>(R4 zx.1/\zx=hSub (num (vI a)) (num (vI b))))
set_option maxRecDepth 100000 in
theorem huge_Sub_vc (a b:Int):huge_Sub_A a b (fun za zh zv zu zp=>codeW Try.prog 11 none 2000 none (bodyOf Try.f25) (.reg [.sem [.nw 0], .sem [.nw 1], .sem [.nw 2],S0] (.reg [.sem (rds 4 0), .sem (rds 4 1), .callr [] huge_chainSub_C,S0,S0, .sem (wrs 4 2),S0] (.done)))
    (init za zh) (finW Try.prog Try.f25 [.rd 2, .rd 2, .rd 2, .rd 2] [] (X:=Int×Int) zv zu zp))=
    (∀b1:Nat,∀b2:Nat,∀b3:Nat,rdQ 4 b1 (rdQ 4 b2 (huge_chainSub_K a b (fun x4=>rdQ 4 b3 (rdQ 4 b3 (huge_Sub_Q a b (Value.tuple #[vI x4.1, .int .i64 x4.2]))))))):=by kernel_rfl
set_option maxRecDepth 100000 in
theorem huge_Sub (a b:Int) (r_a:R4 a) (r_b:R4 b):huge_Sub_A a b (fun za zh zv zu zp=>CallT Try.prog 25 za zh (Int×Int) zv zu zp):=by
  refine call_of (c:=bodyOf Try.f25) (n:=11) (fn:=Try.f25) Try.mixed Try.func25 (by kernel_rfl) (by kernel_rfl) (by kernel_rfl) 2000 _ [.rd 2, .rd 2, .rd 2, .rd 2] [] rfl rfl (Eq.mpr (huge_Sub_vc a b) ?_)
  intro b1
  intro b2
  intro b3
  exact rdQ_mk 4 _ (rdQ_mk 4 _ (huge_chainSub_m a b (fun x4 rh1_1 h1=>rdQ_mk 4 _ (rdQ_mk 4 _ ⟨_,⟨rh1_1,by rw [num_vI r_a,num_vI r_b];exact h1⟩,rfl,trivial⟩))))
abbrev huge_Sub_K (a b:Int) (KK:(Int×Int)->Prop):Prop:=huge_Sub_A a b (fun za zh zv zu zp=>callQr Try.prog 25 za zh (Int×Int) zv zp KK)
theorem huge_Sub_m (a b:Int) {KK:(Int×Int)->Prop} (kont: ∀zx:Int×Int,R4 zx.1->(zx=hSub a b)->KK zx) (r_a:R4 a:=by assumption) (r_b:R4 b:=by assumption):huge_Sub_K a b KK:=callQr_mk (huge_Sub a b r_a r_b) (⟨hSub (num (vI a)) (num (vI b)),hSub_R (R4_num _) (R4_num _),rfl⟩) fun zx hz=>by
  obtain ⟨rhz_1,hz⟩:=hz
  try simp only [num_vI (n:=a) r_a,num_vI (n:=b) r_b] at hz
  exact kont zx rhz_1 hz
theorem Try.sl86:SlT Try.prog 86 3 (.int .i64 0):=SlT.of (by kernel_rfl) (by kernel_rfl) (by kernel_rfl) (by kernel_rfl) rfl
theorem Try.agg3: ∀w,(isAgg 3).run Try.prog w= .ok false w:=fun w=>by kernel_rfl
def ref1_at_C:List Value->List Slot->Ctr:=fun vs hs=>⟨Int,fun zx=> .int .i64 zx,fun _=>hs,fun zx=>zx=dgt (rdv (varg vs 1) (sarg hs 0)) (ci (varg vs 2)).toNat⟩
abbrev ref1_at_Q (a:Row) (i:Int) (zv:Value) (zs0:Slot):Prop:= ∃zx:Int,(zx=dgt (rdv (sv a) (ss 3 a)) i.toNat)/\zv= .int .i64 zx/\zs0=(ss 3 a)/\True
abbrev ref1_at_A (a:Row) (i:Int) (zF:SF Int):Prop:=zF #[sv a, .int .i64 i] [(ss 3 a)] (fun zx=> .int .i64 zx) (fun zx=> [(ss 3 a)]) (fun zx=>(zx=dgt (rdv (sv a) (ss 3 a)) i.toNat))
set_option maxRecDepth 100000 in
theorem ref1_at_vc (a:Row) (i:Int):ref1_at_A a i (fun za zh zv zu zp=>codeW Try.prog 13 none 2000 none (bodyOf Try.f65) (.reg [S0] (.reg [S0,S0, .eq (f_len),S0] (.cond (.reg [S0,S0, .eq (f_idx), .specr [0] F_get,S0] (.done)) (.reg [S0] (.done)))))
    (init za zh) (finW Try.prog Try.f65 [] [0] (X:=Int) zv zu zp))=
    ((PureRun Try.prog (vS (Builtin.len_ #[86] 3 #[sv a])) (.int .i64 ((vlen (sv a):Nat):Int)))/\((decide (i<((vlen (sv a):Nat):Int)))=true->(PureRun Try.prog (vS (Instr.indexAt 86 (sv a) (.int .i64 i))) (.pointer (some ⟨(vblk (sv a)),(Int.toNat i),none⟩)))/\opQr Try.prog (vS (Instr.loadAt 3 (.pointer (some ⟨(vblk (sv a)),(Int.toNat i),none⟩)))) [(ss 3 a)] Int (fun zx=> .int .i64 zx) (fun zx=>(scells (ss 3 a))[(Int.toNat i)]? =some (.int .i64 zx)) (fun x1=>ref1_at_Q a i (Value.int .i64 x1) (ss 3 a)))/\((decide (i<((vlen (sv a):Nat):Int)))=false->ref1_at_Q a i (Value.int .i64 0) (ss 3 a))):=by kernel_rfl
set_option maxRecDepth 100000 in
theorem ref1_at (a:Row) (i:Int) (r_a:RowOK a) (hi:0<=i):ref1_at_A a i (fun za zh zv zu zp=>CallT Try.prog 65 za zh Int zv zu zp):=by
  refine call_of (c:=bodyOf Try.f65) (n:=13) (fn:=Try.f65) Try.mixed Try.func65 (by kernel_rfl) (by kernel_rfl) (by kernel_rfl) 2000 _ [] [0] rfl rfl (Eq.mpr (ref1_at_vc a i) ?_)
  have d_a:=rdv_eq a 3
  have e_a:=vlen_dg a
  refine ⟨xlen Try.sl86 3 a,⟨fun h1=> ?_,fun h1=> ?_⟩⟩
  · refine ⟨xidx Try.sl86 a .i64 i hi (by rw [←vlen_sv];exact of_decide_eq_true (by assumption)),opQr_mk (xgetR (e:=3) a 3 Try.agg3 (Int.toNat i) r_a (by rw [←vlen_dg];have:=of_decide_eq_true ‹_›;omega)) (wit_get (e:=3) a (Int.toNat i) r_a (by rw [←vlen_dg];have:=of_decide_eq_true ‹_›;omega)) fun x1 h2=> ?_⟩
    replace h2:=getR (e:=3) a (Int.toNat i) r_a (by rw [←vlen_dg];have:=of_decide_eq_true ‹_›;omega) h2
    exact ⟨_,by rw [d_a];assumption,rfl,rfl,trivial⟩
  exact ⟨0,by rw [d_a];exact (dgt_out (by have:=of_decide_eq_false ‹_›;omega)).symm,rfl,rfl,trivial⟩
abbrev ref1_at_K (a:Row) (i:Int) (KK:Int->Prop):Prop:=ref1_at_A a i (fun za zh zv zu zp=>callQr Try.prog 65 za zh Int zv zp KK)
theorem ref1_at_m (a:Row) (i:Int) {KK:Int->Prop} (kont: ∀zx:Int,(zx=dgt (dg a) i.toNat)->KK zx) (r_a:RowOK a:=by first | assumption | exact rowOK_lit _ _ (by decide)) (hi:0<=i:=by omega):ref1_at_K a i KK:=callQr_mk (ref1_at a i r_a hi) (⟨_,rfl⟩) fun zx hz=>by
  simp only [rdv_eq] at hz
  exact kont zx hz
def ref1_Trim_C:List Value->List Slot->Ctr:=fun vs hs=>⟨Row,fun zx=>sv zx,fun zx=> [(ss 3 zx)],fun zx=>RowOK zx/\ss 3 zx=(sarg hs 0)/\TrimR (rdv (varg vs 1) (sarg hs 0)) (dg zx)⟩
abbrev ref1_Trim_Q (a:Row) (zv:Value) (zs0:Slot):Prop:= ∃zx:Row,(RowOK zx/\ss 3 zx=(ss 3 a)/\TrimR (rdv (sv a) (ss 3 a)) (dg zx))/\zv=sv zx/\zs0=(ss 3 zx)/\True
abbrev ref1_Trim_A (a:Row) (zF:SF Row):Prop:=zF #[sv a] [(ss 3 a)] (fun zx=>sv zx) (fun zx=> [(ss 3 zx)]) (fun zx=>(RowOK zx/\ss 3 zx=(ss 3 a)/\TrimR (rdv (sv a) (ss 3 a)) (dg zx)))
set_option maxRecDepth 100000 in
theorem ref1_Trim_vc (a:Row):ref1_Trim_A a (fun za zh zv zu zp=>codeW Try.prog 21 none 2000 none (bodyOf Try.f66) (.reg [S0] (.reg [S0, .eq (f_len),S0] (.inv Nat (fun zx=> [(0,sv a),(3, .int .i64 ((zx:Nat):Int))]) (fun zx=> [(0,(ss 3 a))]) (fun zx=>TrimI (dg a) zx) (fun zx=>zx) (fun x1=> .caseP (fun s=>decide ((ci (s.fr 3))>(0:Int))) (.reg [S0, .gen [] (Sx.one (.bool true)),S0,S0,S0, .gen [] (fun vs=>Sx.one (.int .i64 (ci (varg vs 0) - ci (varg vs 1))) vs), .eq (f_idx), .specr [0] F_get,S0,S0] (.cond (.reg [S0, .gen [] (fun vs=>Sx.one (.int .i64 (ci (varg vs 0) - ci (varg vs 1))) vs),S0] (.done)) (.reg [S0,S0, .eq (f_take),S0] (.done)))) (.reg [S0, .gen [] (Sx.one (.bool false)),S0, .no, .no, .no, .no, .no, .no,S0] (.condF (.reg [S0,S0, .eq (f_take),S0] (.done))))))))
    (init za zh) (finW Try.prog Try.f66 [] [0] (X:=Row) zv zu zp))=
    ((PureRun Try.prog (vS (Builtin.len_ #[86] 3 #[sv a])) (.int .i64 ((vlen (sv a):Nat):Int)))/\(∃zx:Nat,(TrimI (dg a) zx)/\sv a=sv a/\Value.int .i64 ((vlen (sv a):Nat):Int)= .int .i64 ((zx:Nat):Int)/\(ss 3 a)=(ss 3 a)/\True)/\ ∀x1:Nat,∀jx1:Nat->Value,(TrimI (dg a) x1)->((decide (((x1:Nat):Int)>(0:Int)))=true->(∃_:Unit,True/\Value.bool (decide (((x1:Nat):Int)>(0:Int)))= .bool true)/\ ∀_:Unit,(True)->true=true/\true=true/\true=true/\(∃_:Unit,True/\Value.int .i64 (IntKind.i64.wrap (((x1:Nat):Int) - 1))= .int .i64 (((x1:Nat):Int) - 1))/\ ∀_:Unit,(True)->true=true/\(PureRun Try.prog (vS (Instr.indexAt 86 (sv a) (.int .i64 (((x1:Nat):Int) - 1)))) (.pointer (some ⟨(vblk (sv a)),(Int.toNat (((x1:Nat):Int) - 1)),none⟩)))/\true=true/\opQr Try.prog (vS (Instr.loadAt 3 (.pointer (some ⟨(vblk (sv a)),(Int.toNat (((x1:Nat):Int) - 1)),none⟩)))) [(ss 3 a)] Int (fun zx=> .int .i64 zx) (fun zx=>(scells (ss 3 a))[(Int.toNat (((x1:Nat):Int) - 1))]? =some (.int .i64 zx)) (fun x2=>true=true/\((x2==(0:Int))=true->(∃_:Unit,True/\Value.int .i64 (IntKind.i64.wrap (((x1:Nat):Int) - 1))= .int .i64 (((x1:Nat):Int) - 1))/\ ∀_:Unit,(True)-> ∃zy:Nat,(TrimI (dg a) zy)/\zy<x1/\sv a=sv a/\Value.int .i64 (((x1:Nat):Int) - 1)= .int .i64 ((zy:Nat):Int)/\(ss 3 a)=(ss 3 a)/\True)/\((x2==(0:Int))=false->(PureRun Try.prog (vS (Instr.sliceAt 86 (sv a) none (some (.int .i64 ((x1:Nat):Int))) none)) ((vtake (sv a) (Int.toNat ((x1:Nat):Int)))))/\ref1_Trim_Q a ((vtake (sv a) (Int.toNat ((x1:Nat):Int)))) (ss 3 a))))/\((decide (((x1:Nat):Int)>(0:Int)))=false->(∃_:Unit,True/\Value.bool (decide (((x1:Nat):Int)>(0:Int)))= .bool false)/\ ∀_:Unit,(True)->false= !true/\false= !true/\false= !true/\false= !true/\false= !true/\false= !true/\(false=false)/\(PureRun Try.prog (vS (Instr.sliceAt 86 (sv a) none (some (.int .i64 ((x1:Nat):Int))) none)) ((vtake (sv a) (Int.toNat ((x1:Nat):Int)))))/\ref1_Trim_Q a ((vtake (sv a) (Int.toNat ((x1:Nat):Int)))) (ss 3 a))):=by kernel_rfl
set_option maxRecDepth 100000 in
theorem ref1_Trim (a : Row) (r_a : RowOK a) (hl : (dg a).length <= 1073741824) : ref1_Trim_A a (fun za zh zv zu zp => CallT Try.prog 66 za zh Row zv zu zp) := by
  refine call_of (c:=bodyOf Try.f66) (n:=21) (fn:=Try.f66) Try.mixed Try.func66 (by kernel_rfl) (by kernel_rfl) (by kernel_rfl) 2000 _ [] [0] rfl rfl (Eq.mpr (ref1_Trim_vc a) ?_)
  have d_a:=rdv_eq a 3
  have e_a:=vlen_dg a
  refine ⟨xlen Try.sl86 3 a,⟨?_,fun x1 jx1 h1=> ?_⟩⟩
  · exact ⟨_,e_a▸trim_start _,rfl,rfl,rfl,trivial⟩
  have L:=h1
  have Ll:=L.le
  refine ⟨fun h2=> ?_,fun h2=> ?_⟩
  · refine ⟨⟨(),trivial,congrArg Value.bool h2⟩,fun _=>fun _=>⟨rfl,rfl,rfl,⟨(),trivial,congrArg (Value.int .i64) (wrap_i64 _ (by simp only [decide_eq_true_eq,decide_eq_false_iff_not,gt_iff_lt,ge_iff_le,beq_iff_eq,beq_eq_false_iff_ne] at *;omega) (by simp only [decide_eq_true_eq,decide_eq_false_iff_not,gt_iff_lt,ge_iff_le,beq_iff_eq,beq_eq_false_iff_ne] at *;omega))⟩,fun _=>fun _=>⟨rfl,xidx Try.sl86 a .i64 (((x1:Nat):Int) - 1) (by simp only [decide_eq_true_eq,decide_eq_false_iff_not,gt_iff_lt,ge_iff_le,beq_iff_eq,beq_eq_false_iff_ne] at *;omega) (by rw [←dg_len];simp only [decide_eq_true_eq,decide_eq_false_iff_not,gt_iff_lt,ge_iff_le,beq_iff_eq,beq_eq_false_iff_ne] at *;omega),rfl,opQr_mk (xgetR (e:=3) a 3 Try.agg3 (Int.toNat (((x1:Nat):Int) - 1)) r_a (by simp only [decide_eq_true_eq,decide_eq_false_iff_not,gt_iff_lt,ge_iff_le,beq_iff_eq,beq_eq_false_iff_ne] at *;omega)) (wit_get (e:=3) a (Int.toNat (((x1:Nat):Int) - 1)) r_a (by simp only [decide_eq_true_eq,decide_eq_false_iff_not,gt_iff_lt,ge_iff_le,beq_iff_eq,beq_eq_false_iff_ne] at *;omega)) fun x2 h3=> ?_⟩⟩⟩
    replace h3:=getR (e:=3) a (Int.toNat (((x1:Nat):Int) - 1)) r_a (by simp only [decide_eq_true_eq,decide_eq_false_iff_not,gt_iff_lt,ge_iff_le,beq_iff_eq,beq_eq_false_iff_ne] at *;omega) h3
    refine ⟨rfl,⟨fun h4=> ?_,fun h4=> ?_⟩⟩
    · refine ⟨⟨(),trivial,congrArg (Value.int .i64) (wrap_i64 _ (by simp only [decide_eq_true_eq,decide_eq_false_iff_not,gt_iff_lt,ge_iff_le,beq_iff_eq,beq_eq_false_iff_ne] at *;omega) (by simp only [decide_eq_true_eq,decide_eq_false_iff_not,gt_iff_lt,ge_iff_le,beq_iff_eq,beq_eq_false_iff_ne] at *;omega))⟩,fun _=>fun _=> ?_⟩
      have hd:dgt (dg a) (x1 - 1)=0:=by
        simp only [decide_eq_true_eq,decide_eq_false_iff_not,gt_iff_lt,ge_iff_le,beq_iff_eq,beq_eq_false_iff_ne] at *
        have e1:Int.toNat (((x1:Nat):Int) - 1)=x1 - 1:=by omega
        simp_all
      exact ⟨x1 - 1,trim_step L (by simp only [decide_eq_true_eq,decide_eq_false_iff_not,gt_iff_lt,ge_iff_le,beq_iff_eq,beq_eq_false_iff_ne] at *;omega) hd,(by simp only [decide_eq_true_eq,decide_eq_false_iff_not,gt_iff_lt,ge_iff_le,beq_iff_eq,beq_eq_false_iff_ne] at *;omega),rfl,congrArg (Value.int .i64) (by simp only [decide_eq_true_eq,decide_eq_false_iff_not,gt_iff_lt,ge_iff_le,beq_iff_eq,beq_eq_false_iff_ne] at *;omega),rfl,trivial⟩
    refine ⟨xtake Try.sl86 a .i64 ((x1:Nat):Int) (by omega) (by rw [←dg_len];omega),⟨a.take x1,⟨(r_a.take _).1,ss_take _ _ _,?_⟩,vtake_sv a _ (by rw [←dg_len];exact L.le),(ss_take _ _ _).symm,trivial⟩⟩
    rw [d_a,(r_a.take _).2]
    refine trim_end L ?_
    simp only [decide_eq_true_eq,decide_eq_false_iff_not,gt_iff_lt,ge_iff_le,beq_iff_eq,beq_eq_false_iff_ne] at *
    first | exact .inl (by omega) | exact .inr (by rename_i hne;intro h0;simp_all) | exact .inr (by intro h0;simp_all)
  refine ⟨⟨(),trivial,congrArg Value.bool h2⟩,fun _=>fun _=>⟨rfl,rfl,rfl,rfl,rfl,rfl,⟨rfl,⟨xtake Try.sl86 a .i64 ((x1:Nat):Int) (by omega) (by rw [←dg_len];omega),⟨a.take x1,⟨(r_a.take _).1,ss_take _ _ _,?_⟩,vtake_sv a _ (by rw [←dg_len];exact L.le),(ss_take _ _ _).symm,trivial⟩⟩⟩⟩⟩
  rw [d_a,(r_a.take _).2]
  refine trim_end L ?_
  simp only [decide_eq_true_eq,decide_eq_false_iff_not,gt_iff_lt,ge_iff_le,beq_iff_eq,beq_eq_false_iff_ne] at *
  first | exact .inl (by omega) | exact .inr (by rename_i hne;intro h0;simp_all) | exact .inr (by intro h0;simp_all)
abbrev ref1_Trim_K (a:Row) (KK:Row->Prop):Prop:=ref1_Trim_A a (fun za zh zv zu zp=>callQ Try.prog 66 za zh Row zv zu zp KK)
theorem ref1_Trim_m (a:Row) {KK:Row->Prop} (kont: ∀zx:Row,RowOK zx->(ss 3 zx=(ss 3 a)/\TrimR (dg a) (dg zx))->KK zx) (r_a:RowOK a:=by first | assumption | exact rowOK_lit _ _ (by decide)) (hl:(dg a).length<=1073741824:=by omega):ref1_Trim_K a KK:=callQ_mk (ref1_Trim a r_a hl) (wit_trim a (r_a)) fun zx hz=>by
  simp only [rdv_eq] at hz
  obtain ⟨rhz_,hz⟩:=hz
  exact kont zx rhz_ hz
def ref1_Cmp_C:List Value->List Slot->Ctr:=fun vs hs=>⟨Int,fun zx=> .int .i64 zx,fun _=>hs,fun zx=>zx=hCmp (nv (rdv (varg vs 1) (sarg hs 0))) (nv (rdv (varg vs 2) (sarg hs 1)))⟩
abbrev ref1_Cmp_Q (a b:Row) (zv:Value) (zs0:Slot) (zs1:Slot):Prop:= ∃zx:Int,(zx=hCmp (nv (rdv (sv a) (ss 3 a))) (nv (rdv (sv b) (ss 3 b))))/\zv= .int .i64 zx/\zs0=(ss 3 a)/\zs1=(ss 3 b)/\True
abbrev ref1_Cmp_A (a b:Row) (zF:SF Int):Prop:=zF #[sv a,sv b] [(ss 3 a),(ss 3 b)] (fun zx=> .int .i64 zx) (fun zx=> [(ss 3 a),(ss 3 b)]) (fun zx=>(zx=hCmp (nv (rdv (sv a) (ss 3 a))) (nv (rdv (sv b) (ss 3 b)))))
set_option maxRecDepth 100000 in
theorem ref1_Cmp_vc (a b:Row):ref1_Cmp_A a b (fun za zh zv zu zp=>codeW Try.prog 30 none 2000 none (bodyOf Try.f37) (.reg [S0] (.reg [S0, .eq (f_len),S0, .eq (f_len),S0, .gen [] (fun vs=>Sx.one (.int .i64 (ci (varg vs 0) - ci (varg vs 1))) vs),S0] (.inv Nat (fun zx=> [(0,sv a),(1,sv b),(5, .int .i64 (((zx:Nat):Int) - 1))]) (fun zx=> [(0,(ss 3 a)),(1,(ss 3 b))]) (fun zx=>CmpI (dg a) (dg b) zx) (fun zx=>zx) (fun x1=> .reg [S0,S0] (.cond (.reg [S0,S0, .callr [0] ref1_at_C,S0,S0, .callr [1] ref1_at_C,S0] (.cond (.reg [S0] (.done)) (.reg [S0,S0, .callr [0] ref1_at_C,S0,S0, .callr [1] ref1_at_C,S0] (.cond (.reg [S0] (.done)) (.reg [S0, .gen [] (fun vs=>Sx.one (.int .i64 (ci (varg vs 0) - ci (varg vs 1))) vs),S0] (.done)))))) (.reg [S0] (.done)))))))
    (init za zh) (finW Try.prog Try.f37 [] [0,1] (X:=Int) zv zu zp))=
    ((PureRun Try.prog (vS (Builtin.len_ #[86] 3 #[sv a])) (.int .i64 ((vlen (sv a):Nat):Int)))/\(PureRun Try.prog (vS (Builtin.len_ #[86] 3 #[sv b])) (.int .i64 ((vlen (sv b):Nat):Int)))/\(∃_:Unit,True/\Value.int .i64 (IntKind.i64.wrap ((if ((vlen (sv b):Nat):Int)>((vlen (sv a):Nat):Int) then ((vlen (sv b):Nat):Int) else ((vlen (sv a):Nat):Int)) - 1))= .int .i64 ((if ((vlen (sv b):Nat):Int)>((vlen (sv a):Nat):Int) then ((vlen (sv b):Nat):Int) else ((vlen (sv a):Nat):Int)) - 1))/\ ∀_:Unit,(True)->(∃zx:Nat,(CmpI (dg a) (dg b) zx)/\sv a=sv a/\sv b=sv b/\Value.int .i64 ((if ((vlen (sv b):Nat):Int)>((vlen (sv a):Nat):Int) then ((vlen (sv b):Nat):Int) else ((vlen (sv a):Nat):Int)) - 1)= .int .i64 (((zx:Nat):Int) - 1)/\(ss 3 a)=(ss 3 a)/\(ss 3 b)=(ss 3 b)/\True)/\ ∀x1:Nat,∀jx1:Nat->Value,(CmpI (dg a) (dg b) x1)->((decide ((((x1:Nat):Int) - 1)≥(0:Int)))=true->ref1_at_K a (((x1:Nat):Int) - 1) (fun x2=>ref1_at_K b (((x1:Nat):Int) - 1) (fun x3=>((decide (x2<x3))=true->ref1_Cmp_Q a b (Value.int .i64 (-1)) (ss 3 a) (ss 3 b))/\((decide (x2<x3))=false->ref1_at_K a (((x1:Nat):Int) - 1) (fun x4=>ref1_at_K b (((x1:Nat):Int) - 1) (fun x5=>((decide (x4>x5))=true->ref1_Cmp_Q a b (Value.int .i64 1) (ss 3 a) (ss 3 b))/\((decide (x4>x5))=false->(∃_:Unit,True/\Value.int .i64 (IntKind.i64.wrap ((((x1:Nat):Int) - 1) - 1))= .int .i64 ((((x1:Nat):Int) - 1) - 1))/\ ∀_:Unit,(True)-> ∃zy:Nat,(CmpI (dg a) (dg b) zy)/\zy<x1/\sv a=sv a/\sv b=sv b/\Value.int .i64 ((((x1:Nat):Int) - 1) - 1)= .int .i64 (((zy:Nat):Int) - 1)/\(ss 3 a)=(ss 3 a)/\(ss 3 b)=(ss 3 b)/\True)))))))/\((decide ((((x1:Nat):Int) - 1)≥(0:Int)))=false->ref1_Cmp_Q a b (Value.int .i64 0) (ss 3 a) (ss 3 b))):=by kernel_rfl
set_option maxRecDepth 100000 in
theorem ref1_Cmp (a b : Row) (r_a : RowOK a) (r_b : RowOK b) (la : (dg a).length <= 65536) (lb : (dg b).length <= 65536) : ref1_Cmp_A a b (fun za zh zv zu zp => CallT Try.prog 37 za zh Int zv zu zp) := by
  refine call_of (c:=bodyOf Try.f37) (n:=30) (fn:=Try.f37) Try.mixed Try.func37 (by kernel_rfl) (by kernel_rfl) (by kernel_rfl) 2000 _ [] [0,1] rfl rfl (Eq.mpr (ref1_Cmp_vc a b) ?_)
  have d_a:=rdv_eq a 3
  have d_b:=rdv_eq b 3
  have e_a:=vlen_dg a
  have e_b:=vlen_dg b
  refine ⟨xlen Try.sl86 3 a,xlen Try.sl86 3 b,⟨(),trivial,congrArg (Value.int .i64) (wrap_i64 _ (by rw [e_a,e_b];split<;>omega) (by rw [e_a,e_b];split<;>omega))⟩,fun _=>fun _=>⟨?_,fun x1 jx1 h1=> ?_⟩⟩
  · exact ⟨_,cmp_start _ _,rfl,rfl,congrArg (Value.int .i64) (by rw [e_a,e_b];split<;>omega),rfl,rfl,trivial⟩
  have L:=h1
  have Ll:=L.le
  refine ⟨fun h2=> ?_,fun h2=> ?_⟩
  · refine ref1_at_m a (((x1:Nat):Int) - 1) (fun x2 h3=> ?_) (hi:=by simp only [decide_eq_true_eq,decide_eq_false_iff_not,gt_iff_lt,ge_iff_le,beq_iff_eq,beq_eq_false_iff_ne] at *;omega)
    refine ref1_at_m b (((x1:Nat):Int) - 1) (fun x3 h4=> ?_) (hi:=by simp only [decide_eq_true_eq,decide_eq_false_iff_not,gt_iff_lt,ge_iff_le,beq_iff_eq,beq_eq_false_iff_ne] at *;omega)
    refine ⟨fun h5=> ?_,fun h5=> ?_⟩
    · unfold ref1_Cmp_Q
      have et:Int.toNat (((x1:Nat):Int) - 1)=x1 - 1:=by simp only [decide_eq_true_eq,decide_eq_false_iff_not,gt_iff_lt,ge_iff_le,beq_iff_eq,beq_eq_false_iff_ne] at *;omega
      have hd:dgt (dg a) (x1 - 1)<dgt (dg b) (x1 - 1):=by
        simp only [et] at *
        simp only [decide_eq_true_eq,decide_eq_false_iff_not,gt_iff_lt,ge_iff_le,beq_iff_eq,beq_eq_false_iff_ne] at *
        omega
      exact ⟨_,by rw [d_a,d_b];exact hCmp_lt (cmp_lt r_a.dig r_b.dig L (by simp only [decide_eq_true_eq,decide_eq_false_iff_not,gt_iff_lt,ge_iff_le,beq_iff_eq,beq_eq_false_iff_ne] at *;omega) hd),rfl,rfl,rfl,trivial⟩
    refine ref1_at_m a (((x1:Nat):Int) - 1) (fun x4 h6=> ?_) (hi:=by simp only [decide_eq_true_eq,decide_eq_false_iff_not,gt_iff_lt,ge_iff_le,beq_iff_eq,beq_eq_false_iff_ne] at *;omega)
    refine ref1_at_m b (((x1:Nat):Int) - 1) (fun x5 h7=> ?_) (hi:=by simp only [decide_eq_true_eq,decide_eq_false_iff_not,gt_iff_lt,ge_iff_le,beq_iff_eq,beq_eq_false_iff_ne] at *;omega)
    refine ⟨fun h8=> ?_,fun h8=> ?_⟩
    · unfold ref1_Cmp_Q
      have et:Int.toNat (((x1:Nat):Int) - 1)=x1 - 1:=by simp only [decide_eq_true_eq,decide_eq_false_iff_not,gt_iff_lt,ge_iff_le,beq_iff_eq,beq_eq_false_iff_ne] at *;omega
      have hd:dgt (dg a) (x1 - 1)>dgt (dg b) (x1 - 1):=by
        simp only [et] at *
        simp only [decide_eq_true_eq,decide_eq_false_iff_not,gt_iff_lt,ge_iff_le,beq_iff_eq,beq_eq_false_iff_ne] at *
        omega
      exact ⟨_,by rw [d_a,d_b];exact hCmp_gt (cmp_lt r_b.dig r_a.dig L.symm (by simp only [decide_eq_true_eq,decide_eq_false_iff_not,gt_iff_lt,ge_iff_le,beq_iff_eq,beq_eq_false_iff_ne] at *;omega) hd),rfl,rfl,rfl,trivial⟩
    refine ⟨⟨(),trivial,congrArg (Value.int .i64) (wrap_i64 _ (by simp only [decide_eq_true_eq,decide_eq_false_iff_not,gt_iff_lt,ge_iff_le,beq_iff_eq,beq_eq_false_iff_ne] at *;omega) (by simp only [decide_eq_true_eq,decide_eq_false_iff_not,gt_iff_lt,ge_iff_le,beq_iff_eq,beq_eq_false_iff_ne] at *;omega))⟩,fun _=>fun _=> ?_⟩
    have et:Int.toNat (((x1:Nat):Int) - 1)=x1 - 1:=by simp only [decide_eq_true_eq,decide_eq_false_iff_not,gt_iff_lt,ge_iff_le,beq_iff_eq,beq_eq_false_iff_ne] at *;omega
    have hd:dgt (dg a) (x1 - 1)=dgt (dg b) (x1 - 1):=by
      simp only [et] at *
      simp only [decide_eq_true_eq,decide_eq_false_iff_not,gt_iff_lt,ge_iff_le,beq_iff_eq,beq_eq_false_iff_ne] at *
      omega
    exact ⟨x1 - 1,cmp_step L (by simp only [decide_eq_true_eq,decide_eq_false_iff_not,gt_iff_lt,ge_iff_le,beq_iff_eq,beq_eq_false_iff_ne] at *;omega) hd,(by simp only [decide_eq_true_eq,decide_eq_false_iff_not,gt_iff_lt,ge_iff_le,beq_iff_eq,beq_eq_false_iff_ne] at *;omega),rfl,rfl,congrArg (Value.int .i64) (by simp only [decide_eq_true_eq,decide_eq_false_iff_not,gt_iff_lt,ge_iff_le,beq_iff_eq,beq_eq_false_iff_ne] at *;omega),rfl,rfl,trivial⟩
  unfold ref1_Cmp_Q
  have ez:x1=0:=(by simp only [decide_eq_true_eq,decide_eq_false_iff_not,gt_iff_lt,ge_iff_le,beq_iff_eq,beq_eq_false_iff_ne] at *;omega)
  rw [ez] at L
  exact ⟨_,by rw [d_a,d_b];exact hCmp_eq (cmp_end L),rfl,rfl,rfl,trivial⟩
abbrev ref1_Cmp_K (a b:Row) (KK:Int->Prop):Prop:=ref1_Cmp_A a b (fun za zh zv zu zp=>callQr Try.prog 37 za zh Int zv zp KK)
theorem ref1_Cmp_m (a b:Row) {KK:Int->Prop} (kont: ∀zx:Int,(zx=hCmp (nv (dg a)) (nv (dg b)))->KK zx) (r_a:RowOK a:=by first | assumption | exact rowOK_lit _ _ (by decide)) (r_b:RowOK b:=by first | assumption | exact rowOK_lit _ _ (by decide)) (la:(dg a).length<=65536:=by omega) (lb:(dg b).length<=65536:=by omega):ref1_Cmp_K a b KK:=callQr_mk (ref1_Cmp a b r_a r_b la lb) (⟨_,rfl⟩) fun zx hz=>by
  simp only [rdv_eq] at hz
  exact kont zx hz
def ref1_Add_C:List Value->List Slot->Ctr:=fun vs hs=>⟨Row,fun zx=>sv zx,fun zx=> [(sarg hs 0),(sarg hs 1),(ss 3 zx)],fun zx=>RowOK zx/\nv (dg zx)=nv (rdv (varg vs 1) (sarg hs 0))+nv (rdv (varg vs 2) (sarg hs 1))/\Canon (dg zx)⟩
abbrev ref1_Add_Q (a b:Row) (zv:Value) (zs0:Slot) (zs1:Slot) (zs2:Slot):Prop:= ∃zx:Row,(RowOK zx/\nv (dg zx)=nv (rdv (sv a) (ss 3 a))+nv (rdv (sv b) (ss 3 b))/\Canon (dg zx))/\zv=sv zx/\zs0=(ss 3 a)/\zs1=(ss 3 b)/\zs2=(ss 3 zx)/\True
abbrev ref1_Add_A (a b:Row) (zF:SF Row):Prop:=zF #[sv a,sv b] [(ss 3 a),(ss 3 b)] (fun zx=>sv zx) (fun zx=> [(ss 3 a),(ss 3 b),(ss 3 zx)]) (fun zx=>(RowOK zx/\nv (dg zx)=nv (rdv (sv a) (ss 3 a))+nv (rdv (sv b) (ss 3 b))/\Canon (dg zx)))
set_option maxRecDepth 100000 in
set_option maxHeartbeats 1000000 in
theorem ref1_Add_vc (a b:Row):ref1_Add_A a b (fun za zh zv zu zp=>codeW Try.prog 40 none 2000 none (bodyOf Try.f60) (.reg [S0] (.reg [S0] (.reg [S0] (.reg [S0] (.inv (Nat×Int×Row) (fun zx=> [(0,sv a),(1,sv b),(5,sv zx.2.2),(6, .int .i64 zx.2.1),(7, .int .i64 ((zx.1:Nat):Int))]) (fun zx=> [(0,(ss 3 a)),(1,(ss 3 b)),(20,(ss 3 zx.2.2))]) (fun zx=>AddI (dg a) (dg b) zx.1 zx.2.1 (dg zx.2.2)/\RowOK zx.2.2) (fun zx=>2*((max (dg a).length (dg b).length)+1 - zx.1)+zx.2.1.toNat) (fun x1=> .caseP (fun s=>decide ((ci (s.fr 7))<(if ((vlen (sv b):Nat):Int)>((vlen (sv a):Nat):Int) then ((vlen (sv b):Nat):Int) else ((vlen (sv a):Nat):Int)))) (.reg [S0,S0, .eq (f_len),S0, .eq (f_len),S0, .gen [] (Sx.one (.bool true)),S0, .no, .no,S0] (.condT (.reg [S0,S0, .callr [0] ref1_at_C,S0,S0, .callr [1] ref1_at_C, .gen [] (fun vs=>Sx.one (.int .i64 (ci (varg vs 0)+ci (varg vs 1))) vs),S0, .gen [] (fun vs=>Sx.one (.int .i64 (ci (varg vs 0)+ci (varg vs 1))) vs),S0] (.reg [S0,S0, .gen [] (fun vs=>Sx.one (.int .i64 (ci (varg vs 0)%65536)) vs), .sem [.nw 2], .specw [20,2] [20,2] (F_app 3),S0] (.reg [S0, .gen [] (fun vs=>Sx.one (.int .i64 (ci (varg vs 0)/65536)) vs),S0] (.reg [S0, .gen [] (fun vs=>Sx.one (.int .i64 (ci (varg vs 0)+ci (varg vs 1))) vs),S0] (.done))))))) (.reg [S0,S0, .eq (f_len),S0, .eq (f_len),S0, .gen [] (Sx.one (.bool false)),S0,S0,S0,S0] (.cond (.reg [S0,S0, .callr [0] ref1_at_C,S0,S0, .callr [1] ref1_at_C, .gen [] (fun vs=>Sx.one (.int .i64 (ci (varg vs 0)+ci (varg vs 1))) vs),S0, .gen [] (fun vs=>Sx.one (.int .i64 (ci (varg vs 0)+ci (varg vs 1))) vs),S0] (.reg [S0,S0, .gen [] (fun vs=>Sx.one (.int .i64 (ci (varg vs 0)%65536)) vs), .sem [.nw 2], .specw [20,2] [20,2] (F_app 3),S0] (.reg [S0, .gen [] (fun vs=>Sx.one (.int .i64 (ci (varg vs 0)/65536)) vs),S0] (.reg [S0, .gen [] (fun vs=>Sx.one (.int .i64 (ci (varg vs 0)+ci (varg vs 1))) vs),S0] (.done))))) (.reg [S0, .callw [20] [20] ref1_Trim_C,S0] (.done))))))))))
    (init za zh) (finW Try.prog Try.f60 [] [0,1,20] (X:=Row) zv zu zp))=
    ((∃zx:Nat×Int×Row,(AddI (dg a) (dg b) zx.1 zx.2.1 (dg zx.2.2)/\RowOK zx.2.2)/\sv a=sv a/\sv b=sv b/\Value.slice none 0 0=sv zx.2.2/\Value.int .i64 0= .int .i64 zx.2.1/\Value.int .i64 0= .int .i64 ((zx.1:Nat):Int)/\(ss 3 a)=(ss 3 a)/\(ss 3 b)=(ss 3 b)/\Slot.free=(ss 3 zx.2.2)/\True)/\ ∀x1:Nat×Int×Row,∀jx1:Nat->Value,(AddI (dg a) (dg b) x1.1 x1.2.1 (dg x1.2.2)/\RowOK x1.2.2)->((decide (((x1.1:Nat):Int)<(if ((vlen (sv b):Nat):Int)>((vlen (sv a):Nat):Int) then ((vlen (sv b):Nat):Int) else ((vlen (sv a):Nat):Int))))=true->(PureRun Try.prog (vS (Builtin.len_ #[86] 3 #[sv a])) (.int .i64 ((vlen (sv a):Nat):Int)))/\(PureRun Try.prog (vS (Builtin.len_ #[86] 3 #[sv b])) (.int .i64 ((vlen (sv b):Nat):Int)))/\(∃_:Unit,True/\Value.bool (decide (((x1.1:Nat):Int)<(if ((vlen (sv b):Nat):Int)>((vlen (sv a):Nat):Int) then ((vlen (sv b):Nat):Int) else ((vlen (sv a):Nat):Int))))= .bool true)/\ ∀_:Unit,(True)->true= !false/\true= !false/\(true=true)/\ref1_at_K a ((x1.1:Nat):Int) (fun x2=>ref1_at_K b ((x1.1:Nat):Int) (fun x3=>(∃_:Unit,True/\Value.int .i64 (IntKind.i64.wrap (x2+x3))= .int .i64 (x2+x3))/\ ∀_:Unit,(True)->(∃_:Unit,True/\Value.int .i64 (IntKind.i64.wrap ((x2+x3)+x1.2.1))= .int .i64 ((x2+x3)+x1.2.1))/\ ∀_:Unit,(True)->(∃_:Unit,True/\Value.int .i64 (Int.tmod ((x2+x3)+x1.2.1) 65536)= .int .i64 (((x2+x3)+x1.2.1)%65536))/\ ∀_:Unit,(True)-> ∀b4:Nat,opQ Try.prog (vS (Builtin.append_ #[86,86] 86 #[sv x1.2.2, .slice (some ⟨b4,0,none⟩) 1 1])) [(ss 3 x1.2.2),bk b4 #[.int .i64 (((x2+x3)+x1.2.1)%65536)] 3] Row (fun zx=>sv zx) (fun zx=> [(ss 3 zx),bk b4 #[.int .i64 (((x2+x3)+x1.2.1)%65536)] 3]) (fun zx=>vals zx=rvals (sv x1.2.2) (ss 3 x1.2.2)++ [.int .i64 (((x2+x3)+x1.2.1)%65536)]) (fun x5=>(∃_:Unit,True/\Value.int .i64 (IntKind.i64.wrap (Int.tdiv ((x2+x3)+x1.2.1) 65536))= .int .i64 (((x2+x3)+x1.2.1)/65536))/\ ∀_:Unit,(True)->(∃_:Unit,True/\Value.int .i64 (IntKind.i64.wrap (((x1.1:Nat):Int)+1))= .int .i64 (((x1.1:Nat):Int)+1))/\ ∀_:Unit,(True)-> ∃zy:Nat×Int×Row,(AddI (dg a) (dg b) zy.1 zy.2.1 (dg zy.2.2)/\RowOK zy.2.2)/\2*((max (dg a).length (dg b).length)+1 - zy.1)+zy.2.1.toNat<2*((max (dg a).length (dg b).length)+1 - x1.1)+x1.2.1.toNat/\sv a=sv a/\sv b=sv b/\sv x5=sv zy.2.2/\Value.int .i64 (((x2+x3)+x1.2.1)/65536)= .int .i64 zy.2.1/\Value.int .i64 (((x1.1:Nat):Int)+1)= .int .i64 ((zy.1:Nat):Int)/\(ss 3 a)=(ss 3 a)/\(ss 3 b)=(ss 3 b)/\(ss 3 x5)=(ss 3 zy.2.2)/\True))))/\((decide (((x1.1:Nat):Int)<(if ((vlen (sv b):Nat):Int)>((vlen (sv a):Nat):Int) then ((vlen (sv b):Nat):Int) else ((vlen (sv a):Nat):Int))))=false->(PureRun Try.prog (vS (Builtin.len_ #[86] 3 #[sv a])) (.int .i64 ((vlen (sv a):Nat):Int)))/\(PureRun Try.prog (vS (Builtin.len_ #[86] 3 #[sv b])) (.int .i64 ((vlen (sv b):Nat):Int)))/\(∃_:Unit,True/\Value.bool (decide (((x1.1:Nat):Int)<(if ((vlen (sv b):Nat):Int)>((vlen (sv a):Nat):Int) then ((vlen (sv b):Nat):Int) else ((vlen (sv a):Nat):Int))))= .bool false)/\ ∀_:Unit,(True)->false=false/\false=false/\((decide (x1.2.1>(0:Int)))=true->ref1_at_K a ((x1.1:Nat):Int) (fun x6=>ref1_at_K b ((x1.1:Nat):Int) (fun x7=>(∃_:Unit,True/\Value.int .i64 (IntKind.i64.wrap (x6+x7))= .int .i64 (x6+x7))/\ ∀_:Unit,(True)->(∃_:Unit,True/\Value.int .i64 (IntKind.i64.wrap ((x6+x7)+x1.2.1))= .int .i64 ((x6+x7)+x1.2.1))/\ ∀_:Unit,(True)->(∃_:Unit,True/\Value.int .i64 (Int.tmod ((x6+x7)+x1.2.1) 65536)= .int .i64 (((x6+x7)+x1.2.1)%65536))/\ ∀_:Unit,(True)-> ∀b8:Nat,opQ Try.prog (vS (Builtin.append_ #[86,86] 86 #[sv x1.2.2, .slice (some ⟨b8,0,none⟩) 1 1])) [(ss 3 x1.2.2),bk b8 #[.int .i64 (((x6+x7)+x1.2.1)%65536)] 3] Row (fun zx=>sv zx) (fun zx=> [(ss 3 zx),bk b8 #[.int .i64 (((x6+x7)+x1.2.1)%65536)] 3]) (fun zx=>vals zx=rvals (sv x1.2.2) (ss 3 x1.2.2)++ [.int .i64 (((x6+x7)+x1.2.1)%65536)]) (fun x9=>(∃_:Unit,True/\Value.int .i64 (IntKind.i64.wrap (Int.tdiv ((x6+x7)+x1.2.1) 65536))= .int .i64 (((x6+x7)+x1.2.1)/65536))/\ ∀_:Unit,(True)->(∃_:Unit,True/\Value.int .i64 (IntKind.i64.wrap (((x1.1:Nat):Int)+1))= .int .i64 (((x1.1:Nat):Int)+1))/\ ∀_:Unit,(True)-> ∃zy:Nat×Int×Row,(AddI (dg a) (dg b) zy.1 zy.2.1 (dg zy.2.2)/\RowOK zy.2.2)/\2*((max (dg a).length (dg b).length)+1 - zy.1)+zy.2.1.toNat<2*((max (dg a).length (dg b).length)+1 - x1.1)+x1.2.1.toNat/\sv a=sv a/\sv b=sv b/\sv x9=sv zy.2.2/\Value.int .i64 (((x6+x7)+x1.2.1)/65536)= .int .i64 zy.2.1/\Value.int .i64 (((x1.1:Nat):Int)+1)= .int .i64 ((zy.1:Nat):Int)/\(ss 3 a)=(ss 3 a)/\(ss 3 b)=(ss 3 b)/\(ss 3 x9)=(ss 3 zy.2.2)/\True))))/\((decide (x1.2.1>(0:Int)))=false->ref1_Trim_K x1.2.2 (fun x10=>ref1_Add_Q a b (sv x10) (ss 3 a) (ss 3 b) (ss 3 x10))))):=by kernel_rfl
set_option maxRecDepth 100000 in
set_option maxHeartbeats 1000000 in
theorem ref1_Add (a b:Row) (r_a:RowOK a) (r_b:RowOK b) (la:(dg a).length<=65536) (lb:(dg b).length<=65536):ref1_Add_A a b (fun za zh zv zu zp=>CallT Try.prog 60 za zh Row zv zu zp):=by
  refine call_of (c:=bodyOf Try.f60) (n:=40) (fn:=Try.f60) Try.mixed Try.func60 (by kernel_rfl) (by kernel_rfl) (by kernel_rfl) 2000 _ [] [0,1,20] rfl rfl (Eq.mpr (ref1_Add_vc a b) ?_)
  have d_a:=rdv_eq a 3
  have d_b:=rdv_eq b 3
  have e_a:=vlen_dg a
  have e_b:=vlen_dg b
  have hm:(if (((vlen (sv b):Nat):Int))>(((vlen (sv a):Nat):Int)) then (((vlen (sv b):Nat):Int)) else (((vlen (sv a):Nat):Int)))=(((max (dg a).length (dg b).length):Nat):Int):=by rw [e_a,e_b];split<;>omega
  refine ⟨?_,fun x1 jx1 h1=> ?_⟩
  · exact ⟨(0,0,Row.nil),⟨add_start _ _,RowOK.nil⟩,rfl,rfl,rfl,rfl,rfl,rfl,rfl,rfl,trivial⟩
  obtain ⟨L,ok⟩:=h1
  have l1:=L.le;have l2:=L.len;have l3:=L.c0;have l4:=L.c1;have l5:=L.ends
  have da:=r_a.dig.dgt (Int.toNat ((x1.1:Nat):Int))
  have db:=r_b.dig.dgt (Int.toNat ((x1.1:Nat):Int))
  refine ⟨fun h2=> ?_,fun h2=> ?_⟩
  · refine ⟨xlen Try.sl86 3 a,xlen Try.sl86 3 b,⟨(),trivial,congrArg Value.bool h2⟩,fun _=>fun _=>⟨rfl,rfl,⟨rfl,?_⟩⟩⟩
    try rw [hm] at *
    refine ref1_at_m a ((x1.1:Nat):Int) (fun x2 h3=>ref1_at_m b ((x1.1:Nat):Int) (fun x3 h4=>⟨⟨(),trivial,congrArg (Value.int .i64) (wrap_i64 _ (by omega) (by omega))⟩,fun _=>fun _=>⟨⟨(),trivial,congrArg (Value.int .i64) (wrap_i64 _ (by omega) (by omega))⟩,fun _=>fun _=>⟨⟨(),trivial,congrArg (Value.int .i64) (tmod_nat (by omega))⟩,fun _=>fun _=>fun b4=>opQ_mk (xappendR Try.sl86 86 x1.2.2 (by omega) b4 1 (.int .i64 (((x2+x3)+x1.2.1)%65536)) rfl) (wit_app _) fun x5 h5=> ?_⟩⟩⟩))
    rw [rvals_eq] at h5
    refine ⟨⟨(),trivial,congrArg (Value.int .i64) (quo_i64 (by omega) (by omega))⟩,fun _=>fun _=>⟨⟨(),trivial,congrArg (Value.int .i64) (wrap_i64 _ (by omega) (by omega))⟩,fun _=>fun _=> ?_⟩⟩
    have hx:((x2+x3)+x1.2.1)=dgt (dg a) x1.1+dgt (dg b) x1.1+x1.2.1:=by
      simp only [Int.toNat_natCast] at *
      omega
    have hlt:(x1.1<(max (dg a).length (dg b).length))∨0<x1.2.1:=by
      simp only [decide_eq_true_eq,decide_eq_false_iff_not,gt_iff_lt,ge_iff_le,beq_iff_eq,beq_eq_false_iff_ne] at *
      omega
    obtain ⟨q1,q2,q3⟩:=add_step r_a.dig r_b.dig L hx hlt
    have q:=RowOK.snoc ok q2 q3 (by assumption)
    have hmu:=q1.c1
    exact ⟨(x1.1+1,((x2+x3)+x1.2.1)/65536,x5),⟨q.2▸q1,q.1⟩,by dsimp only;omega,rfl,rfl,rfl,rfl,congrArg (Value.int .i64) (by dsimp only;omega),rfl,rfl,rfl,trivial⟩
  refine ⟨xlen Try.sl86 3 a,xlen Try.sl86 3 b,⟨(),trivial,congrArg Value.bool h2⟩,fun _=>fun _=>⟨rfl,rfl,⟨fun h6=> ?_,fun h6=> ?_⟩⟩⟩
  · try rw [hm] at *
    refine ref1_at_m a ((x1.1:Nat):Int) (fun x6 h7=>ref1_at_m b ((x1.1:Nat):Int) (fun x7 h8=>⟨⟨(),trivial,congrArg (Value.int .i64) (wrap_i64 _ (by omega) (by omega))⟩,fun _=>fun _=>⟨⟨(),trivial,congrArg (Value.int .i64) (wrap_i64 _ (by omega) (by omega))⟩,fun _=>fun _=>⟨⟨(),trivial,congrArg (Value.int .i64) (tmod_nat (by omega))⟩,fun _=>fun _=>fun b8=>opQ_mk (xappendR Try.sl86 86 x1.2.2 (by omega) b8 1 (.int .i64 (((x6+x7)+x1.2.1)%65536)) rfl) (wit_app _) fun x9 h9=> ?_⟩⟩⟩))
    rw [rvals_eq] at h9
    refine ⟨⟨(),trivial,congrArg (Value.int .i64) (quo_i64 (by omega) (by omega))⟩,fun _=>fun _=>⟨⟨(),trivial,congrArg (Value.int .i64) (wrap_i64 _ (by omega) (by omega))⟩,fun _=>fun _=> ?_⟩⟩
    have hx:((x6+x7)+x1.2.1)=dgt (dg a) x1.1+dgt (dg b) x1.1+x1.2.1:=by
      simp only [Int.toNat_natCast] at *
      omega
    have hlt:(x1.1<(max (dg a).length (dg b).length))∨0<x1.2.1:=by
      simp only [decide_eq_true_eq,decide_eq_false_iff_not,gt_iff_lt,ge_iff_le,beq_iff_eq,beq_eq_false_iff_ne] at *
      omega
    obtain ⟨q1,q2,q3⟩:=add_step r_a.dig r_b.dig L hx hlt
    have q:=RowOK.snoc ok q2 q3 (by assumption)
    have hmu:=q1.c1
    exact ⟨(x1.1+1,((x6+x7)+x1.2.1)/65536,x9),⟨q.2▸q1,q.1⟩,by dsimp only;omega,rfl,rfl,rfl,rfl,congrArg (Value.int .i64) (by dsimp only;omega),rfl,rfl,rfl,trivial⟩
  refine ref1_Trim_m x1.2.2 (fun x10 rh10_ h10=> ?_)
  unfold ref1_Add_Q
  have T:TrimR (dg x1.2.2) (dg x10):=by first | exact And.right (by assumption) | assumption
  have hi:(max (dg a).length (dg b).length)<=x1.1:=by
    simp only [decide_eq_true_eq,decide_eq_false_iff_not,gt_iff_lt,ge_iff_le,beq_iff_eq,beq_eq_false_iff_ne] at *
    omega
  have hc:x1.2.1<=0:=by
    simp only [decide_eq_true_eq,decide_eq_false_iff_not,gt_iff_lt,ge_iff_le,beq_iff_eq,beq_eq_false_iff_ne] at *
    omega
  exact ⟨_,⟨by assumption,by rw [d_a,d_b];exact T.eq.trans (add_end L hi hc),T.canon⟩,rfl,rfl,rfl,rfl,trivial⟩
abbrev ref1_Add_K (a b:Row) (KK:Row->Prop):Prop:=ref1_Add_A a b (fun za zh zv zu zp=>callQ Try.prog 60 za zh Row zv zu zp KK)
theorem ref1_Add_m (a b:Row) {KK:Row->Prop} (kont: ∀zx:Row,RowOK zx->(nv (dg zx)=nv (dg a)+nv (dg b)/\Canon (dg zx))->KK zx) (r_a:RowOK a:=by first | assumption | exact rowOK_lit _ _ (by decide)) (r_b:RowOK b:=by first | assumption | exact rowOK_lit _ _ (by decide)) (la:(dg a).length<=65536:=by omega) (lb:(dg b).length<=65536:=by omega):ref1_Add_K a b KK:=callQ_mk (ref1_Add a b r_a r_b la lb) (wit_row (by rw [rdv_eq a,rdv_eq b];exact Int.add_nonneg (nv_nonneg (RowOK.dig (r_a))) (nv_nonneg (RowOK.dig (r_b))))) fun zx hz=>by
  simp only [rdv_eq] at hz
  obtain ⟨rhz_,hz⟩:=hz
  exact kont zx rhz_ hz
def ref1_Sub_C:List Value->List Slot->Ctr:=fun vs hs=>⟨Row,fun zx=>sv zx,fun zx=> [(sarg hs 0),(sarg hs 1),(ss 3 zx)],fun zx=>RowOK zx/\nv (dg zx)=nv (rdv (varg vs 1) (sarg hs 0)) - nv (rdv (varg vs 2) (sarg hs 1))/\Canon (dg zx)⟩
abbrev ref1_Sub_Q (a b:Row) (zv:Value) (zs0:Slot) (zs1:Slot) (zs2:Slot):Prop:= ∃zx:Row,(RowOK zx/\nv (dg zx)=nv (rdv (sv a) (ss 3 a)) - nv (rdv (sv b) (ss 3 b))/\Canon (dg zx))/\zv=sv zx/\zs0=(ss 3 a)/\zs1=(ss 3 b)/\zs2=(ss 3 zx)/\True
abbrev ref1_Sub_A (a b:Row) (zF:SF Row):Prop:=zF #[sv a,sv b] [(ss 3 a),(ss 3 b)] (fun zx=>sv zx) (fun zx=> [(ss 3 a),(ss 3 b),(ss 3 zx)]) (fun zx=>(RowOK zx/\nv (dg zx)=nv (rdv (sv a) (ss 3 a)) - nv (rdv (sv b) (ss 3 b))/\Canon (dg zx)))
set_option maxRecDepth 100000 in
set_option maxHeartbeats 1000000 in
theorem ref1_Sub_vc (a b:Row):ref1_Sub_A a b (fun za zh zv zu zp=>codeW Try.prog 35 none 2000 none (bodyOf Try.f74) (.reg [S0] (.reg [S0] (.reg [S0] (.reg [S0] (.inv (Nat×Int×Row) (fun zx=> [(0,sv a),(1,sv b),(5,sv zx.2.2),(6, .int .i64 zx.2.1),(7, .int .i64 ((zx.1:Nat):Int))]) (fun zx=> [(0,(ss 3 a)),(1,(ss 3 b)),(20,(ss 3 zx.2.2))]) (fun zx=>SubI (dg a) (dg b) zx.1 zx.2.1 (dg zx.2.2)/\RowOK zx.2.2) (fun zx=>(dg a).length - zx.1) (fun x1=> .reg [S0,S0, .eq (f_len),S0] (.cond (.reg [S0,S0, .eq (f_idx), .specr [0] F_get,S0,S0, .callr [1] ref1_at_C, .gen [] (fun vs=>Sx.one (.int .i64 (ci (varg vs 0) - ci (varg vs 1))) vs),S0, .gen [] (fun vs=>Sx.one (.int .i64 (ci (varg vs 0) - ci (varg vs 1))) vs),S0] (.reg [S0] (.reg [S0,S0] (.cond (.reg [S0, .gen [] (fun vs=>Sx.one (.int .i64 (ci (varg vs 0)+ci (varg vs 1))) vs),S0] (.reg [S0] (.reg [S0,S0, .sem [.nw 2], .specw [20,2] [20,2] (F_app 3),S0] (.reg [S0, .gen [] (fun vs=>Sx.one (.int .i64 (ci (varg vs 0)+ci (varg vs 1))) vs),S0] (.done))))) (.reg [S0,S0, .sem [.nw 2], .specw [20,2] [20,2] (F_app 3),S0] (.reg [S0, .gen [] (fun vs=>Sx.one (.int .i64 (ci (varg vs 0)+ci (varg vs 1))) vs),S0] (.done))))))) (.reg [S0, .callw [20] [20] ref1_Trim_C,S0] (.done)))))))))
    (init za zh) (finW Try.prog Try.f74 [] [0,1,20] (X:=Row) zv zu zp))=
    ((∃zx:Nat×Int×Row,(SubI (dg a) (dg b) zx.1 zx.2.1 (dg zx.2.2)/\RowOK zx.2.2)/\sv a=sv a/\sv b=sv b/\Value.slice none 0 0=sv zx.2.2/\Value.int .i64 0= .int .i64 zx.2.1/\Value.int .i64 0= .int .i64 ((zx.1:Nat):Int)/\(ss 3 a)=(ss 3 a)/\(ss 3 b)=(ss 3 b)/\Slot.free=(ss 3 zx.2.2)/\True)/\ ∀x1:Nat×Int×Row,∀jx1:Nat->Value,(SubI (dg a) (dg b) x1.1 x1.2.1 (dg x1.2.2)/\RowOK x1.2.2)->(PureRun Try.prog (vS (Builtin.len_ #[86] 3 #[sv a])) (.int .i64 ((vlen (sv a):Nat):Int)))/\((decide (((x1.1:Nat):Int)<((vlen (sv a):Nat):Int)))=true->(PureRun Try.prog (vS (Instr.indexAt 86 (sv a) (.int .i64 ((x1.1:Nat):Int)))) (.pointer (some ⟨(vblk (sv a)),(Int.toNat ((x1.1:Nat):Int)),none⟩)))/\opQr Try.prog (vS (Instr.loadAt 3 (.pointer (some ⟨(vblk (sv a)),(Int.toNat ((x1.1:Nat):Int)),none⟩)))) [(ss 3 a)] Int (fun zx=> .int .i64 zx) (fun zx=>(scells (ss 3 a))[(Int.toNat ((x1.1:Nat):Int))]? =some (.int .i64 zx)) (fun x2=>ref1_at_K b ((x1.1:Nat):Int) (fun x3=>(∃_:Unit,True/\Value.int .i64 (IntKind.i64.wrap (x2 - x3))= .int .i64 (x2 - x3))/\ ∀_:Unit,(True)->(∃_:Unit,True/\Value.int .i64 (IntKind.i64.wrap ((x2 - x3) - x1.2.1))= .int .i64 ((x2 - x3) - x1.2.1))/\ ∀_:Unit,(True)->((decide (((x2 - x3) - x1.2.1)<(0:Int)))=true->(∃_:Unit,True/\Value.int .i64 (IntKind.i64.wrap (((x2 - x3) - x1.2.1)+65536))= .int .i64 (((x2 - x3) - x1.2.1)+65536))/\ ∀_:Unit,(True)-> ∀b4:Nat,opQ Try.prog (vS (Builtin.append_ #[86,86] 86 #[sv x1.2.2, .slice (some ⟨b4,0,none⟩) 1 1])) [(ss 3 x1.2.2),bk b4 #[.int .i64 (((x2 - x3) - x1.2.1)+65536)] 3] Row (fun zx=>sv zx) (fun zx=> [(ss 3 zx),bk b4 #[.int .i64 (((x2 - x3) - x1.2.1)+65536)] 3]) (fun zx=>vals zx=rvals (sv x1.2.2) (ss 3 x1.2.2)++ [.int .i64 (((x2 - x3) - x1.2.1)+65536)]) (fun x5=>(∃_:Unit,True/\Value.int .i64 (IntKind.i64.wrap (((x1.1:Nat):Int)+1))= .int .i64 (((x1.1:Nat):Int)+1))/\ ∀_:Unit,(True)-> ∃zy:Nat×Int×Row,(SubI (dg a) (dg b) zy.1 zy.2.1 (dg zy.2.2)/\RowOK zy.2.2)/\(dg a).length - zy.1<(dg a).length - x1.1/\sv a=sv a/\sv b=sv b/\sv x5=sv zy.2.2/\Value.int .i64 1= .int .i64 zy.2.1/\Value.int .i64 (((x1.1:Nat):Int)+1)= .int .i64 ((zy.1:Nat):Int)/\(ss 3 a)=(ss 3 a)/\(ss 3 b)=(ss 3 b)/\(ss 3 x5)=(ss 3 zy.2.2)/\True))/\((decide (((x2 - x3) - x1.2.1)<(0:Int)))=false-> ∀b6:Nat,opQ Try.prog (vS (Builtin.append_ #[86,86] 86 #[sv x1.2.2, .slice (some ⟨b6,0,none⟩) 1 1])) [(ss 3 x1.2.2),bk b6 #[.int .i64 ((x2 - x3) - x1.2.1)] 3] Row (fun zx=>sv zx) (fun zx=> [(ss 3 zx),bk b6 #[.int .i64 ((x2 - x3) - x1.2.1)] 3]) (fun zx=>vals zx=rvals (sv x1.2.2) (ss 3 x1.2.2)++ [.int .i64 ((x2 - x3) - x1.2.1)]) (fun x7=>(∃_:Unit,True/\Value.int .i64 (IntKind.i64.wrap (((x1.1:Nat):Int)+1))= .int .i64 (((x1.1:Nat):Int)+1))/\ ∀_:Unit,(True)-> ∃zy:Nat×Int×Row,(SubI (dg a) (dg b) zy.1 zy.2.1 (dg zy.2.2)/\RowOK zy.2.2)/\(dg a).length - zy.1<(dg a).length - x1.1/\sv a=sv a/\sv b=sv b/\sv x7=sv zy.2.2/\Value.int .i64 0= .int .i64 zy.2.1/\Value.int .i64 (((x1.1:Nat):Int)+1)= .int .i64 ((zy.1:Nat):Int)/\(ss 3 a)=(ss 3 a)/\(ss 3 b)=(ss 3 b)/\(ss 3 x7)=(ss 3 zy.2.2)/\True)))))/\((decide (((x1.1:Nat):Int)<((vlen (sv a):Nat):Int)))=false->ref1_Trim_K x1.2.2 (fun x8=>ref1_Sub_Q a b (sv x8) (ss 3 a) (ss 3 b) (ss 3 x8)))):=by kernel_rfl
set_option maxRecDepth 100000 in
set_option maxHeartbeats 1000000 in
theorem ref1_Sub (a b:Row) (r_a:RowOK a) (r_b:RowOK b) (la:(dg a).length<=65536) (lb:(dg b).length<=65536) (hle:nv (dg b)<=nv (dg a)):ref1_Sub_A a b (fun za zh zv zu zp=>CallT Try.prog 74 za zh Row zv zu zp):=by
  refine call_of (c:=bodyOf Try.f74) (n:=35) (fn:=Try.f74) Try.mixed Try.func74 (by kernel_rfl) (by kernel_rfl) (by kernel_rfl) 2000 _ [] [0,1,20] rfl rfl (Eq.mpr (ref1_Sub_vc a b) ?_)
  have d_a:=rdv_eq a 3
  have d_b:=rdv_eq b 3
  have e_a:=vlen_dg a
  have e_b:=vlen_dg b
  refine ⟨?_,fun x1 jx1 h1=> ?_⟩
  · exact ⟨(0,0,Row.nil),⟨sub_start _ _,RowOK.nil⟩,rfl,rfl,rfl,rfl,rfl,rfl,rfl,rfl,trivial⟩
  obtain ⟨L,ok⟩:=h1
  have l1:=L.le;have l2:=L.len;have l3:=L.c0;have l4:=L.c1
  have da:=r_a.dig.dgt (Int.toNat ((x1.1:Nat):Int))
  have db:=r_b.dig.dgt (Int.toNat ((x1.1:Nat):Int))
  refine ⟨xlen Try.sl86 3 a,⟨fun h2=> ?_,fun h2=> ?_⟩⟩
  · refine ⟨xidx Try.sl86 a .i64 ((x1.1:Nat):Int) (by omega) (by rw [←dg_len];simp only [decide_eq_true_eq,decide_eq_false_iff_not,gt_iff_lt,ge_iff_le,beq_iff_eq,beq_eq_false_iff_ne] at *;omega),opQr_mk (xgetR (e:=3) a 3 Try.agg3 (Int.toNat ((x1.1:Nat):Int)) r_a (by simp only [decide_eq_true_eq,decide_eq_false_iff_not,gt_iff_lt,ge_iff_le,beq_iff_eq,beq_eq_false_iff_ne] at *;omega)) (wit_get (e:=3) a (Int.toNat ((x1.1:Nat):Int)) r_a (by simp only [decide_eq_true_eq,decide_eq_false_iff_not,gt_iff_lt,ge_iff_le,beq_iff_eq,beq_eq_false_iff_ne] at *;omega)) fun x2 h3=> ?_⟩
    replace h3:=getR (e:=3) a (Int.toNat ((x1.1:Nat):Int)) r_a (by simp only [decide_eq_true_eq,decide_eq_false_iff_not,gt_iff_lt,ge_iff_le,beq_iff_eq,beq_eq_false_iff_ne] at *;omega) h3
    refine ref1_at_m b ((x1.1:Nat):Int) (fun x3 h4=>⟨⟨(),trivial,congrArg (Value.int .i64) (wrap_i64 _ (by omega) (by omega))⟩,fun _=>fun _=>⟨⟨(),trivial,congrArg (Value.int .i64) (wrap_i64 _ (by omega) (by omega))⟩,fun _=>fun _=>⟨fun h5=> ?_,fun h5=> ?_⟩⟩⟩)
    · refine ⟨⟨(),trivial,congrArg (Value.int .i64) (wrap_i64 _ (by omega) (by omega))⟩,fun _=>fun _=>fun b4=>opQ_mk (xappendR Try.sl86 86 x1.2.2 (by omega) b4 1 (.int .i64 (((x2 - x3) - x1.2.1)+65536)) rfl) (wit_app _) fun x5 h6=> ?_⟩
      rw [rvals_eq] at h6
      refine ⟨⟨(),trivial,congrArg (Value.int .i64) (wrap_i64 _ (by omega) (by omega))⟩,fun _=>fun _=> ?_⟩
      have q1:=sub_go (x:=(((x2 - x3) - x1.2.1)+65536)) (c' :=1) r_a.dig r_b.dig L (by simp only [decide_eq_true_eq,decide_eq_false_iff_not,gt_iff_lt,ge_iff_le,beq_iff_eq,beq_eq_false_iff_ne] at *;omega) (by simp only [Int.toNat_natCast] at *;simp only [decide_eq_true_eq,decide_eq_false_iff_not,gt_iff_lt,ge_iff_le,beq_iff_eq,beq_eq_false_iff_ne] at *;omega) (by simp only [decide_eq_true_eq,decide_eq_false_iff_not,gt_iff_lt,ge_iff_le,beq_iff_eq,beq_eq_false_iff_ne] at *;omega) (by simp only [decide_eq_true_eq,decide_eq_false_iff_not,gt_iff_lt,ge_iff_le,beq_iff_eq,beq_eq_false_iff_ne] at *;omega) (by decide) (by decide)
      have q:=RowOK.snoc ok (x:=(((x2 - x3) - x1.2.1)+65536)) (by simp only [decide_eq_true_eq,decide_eq_false_iff_not,gt_iff_lt,ge_iff_le,beq_iff_eq,beq_eq_false_iff_ne] at *;omega) (by simp only [decide_eq_true_eq,decide_eq_false_iff_not,gt_iff_lt,ge_iff_le,beq_iff_eq,beq_eq_false_iff_ne] at *;omega) (by assumption)
      exact ⟨(x1.1+1,1,x5),⟨q.2▸q1,q.1⟩,by dsimp only;simp only [decide_eq_true_eq,decide_eq_false_iff_not,gt_iff_lt,ge_iff_le,beq_iff_eq,beq_eq_false_iff_ne] at *;omega,rfl,rfl,rfl,rfl,congrArg (Value.int .i64) (by dsimp only;omega),rfl,rfl,rfl,trivial⟩
    intro b6
    refine opQ_mk (xappendR Try.sl86 86 x1.2.2 (by omega) b6 1 (.int .i64 ((x2 - x3) - x1.2.1)) rfl) (wit_app _) fun x7 h7=> ?_
    rw [rvals_eq] at h7
    refine ⟨⟨(),trivial,congrArg (Value.int .i64) (wrap_i64 _ (by omega) (by omega))⟩,fun _=>fun _=> ?_⟩
    have q1:=sub_go (x:=((x2 - x3) - x1.2.1)) (c' :=0) r_a.dig r_b.dig L (by simp only [decide_eq_true_eq,decide_eq_false_iff_not,gt_iff_lt,ge_iff_le,beq_iff_eq,beq_eq_false_iff_ne] at *;omega) (by simp only [Int.toNat_natCast] at *;simp only [decide_eq_true_eq,decide_eq_false_iff_not,gt_iff_lt,ge_iff_le,beq_iff_eq,beq_eq_false_iff_ne] at *;omega) (by simp only [decide_eq_true_eq,decide_eq_false_iff_not,gt_iff_lt,ge_iff_le,beq_iff_eq,beq_eq_false_iff_ne] at *;omega) (by simp only [decide_eq_true_eq,decide_eq_false_iff_not,gt_iff_lt,ge_iff_le,beq_iff_eq,beq_eq_false_iff_ne] at *;omega) (by decide) (by decide)
    have q:=RowOK.snoc ok (x:=((x2 - x3) - x1.2.1)) (by simp only [decide_eq_true_eq,decide_eq_false_iff_not,gt_iff_lt,ge_iff_le,beq_iff_eq,beq_eq_false_iff_ne] at *;omega) (by simp only [decide_eq_true_eq,decide_eq_false_iff_not,gt_iff_lt,ge_iff_le,beq_iff_eq,beq_eq_false_iff_ne] at *;omega) (by assumption)
    exact ⟨(x1.1+1,0,x7),⟨q.2▸q1,q.1⟩,by dsimp only;simp only [decide_eq_true_eq,decide_eq_false_iff_not,gt_iff_lt,ge_iff_le,beq_iff_eq,beq_eq_false_iff_ne] at *;omega,rfl,rfl,rfl,rfl,congrArg (Value.int .i64) (by dsimp only;omega),rfl,rfl,rfl,trivial⟩
  refine ref1_Trim_m x1.2.2 (fun x8 rh8_ h8=> ?_)
  unfold ref1_Sub_Q
  have T:TrimR (dg x1.2.2) (dg x8):=by first | exact And.right (by assumption) | assumption
  have hi:x1.1=(dg a).length:=by
    simp only [decide_eq_true_eq,decide_eq_false_iff_not,gt_iff_lt,ge_iff_le,beq_iff_eq,beq_eq_false_iff_ne] at *
    omega
  rw [hi] at L
  exact ⟨_,⟨by assumption,by rw [d_a,d_b];exact T.eq.trans (sub_end r_a.dig r_b.dig ok.dig L hle),T.canon⟩,rfl,rfl,rfl,rfl,trivial⟩
abbrev ref1_Sub_K (a b:Row) (KK:Row->Prop):Prop:=ref1_Sub_A a b (fun za zh zv zu zp=>callQ Try.prog 74 za zh Row zv zu zp KK)
theorem ref1_Sub_m (a b:Row) {KK:Row->Prop} (kont: ∀zx:Row,RowOK zx->(nv (dg zx)=nv (dg a) - nv (dg b)/\Canon (dg zx))->KK zx) (r_a:RowOK a:=by first | assumption | exact rowOK_lit _ _ (by decide)) (r_b:RowOK b:=by first | assumption | exact rowOK_lit _ _ (by decide)) (la:(dg a).length<=65536:=by omega) (lb:(dg b).length<=65536:=by omega) (hle:nv (dg b)<=nv (dg a):=by omega):ref1_Sub_K a b KK:=callQ_mk (ref1_Sub a b r_a r_b la lb hle) (wit_row (by rw [rdv_eq a,rdv_eq b];omega)) fun zx hz=>by
  simp only [rdv_eq] at hz
  obtain ⟨rhz_,hz⟩:=hz
  exact kont zx rhz_ hz
def ref2_Row_C:List Value->List Slot->Ctr:=fun vs hs=>⟨Row,fun zx=>sv zx,fun zx=> [(ss 3 zx)],fun zx=>RowOK zx/\nv (dg zx)=(num (varg vs 1))/\Canon (dg zx)/\(dg zx).length<=16⟩
abbrev ref2_Row_Q (a:Int) (zv:Value) (zs0:Slot):Prop:= ∃zx:Row,(RowOK zx/\nv (dg zx)=(num (vI a))/\Canon (dg zx)/\(dg zx).length<=16)/\zv=sv zx/\zs0=(ss 3 zx)/\True
abbrev ref2_Row_A (a:Int) (zF:SF Row):Prop:=zF #[vI a] [] (fun zx=>sv zx) (fun zx=> [(ss 3 zx)]) (fun zx=>(RowOK zx/\nv (dg zx)=(num (vI a))/\Canon (dg zx)/\(dg zx).length<=16))
set_option maxRecDepth 100000 in
set_option maxHeartbeats 2000000 in
theorem ref2_Row_vc (a:Int):ref2_Row_A a (fun za zh zv zu zp=>codeW Try.prog 24 none 2000 none (bodyOf Try.f38) (.reg [.sem [.nw 0],S0] (.reg [S0] (.reg [.sem (rds 4 0),S0] (.reg [S0] (.condT (.reg [S0,S0] (.reg [S0] (.reg [S0] (.condT (.reg [S0,S0, .gen [] (fun vs=>Sx.one (uu (ci (varg vs 0)%65536)) vs), .gen [] (fun vs=>Sx.one (.int .i64 (ci (varg vs 0))) vs), .sem [.nw 1], .specw [2,1] [20,1] (F_app 3),S0] (.reg [S0, .gen [] (fun vs=>Sx.one (uu (ci (varg vs 0)/65536)) vs),S0] (.reg [S0,S0] (.reg [S0] (.condT (.reg [S0,S0, .gen [] (fun vs=>Sx.one (uu (ci (varg vs 0)%65536)) vs), .gen [] (fun vs=>Sx.one (.int .i64 (ci (varg vs 0))) vs), .sem [.nw 1], .specw [20,1] [20,1] (F_app 3),S0] (.reg [S0, .gen [] (fun vs=>Sx.one (uu (ci (varg vs 0)/65536)) vs),S0] (.reg [S0,S0] (.reg [S0] (.condT (.reg [S0,S0, .gen [] (fun vs=>Sx.one (uu (ci (varg vs 0)%65536)) vs), .gen [] (fun vs=>Sx.one (.int .i64 (ci (varg vs 0))) vs), .sem [.nw 1], .specw [20,1] [20,1] (F_app 3),S0] (.reg [S0, .gen [] (fun vs=>Sx.one (uu (ci (varg vs 0)/65536)) vs),S0] (.reg [S0,S0] (.reg [S0] (.condT (.reg [S0,S0, .gen [] (fun vs=>Sx.one (uu (ci (varg vs 0)%65536)) vs), .gen [] (fun vs=>Sx.one (.int .i64 (ci (varg vs 0))) vs), .sem [.nw 1], .specw [20,1] [20,1] (F_app 3),S0] (.reg [S0, .gen [] (fun vs=>Sx.one (uu (ci (varg vs 0)/65536)) vs),S0] (.reg [S0,S0] (.reg [S0] (.condF (.reg [S0,S0] (.reg [S0] (.condT (.reg [S0,S0] (.reg [S0] (.reg [S0] (.condT (.reg [S0,S0, .gen [] (fun vs=>Sx.one (uu (ci (varg vs 0)%65536)) vs), .gen [] (fun vs=>Sx.one (.int .i64 (ci (varg vs 0))) vs), .sem [.nw 1], .specw [20,1] [20,1] (F_app 3),S0] (.reg [S0, .gen [] (fun vs=>Sx.one (uu (ci (varg vs 0)/65536)) vs),S0] (.reg [S0,S0] (.reg [S0] (.condT (.reg [S0,S0, .gen [] (fun vs=>Sx.one (uu (ci (varg vs 0)%65536)) vs), .gen [] (fun vs=>Sx.one (.int .i64 (ci (varg vs 0))) vs), .sem [.nw 1], .specw [20,1] [20,1] (F_app 3),S0] (.reg [S0, .gen [] (fun vs=>Sx.one (uu (ci (varg vs 0)/65536)) vs),S0] (.reg [S0,S0] (.reg [S0] (.condT (.reg [S0,S0, .gen [] (fun vs=>Sx.one (uu (ci (varg vs 0)%65536)) vs), .gen [] (fun vs=>Sx.one (.int .i64 (ci (varg vs 0))) vs), .sem [.nw 1], .specw [20,1] [20,1] (F_app 3),S0] (.reg [S0, .gen [] (fun vs=>Sx.one (uu (ci (varg vs 0)/65536)) vs),S0] (.reg [S0,S0] (.reg [S0] (.condT (.reg [S0,S0, .gen [] (fun vs=>Sx.one (uu (ci (varg vs 0)%65536)) vs), .gen [] (fun vs=>Sx.one (.int .i64 (ci (varg vs 0))) vs), .sem [.nw 1], .specw [20,1] [20,1] (F_app 3),S0] (.reg [S0, .gen [] (fun vs=>Sx.one (uu (ci (varg vs 0)/65536)) vs),S0] (.reg [S0,S0] (.reg [S0] (.condF (.reg [S0,S0] (.reg [S0] (.condT (.reg [S0,S0] (.reg [S0] (.reg [S0] (.condT (.reg [S0,S0, .gen [] (fun vs=>Sx.one (uu (ci (varg vs 0)%65536)) vs), .gen [] (fun vs=>Sx.one (.int .i64 (ci (varg vs 0))) vs), .sem [.nw 1], .specw [20,1] [20,1] (F_app 3),S0] (.reg [S0, .gen [] (fun vs=>Sx.one (uu (ci (varg vs 0)/65536)) vs),S0] (.reg [S0,S0] (.reg [S0] (.condT (.reg [S0,S0, .gen [] (fun vs=>Sx.one (uu (ci (varg vs 0)%65536)) vs), .gen [] (fun vs=>Sx.one (.int .i64 (ci (varg vs 0))) vs), .sem [.nw 1], .specw [20,1] [20,1] (F_app 3),S0] (.reg [S0, .gen [] (fun vs=>Sx.one (uu (ci (varg vs 0)/65536)) vs),S0] (.reg [S0,S0] (.reg [S0] (.condT (.reg [S0,S0, .gen [] (fun vs=>Sx.one (uu (ci (varg vs 0)%65536)) vs), .gen [] (fun vs=>Sx.one (.int .i64 (ci (varg vs 0))) vs), .sem [.nw 1], .specw [20,1] [20,1] (F_app 3),S0] (.reg [S0, .gen [] (fun vs=>Sx.one (uu (ci (varg vs 0)/65536)) vs),S0] (.reg [S0,S0] (.reg [S0] (.condT (.reg [S0,S0, .gen [] (fun vs=>Sx.one (uu (ci (varg vs 0)%65536)) vs), .gen [] (fun vs=>Sx.one (.int .i64 (ci (varg vs 0))) vs), .sem [.nw 1], .specw [20,1] [20,1] (F_app 3),S0] (.reg [S0, .gen [] (fun vs=>Sx.one (uu (ci (varg vs 0)/65536)) vs),S0] (.reg [S0,S0] (.reg [S0] (.condF (.reg [S0,S0] (.reg [S0] (.condT (.reg [S0,S0] (.reg [S0] (.reg [S0] (.condT (.reg [S0,S0, .gen [] (fun vs=>Sx.one (uu (ci (varg vs 0)%65536)) vs), .gen [] (fun vs=>Sx.one (.int .i64 (ci (varg vs 0))) vs), .sem [.nw 1], .specw [20,1] [20,1] (F_app 3),S0] (.reg [S0, .gen [] (fun vs=>Sx.one (uu (ci (varg vs 0)/65536)) vs),S0] (.reg [S0,S0] (.reg [S0] (.condT (.reg [S0,S0, .gen [] (fun vs=>Sx.one (uu (ci (varg vs 0)%65536)) vs), .gen [] (fun vs=>Sx.one (.int .i64 (ci (varg vs 0))) vs), .sem [.nw 1], .specw [20,1] [20,1] (F_app 3),S0] (.reg [S0, .gen [] (fun vs=>Sx.one (uu (ci (varg vs 0)/65536)) vs),S0] (.reg [S0,S0] (.reg [S0] (.condT (.reg [S0,S0, .gen [] (fun vs=>Sx.one (uu (ci (varg vs 0)%65536)) vs), .gen [] (fun vs=>Sx.one (.int .i64 (ci (varg vs 0))) vs), .sem [.nw 1], .specw [20,1] [20,1] (F_app 3),S0] (.reg [S0, .gen [] (fun vs=>Sx.one (uu (ci (varg vs 0)/65536)) vs),S0] (.reg [S0,S0] (.reg [S0] (.condT (.reg [S0,S0, .gen [] (fun vs=>Sx.one (uu (ci (varg vs 0)%65536)) vs), .gen [] (fun vs=>Sx.one (.int .i64 (ci (varg vs 0))) vs), .sem [.nw 1], .specw [20,1] [20,1] (F_app 3),S0] (.reg [S0, .gen [] (fun vs=>Sx.one (uu (ci (varg vs 0)/65536)) vs),S0] (.reg [S0,S0] (.reg [S0] (.condF (.reg [S0,S0] (.reg [S0] (.condF (.reg [S0, .callw [20] [20] ref1_Trim_C,S0] (.done)))))))))))))))))))))))))))))))))))))))))))))))))))))))))))))))))))))))))))))))))))))))))))))))))))))))))))))))))))
    (init za zh) (finW Try.prog Try.f38 [] [20] (X:=Row) zv zu zp))=
    (∀b1:Nat,rdQ 4 b1 ((true=true)/\(true=true)/\(∃_:Unit,True/\uu (Int.tmod (lim a 0) 65536)=uu ((lim a 0)%65536))/\ ∀_:Unit,(True)->(∃_:Unit,True/\Value.int .i64 (IntKind.i64.wrap ((lim a 0)%65536))= .int .i64 ((lim a 0)%65536))/\ ∀_:Unit,(True)-> ∀b2:Nat,opQ Try.prog (vS (Builtin.append_ #[86,86] 86 #[sv Row.nil, .slice (some ⟨b2,0,none⟩) 1 1])) [.free,bk b2 #[.int .i64 ((lim a 0)%65536)] 3] Row (fun zx=>sv zx) (fun zx=> [(ss 3 zx),bk b2 #[.int .i64 ((lim a 0)%65536)] 3]) (fun zx=>vals zx=rvals (sv Row.nil) (ss 3 Row.nil)++ [.int .i64 ((lim a 0)%65536)]) (fun x3=>(∃_:Unit,True/\uu (IntKind.u64.wrap (Int.tdiv (lim a 0) 65536))=uu ((lim a 0)/65536))/\ ∀_:Unit,(True)->(true=true)/\(∃_:Unit,True/\uu (Int.tmod ((lim a 0)/65536) 65536)=uu (((lim a 0)/65536)%65536))/\ ∀_:Unit,(True)->(∃_:Unit,True/\Value.int .i64 (IntKind.i64.wrap (((lim a 0)/65536)%65536))= .int .i64 (((lim a 0)/65536)%65536))/\ ∀_:Unit,(True)-> ∀b4:Nat,opQ Try.prog (vS (Builtin.append_ #[86,86] 86 #[sv x3, .slice (some ⟨b4,0,none⟩) 1 1])) [(ss 3 x3),bk b4 #[.int .i64 (((lim a 0)/65536)%65536)] 3] Row (fun zx=>sv zx) (fun zx=> [(ss 3 zx),bk b4 #[.int .i64 (((lim a 0)/65536)%65536)] 3]) (fun zx=>vals zx=rvals (sv x3) (ss 3 x3)++ [.int .i64 (((lim a 0)/65536)%65536)]) (fun x5=>(∃_:Unit,True/\uu (IntKind.u64.wrap (Int.tdiv ((lim a 0)/65536) 65536))=uu (((lim a 0)/65536)/65536))/\ ∀_:Unit,(True)->(true=true)/\(∃_:Unit,True/\uu (Int.tmod (((lim a 0)/65536)/65536) 65536)=uu ((((lim a 0)/65536)/65536)%65536))/\ ∀_:Unit,(True)->(∃_:Unit,True/\Value.int .i64 (IntKind.i64.wrap ((((lim a 0)/65536)/65536)%65536))= .int .i64 ((((lim a 0)/65536)/65536)%65536))/\ ∀_:Unit,(True)-> ∀b6:Nat,opQ Try.prog (vS (Builtin.append_ #[86,86] 86 #[sv x5, .slice (some ⟨b6,0,none⟩) 1 1])) [(ss 3 x5),bk b6 #[.int .i64 ((((lim a 0)/65536)/65536)%65536)] 3] Row (fun zx=>sv zx) (fun zx=> [(ss 3 zx),bk b6 #[.int .i64 ((((lim a 0)/65536)/65536)%65536)] 3]) (fun zx=>vals zx=rvals (sv x5) (ss 3 x5)++ [.int .i64 ((((lim a 0)/65536)/65536)%65536)]) (fun x7=>(∃_:Unit,True/\uu (IntKind.u64.wrap (Int.tdiv (((lim a 0)/65536)/65536) 65536))=uu ((((lim a 0)/65536)/65536)/65536))/\ ∀_:Unit,(True)->(true=true)/\(∃_:Unit,True/\uu (Int.tmod ((((lim a 0)/65536)/65536)/65536) 65536)=uu (((((lim a 0)/65536)/65536)/65536)%65536))/\ ∀_:Unit,(True)->(∃_:Unit,True/\Value.int .i64 (IntKind.i64.wrap (((((lim a 0)/65536)/65536)/65536)%65536))= .int .i64 (((((lim a 0)/65536)/65536)/65536)%65536))/\ ∀_:Unit,(True)-> ∀b8:Nat,opQ Try.prog (vS (Builtin.append_ #[86,86] 86 #[sv x7, .slice (some ⟨b8,0,none⟩) 1 1])) [(ss 3 x7),bk b8 #[.int .i64 (((((lim a 0)/65536)/65536)/65536)%65536)] 3] Row (fun zx=>sv zx) (fun zx=> [(ss 3 zx),bk b8 #[.int .i64 (((((lim a 0)/65536)/65536)/65536)%65536)] 3]) (fun zx=>vals zx=rvals (sv x7) (ss 3 x7)++ [.int .i64 (((((lim a 0)/65536)/65536)/65536)%65536)]) (fun x9=>(∃_:Unit,True/\uu (IntKind.u64.wrap (Int.tdiv ((((lim a 0)/65536)/65536)/65536) 65536))=uu (((((lim a 0)/65536)/65536)/65536)/65536))/\ ∀_:Unit,(True)->(false=false)/\(true=true)/\(true=true)/\(∃_:Unit,True/\uu (Int.tmod (lim a 1) 65536)=uu ((lim a 1)%65536))/\ ∀_:Unit,(True)->(∃_:Unit,True/\Value.int .i64 (IntKind.i64.wrap ((lim a 1)%65536))= .int .i64 ((lim a 1)%65536))/\ ∀_:Unit,(True)-> ∀b10:Nat,opQ Try.prog (vS (Builtin.append_ #[86,86] 86 #[sv x9, .slice (some ⟨b10,0,none⟩) 1 1])) [(ss 3 x9),bk b10 #[.int .i64 ((lim a 1)%65536)] 3] Row (fun zx=>sv zx) (fun zx=> [(ss 3 zx),bk b10 #[.int .i64 ((lim a 1)%65536)] 3]) (fun zx=>vals zx=rvals (sv x9) (ss 3 x9)++ [.int .i64 ((lim a 1)%65536)]) (fun x11=>(∃_:Unit,True/\uu (IntKind.u64.wrap (Int.tdiv (lim a 1) 65536))=uu ((lim a 1)/65536))/\ ∀_:Unit,(True)->(true=true)/\(∃_:Unit,True/\uu (Int.tmod ((lim a 1)/65536) 65536)=uu (((lim a 1)/65536)%65536))/\ ∀_:Unit,(True)->(∃_:Unit,True/\Value.int .i64 (IntKind.i64.wrap (((lim a 1)/65536)%65536))= .int .i64 (((lim a 1)/65536)%65536))/\ ∀_:Unit,(True)-> ∀b12:Nat,opQ Try.prog (vS (Builtin.append_ #[86,86] 86 #[sv x11, .slice (some ⟨b12,0,none⟩) 1 1])) [(ss 3 x11),bk b12 #[.int .i64 (((lim a 1)/65536)%65536)] 3] Row (fun zx=>sv zx) (fun zx=> [(ss 3 zx),bk b12 #[.int .i64 (((lim a 1)/65536)%65536)] 3]) (fun zx=>vals zx=rvals (sv x11) (ss 3 x11)++ [.int .i64 (((lim a 1)/65536)%65536)]) (fun x13=>(∃_:Unit,True/\uu (IntKind.u64.wrap (Int.tdiv ((lim a 1)/65536) 65536))=uu (((lim a 1)/65536)/65536))/\ ∀_:Unit,(True)->(true=true)/\(∃_:Unit,True/\uu (Int.tmod (((lim a 1)/65536)/65536) 65536)=uu ((((lim a 1)/65536)/65536)%65536))/\ ∀_:Unit,(True)->(∃_:Unit,True/\Value.int .i64 (IntKind.i64.wrap ((((lim a 1)/65536)/65536)%65536))= .int .i64 ((((lim a 1)/65536)/65536)%65536))/\ ∀_:Unit,(True)-> ∀b14:Nat,opQ Try.prog (vS (Builtin.append_ #[86,86] 86 #[sv x13, .slice (some ⟨b14,0,none⟩) 1 1])) [(ss 3 x13),bk b14 #[.int .i64 ((((lim a 1)/65536)/65536)%65536)] 3] Row (fun zx=>sv zx) (fun zx=> [(ss 3 zx),bk b14 #[.int .i64 ((((lim a 1)/65536)/65536)%65536)] 3]) (fun zx=>vals zx=rvals (sv x13) (ss 3 x13)++ [.int .i64 ((((lim a 1)/65536)/65536)%65536)]) (fun x15=>(∃_:Unit,True/\uu (IntKind.u64.wrap (Int.tdiv (((lim a 1)/65536)/65536) 65536))=uu ((((lim a 1)/65536)/65536)/65536))/\ ∀_:Unit,(True)->(true=true)/\(∃_:Unit,True/\uu (Int.tmod ((((lim a 1)/65536)/65536)/65536) 65536)=uu (((((lim a 1)/65536)/65536)/65536)%65536))/\ ∀_:Unit,(True)->(∃_:Unit,True/\Value.int .i64 (IntKind.i64.wrap (((((lim a 1)/65536)/65536)/65536)%65536))= .int .i64 (((((lim a 1)/65536)/65536)/65536)%65536))/\ ∀_:Unit,(True)-> ∀b16:Nat,opQ Try.prog (vS (Builtin.append_ #[86,86] 86 #[sv x15, .slice (some ⟨b16,0,none⟩) 1 1])) [(ss 3 x15),bk b16 #[.int .i64 (((((lim a 1)/65536)/65536)/65536)%65536)] 3] Row (fun zx=>sv zx) (fun zx=> [(ss 3 zx),bk b16 #[.int .i64 (((((lim a 1)/65536)/65536)/65536)%65536)] 3]) (fun zx=>vals zx=rvals (sv x15) (ss 3 x15)++ [.int .i64 (((((lim a 1)/65536)/65536)/65536)%65536)]) (fun x17=>(∃_:Unit,True/\uu (IntKind.u64.wrap (Int.tdiv ((((lim a 1)/65536)/65536)/65536) 65536))=uu (((((lim a 1)/65536)/65536)/65536)/65536))/\ ∀_:Unit,(True)->(false=false)/\(true=true)/\(true=true)/\(∃_:Unit,True/\uu (Int.tmod (lim a 2) 65536)=uu ((lim a 2)%65536))/\ ∀_:Unit,(True)->(∃_:Unit,True/\Value.int .i64 (IntKind.i64.wrap ((lim a 2)%65536))= .int .i64 ((lim a 2)%65536))/\ ∀_:Unit,(True)-> ∀b18:Nat,opQ Try.prog (vS (Builtin.append_ #[86,86] 86 #[sv x17, .slice (some ⟨b18,0,none⟩) 1 1])) [(ss 3 x17),bk b18 #[.int .i64 ((lim a 2)%65536)] 3] Row (fun zx=>sv zx) (fun zx=> [(ss 3 zx),bk b18 #[.int .i64 ((lim a 2)%65536)] 3]) (fun zx=>vals zx=rvals (sv x17) (ss 3 x17)++ [.int .i64 ((lim a 2)%65536)]) (fun x19=>(∃_:Unit,True/\uu (IntKind.u64.wrap (Int.tdiv (lim a 2) 65536))=uu ((lim a 2)/65536))/\ ∀_:Unit,(True)->(true=true)/\(∃_:Unit,True/\uu (Int.tmod ((lim a 2)/65536) 65536)=uu (((lim a 2)/65536)%65536))/\ ∀_:Unit,(True)->(∃_:Unit,True/\Value.int .i64 (IntKind.i64.wrap (((lim a 2)/65536)%65536))= .int .i64 (((lim a 2)/65536)%65536))/\ ∀_:Unit,(True)-> ∀b20:Nat,opQ Try.prog (vS (Builtin.append_ #[86,86] 86 #[sv x19, .slice (some ⟨b20,0,none⟩) 1 1])) [(ss 3 x19),bk b20 #[.int .i64 (((lim a 2)/65536)%65536)] 3] Row (fun zx=>sv zx) (fun zx=> [(ss 3 zx),bk b20 #[.int .i64 (((lim a 2)/65536)%65536)] 3]) (fun zx=>vals zx=rvals (sv x19) (ss 3 x19)++ [.int .i64 (((lim a 2)/65536)%65536)]) (fun x21=>(∃_:Unit,True/\uu (IntKind.u64.wrap (Int.tdiv ((lim a 2)/65536) 65536))=uu (((lim a 2)/65536)/65536))/\ ∀_:Unit,(True)->(true=true)/\(∃_:Unit,True/\uu (Int.tmod (((lim a 2)/65536)/65536) 65536)=uu ((((lim a 2)/65536)/65536)%65536))/\ ∀_:Unit,(True)->(∃_:Unit,True/\Value.int .i64 (IntKind.i64.wrap ((((lim a 2)/65536)/65536)%65536))= .int .i64 ((((lim a 2)/65536)/65536)%65536))/\ ∀_:Unit,(True)-> ∀b22:Nat,opQ Try.prog (vS (Builtin.append_ #[86,86] 86 #[sv x21, .slice (some ⟨b22,0,none⟩) 1 1])) [(ss 3 x21),bk b22 #[.int .i64 ((((lim a 2)/65536)/65536)%65536)] 3] Row (fun zx=>sv zx) (fun zx=> [(ss 3 zx),bk b22 #[.int .i64 ((((lim a 2)/65536)/65536)%65536)] 3]) (fun zx=>vals zx=rvals (sv x21) (ss 3 x21)++ [.int .i64 ((((lim a 2)/65536)/65536)%65536)]) (fun x23=>(∃_:Unit,True/\uu (IntKind.u64.wrap (Int.tdiv (((lim a 2)/65536)/65536) 65536))=uu ((((lim a 2)/65536)/65536)/65536))/\ ∀_:Unit,(True)->(true=true)/\(∃_:Unit,True/\uu (Int.tmod ((((lim a 2)/65536)/65536)/65536) 65536)=uu (((((lim a 2)/65536)/65536)/65536)%65536))/\ ∀_:Unit,(True)->(∃_:Unit,True/\Value.int .i64 (IntKind.i64.wrap (((((lim a 2)/65536)/65536)/65536)%65536))= .int .i64 (((((lim a 2)/65536)/65536)/65536)%65536))/\ ∀_:Unit,(True)-> ∀b24:Nat,opQ Try.prog (vS (Builtin.append_ #[86,86] 86 #[sv x23, .slice (some ⟨b24,0,none⟩) 1 1])) [(ss 3 x23),bk b24 #[.int .i64 (((((lim a 2)/65536)/65536)/65536)%65536)] 3] Row (fun zx=>sv zx) (fun zx=> [(ss 3 zx),bk b24 #[.int .i64 (((((lim a 2)/65536)/65536)/65536)%65536)] 3]) (fun zx=>vals zx=rvals (sv x23) (ss 3 x23)++ [.int .i64 (((((lim a 2)/65536)/65536)/65536)%65536)]) (fun x25=>(∃_:Unit,True/\uu (IntKind.u64.wrap (Int.tdiv ((((lim a 2)/65536)/65536)/65536) 65536))=uu (((((lim a 2)/65536)/65536)/65536)/65536))/\ ∀_:Unit,(True)->(false=false)/\(true=true)/\(true=true)/\(∃_:Unit,True/\uu (Int.tmod (lim a 3) 65536)=uu ((lim a 3)%65536))/\ ∀_:Unit,(True)->(∃_:Unit,True/\Value.int .i64 (IntKind.i64.wrap ((lim a 3)%65536))= .int .i64 ((lim a 3)%65536))/\ ∀_:Unit,(True)-> ∀b26:Nat,opQ Try.prog (vS (Builtin.append_ #[86,86] 86 #[sv x25, .slice (some ⟨b26,0,none⟩) 1 1])) [(ss 3 x25),bk b26 #[.int .i64 ((lim a 3)%65536)] 3] Row (fun zx=>sv zx) (fun zx=> [(ss 3 zx),bk b26 #[.int .i64 ((lim a 3)%65536)] 3]) (fun zx=>vals zx=rvals (sv x25) (ss 3 x25)++ [.int .i64 ((lim a 3)%65536)]) (fun x27=>(∃_:Unit,True/\uu (IntKind.u64.wrap (Int.tdiv (lim a 3) 65536))=uu ((lim a 3)/65536))/\ ∀_:Unit,(True)->(true=true)/\(∃_:Unit,True/\uu (Int.tmod ((lim a 3)/65536) 65536)=uu (((lim a 3)/65536)%65536))/\ ∀_:Unit,(True)->(∃_:Unit,True/\Value.int .i64 (IntKind.i64.wrap (((lim a 3)/65536)%65536))= .int .i64 (((lim a 3)/65536)%65536))/\ ∀_:Unit,(True)-> ∀b28:Nat,opQ Try.prog (vS (Builtin.append_ #[86,86] 86 #[sv x27, .slice (some ⟨b28,0,none⟩) 1 1])) [(ss 3 x27),bk b28 #[.int .i64 (((lim a 3)/65536)%65536)] 3] Row (fun zx=>sv zx) (fun zx=> [(ss 3 zx),bk b28 #[.int .i64 (((lim a 3)/65536)%65536)] 3]) (fun zx=>vals zx=rvals (sv x27) (ss 3 x27)++ [.int .i64 (((lim a 3)/65536)%65536)]) (fun x29=>(∃_:Unit,True/\uu (IntKind.u64.wrap (Int.tdiv ((lim a 3)/65536) 65536))=uu (((lim a 3)/65536)/65536))/\ ∀_:Unit,(True)->(true=true)/\(∃_:Unit,True/\uu (Int.tmod (((lim a 3)/65536)/65536) 65536)=uu ((((lim a 3)/65536)/65536)%65536))/\ ∀_:Unit,(True)->(∃_:Unit,True/\Value.int .i64 (IntKind.i64.wrap ((((lim a 3)/65536)/65536)%65536))= .int .i64 ((((lim a 3)/65536)/65536)%65536))/\ ∀_:Unit,(True)-> ∀b30:Nat,opQ Try.prog (vS (Builtin.append_ #[86,86] 86 #[sv x29, .slice (some ⟨b30,0,none⟩) 1 1])) [(ss 3 x29),bk b30 #[.int .i64 ((((lim a 3)/65536)/65536)%65536)] 3] Row (fun zx=>sv zx) (fun zx=> [(ss 3 zx),bk b30 #[.int .i64 ((((lim a 3)/65536)/65536)%65536)] 3]) (fun zx=>vals zx=rvals (sv x29) (ss 3 x29)++ [.int .i64 ((((lim a 3)/65536)/65536)%65536)]) (fun x31=>(∃_:Unit,True/\uu (IntKind.u64.wrap (Int.tdiv (((lim a 3)/65536)/65536) 65536))=uu ((((lim a 3)/65536)/65536)/65536))/\ ∀_:Unit,(True)->(true=true)/\(∃_:Unit,True/\uu (Int.tmod ((((lim a 3)/65536)/65536)/65536) 65536)=uu (((((lim a 3)/65536)/65536)/65536)%65536))/\ ∀_:Unit,(True)->(∃_:Unit,True/\Value.int .i64 (IntKind.i64.wrap (((((lim a 3)/65536)/65536)/65536)%65536))= .int .i64 (((((lim a 3)/65536)/65536)/65536)%65536))/\ ∀_:Unit,(True)-> ∀b32:Nat,opQ Try.prog (vS (Builtin.append_ #[86,86] 86 #[sv x31, .slice (some ⟨b32,0,none⟩) 1 1])) [(ss 3 x31),bk b32 #[.int .i64 (((((lim a 3)/65536)/65536)/65536)%65536)] 3] Row (fun zx=>sv zx) (fun zx=> [(ss 3 zx),bk b32 #[.int .i64 (((((lim a 3)/65536)/65536)/65536)%65536)] 3]) (fun zx=>vals zx=rvals (sv x31) (ss 3 x31)++ [.int .i64 (((((lim a 3)/65536)/65536)/65536)%65536)]) (fun x33=>(∃_:Unit,True/\uu (IntKind.u64.wrap (Int.tdiv ((((lim a 3)/65536)/65536)/65536) 65536))=uu (((((lim a 3)/65536)/65536)/65536)/65536))/\ ∀_:Unit,(True)->(false=false)/\(false=false)/\ref1_Trim_K x33 (fun x34=>ref2_Row_Q a (sv x34) (ss 3 x34)))))))))))))))))))):=by kernel_rfl
set_option maxRecDepth 100000 in
set_option maxHeartbeats 2000000 in
theorem ref2_Row (a:Int) (r_a:R4 a):ref2_Row_A a (fun za zh zv zu zp=>CallT Try.prog 38 za zh Row zv zu zp):=by
  refine call_of (c:=bodyOf Try.f38) (n:=24) (fn:=Try.f38) Try.mixed Try.func38 (by kernel_rfl) (by kernel_rfl) (by kernel_rfl) 2000 _ [] [20] rfl rfl (Eq.mpr (ref2_Row_vc a) ?_)
  have q0:=nil3
  intro b1
  refine rdQ_mk 4 _ ⟨rfl,?_⟩
  have ww:=W_lim a 0
  refine ⟨rfl,⟨⟨(),trivial,congrArg (Value.int .u64) (tmod_nat ww.1)⟩,fun _=>fun _=>⟨⟨(),trivial,congrArg (Value.int .i64) (conv16 _)⟩,fun _=>fun _=>fun b2=>opQ_mk (xappendR Try.sl86 86 Row.nil (Nat.le_trans (Nat.le_of_eq q0.2.1) (by decide)) b2 1 (.int .i64 ((lim a 0)%65536)) rfl) (wit_app _) fun x3 h1=> ?_⟩⟩⟩
  rw [rvals_eq] at h1
  have q1:=snoc3 (x:=((lim a 0)%65536)) q0 (show P16 0=1 from rfl) (by assumption) (m16_0 _) (m16_1 _)
  refine ⟨⟨(),trivial,congrArg (Value.int .u64) (quo_u16 ww)⟩,fun _=>fun _=>⟨rfl,⟨⟨(),trivial,congrArg (Value.int .u64) (tmod_nat (W_div ww).1)⟩,fun _=>fun _=>⟨⟨(),trivial,congrArg (Value.int .i64) (conv16 _)⟩,fun _=>fun _=>fun b4=>opQ_mk (xappendR Try.sl86 86 x3 (Nat.le_trans (Nat.le_of_eq q1.2.1) (by decide)) b4 1 (.int .i64 (((lim a 0)/65536)%65536)) rfl) (wit_app _) fun x5 h2=> ?_⟩⟩⟩⟩
  rw [rvals_eq] at h2
  have q2:=snoc3 (x:=(((lim a 0)/65536)%65536)) q1 (show P16 1=65536 from rfl) (by assumption) (m16_0 _) (m16_1 _)
  refine ⟨⟨(),trivial,congrArg (Value.int .u64) (quo_u16 (W_div ww))⟩,fun _=>fun _=>⟨rfl,⟨⟨(),trivial,congrArg (Value.int .u64) (tmod_nat (W_div (W_div ww)).1)⟩,fun _=>fun _=>⟨⟨(),trivial,congrArg (Value.int .i64) (conv16 _)⟩,fun _=>fun _=>fun b6=>opQ_mk (xappendR Try.sl86 86 x5 (Nat.le_trans (Nat.le_of_eq q2.2.1) (by decide)) b6 1 (.int .i64 ((((lim a 0)/65536)/65536)%65536)) rfl) (wit_app _) fun x7 h3=> ?_⟩⟩⟩⟩
  rw [rvals_eq] at h3
  have q3:=snoc3 (x:=((((lim a 0)/65536)/65536)%65536)) q2 (show P16 2=4294967296 from rfl) (by assumption) (m16_0 _) (m16_1 _)
  refine ⟨⟨(),trivial,congrArg (Value.int .u64) (quo_u16 (W_div (W_div ww)))⟩,fun _=>fun _=>⟨rfl,⟨⟨(),trivial,congrArg (Value.int .u64) (tmod_nat (W_div (W_div (W_div ww))).1)⟩,fun _=>fun _=>⟨⟨(),trivial,congrArg (Value.int .i64) (conv16 _)⟩,fun _=>fun _=>fun b8=>opQ_mk (xappendR Try.sl86 86 x7 (Nat.le_trans (Nat.le_of_eq q3.2.1) (by decide)) b8 1 (.int .i64 (((((lim a 0)/65536)/65536)/65536)%65536)) rfl) (wit_app _) fun x9 h4=> ?_⟩⟩⟩⟩
  rw [rvals_eq] at h4
  have q4:=snoc3 (x:=(((((lim a 0)/65536)/65536)/65536)%65536)) q3 (show P16 3=281474976710656 from rfl) (by assumption) (m16_0 _) (m16_1 _)
  refine ⟨⟨(),trivial,congrArg (Value.int .u64) (quo_u16 (W_div (W_div (W_div ww))))⟩,fun _=>fun _=>⟨rfl,⟨rfl,?_⟩⟩⟩
  have ww:=W_lim a 1
  refine ⟨rfl,⟨⟨(),trivial,congrArg (Value.int .u64) (tmod_nat ww.1)⟩,fun _=>fun _=>⟨⟨(),trivial,congrArg (Value.int .i64) (conv16 _)⟩,fun _=>fun _=>fun b10=>opQ_mk (xappendR Try.sl86 86 x9 (Nat.le_trans (Nat.le_of_eq q4.2.1) (by decide)) b10 1 (.int .i64 ((lim a 1)%65536)) rfl) (wit_app _) fun x11 h5=> ?_⟩⟩⟩
  rw [rvals_eq] at h5
  have q5:=snoc3 (x:=((lim a 1)%65536)) q4 (show P16 4=18446744073709551616 from rfl) (by assumption) (m16_0 _) (m16_1 _)
  refine ⟨⟨(),trivial,congrArg (Value.int .u64) (quo_u16 ww)⟩,fun _=>fun _=>⟨rfl,⟨⟨(),trivial,congrArg (Value.int .u64) (tmod_nat (W_div ww).1)⟩,fun _=>fun _=>⟨⟨(),trivial,congrArg (Value.int .i64) (conv16 _)⟩,fun _=>fun _=>fun b12=>opQ_mk (xappendR Try.sl86 86 x11 (Nat.le_trans (Nat.le_of_eq q5.2.1) (by decide)) b12 1 (.int .i64 (((lim a 1)/65536)%65536)) rfl) (wit_app _) fun x13 h6=> ?_⟩⟩⟩⟩
  rw [rvals_eq] at h6
  have q6:=snoc3 (x:=(((lim a 1)/65536)%65536)) q5 (show P16 5=1208925819614629174706176 from rfl) (by assumption) (m16_0 _) (m16_1 _)
  refine ⟨⟨(),trivial,congrArg (Value.int .u64) (quo_u16 (W_div ww))⟩,fun _=>fun _=>⟨rfl,⟨⟨(),trivial,congrArg (Value.int .u64) (tmod_nat (W_div (W_div ww)).1)⟩,fun _=>fun _=>⟨⟨(),trivial,congrArg (Value.int .i64) (conv16 _)⟩,fun _=>fun _=>fun b14=>opQ_mk (xappendR Try.sl86 86 x13 (Nat.le_trans (Nat.le_of_eq q6.2.1) (by decide)) b14 1 (.int .i64 ((((lim a 1)/65536)/65536)%65536)) rfl) (wit_app _) fun x15 h7=> ?_⟩⟩⟩⟩
  rw [rvals_eq] at h7
  have q7:=snoc3 (x:=((((lim a 1)/65536)/65536)%65536)) q6 (show P16 6=79228162514264337593543950336 from rfl) (by assumption) (m16_0 _) (m16_1 _)
  refine ⟨⟨(),trivial,congrArg (Value.int .u64) (quo_u16 (W_div (W_div ww)))⟩,fun _=>fun _=>⟨rfl,⟨⟨(),trivial,congrArg (Value.int .u64) (tmod_nat (W_div (W_div (W_div ww))).1)⟩,fun _=>fun _=>⟨⟨(),trivial,congrArg (Value.int .i64) (conv16 _)⟩,fun _=>fun _=>fun b16=>opQ_mk (xappendR Try.sl86 86 x15 (Nat.le_trans (Nat.le_of_eq q7.2.1) (by decide)) b16 1 (.int .i64 (((((lim a 1)/65536)/65536)/65536)%65536)) rfl) (wit_app _) fun x17 h8=> ?_⟩⟩⟩⟩
  rw [rvals_eq] at h8
  have q8:=snoc3 (x:=(((((lim a 1)/65536)/65536)/65536)%65536)) q7 (show P16 7=5192296858534827628530496329220096 from rfl) (by assumption) (m16_0 _) (m16_1 _)
  refine ⟨⟨(),trivial,congrArg (Value.int .u64) (quo_u16 (W_div (W_div (W_div ww))))⟩,fun _=>fun _=>⟨rfl,⟨rfl,?_⟩⟩⟩
  have ww:=W_lim a 2
  refine ⟨rfl,⟨⟨(),trivial,congrArg (Value.int .u64) (tmod_nat ww.1)⟩,fun _=>fun _=>⟨⟨(),trivial,congrArg (Value.int .i64) (conv16 _)⟩,fun _=>fun _=>fun b18=>opQ_mk (xappendR Try.sl86 86 x17 (Nat.le_trans (Nat.le_of_eq q8.2.1) (by decide)) b18 1 (.int .i64 ((lim a 2)%65536)) rfl) (wit_app _) fun x19 h9=> ?_⟩⟩⟩
  rw [rvals_eq] at h9
  have q9:=snoc3 (x:=((lim a 2)%65536)) q8 (show P16 8=340282366920938463463374607431768211456 from rfl) (by assumption) (m16_0 _) (m16_1 _)
  refine ⟨⟨(),trivial,congrArg (Value.int .u64) (quo_u16 ww)⟩,fun _=>fun _=>⟨rfl,⟨⟨(),trivial,congrArg (Value.int .u64) (tmod_nat (W_div ww).1)⟩,fun _=>fun _=>⟨⟨(),trivial,congrArg (Value.int .i64) (conv16 _)⟩,fun _=>fun _=>fun b20=>opQ_mk (xappendR Try.sl86 86 x19 (Nat.le_trans (Nat.le_of_eq q9.2.1) (by decide)) b20 1 (.int .i64 (((lim a 2)/65536)%65536)) rfl) (wit_app _) fun x21 h10=> ?_⟩⟩⟩⟩
  rw [rvals_eq] at h10
  have q10:=snoc3 (x:=(((lim a 2)/65536)%65536)) q9 (show P16 9=22300745198530623141535718272648361505980416 from rfl) (by assumption) (m16_0 _) (m16_1 _)
  refine ⟨⟨(),trivial,congrArg (Value.int .u64) (quo_u16 (W_div ww))⟩,fun _=>fun _=>⟨rfl,⟨⟨(),trivial,congrArg (Value.int .u64) (tmod_nat (W_div (W_div ww)).1)⟩,fun _=>fun _=>⟨⟨(),trivial,congrArg (Value.int .i64) (conv16 _)⟩,fun _=>fun _=>fun b22=>opQ_mk (xappendR Try.sl86 86 x21 (Nat.le_trans (Nat.le_of_eq q10.2.1) (by decide)) b22 1 (.int .i64 ((((lim a 2)/65536)/65536)%65536)) rfl) (wit_app _) fun x23 h11=> ?_⟩⟩⟩⟩
  rw [rvals_eq] at h11
  have q11:=snoc3 (x:=((((lim a 2)/65536)/65536)%65536)) q10 (show P16 10=1461501637330902918203684832716283019655932542976 from rfl) (by assumption) (m16_0 _) (m16_1 _)
  refine ⟨⟨(),trivial,congrArg (Value.int .u64) (quo_u16 (W_div (W_div ww)))⟩,fun _=>fun _=>⟨rfl,⟨⟨(),trivial,congrArg (Value.int .u64) (tmod_nat (W_div (W_div (W_div ww))).1)⟩,fun _=>fun _=>⟨⟨(),trivial,congrArg (Value.int .i64) (conv16 _)⟩,fun _=>fun _=>fun b24=>opQ_mk (xappendR Try.sl86 86 x23 (Nat.le_trans (Nat.le_of_eq q11.2.1) (by decide)) b24 1 (.int .i64 (((((lim a 2)/65536)/65536)/65536)%65536)) rfl) (wit_app _) fun x25 h12=> ?_⟩⟩⟩⟩
  rw [rvals_eq] at h12
  have q12:=snoc3 (x:=(((((lim a 2)/65536)/65536)/65536)%65536)) q11 (show P16 11=95780971304118053647396689196894323976171195136475136 from rfl) (by assumption) (m16_0 _) (m16_1 _)
  refine ⟨⟨(),trivial,congrArg (Value.int .u64) (quo_u16 (W_div (W_div (W_div ww))))⟩,fun _=>fun _=>⟨rfl,⟨rfl,?_⟩⟩⟩
  have ww:=W_lim a 3
  refine ⟨rfl,⟨⟨(),trivial,congrArg (Value.int .u64) (tmod_nat ww.1)⟩,fun _=>fun _=>⟨⟨(),trivial,congrArg (Value.int .i64) (conv16 _)⟩,fun _=>fun _=>fun b26=>opQ_mk (xappendR Try.sl86 86 x25 (Nat.le_trans (Nat.le_of_eq q12.2.1) (by decide)) b26 1 (.int .i64 ((lim a 3)%65536)) rfl) (wit_app _) fun x27 h13=> ?_⟩⟩⟩
  rw [rvals_eq] at h13
  have q13:=snoc3 (x:=((lim a 3)%65536)) q12 (show P16 12=6277101735386680763835789423207666416102355444464034512896 from rfl) (by assumption) (m16_0 _) (m16_1 _)
  refine ⟨⟨(),trivial,congrArg (Value.int .u64) (quo_u16 ww)⟩,fun _=>fun _=>⟨rfl,⟨⟨(),trivial,congrArg (Value.int .u64) (tmod_nat (W_div ww).1)⟩,fun _=>fun _=>⟨⟨(),trivial,congrArg (Value.int .i64) (conv16 _)⟩,fun _=>fun _=>fun b28=>opQ_mk (xappendR Try.sl86 86 x27 (Nat.le_trans (Nat.le_of_eq q13.2.1) (by decide)) b28 1 (.int .i64 (((lim a 3)/65536)%65536)) rfl) (wit_app _) fun x29 h14=> ?_⟩⟩⟩⟩
  rw [rvals_eq] at h14
  have q14:=snoc3 (x:=(((lim a 3)/65536)%65536)) q13 (show P16 13=411376139330301510538742295639337626245683966408394965837152256 from rfl) (by assumption) (m16_0 _) (m16_1 _)
  refine ⟨⟨(),trivial,congrArg (Value.int .u64) (quo_u16 (W_div ww))⟩,fun _=>fun _=>⟨rfl,⟨⟨(),trivial,congrArg (Value.int .u64) (tmod_nat (W_div (W_div ww)).1)⟩,fun _=>fun _=>⟨⟨(),trivial,congrArg (Value.int .i64) (conv16 _)⟩,fun _=>fun _=>fun b30=>opQ_mk (xappendR Try.sl86 86 x29 (Nat.le_trans (Nat.le_of_eq q14.2.1) (by decide)) b30 1 (.int .i64 ((((lim a 3)/65536)/65536)%65536)) rfl) (wit_app _) fun x31 h15=> ?_⟩⟩⟩⟩
  rw [rvals_eq] at h15
  have q15:=snoc3 (x:=((((lim a 3)/65536)/65536)%65536)) q14 (show P16 14=26959946667150639794667015087019630673637144422540572481103610249216 from rfl) (by assumption) (m16_0 _) (m16_1 _)
  refine ⟨⟨(),trivial,congrArg (Value.int .u64) (quo_u16 (W_div (W_div ww)))⟩,fun _=>fun _=>⟨rfl,⟨⟨(),trivial,congrArg (Value.int .u64) (tmod_nat (W_div (W_div (W_div ww))).1)⟩,fun _=>fun _=>⟨⟨(),trivial,congrArg (Value.int .i64) (conv16 _)⟩,fun _=>fun _=>fun b32=>opQ_mk (xappendR Try.sl86 86 x31 (Nat.le_trans (Nat.le_of_eq q15.2.1) (by decide)) b32 1 (.int .i64 (((((lim a 3)/65536)/65536)/65536)%65536)) rfl) (wit_app _) fun x33 h16=> ?_⟩⟩⟩⟩
  rw [rvals_eq] at h16
  have q16:=snoc3 (x:=(((((lim a 3)/65536)/65536)/65536)%65536)) q15 (show P16 15=1766847064778384329583297500742918515827483896875618958121606201292619776 from rfl) (by assumption) (m16_0 _) (m16_1 _)
  refine ⟨⟨(),trivial,congrArg (Value.int .u64) (quo_u16 (W_div (W_div (W_div ww))))⟩,fun _=>fun _=>⟨rfl,⟨rfl,?_⟩⟩⟩
  obtain ⟨ok16,ql,hq⟩:=q16
  clear q0 q1 q2 q3 q4 q5 q6 q7 q8 q9 q10 q11 q12 q13 q14 q15
  refine ref1_Trim_m x33 (fun x34 rh17_ h17=> ?_)
  unfold ref2_Row_Q
  have T:TrimR (dg x33) (dg x34):=by first | exact And.right (by assumption) | assumption
  have w0:=limb_digits (W_lim a 0)
  have w1:=limb_digits (W_lim a 1)
  have w2:=limb_digits (W_lim a 2)
  have w3:=limb_digits (W_lim a 3)
  have ea:=lims a
  rw [num_vI r_a] at ea
  have hn:nv (dg x34)=a:=by
    rw [T.eq,hq]
    refine Eq.trans ?_ ea.symm
    clear hq ea
    omega
  exact ⟨_,⟨by assumption,by rw [num_vI r_a];exact hn,T.canon,num_len (RowOK.dig (by assumption)) T.canon hn r_a⟩,rfl,rfl,trivial⟩
abbrev ref2_Row_K (a:Int) (KK:Row->Prop):Prop:=ref2_Row_A a (fun za zh zv zu zp=>callQ Try.prog 38 za zh Row zv zu zp KK)
theorem ref2_Row_m (a:Int) {KK:Row->Prop} (kont: ∀zx:Row,RowOK zx->(nv (dg zx)=a/\Canon (dg zx)/\(dg zx).length<=16)->KK zx) (r_a:R4 a:=by assumption):ref2_Row_K a KK:=callQ_mk (ref2_Row a r_a) (wit_num (by first | exact R4_num _ | exact r_a)) fun zx hz=>by
  obtain ⟨rhz_,hz⟩:=hz
  try simp only [num_vI (n:=a) r_a] at hz
  exact kont zx rhz_ hz
theorem Try.xeq32 (a b:Int):PureRun Try.prog (xBin .eql 32 (vI a) (vI b)) (.bool (num (vI a)==num (vI b))):=xeq4 (e:=30) (by kernel_rfl) (by kernel_rfl) (fun w=>by kernel_rfl) (fun w=>by kernel_rfl) (by kernel_rfl) a b
theorem Try.xne32 (a b:Int):PureRun Try.prog (xBin .neq 32 (vI a) (vI b)) (.bool (num (vI a) !=num (vI b))):=xne4 (e:=30) (by kernel_rfl) (by kernel_rfl) (fun w=>by kernel_rfl) (fun w=>by kernel_rfl) (by kernel_rfl) a b
theorem Try.kls42:KL Try.prog 42 (fun v=> ∃n0 n1:Int,v= .agg #[.int .u8 n0, .int .u8 n1]):=kl_struct2 (f0:=(Try.prog.fieldsOf 42).getD 0 default) (f1:=(Try.prog.fieldsOf 42).getD 1 default) (by kernel_rfl) (by kernel_rfl) (by kernel_rfl) (by kernel_rfl) (by kernel_rfl) (by kernel_rfl) (by kernel_rfl) (by kernel_rfl) (fun w=>by kernel_rfl) (fun w=>by kernel_rfl) (fun b a c w=>by kernel_rfl)
def Try.jk:JK:=⟨29,1⟩
theorem Try.sl27:SlT Try.prog 27 1 .nilFunc:=SlT.of (by kernel_rfl) (by kernel_rfl) (by kernel_rfl) (by kernel_rfl) rfl
abbrev stage_Mark_raw_Q (bj:Nat) (row:Rw) (zv:Value) (zs0:Slot) (zs1:Slot):Prop:= ∃_:Unit,(True)/\zv= .int .i64 ((vlen (sv row):Nat):Int)/\zs0=bk bj #[sv row] 29/\zs1=(ss 1 row)/\True
set_option maxRecDepth 100000 in
theorem stage_Mark_raw_vc (bj:Nat) (row:Rw):codeW Try.prog 8 none 2000 none (bodyOf Try.f12) (.reg [S0] (.reg [S0,S0,S0, .sem [.rd 0], .eq (f_len),S0] (.done)))
    (init #[pp bj 0] [bk bj #[sv row] 29,(ss 1 row)]) (finW Try.prog Try.f12 [] [0,1] (X:=Unit) (fun _=> .int .i64 ((vlen (sv row):Nat):Int)) (fun _=> [bk bj #[sv row] 29,(ss 1 row)]) (fun _=>True))=
    (rdQ 1 bj ((PureRun Try.prog (vS (Builtin.len_ #[27] 3 #[sv row])) (.int .i64 ((vlen (sv row):Nat):Int)))/\stage_Mark_raw_Q bj row (Value.int .i64 ((vlen (sv row):Nat):Int)) (bk bj #[sv row] 29) (ss 1 row))):=by kernel_rfl
set_option maxRecDepth 100000 in
theorem stage_Mark_raw (bj:Nat) (row:Rw) :CallT Try.prog 12 #[pp bj 0] [bk bj #[sv row] 29,(ss 1 row)] Unit (fun _=> .int .i64 ((vlen (sv row):Nat):Int)) (fun _=> [bk bj #[sv row] 29,(ss 1 row)]) (fun _=>True):=by
  refine call_of (c:=bodyOf Try.f12) (n:=8) (fn:=Try.f12) Try.mixed Try.func12 (by kernel_rfl) (by kernel_rfl) (by kernel_rfl) 2000 _ [] [0,1] rfl rfl (Eq.mpr (stage_Mark_raw_vc bj row) ?_)
  exact rdQ_mk 1 _ ⟨xlen Try.sl27 3 row,⟨(),trivial,rfl,rfl,rfl,trivial⟩⟩
def stage_Mark_C:List Value->List Slot->Ctr:=fun vs hs=>⟨Int,fun zx=> .int .i64 zx,fun _=>hs,fun zx=>zx=((((sents (sarg hs 0)):List Ent).length:Nat):Int)⟩
theorem stage_Mark (bj:Nat) (L:List Ent) :CallT Try.prog 12 #[.pointer (some ⟨bj,0,none⟩)] [(jS Try.jk bj L)] Int (fun zx=> .int .i64 zx) (fun zx=> [(jS Try.jk bj L)]) (fun zx=>(zx=(((L:List Ent).length:Nat):Int))):=by
  refine jS_read (enterOK (c:=bodyOf Try.f12) Try.func12 (by kernel_rfl) (by kernel_rfl)) fun row _ hl=> ?_
  exact (stage_Mark_raw bj row).exists fun _ _=>⟨_,rfl,by rw [vlen_sv,hl],Imp.refl _⟩
noncomputable def Try.ent92 (b:Nat) (m:KV) (key:Value):Ent:=⟨76,b,key,mget m key,vI 0,4,32,58,42⟩
def Try.mk92:MK:=⟨92,Value.func (.func 18) #[] #[],fun v=> ∃n0 n1:Int,v= .agg #[.int .u8 n0, .int .u8 n1],fun x=> ∃v,R4 v/\x=vI v⟩
theorem Try.kl92:KindL Try.prog Try.mk92 90 42 32 (vI 0) (V:=Int) vI R4:=⟨⟨by kernel_rfl,Try.kls42,fun w=>by kernel_rfl⟩,fun _=>Iff.rfl,⟨0,R4_zero,rfl⟩⟩
abbrev stage_New_raw92_Q (bj:Nat) (zv:Value) (zs0:Slot) (zs1:Slot):Prop:= ∃zx:Nat×Nat,(True)/\zv=pp zx.1 0/\zs0= .blk zx.1 (.cells #[.map (some zx.2),pp bj 0, .func (.func 18) #[] #[]] 92 (0,0))/\zs1= .blk zx.2 (.map #[] 0)/\True
set_option maxRecDepth 100000 in
theorem stage_New_raw92_vc (bj:Nat):codeW Try.prog 10 none 2000 none (bodyOf Try.f17) (.reg [S0] (.reg [.sem [.nw 21],S0,S0,S0, .sem [.nw 20],S0] (.done)))
    (init #[pp bj 0, .func (.func 18) #[] #[]] []) (finW Try.prog Try.f17 [] [20,21] (X:=Nat×Nat) (fun zx=>pp zx.1 0) (fun zx=> [.blk zx.1 (.cells #[.map (some zx.2),pp bj 0, .func (.func 18) #[] #[]] 92 (0,0)), .blk zx.2 (.map #[] 0)]) (fun _=>True))=
    (∀b1:Nat,∀b2:Nat,stage_New_raw92_Q bj (pp b2 0) (Slot.blk b2 (.cells #[.map (some b1),pp bj 0, .func (.func 18) #[] #[]] 92 (0,0))) (Slot.blk b1 (.map #[] 0))):=by kernel_rfl
set_option maxRecDepth 100000 in
theorem stage_New_raw92 (bj:Nat) :CallT Try.prog 17 #[pp bj 0, .func (.func 18) #[] #[]] [] (Nat×Nat) (fun zx=>pp zx.1 0) (fun zx=> [.blk zx.1 (.cells #[.map (some zx.2),pp bj 0, .func (.func 18) #[] #[]] 92 (0,0)), .blk zx.2 (.map #[] 0)]) (fun _=>True):=by
  refine call_of (c:=bodyOf Try.f17) (n:=10) (fn:=Try.f17) Try.mixed Try.func17 (by kernel_rfl) (by kernel_rfl) (by kernel_rfl) 2000 _ [] [20,21] rfl rfl (Eq.mpr (stage_New_raw92_vc bj) ?_)
  intro b1
  intro b2
  exact ⟨(b2,b1),trivial,rfl,rfl,rfl,trivial⟩
def stage_New92_C:List Value->List Slot->Ctr:=fun vs hs=>⟨Nat,fun zx=>pp zx 0,fun zx=> [(mS Try.mk92 zx (vblk (varg vs 1)) ([]))],fun zx=>True⟩
theorem stage_New92 (bj:Nat) :CallT Try.prog 17 #[.pointer (some ⟨bj,0,none⟩), .func (.func 18) #[] #[]] [] Nat (fun zx=> .pointer (some ⟨zx,0,none⟩)) (fun zx=> [(mS Try.mk92 zx bj ([]))]) (fun zx=>(True)):=(stage_New_raw92 bj).exists fun x _=>⟨x.1,trivial,rfl,new_fold (K:=Try.mk92) x.1 x.2 bj⟩
abbrev stage_Get_raw92_Q (b bj r:Nat) (m:KV) (k0 k1:Int) (zv:Value) (zs0:Slot) (zs1:Slot):Prop:= ∃zx:Int×Bool,(zx.1=num ((mget m (Value.agg #[.int .u8 k0, .int .u8 k1])).getD (vI 0))/\zx.2=(mget m (Value.agg #[.int .u8 k0, .int .u8 k1])).isSome)/\zv= .tuple #[vI zx.1, .bool zx.2]/\zs0= .blk b (.cells #[.map (some r),pp bj 0, .func (.func 18) #[] #[]] 92 (0,0))/\zs1=(mo r m)/\True
set_option maxRecDepth 100000 in
theorem stage_Get_raw92_vc (b bj r:Nat) (m:KV) (k0 k1:Int):codeW Try.prog 19 none 2000 none (bodyOf Try.f27) (.reg [.sem [.nw 2], .sem [.nw 3],S0] (.reg [S0,S0,S0, .sem [.rd 0], .sem [.rd 2, .rd 2], .specr [1] (F_look (V:=Int) vI R4 (vI 0)),S0,S0,S0, .sem [.nw 4], .sem (wrs 4 4),S0] (.reg [.sem (rds 4 4),S0, .sem (wrs 4 3),S0] (.done))))
    (init #[pp b 0, .agg #[.int .u8 k0, .int .u8 k1]] [.blk b (.cells #[.map (some r),pp bj 0, .func (.func 18) #[] #[]] 92 (0,0)),(mo r m)]) (finW Try.prog Try.f27 [.rd 3, .rd 3, .rd 3, .rd 3] [0,1] (X:=Int×Bool) (fun zx=> .tuple #[vI zx.1, .bool zx.2]) (fun zx=> [.blk b (.cells #[.map (some r),pp bj 0, .func (.func 18) #[] #[]] 92 (0,0)),(mo r m)]) (fun zx=>(zx.1=num ((mget m (Value.agg #[.int .u8 k0, .int .u8 k1])).getD (vI 0))/\zx.2=(mget m (Value.agg #[.int .u8 k0, .int .u8 k1])).isSome)))=
    (∀b1:Nat,∀b2:Nat,rdQ 1 b (rdQ 2 b1 (opQr Try.prog (vS (Instr.lookup 90 (.map (some r)) (.agg #[.int .u8 k0, .int .u8 k1]) true)) [(mo r m)] (Int×Bool) (fun zx=> .tuple #[vI zx.1, .bool zx.2]) (fun zx=>R4 zx.1/\zx.2=(mget m (Value.agg #[.int .u8 k0, .int .u8 k1])).isSome/\vI zx.1=(mget m (Value.agg #[.int .u8 k0, .int .u8 k1])).getD (vI 0)) (fun x3=> ∀b4:Nat,rdQ 4 b4 (rdQ 4 b4 (rdQ 4 b2 (rdQ 4 b2 (stage_Get_raw92_Q b bj r m k0 k1 (Value.tuple #[vI x3.1, .bool x3.2]) (Slot.blk b (.cells #[.map (some r),pp bj 0, .func (.func 18) #[] #[]] 92 (0,0))) (mo r m))))))))):=by kernel_rfl
set_option maxRecDepth 100000 in
theorem stage_Get_raw92 (b bj r:Nat) (m:KV) (k0 k1:Int) (hk:KOK Try.mk92 m):CallT Try.prog 27 #[pp b 0, .agg #[.int .u8 k0, .int .u8 k1]] [.blk b (.cells #[.map (some r),pp bj 0, .func (.func 18) #[] #[]] 92 (0,0)),(mo r m)] (Int×Bool) (fun zx=> .tuple #[vI zx.1, .bool zx.2]) (fun zx=> [.blk b (.cells #[.map (some r),pp bj 0, .func (.func 18) #[] #[]] 92 (0,0)),(mo r m)]) (fun zx=>(zx.1=num ((mget m (Value.agg #[.int .u8 k0, .int .u8 k1])).getD (vI 0))/\zx.2=(mget m (Value.agg #[.int .u8 k0, .int .u8 k1])).isSome)):=by
  refine call_of (c:=bodyOf Try.f27) (n:=19) (fn:=Try.f27) Try.mixed Try.func27 (by kernel_rfl) (by kernel_rfl) (by kernel_rfl) 2000 _ [.rd 3, .rd 3, .rd 3, .rd 3] [0,1] rfl rfl (Eq.mpr (stage_Get_raw92_vc b bj r m k0 k1) ?_)
  intro b1
  intro b2
  refine rdQ_mk 1 _ (rdQ_mk 2 _ (opQr_mk (xlook Try.kl92 hk ⟨_,_,rfl⟩) (wlook Try.kl92 hk _) fun x3 h1=> ?_))
  have hx:=h1
  intro b4
  exact rdQ_mk 4 _ (rdQ_mk 4 _ (rdQ_mk 4 _ (rdQ_mk 4 _ ⟨_,⟨by rw [←hx.2.2];exact (num_vI hx.1).symm,hx.2.1⟩,rfl,rfl,rfl,trivial⟩)))
def stage_Get92_C:List Value->List Slot->Ctr:=fun vs hs=>⟨Int×Bool,fun zx=> .tuple #[vI zx.1, .bool zx.2],fun _=>hs,fun zx=>zx.1=num ((mget (skv (sarg hs 0)) (varg vs 2)).getD (vI 0))/\zx.2=(mget (skv (sarg hs 0)) (varg vs 2)).isSome⟩
theorem stage_Get92 (b bj:Nat) (m:KV) (k0 k1:Int) :CallT Try.prog 27 #[.pointer (some ⟨b,0,none⟩), .agg #[.int .u8 k0, .int .u8 k1]] [(mS Try.mk92 b bj m)] (Int×Bool) (fun zx=> .tuple #[vI zx.1, .bool zx.2]) (fun zx=> [(mS Try.mk92 b bj m)]) (fun zx=>(zx.1=num ((mget m (Value.agg #[.int .u8 k0, .int .u8 k1])).getD (vI 0))/\zx.2=(mget m (Value.agg #[.int .u8 k0, .int .u8 k1])).isSome)):=by
  refine (mS_call (m' :=fun _=>m) (us:=fun _=> []) (enterOK (c:=bodyOf Try.f27) Try.func27 (by kernel_rfl) (by kernel_rfl)) (fun r hk=> ?_) (fun _ _ h=>h))
  exact stage_Get_raw92 b bj r m k0 k1 hk
abbrev stage_note_raw92_Q (b bj r:Nat) (row:Rw) (m:KV) (k0 k1:Int) (zv:Value) (zs0:Slot) (zs1:Slot) (zs2:Slot) (zs3:Slot) (zs4:Slot) (zs5:Slot) (zs6:Slot) (zs7:Slot):Prop:= ∃zx:Row×N4×Int×Bool,(vals zx.1=vals row++ [(Try.ent92 b m (Value.agg #[.int .u8 k0, .int .u8 k1])).fn zx.2.1]/\zx.2.2.2=(mget m (Value.agg #[.int .u8 k0, .int .u8 k1])).isSome/\vI zx.2.2.1=(mget m (Value.agg #[.int .u8 k0, .int .u8 k1])).getD (vI 0))/\zv= .tuple #[]/\zs0= .blk b (.cells #[.map (some r),pp bj 0, .func (.func 18) #[] #[]] 92 (0,0))/\zs1=(mo r m)/\zs2=bk bj #[sv zx.1] 29/\zs3=(ss 1 zx.1)/\zs4=bk zx.2.1.1 #[.bool zx.2.2.2] 4/\zs5=bk zx.2.1.2.1 (nC zx.2.2.1) 32/\zs6=bk zx.2.1.2.2.1 #[pp b 0] 58/\zs7=bk zx.2.1.2.2.2 #[.int .u8 k0, .int .u8 k1] 42/\True
set_option maxRecDepth 100000 in
theorem stage_note_raw92_vc (b bj r:Nat) (row:Rw) (m:KV) (k0 k1:Int):codeW Try.prog 31 none 2000 none (bodyOf Try.f69) (.reg [.sem [.nw 32], .sem [.nw 33]] (.reg [.sem [.rd 32],S0,S0, .sem [.rd 0], .sem [.rd 33, .rd 33], .specr [1] (F_look (V:=Int) vI R4 (vI 0)),S0,S0,S0, .sem [.nw 31], .sem [.nw 30], .sem (wrs 4 31), .sem [.wr 30]] (.reg [.sem [.rd 32],S0,S0, .sem [.rd 0], .sem [.rd 32],S0,S0, .sem [.rd 0],S0,S0, .sem [.rd 2],S0, .sem [.nw 4], .specw [3,4] [3,4] (F_app 1),S0,S0, .specw [2] [2] F_put] (.done))))
    (init #[pp b 0, .agg #[.int .u8 k0, .int .u8 k1]] [.blk b (.cells #[.map (some r),pp bj 0, .func (.func 18) #[] #[]] 92 (0,0)),(mo r m),bk bj #[sv row] 29,(ss 1 row)]) (finW Try.prog Try.f69 [] [0,1,2,3,30,31,32,33] (X:=Row×N4×Int×Bool) (fun zx=> .tuple #[]) (fun zx=> [.blk b (.cells #[.map (some r),pp bj 0, .func (.func 18) #[] #[]] 92 (0,0)),(mo r m),bk bj #[sv zx.1] 29,(ss 1 zx.1),bk zx.2.1.1 #[.bool zx.2.2.2] 4,bk zx.2.1.2.1 (nC zx.2.2.1) 32,bk zx.2.1.2.2.1 #[pp b 0] 58,bk zx.2.1.2.2.2 #[.int .u8 k0, .int .u8 k1] 42]) (fun zx=>(vals zx.1=vals row++ [(Try.ent92 b m (Value.agg #[.int .u8 k0, .int .u8 k1])).fn zx.2.1]/\zx.2.2.2=(mget m (Value.agg #[.int .u8 k0, .int .u8 k1])).isSome/\vI zx.2.2.1=(mget m (Value.agg #[.int .u8 k0, .int .u8 k1])).getD (vI 0))))=
    (∀b1:Nat,∀b2:Nat,rdQ 1 b1 (rdQ 1 b (rdQ 2 b2 (opQr Try.prog (vS (Instr.lookup 90 (.map (some r)) (.agg #[.int .u8 k0, .int .u8 k1]) true)) [(mo r m)] (Int×Bool) (fun zx=> .tuple #[vI zx.1, .bool zx.2]) (fun zx=>R4 zx.1/\zx.2=(mget m (Value.agg #[.int .u8 k0, .int .u8 k1])).isSome/\vI zx.1=(mget m (Value.agg #[.int .u8 k0, .int .u8 k1])).getD (vI 0)) (fun x3=> ∀b4:Nat,∀b5:Nat,rdQ 4 b4 (rdQ 1 b5 (rdQ 1 b1 (rdQ 1 b (rdQ 1 b1 (rdQ 1 b (rdQ 1 bj (∀b6:Nat,opQ Try.prog (vS (Builtin.append_ #[27,27] 27 #[sv row, .slice (some ⟨b6,0,none⟩) 1 1])) [(ss 1 row), .blk b6 (.cells #[.func (.func 76) #[] #[pp b5 0,pp b4 0,pp b1 0,pp b2 0]] 1 (0,0))] Row (fun zx=>sv zx) (fun zx=> [(ss 1 zx), .blk b6 (.cells #[.func (.func 76) #[] #[pp b5 0,pp b4 0,pp b1 0,pp b2 0]] 1 (0,0))]) (fun zx=>vals zx=rvals (sv row) (ss 1 row)++ [Value.func (.func 76) #[] #[pp b5 0,pp b4 0,pp b1 0,pp b2 0]]) (fun x7=>opQ Try.prog (skS (Instr.storeAt 27 (pp bj 0) (sv x7))) [bk bj #[sv row] 29] Unit (fun _=> .tuple #[]) (fun _=> [bk bj #[sv x7] 29]) (fun _=>True) (fun _=>stage_note_raw92_Q b bj r row m k0 k1 (Value.tuple #[]) (Slot.blk b (.cells #[.map (some r),pp bj 0, .func (.func 18) #[] #[]] 92 (0,0))) (mo r m) (bk bj #[sv x7] 29) (ss 1 x7) (bk b5 #[.bool x3.2] 4) (bk b4 (nC x3.1) 32) (bk b1 #[pp b 0] 58) (bk b2 #[.int .u8 k0, .int .u8 k1] 42))))))))))))))):=by kernel_rfl
set_option maxRecDepth 100000 in
theorem stage_note_raw92 (b bj r:Nat) (row:Rw) (m:KV) (k0 k1:Int) (hk:KOK Try.mk92 m) (hl:(vals row).length<=1073741824):CallT Try.prog 69 #[pp b 0, .agg #[.int .u8 k0, .int .u8 k1]] [.blk b (.cells #[.map (some r),pp bj 0, .func (.func 18) #[] #[]] 92 (0,0)),(mo r m),bk bj #[sv row] 29,(ss 1 row)] (Row×N4×Int×Bool) (fun zx=> .tuple #[]) (fun zx=> [.blk b (.cells #[.map (some r),pp bj 0, .func (.func 18) #[] #[]] 92 (0,0)),(mo r m),bk bj #[sv zx.1] 29,(ss 1 zx.1),bk zx.2.1.1 #[.bool zx.2.2.2] 4,bk zx.2.1.2.1 (nC zx.2.2.1) 32,bk zx.2.1.2.2.1 #[pp b 0] 58,bk zx.2.1.2.2.2 #[.int .u8 k0, .int .u8 k1] 42]) (fun zx=>(vals zx.1=vals row++ [(Try.ent92 b m (Value.agg #[.int .u8 k0, .int .u8 k1])).fn zx.2.1]/\zx.2.2.2=(mget m (Value.agg #[.int .u8 k0, .int .u8 k1])).isSome/\vI zx.2.2.1=(mget m (Value.agg #[.int .u8 k0, .int .u8 k1])).getD (vI 0))):=by
  refine call_of (c:=bodyOf Try.f69) (n:=31) (fn:=Try.f69) Try.mixed Try.func69 (by kernel_rfl) (by kernel_rfl) (by kernel_rfl) 2000 _ [] [0,1,2,3,30,31,32,33] rfl rfl (Eq.mpr (stage_note_raw92_vc b bj r row m k0 k1) ?_)
  intro b1
  intro b2
  refine rdQ_mk 1 _ (rdQ_mk 1 _ (rdQ_mk 2 _ (opQr_mk (xlook Try.kl92 hk ⟨_,_,rfl⟩) (wlook Try.kl92 hk _) fun x3 h1=> ?_)))
  have hx:=h1
  intro b4
  intro b5
  refine rdQ_mk 4 _ (rdQ_mk 1 _ (rdQ_mk 1 _ (rdQ_mk 1 _ (rdQ_mk 1 _ (rdQ_mk 1 _ (rdQ_mk 1 _ (fun b6=>opQ_mk (xappendR Try.sl27 27 row (by rw [dg_len];omega) b6 1 (Value.func (.func 76) #[] #[pp b5 0,pp b4 0,pp b1 0,pp b2 0]) rfl) (wit_app _) fun x7 h2=> ?_)))))))
  rw [rvals_eq] at h2
  have ha:=h2
  exact opQ_mk (xputv (b:=bj) (cs:= #[sv row]) (ty:=29) (te:=27) (fun w=>by kernel_rfl) 0 (sv x7) (cells_sv _) (one_sv _) (by show 0<1;decide)) (⟨(),trivial⟩) fun _ _=>⟨(x7,(b5,b4,b1,b2),x3),⟨ha,hx.2.1,hx.2.2⟩,rfl,rfl,rfl,rfl,rfl,rfl,rfl,rfl,rfl,trivial⟩
def stage_note92_C:List Value->List Slot->Ctr:=fun vs hs=>⟨List Ent,fun zx=> .tuple #[],fun zx=> [.blk (vblk (varg vs 1)) (.cells #[.map (some (snum (sarg hs 1) 0)), .pointer (some ⟨(vblk (scell (sarg hs 0) 1)),0,none⟩), .func (.func 18) #[] #[]] 92 (0,0)),(mo (snum (sarg hs 1) 0) (skv (sarg hs 1))),(jS Try.jk (vblk (scell (sarg hs 0) 1)) zx)],fun zx=>zx=(sents (sarg hs 2))++ [(Try.ent92 (vblk (varg vs 1)) (skv (sarg hs 1)) (varg vs 2))]⟩
theorem stage_note92 (b bj r:Nat) (m:KV) (L:List Ent) (k0 k1:Int) (hk:KOK Try.mk92 m) (hl:L.length<=1073741824):CallT Try.prog 69 #[.pointer (some ⟨b,0,none⟩), .agg #[.int .u8 k0, .int .u8 k1]] [.blk b (.cells #[.map (some r), .pointer (some ⟨bj,0,none⟩), .func (.func 18) #[] #[]] 92 (0,0)),(mo r m),(jS Try.jk bj L)] (List Ent) (fun zx=> .tuple #[]) (fun zx=> [.blk b (.cells #[.map (some r), .pointer (some ⟨bj,0,none⟩), .func (.func 18) #[] #[]] 92 (0,0)),(mo r m),(jS Try.jk bj zx)]) (fun zx=>(zx=L++ [(Try.ent92 b m (Value.agg #[.int .u8 k0, .int .u8 k1]))])):=by
  have c:=jS_note (K:=Try.jk) (bj:=bj) (L:=L) (vv:=vI) (e:=(Try.ent92 b m (Value.agg #[.int .u8 k0, .int .u8 k1]))) (mk:=fun _=>default_ent) (enterOK (c:=bodyOf Try.f69) Try.func69 (by kernel_rfl) (by kernel_rfl)) rfl (fun row hr=>stage_note_raw92 b bj r row m k0 k1 hk (by omega))
  exact c.exists fun _ _=>⟨_,rfl,rfl,Imp.refl _⟩
abbrev stage_Set_raw92_Q (b bj r:Nat) (m:KV) (L:List Ent) (k0 k1 v:Int) (zv:Value) (zs0:Slot) (zs1:Slot) (zs2:Slot):Prop:= ∃zx:KV×List Ent,(zx.1=mset m (Value.agg #[.int .u8 k0, .int .u8 k1]) (vI v)/\zx.2=L++ [(Try.ent92 b m (Value.agg #[.int .u8 k0, .int .u8 k1]))])/\zv= .tuple #[]/\zs0= .blk b (.cells #[.map (some r),pp bj 0, .func (.func 18) #[] #[]] 92 (0,0))/\zs1=(mo r zx.1)/\zs2=(jS Try.jk bj zx.2)/\True
set_option maxRecDepth 100000 in
theorem stage_Set_raw92_vc (b bj r:Nat) (m:KV) (L:List Ent) (k0 k1 v:Int):codeW Try.prog 15 none 2000 none (bodyOf Try.f48) (.reg [.sem [.nw 3], .sem [.nw 4]] (.reg [S0, .sem [.rd 3, .rd 3], .callw [0,1,2] [0,1,2] stage_note92_C] (.reg [S0,S0,S0, .sem [.rd 0], .sem [.rd 3, .rd 3], .sem (rds 4 4), .specw [1] [1] F_upd] (.done))))
    (init #[pp b 0, .agg #[.int .u8 k0, .int .u8 k1],vI v] [.blk b (.cells #[.map (some r),pp bj 0, .func (.func 18) #[] #[]] 92 (0,0)),(mo r m),(jS Try.jk bj L)]) (finW Try.prog Try.f48 [] [0,1,2] (X:=KV×List Ent) (fun zx=> .tuple #[]) (fun zx=> [.blk b (.cells #[.map (some r),pp bj 0, .func (.func 18) #[] #[]] 92 (0,0)),(mo r zx.1),(jS Try.jk bj zx.2)]) (fun zx=>(zx.1=mset m (Value.agg #[.int .u8 k0, .int .u8 k1]) (vI v)/\zx.2=L++ [(Try.ent92 b m (Value.agg #[.int .u8 k0, .int .u8 k1]))])))=
    (∀b1:Nat,∀b2:Nat,rdQ 2 b1 (callQ Try.prog 69 #[pp b 0, .agg #[.int .u8 k0, .int .u8 k1]] [.blk b (.cells #[.map (some r),pp bj 0, .func (.func 18) #[] #[]] 92 (0,0)),(mo r m),(jS Try.jk bj L)] (List Ent) (fun zx=> .tuple #[]) (fun zx=> [.blk b (.cells #[.map (some r),pp bj 0, .func (.func 18) #[] #[]] 92 (0,0)),(mo r m),(jS Try.jk bj zx)]) (fun zx=>zx=L++ [(Try.ent92 b m (Value.agg #[.int .u8 k0, .int .u8 k1]))]) (fun x3=>rdQ 1 b (rdQ 2 b1 (rdQ 4 b2 (opQ Try.prog (skS (Instr.mapUpdate 90 (.map (some r)) (.agg #[.int .u8 k0, .int .u8 k1]) (vI v))) [(mo r m)] KV (fun zx=> .tuple #[]) (fun zx=> [(mo r zx)]) (fun zx=>zx=mset m (Value.agg #[.int .u8 k0, .int .u8 k1]) (vI v)) (fun x4=>stage_Set_raw92_Q b bj r m L k0 k1 v (Value.tuple #[]) (Slot.blk b (.cells #[.map (some r),pp bj 0, .func (.func 18) #[] #[]] 92 (0,0))) (mo r x4) (jS Try.jk bj x3)))))))):=by kernel_rfl
set_option maxRecDepth 100000 in
theorem stage_Set_raw92 (b bj r:Nat) (m:KV) (L:List Ent) (k0 k1 v:Int) (r_v:R4 v) (hk:KOK Try.mk92 m) (hl:L.length<=1073741824):CallT Try.prog 48 #[pp b 0, .agg #[.int .u8 k0, .int .u8 k1],vI v] [.blk b (.cells #[.map (some r),pp bj 0, .func (.func 18) #[] #[]] 92 (0,0)),(mo r m),(jS Try.jk bj L)] (KV×List Ent) (fun zx=> .tuple #[]) (fun zx=> [.blk b (.cells #[.map (some r),pp bj 0, .func (.func 18) #[] #[]] 92 (0,0)),(mo r zx.1),(jS Try.jk bj zx.2)]) (fun zx=>(zx.1=mset m (Value.agg #[.int .u8 k0, .int .u8 k1]) (vI v)/\zx.2=L++ [(Try.ent92 b m (Value.agg #[.int .u8 k0, .int .u8 k1]))])):=by
  refine call_of (c:=bodyOf Try.f48) (n:=15) (fn:=Try.f48) Try.mixed Try.func48 (by kernel_rfl) (by kernel_rfl) (by kernel_rfl) 2000 _ [] [0,1,2] rfl rfl (Eq.mpr (stage_Set_raw92_vc b bj r m L k0 k1 v) ?_)
  intro b1
  intro b2
  refine rdQ_mk 2 _ (callQ_mk (stage_note92 b bj r m L k0 k1 (hk) (hl)) (⟨_,rfl⟩) fun x3 h1=> ?_)
  have hn:=h1
  refine rdQ_mk 1 _ (rdQ_mk 2 _ (rdQ_mk 4 _ (opQ_mk (xupd Try.kl92 hk ⟨_,_,rfl⟩ (vI v)) (⟨_,rfl⟩) fun x4 h2=> ?_)))
  have hs:=h2
  exact ⟨(_,_),⟨hs,hn⟩,rfl,rfl,rfl,rfl,trivial⟩
def stage_Set92_C:List Value->List Slot->Ctr:=fun vs hs=>⟨KV×List Ent,fun zx=> .tuple #[],fun zx=> [(mS Try.mk92 (vblk (varg vs 1)) (snum (sarg hs 0) 1) zx.1),(jS Try.jk (snum (sarg hs 0) 1) zx.2)],fun zx=>zx.1=mset (skv (sarg hs 0)) (varg vs 2) (varg vs 3)/\zx.2=(sents (sarg hs 1))++ [(Try.ent92 (vblk (varg vs 1)) (skv (sarg hs 0)) (varg vs 2))]⟩
theorem stage_Set92 (b bj:Nat) (m:KV) (L:List Ent) (k0 k1 v:Int) (r_v:R4 v)  (hl:L.length<=1073741824):CallT Try.prog 48 #[.pointer (some ⟨b,0,none⟩), .agg #[.int .u8 k0, .int .u8 k1],vI v] [(mS Try.mk92 b bj m),(jS Try.jk bj L)] (KV×List Ent) (fun zx=> .tuple #[]) (fun zx=> [(mS Try.mk92 b bj zx.1),(jS Try.jk bj zx.2)]) (fun zx=>(zx.1=mset m (Value.agg #[.int .u8 k0, .int .u8 k1]) (vI v)/\zx.2=L++ [(Try.ent92 b m (Value.agg #[.int .u8 k0, .int .u8 k1]))])):=by
  refine mS_call (m' :=fun x:KV×List Ent=>x.1) (us:=fun x=> [(jS Try.jk bj x.2)]) (enterOK (c:=bodyOf Try.f48) Try.func48 (by kernel_rfl) (by kernel_rfl)) (fun r hk=> ?_) (fun x hx h=> ?_)
  · exact (stage_Set_raw92 b bj r m L k0 k1 v r_v hk hl)
  · exact hx.1▸h.set (⟨_,_,rfl⟩) (⟨_,r_v,rfl⟩)
abbrev stage_Drop_raw92_Q (b bj r:Nat) (m:KV) (L:List Ent) (k0 k1:Int) (zv:Value) (zs0:Slot) (zs1:Slot) (zs2:Slot):Prop:= ∃zx:KV×List Ent×Bool,(zx.2.2=(mget m (Value.agg #[.int .u8 k0, .int .u8 k1])).isSome/\zx.1=mdel m (Value.agg #[.int .u8 k0, .int .u8 k1])/\zx.2.1=if (mget m (Value.agg #[.int .u8 k0, .int .u8 k1])).isSome then L++ [(Try.ent92 b m (Value.agg #[.int .u8 k0, .int .u8 k1]))] else L)/\zv= .bool zx.2.2/\zs0= .blk b (.cells #[.map (some r),pp bj 0, .func (.func 18) #[] #[]] 92 (0,0))/\zs1=(mo r zx.1)/\zs2=(jS Try.jk bj zx.2.1)/\True
set_option maxRecDepth 100000 in
theorem stage_Drop_raw92_vc (b bj r:Nat) (m:KV) (L:List Ent) (k0 k1:Int):codeW Try.prog 26 none 2000 none (bodyOf Try.f47) (.reg [.sem [.nw 3],S0] (.reg [S0,S0,S0, .sem [.rd 0], .sem [.rd 3, .rd 3], .specr [1] (F_look (V:=Int) vI R4 (vI 0)),S0,S0,S0, .sem [.nw 4], .sem (wrs 4 4),S0] (.reg [S0] (.cond (.reg [S0, .sem [.rd 3, .rd 3], .callw [0,1,2] [0,1,2] stage_note92_C] (.reg [S0,S0,S0, .sem [.rd 0], .sem [.rd 3, .rd 3], .specw [1] [1] F_del] (.reg [.gen [] (Sx.one (.bool true)),S0] (.done)))) (.reg [.gen [] (Sx.one (.bool false)),S0] (.done))))))
    (init #[pp b 0, .agg #[.int .u8 k0, .int .u8 k1]] [.blk b (.cells #[.map (some r),pp bj 0, .func (.func 18) #[] #[]] 92 (0,0)),(mo r m),(jS Try.jk bj L)]) (finW Try.prog Try.f47 [] [0,1,2] (X:=KV×List Ent×Bool) (fun zx=> .bool zx.2.2) (fun zx=> [.blk b (.cells #[.map (some r),pp bj 0, .func (.func 18) #[] #[]] 92 (0,0)),(mo r zx.1),(jS Try.jk bj zx.2.1)]) (fun zx=>(zx.2.2=(mget m (Value.agg #[.int .u8 k0, .int .u8 k1])).isSome/\zx.1=mdel m (Value.agg #[.int .u8 k0, .int .u8 k1])/\zx.2.1=if (mget m (Value.agg #[.int .u8 k0, .int .u8 k1])).isSome then L++ [(Try.ent92 b m (Value.agg #[.int .u8 k0, .int .u8 k1]))] else L)))=
    (∀b1:Nat,rdQ 1 b (rdQ 2 b1 (opQr Try.prog (vS (Instr.lookup 90 (.map (some r)) (.agg #[.int .u8 k0, .int .u8 k1]) true)) [(mo r m)] (Int×Bool) (fun zx=> .tuple #[vI zx.1, .bool zx.2]) (fun zx=>R4 zx.1/\zx.2=(mget m (Value.agg #[.int .u8 k0, .int .u8 k1])).isSome/\vI zx.1=(mget m (Value.agg #[.int .u8 k0, .int .u8 k1])).getD (vI 0)) (fun x2=> ∀b3:Nat,rdQ 4 b3 ((x2.2=true->rdQ 2 b1 (callQ Try.prog 69 #[pp b 0, .agg #[.int .u8 k0, .int .u8 k1]] [.blk b (.cells #[.map (some r),pp bj 0, .func (.func 18) #[] #[]] 92 (0,0)),(mo r m),(jS Try.jk bj L)] (List Ent) (fun zx=> .tuple #[]) (fun zx=> [.blk b (.cells #[.map (some r),pp bj 0, .func (.func 18) #[] #[]] 92 (0,0)),(mo r m),(jS Try.jk bj zx)]) (fun zx=>zx=L++ [(Try.ent92 b m (Value.agg #[.int .u8 k0, .int .u8 k1]))]) (fun x4=>rdQ 1 b (rdQ 2 b1 (opQ Try.prog (vS (Builtin.delete_ #[90,42] 0 #[.map (some r), .agg #[.int .u8 k0, .int .u8 k1]])) [(mo r m)] KV (fun zx=> .tuple #[]) (fun zx=> [(mo r zx)]) (fun zx=>zx=mdel m (Value.agg #[.int .u8 k0, .int .u8 k1])) (fun x5=>(∃_:Unit,True/\Value.bool x2.2= .bool true)/\ ∀_:Unit,(True)->stage_Drop_raw92_Q b bj r m L k0 k1 (Value.bool true) (Slot.blk b (.cells #[.map (some r),pp bj 0, .func (.func 18) #[] #[]] 92 (0,0))) (mo r x5) (jS Try.jk bj x4)))))))/\(x2.2=false->(∃_:Unit,True/\Value.bool x2.2= .bool false)/\ ∀_:Unit,(True)->stage_Drop_raw92_Q b bj r m L k0 k1 (Value.bool false) (Slot.blk b (.cells #[.map (some r),pp bj 0, .func (.func 18) #[] #[]] 92 (0,0))) (mo r m) (jS Try.jk bj L))))))):=by kernel_rfl
set_option maxRecDepth 100000 in
theorem stage_Drop_raw92 (b bj r:Nat) (m:KV) (L:List Ent) (k0 k1:Int) (hk:KOK Try.mk92 m) (hl:L.length<=1073741824):CallT Try.prog 47 #[pp b 0, .agg #[.int .u8 k0, .int .u8 k1]] [.blk b (.cells #[.map (some r),pp bj 0, .func (.func 18) #[] #[]] 92 (0,0)),(mo r m),(jS Try.jk bj L)] (KV×List Ent×Bool) (fun zx=> .bool zx.2.2) (fun zx=> [.blk b (.cells #[.map (some r),pp bj 0, .func (.func 18) #[] #[]] 92 (0,0)),(mo r zx.1),(jS Try.jk bj zx.2.1)]) (fun zx=>(zx.2.2=(mget m (Value.agg #[.int .u8 k0, .int .u8 k1])).isSome/\zx.1=mdel m (Value.agg #[.int .u8 k0, .int .u8 k1])/\zx.2.1=if (mget m (Value.agg #[.int .u8 k0, .int .u8 k1])).isSome then L++ [(Try.ent92 b m (Value.agg #[.int .u8 k0, .int .u8 k1]))] else L)):=by
  refine call_of (c:=bodyOf Try.f47) (n:=26) (fn:=Try.f47) Try.mixed Try.func47 (by kernel_rfl) (by kernel_rfl) (by kernel_rfl) 2000 _ [] [0,1,2] rfl rfl (Eq.mpr (stage_Drop_raw92_vc b bj r m L k0 k1) ?_)
  intro b1
  refine rdQ_mk 1 _ (rdQ_mk 2 _ (opQr_mk (xlook Try.kl92 hk ⟨_,_,rfl⟩) (wlook Try.kl92 hk _) fun x2 h1=> ?_))
  have hx:=h1
  intro b3
  refine rdQ_mk 4 _ ⟨fun h2=> ?_,fun h2=> ?_⟩
  · refine rdQ_mk 2 _ (callQ_mk (stage_note92 b bj r m L k0 k1 (hk) (hl)) (⟨_,rfl⟩) fun x4 h3=> ?_)
    have hn:=h3
    refine rdQ_mk 1 _ (rdQ_mk 2 _ (opQ_mk (xdel Try.kl92 0 42 hk ⟨_,_,rfl⟩) (⟨_,rfl⟩) fun x5 h4=> ?_))
    have hd:=h4
    refine ⟨⟨(),trivial,congrArg Value.bool h2⟩,fun _=>fun _=> ?_⟩
    have hi:(mget m (Value.agg #[.int .u8 k0, .int .u8 k1])).isSome=true:=by rw [←hx.2.1];assumption
    exact ⟨(_,_,true),⟨hi.symm,hd,by rw [if_pos hi];exact hn⟩,rfl,rfl,rfl,rfl,trivial⟩
  refine ⟨⟨(),trivial,congrArg Value.bool h2⟩,fun _=>fun _=> ?_⟩
  have hi:(mget m (Value.agg #[.int .u8 k0, .int .u8 k1])).isSome=false:=by rw [←hx.2.1];assumption
  exact ⟨(m,L,false),⟨hi.symm,(mdel_none (by simpa using hi)).symm,by rw [if_neg (by rw [hi];decide)]⟩,rfl,rfl,rfl,rfl,trivial⟩
def stage_Drop92_C:List Value->List Slot->Ctr:=fun vs hs=>⟨KV×List Ent×Bool,fun zx=> .bool zx.2.2,fun zx=> [(mS Try.mk92 (vblk (varg vs 1)) (snum (sarg hs 0) 1) zx.1),(jS Try.jk (snum (sarg hs 0) 1) zx.2.1)],fun zx=>zx.2.2=(mget (skv (sarg hs 0)) (varg vs 2)).isSome/\zx.1=mdel (skv (sarg hs 0)) (varg vs 2)/\zx.2.1=if (mget (skv (sarg hs 0)) (varg vs 2)).isSome then (sents (sarg hs 1))++ [(Try.ent92 (vblk (varg vs 1)) (skv (sarg hs 0)) (varg vs 2))] else (sents (sarg hs 1))⟩
theorem stage_Drop92 (b bj:Nat) (m:KV) (L:List Ent) (k0 k1:Int) (hl:L.length<=1073741824):CallT Try.prog 47 #[.pointer (some ⟨b,0,none⟩), .agg #[.int .u8 k0, .int .u8 k1]] [(mS Try.mk92 b bj m),(jS Try.jk bj L)] (KV×List Ent×Bool) (fun zx=> .bool zx.2.2) (fun zx=> [(mS Try.mk92 b bj zx.1),(jS Try.jk bj zx.2.1)]) (fun zx=>(zx.2.2=(mget m (Value.agg #[.int .u8 k0, .int .u8 k1])).isSome/\zx.1=mdel m (Value.agg #[.int .u8 k0, .int .u8 k1])/\zx.2.1=if (mget m (Value.agg #[.int .u8 k0, .int .u8 k1])).isSome then L++ [(Try.ent92 b m (Value.agg #[.int .u8 k0, .int .u8 k1]))] else L)):=by
  refine mS_call (m' :=fun x:KV×List Ent×Bool=>x.1) (us:=fun x=> [(jS Try.jk bj x.2.1)]) (enterOK (c:=bodyOf Try.f47) Try.func47 (by kernel_rfl) (by kernel_rfl)) (fun r hk=> ?_) (fun x hx h=> ?_)
  · exact stage_Drop_raw92 b bj r m L k0 k1 hk hl
  · exact hx.2.1▸h.del _
noncomputable def Try.ent97 (b:Nat) (m:KV) (key:Value):Ent:=⟨68,b,key,mget m key,vI 0,4,32,61,5⟩
def Try.mk97:MK:=⟨97,Value.func (.func 20) #[] #[],fun v=> ∃n:Int,v= .int .u8 n,fun x=> ∃v,R4 v/\x=vI v⟩
theorem Try.kl97:KindL Try.prog Try.mk97 95 5 32 (vI 0) (V:=Int) vI R4:=⟨⟨by kernel_rfl,kl_int (by kernel_rfl),fun w=>by kernel_rfl⟩,fun _=>Iff.rfl,⟨0,R4_zero,rfl⟩⟩
abbrev stage_New_raw97_Q (bj:Nat) (zv:Value) (zs0:Slot) (zs1:Slot):Prop:= ∃zx:Nat×Nat,(True)/\zv=pp zx.1 0/\zs0= .blk zx.1 (.cells #[.map (some zx.2),pp bj 0, .func (.func 20) #[] #[]] 97 (0,0))/\zs1= .blk zx.2 (.map #[] 0)/\True
set_option maxRecDepth 100000 in
theorem stage_New_raw97_vc (bj:Nat):codeW Try.prog 10 none 2000 none (bodyOf Try.f19) (.reg [S0] (.reg [.sem [.nw 21],S0,S0,S0, .sem [.nw 20],S0] (.done)))
    (init #[pp bj 0, .func (.func 20) #[] #[]] []) (finW Try.prog Try.f19 [] [20,21] (X:=Nat×Nat) (fun zx=>pp zx.1 0) (fun zx=> [.blk zx.1 (.cells #[.map (some zx.2),pp bj 0, .func (.func 20) #[] #[]] 97 (0,0)), .blk zx.2 (.map #[] 0)]) (fun _=>True))=
    (∀b1:Nat,∀b2:Nat,stage_New_raw97_Q bj (pp b2 0) (Slot.blk b2 (.cells #[.map (some b1),pp bj 0, .func (.func 20) #[] #[]] 97 (0,0))) (Slot.blk b1 (.map #[] 0))):=by kernel_rfl
set_option maxRecDepth 100000 in
theorem stage_New_raw97 (bj:Nat) :CallT Try.prog 19 #[pp bj 0, .func (.func 20) #[] #[]] [] (Nat×Nat) (fun zx=>pp zx.1 0) (fun zx=> [.blk zx.1 (.cells #[.map (some zx.2),pp bj 0, .func (.func 20) #[] #[]] 97 (0,0)), .blk zx.2 (.map #[] 0)]) (fun _=>True):=by
  refine call_of (c:=bodyOf Try.f19) (n:=10) (fn:=Try.f19) Try.mixed Try.func19 (by kernel_rfl) (by kernel_rfl) (by kernel_rfl) 2000 _ [] [20,21] rfl rfl (Eq.mpr (stage_New_raw97_vc bj) ?_)
  intro b1
  intro b2
  exact ⟨(b2,b1),trivial,rfl,rfl,rfl,trivial⟩
def stage_New97_C:List Value->List Slot->Ctr:=fun vs hs=>⟨Nat,fun zx=>pp zx 0,fun zx=> [(mS Try.mk97 zx (vblk (varg vs 1)) ([]))],fun zx=>True⟩
theorem stage_New97 (bj:Nat) :CallT Try.prog 19 #[.pointer (some ⟨bj,0,none⟩), .func (.func 20) #[] #[]] [] Nat (fun zx=> .pointer (some ⟨zx,0,none⟩)) (fun zx=> [(mS Try.mk97 zx bj ([]))]) (fun zx=>(True)):=(stage_New_raw97 bj).exists fun x _=>⟨x.1,trivial,rfl,new_fold (K:=Try.mk97) x.1 x.2 bj⟩
abbrev stage_Get_raw97_Q (b bj r:Nat) (m:KV) (k:Int) (zv:Value) (zs0:Slot) (zs1:Slot):Prop:= ∃zx:Int×Bool,(zx.1=num ((mget m (Value.int .u8 k)).getD (vI 0))/\zx.2=(mget m (Value.int .u8 k)).isSome)/\zv= .tuple #[vI zx.1, .bool zx.2]/\zs0= .blk b (.cells #[.map (some r),pp bj 0, .func (.func 20) #[] #[]] 97 (0,0))/\zs1=(mo r m)/\True
set_option maxRecDepth 100000 in
theorem stage_Get_raw97_vc (b bj r:Nat) (m:KV) (k:Int):codeW Try.prog 19 none 2000 none (bodyOf Try.f40) (.reg [.sem [.nw 2],S0] (.reg [S0,S0,S0, .sem [.rd 0],S0, .specr [1] (F_look (V:=Int) vI R4 (vI 0)),S0,S0,S0, .sem [.nw 3], .sem (wrs 4 3),S0] (.reg [.sem (rds 4 3),S0, .sem (wrs 4 2),S0] (.done))))
    (init #[pp b 0, .int .u8 k] [.blk b (.cells #[.map (some r),pp bj 0, .func (.func 20) #[] #[]] 97 (0,0)),(mo r m)]) (finW Try.prog Try.f40 [.rd 2, .rd 2, .rd 2, .rd 2] [0,1] (X:=Int×Bool) (fun zx=> .tuple #[vI zx.1, .bool zx.2]) (fun zx=> [.blk b (.cells #[.map (some r),pp bj 0, .func (.func 20) #[] #[]] 97 (0,0)),(mo r m)]) (fun zx=>(zx.1=num ((mget m (Value.int .u8 k)).getD (vI 0))/\zx.2=(mget m (Value.int .u8 k)).isSome)))=
    (∀b1:Nat,rdQ 1 b (opQr Try.prog (vS (Instr.lookup 95 (.map (some r)) (.int .u8 k) true)) [(mo r m)] (Int×Bool) (fun zx=> .tuple #[vI zx.1, .bool zx.2]) (fun zx=>R4 zx.1/\zx.2=(mget m (Value.int .u8 k)).isSome/\vI zx.1=(mget m (Value.int .u8 k)).getD (vI 0)) (fun x2=> ∀b3:Nat,rdQ 4 b3 (rdQ 4 b3 (rdQ 4 b1 (rdQ 4 b1 (stage_Get_raw97_Q b bj r m k (Value.tuple #[vI x2.1, .bool x2.2]) (Slot.blk b (.cells #[.map (some r),pp bj 0, .func (.func 20) #[] #[]] 97 (0,0))) (mo r m)))))))):=by kernel_rfl
set_option maxRecDepth 100000 in
theorem stage_Get_raw97 (b bj r:Nat) (m:KV) (k:Int) (hk:KOK Try.mk97 m):CallT Try.prog 40 #[pp b 0, .int .u8 k] [.blk b (.cells #[.map (some r),pp bj 0, .func (.func 20) #[] #[]] 97 (0,0)),(mo r m)] (Int×Bool) (fun zx=> .tuple #[vI zx.1, .bool zx.2]) (fun zx=> [.blk b (.cells #[.map (some r),pp bj 0, .func (.func 20) #[] #[]] 97 (0,0)),(mo r m)]) (fun zx=>(zx.1=num ((mget m (Value.int .u8 k)).getD (vI 0))/\zx.2=(mget m (Value.int .u8 k)).isSome)):=by
  refine call_of (c:=bodyOf Try.f40) (n:=19) (fn:=Try.f40) Try.mixed Try.func40 (by kernel_rfl) (by kernel_rfl) (by kernel_rfl) 2000 _ [.rd 2, .rd 2, .rd 2, .rd 2] [0,1] rfl rfl (Eq.mpr (stage_Get_raw97_vc b bj r m k) ?_)
  intro b1
  refine rdQ_mk 1 _ (opQr_mk (xlook Try.kl97 hk ⟨_,rfl⟩) (wlook Try.kl97 hk _) fun x2 h1=> ?_)
  have hx:=h1
  intro b3
  exact rdQ_mk 4 _ (rdQ_mk 4 _ (rdQ_mk 4 _ (rdQ_mk 4 _ ⟨_,⟨by rw [←hx.2.2];exact (num_vI hx.1).symm,hx.2.1⟩,rfl,rfl,rfl,trivial⟩)))
def stage_Get97_C:List Value->List Slot->Ctr:=fun vs hs=>⟨Int×Bool,fun zx=> .tuple #[vI zx.1, .bool zx.2],fun _=>hs,fun zx=>zx.1=num ((mget (skv (sarg hs 0)) (varg vs 2)).getD (vI 0))/\zx.2=(mget (skv (sarg hs 0)) (varg vs 2)).isSome⟩
theorem stage_Get97 (b bj:Nat) (m:KV) (k:Int) :CallT Try.prog 40 #[.pointer (some ⟨b,0,none⟩), .int .u8 k] [(mS Try.mk97 b bj m)] (Int×Bool) (fun zx=> .tuple #[vI zx.1, .bool zx.2]) (fun zx=> [(mS Try.mk97 b bj m)]) (fun zx=>(zx.1=num ((mget m (Value.int .u8 k)).getD (vI 0))/\zx.2=(mget m (Value.int .u8 k)).isSome)):=by
  refine (mS_call (m' :=fun _=>m) (us:=fun _=> []) (enterOK (c:=bodyOf Try.f40) Try.func40 (by kernel_rfl) (by kernel_rfl)) (fun r hk=> ?_) (fun _ _ h=>h))
  exact stage_Get_raw97 b bj r m k hk
abbrev stage_note_raw97_Q (b bj r:Nat) (row:Rw) (m:KV) (k:Int) (zv:Value) (zs0:Slot) (zs1:Slot) (zs2:Slot) (zs3:Slot) (zs4:Slot) (zs5:Slot) (zs6:Slot) (zs7:Slot):Prop:= ∃zx:Row×N4×Int×Bool,(vals zx.1=vals row++ [(Try.ent97 b m (Value.int .u8 k)).fn zx.2.1]/\zx.2.2.2=(mget m (Value.int .u8 k)).isSome/\vI zx.2.2.1=(mget m (Value.int .u8 k)).getD (vI 0))/\zv= .tuple #[]/\zs0= .blk b (.cells #[.map (some r),pp bj 0, .func (.func 20) #[] #[]] 97 (0,0))/\zs1=(mo r m)/\zs2=bk bj #[sv zx.1] 29/\zs3=(ss 1 zx.1)/\zs4=bk zx.2.1.1 #[.bool zx.2.2.2] 4/\zs5=bk zx.2.1.2.1 (nC zx.2.2.1) 32/\zs6=bk zx.2.1.2.2.1 #[pp b 0] 61/\zs7=bk zx.2.1.2.2.2 #[.int .u8 k] 5/\True
set_option maxRecDepth 100000 in
theorem stage_note_raw97_vc (b bj r:Nat) (row:Rw) (m:KV) (k:Int):codeW Try.prog 31 none 2000 none (bodyOf Try.f46) (.reg [.sem [.nw 32], .sem [.nw 33]] (.reg [.sem [.rd 32],S0,S0, .sem [.rd 0], .sem [.rd 33], .specr [1] (F_look (V:=Int) vI R4 (vI 0)),S0,S0,S0, .sem [.nw 31], .sem [.nw 30], .sem (wrs 4 31), .sem [.wr 30]] (.reg [.sem [.rd 32],S0,S0, .sem [.rd 0], .sem [.rd 32],S0,S0, .sem [.rd 0],S0,S0, .sem [.rd 2],S0, .sem [.nw 4], .specw [3,4] [3,4] (F_app 1),S0,S0, .specw [2] [2] F_put] (.done))))
    (init #[pp b 0, .int .u8 k] [.blk b (.cells #[.map (some r),pp bj 0, .func (.func 20) #[] #[]] 97 (0,0)),(mo r m),bk bj #[sv row] 29,(ss 1 row)]) (finW Try.prog Try.f46 [] [0,1,2,3,30,31,32,33] (X:=Row×N4×Int×Bool) (fun zx=> .tuple #[]) (fun zx=> [.blk b (.cells #[.map (some r),pp bj 0, .func (.func 20) #[] #[]] 97 (0,0)),(mo r m),bk bj #[sv zx.1] 29,(ss 1 zx.1),bk zx.2.1.1 #[.bool zx.2.2.2] 4,bk zx.2.1.2.1 (nC zx.2.2.1) 32,bk zx.2.1.2.2.1 #[pp b 0] 61,bk zx.2.1.2.2.2 #[.int .u8 k] 5]) (fun zx=>(vals zx.1=vals row++ [(Try.ent97 b m (Value.int .u8 k)).fn zx.2.1]/\zx.2.2.2=(mget m (Value.int .u8 k)).isSome/\vI zx.2.2.1=(mget m (Value.int .u8 k)).getD (vI 0))))=
    (∀b1:Nat,∀b2:Nat,rdQ 1 b1 (rdQ 1 b (rdQ 1 b2 (opQr Try.prog (vS (Instr.lookup 95 (.map (some r)) (.int .u8 k) true)) [(mo r m)] (Int×Bool) (fun zx=> .tuple #[vI zx.1, .bool zx.2]) (fun zx=>R4 zx.1/\zx.2=(mget m (Value.int .u8 k)).isSome/\vI zx.1=(mget m (Value.int .u8 k)).getD (vI 0)) (fun x3=> ∀b4:Nat,∀b5:Nat,rdQ 4 b4 (rdQ 1 b5 (rdQ 1 b1 (rdQ 1 b (rdQ 1 b1 (rdQ 1 b (rdQ 1 bj (∀b6:Nat,opQ Try.prog (vS (Builtin.append_ #[27,27] 27 #[sv row, .slice (some ⟨b6,0,none⟩) 1 1])) [(ss 1 row), .blk b6 (.cells #[.func (.func 68) #[] #[pp b5 0,pp b4 0,pp b1 0,pp b2 0]] 1 (0,0))] Row (fun zx=>sv zx) (fun zx=> [(ss 1 zx), .blk b6 (.cells #[.func (.func 68) #[] #[pp b5 0,pp b4 0,pp b1 0,pp b2 0]] 1 (0,0))]) (fun zx=>vals zx=rvals (sv row) (ss 1 row)++ [Value.func (.func 68) #[] #[pp b5 0,pp b4 0,pp b1 0,pp b2 0]]) (fun x7=>opQ Try.prog (skS (Instr.storeAt 27 (pp bj 0) (sv x7))) [bk bj #[sv row] 29] Unit (fun _=> .tuple #[]) (fun _=> [bk bj #[sv x7] 29]) (fun _=>True) (fun _=>stage_note_raw97_Q b bj r row m k (Value.tuple #[]) (Slot.blk b (.cells #[.map (some r),pp bj 0, .func (.func 20) #[] #[]] 97 (0,0))) (mo r m) (bk bj #[sv x7] 29) (ss 1 x7) (bk b5 #[.bool x3.2] 4) (bk b4 (nC x3.1) 32) (bk b1 #[pp b 0] 61) (bk b2 #[.int .u8 k] 5))))))))))))))):=by kernel_rfl
set_option maxRecDepth 100000 in
theorem stage_note_raw97 (b bj r:Nat) (row:Rw) (m:KV) (k:Int) (hk:KOK Try.mk97 m) (hl:(vals row).length<=1073741824):CallT Try.prog 46 #[pp b 0, .int .u8 k] [.blk b (.cells #[.map (some r),pp bj 0, .func (.func 20) #[] #[]] 97 (0,0)),(mo r m),bk bj #[sv row] 29,(ss 1 row)] (Row×N4×Int×Bool) (fun zx=> .tuple #[]) (fun zx=> [.blk b (.cells #[.map (some r),pp bj 0, .func (.func 20) #[] #[]] 97 (0,0)),(mo r m),bk bj #[sv zx.1] 29,(ss 1 zx.1),bk zx.2.1.1 #[.bool zx.2.2.2] 4,bk zx.2.1.2.1 (nC zx.2.2.1) 32,bk zx.2.1.2.2.1 #[pp b 0] 61,bk zx.2.1.2.2.2 #[.int .u8 k] 5]) (fun zx=>(vals zx.1=vals row++ [(Try.ent97 b m (Value.int .u8 k)).fn zx.2.1]/\zx.2.2.2=(mget m (Value.int .u8 k)).isSome/\vI zx.2.2.1=(mget m (Value.int .u8 k)).getD (vI 0))):=by
  refine call_of (c:=bodyOf Try.f46) (n:=31) (fn:=Try.f46) Try.mixed Try.func46 (by kernel_rfl) (by kernel_rfl) (by kernel_rfl) 2000 _ [] [0,1,2,3,30,31,32,33] rfl rfl (Eq.mpr (stage_note_raw97_vc b bj r row m k) ?_)
  intro b1
  intro b2
  refine rdQ_mk 1 _ (rdQ_mk 1 _ (rdQ_mk 1 _ (opQr_mk (xlook Try.kl97 hk ⟨_,rfl⟩) (wlook Try.kl97 hk _) fun x3 h1=> ?_)))
  have hx:=h1
  intro b4
  intro b5
  refine rdQ_mk 4 _ (rdQ_mk 1 _ (rdQ_mk 1 _ (rdQ_mk 1 _ (rdQ_mk 1 _ (rdQ_mk 1 _ (rdQ_mk 1 _ (fun b6=>opQ_mk (xappendR Try.sl27 27 row (by rw [dg_len];omega) b6 1 (Value.func (.func 68) #[] #[pp b5 0,pp b4 0,pp b1 0,pp b2 0]) rfl) (wit_app _) fun x7 h2=> ?_)))))))
  rw [rvals_eq] at h2
  have ha:=h2
  exact opQ_mk (xputv (b:=bj) (cs:= #[sv row]) (ty:=29) (te:=27) (fun w=>by kernel_rfl) 0 (sv x7) (cells_sv _) (one_sv _) (by show 0<1;decide)) (⟨(),trivial⟩) fun _ _=>⟨(x7,(b5,b4,b1,b2),x3),⟨ha,hx.2.1,hx.2.2⟩,rfl,rfl,rfl,rfl,rfl,rfl,rfl,rfl,rfl,trivial⟩
def stage_note97_C:List Value->List Slot->Ctr:=fun vs hs=>⟨List Ent,fun zx=> .tuple #[],fun zx=> [.blk (vblk (varg vs 1)) (.cells #[.map (some (snum (sarg hs 1) 0)), .pointer (some ⟨(vblk (scell (sarg hs 0) 1)),0,none⟩), .func (.func 20) #[] #[]] 97 (0,0)),(mo (snum (sarg hs 1) 0) (skv (sarg hs 1))),(jS Try.jk (vblk (scell (sarg hs 0) 1)) zx)],fun zx=>zx=(sents (sarg hs 2))++ [(Try.ent97 (vblk (varg vs 1)) (skv (sarg hs 1)) (varg vs 2))]⟩
theorem stage_note97 (b bj r:Nat) (m:KV) (L:List Ent) (k:Int) (hk:KOK Try.mk97 m) (hl:L.length<=1073741824):CallT Try.prog 46 #[.pointer (some ⟨b,0,none⟩), .int .u8 k] [.blk b (.cells #[.map (some r), .pointer (some ⟨bj,0,none⟩), .func (.func 20) #[] #[]] 97 (0,0)),(mo r m),(jS Try.jk bj L)] (List Ent) (fun zx=> .tuple #[]) (fun zx=> [.blk b (.cells #[.map (some r), .pointer (some ⟨bj,0,none⟩), .func (.func 20) #[] #[]] 97 (0,0)),(mo r m),(jS Try.jk bj zx)]) (fun zx=>(zx=L++ [(Try.ent97 b m (Value.int .u8 k))])):=by
  have c:=jS_note (K:=Try.jk) (bj:=bj) (L:=L) (vv:=vI) (e:=(Try.ent97 b m (Value.int .u8 k))) (mk:=fun _=>default_ent) (enterOK (c:=bodyOf Try.f46) Try.func46 (by kernel_rfl) (by kernel_rfl)) rfl (fun row hr=>stage_note_raw97 b bj r row m k hk (by omega))
  exact c.exists fun _ _=>⟨_,rfl,rfl,Imp.refl _⟩
abbrev stage_Set_raw97_Q (b bj r:Nat) (m:KV) (L:List Ent) (k v:Int) (zv:Value) (zs0:Slot) (zs1:Slot) (zs2:Slot):Prop:= ∃zx:KV×List Ent,(zx.1=mset m (Value.int .u8 k) (vI v)/\zx.2=L++ [(Try.ent97 b m (Value.int .u8 k))])/\zv= .tuple #[]/\zs0= .blk b (.cells #[.map (some r),pp bj 0, .func (.func 20) #[] #[]] 97 (0,0))/\zs1=(mo r zx.1)/\zs2=(jS Try.jk bj zx.2)/\True
set_option maxRecDepth 100000 in
theorem stage_Set_raw97_vc (b bj r:Nat) (m:KV) (L:List Ent) (k v:Int):codeW Try.prog 15 none 2000 none (bodyOf Try.f23) (.reg [.sem [.nw 3]] (.reg [S0,S0, .callw [0,1,2] [0,1,2] stage_note97_C] (.reg [S0,S0,S0, .sem [.rd 0],S0, .sem (rds 4 3), .specw [1] [1] F_upd] (.done))))
    (init #[pp b 0, .int .u8 k,vI v] [.blk b (.cells #[.map (some r),pp bj 0, .func (.func 20) #[] #[]] 97 (0,0)),(mo r m),(jS Try.jk bj L)]) (finW Try.prog Try.f23 [] [0,1,2] (X:=KV×List Ent) (fun zx=> .tuple #[]) (fun zx=> [.blk b (.cells #[.map (some r),pp bj 0, .func (.func 20) #[] #[]] 97 (0,0)),(mo r zx.1),(jS Try.jk bj zx.2)]) (fun zx=>(zx.1=mset m (Value.int .u8 k) (vI v)/\zx.2=L++ [(Try.ent97 b m (Value.int .u8 k))])))=
    (∀b1:Nat,callQ Try.prog 46 #[pp b 0, .int .u8 k] [.blk b (.cells #[.map (some r),pp bj 0, .func (.func 20) #[] #[]] 97 (0,0)),(mo r m),(jS Try.jk bj L)] (List Ent) (fun zx=> .tuple #[]) (fun zx=> [.blk b (.cells #[.map (some r),pp bj 0, .func (.func 20) #[] #[]] 97 (0,0)),(mo r m),(jS Try.jk bj zx)]) (fun zx=>zx=L++ [(Try.ent97 b m (Value.int .u8 k))]) (fun x2=>rdQ 1 b (rdQ 4 b1 (opQ Try.prog (skS (Instr.mapUpdate 95 (.map (some r)) (.int .u8 k) (vI v))) [(mo r m)] KV (fun zx=> .tuple #[]) (fun zx=> [(mo r zx)]) (fun zx=>zx=mset m (Value.int .u8 k) (vI v)) (fun x3=>stage_Set_raw97_Q b bj r m L k v (Value.tuple #[]) (Slot.blk b (.cells #[.map (some r),pp bj 0, .func (.func 20) #[] #[]] 97 (0,0))) (mo r x3) (jS Try.jk bj x2)))))):=by kernel_rfl
set_option maxRecDepth 100000 in
theorem stage_Set_raw97 (b bj r:Nat) (m:KV) (L:List Ent) (k v:Int) (r_v:R4 v) (hk:KOK Try.mk97 m) (hl:L.length<=1073741824):CallT Try.prog 23 #[pp b 0, .int .u8 k,vI v] [.blk b (.cells #[.map (some r),pp bj 0, .func (.func 20) #[] #[]] 97 (0,0)),(mo r m),(jS Try.jk bj L)] (KV×List Ent) (fun zx=> .tuple #[]) (fun zx=> [.blk b (.cells #[.map (some r),pp bj 0, .func (.func 20) #[] #[]] 97 (0,0)),(mo r zx.1),(jS Try.jk bj zx.2)]) (fun zx=>(zx.1=mset m (Value.int .u8 k) (vI v)/\zx.2=L++ [(Try.ent97 b m (Value.int .u8 k))])):=by
  refine call_of (c:=bodyOf Try.f23) (n:=15) (fn:=Try.f23) Try.mixed Try.func23 (by kernel_rfl) (by kernel_rfl) (by kernel_rfl) 2000 _ [] [0,1,2] rfl rfl (Eq.mpr (stage_Set_raw97_vc b bj r m L k v) ?_)
  intro b1
  refine callQ_mk (stage_note97 b bj r m L k (hk) (hl)) (⟨_,rfl⟩) fun x2 h1=> ?_
  have hn:=h1
  refine rdQ_mk 1 _ (rdQ_mk 4 _ (opQ_mk (xupd Try.kl97 hk ⟨_,rfl⟩ (vI v)) (⟨_,rfl⟩) fun x3 h2=> ?_))
  have hs:=h2
  exact ⟨(_,_),⟨hs,hn⟩,rfl,rfl,rfl,rfl,trivial⟩
def stage_Set97_C:List Value->List Slot->Ctr:=fun vs hs=>⟨KV×List Ent,fun zx=> .tuple #[],fun zx=> [(mS Try.mk97 (vblk (varg vs 1)) (snum (sarg hs 0) 1) zx.1),(jS Try.jk (snum (sarg hs 0) 1) zx.2)],fun zx=>zx.1=mset (skv (sarg hs 0)) (varg vs 2) (varg vs 3)/\zx.2=(sents (sarg hs 1))++ [(Try.ent97 (vblk (varg vs 1)) (skv (sarg hs 0)) (varg vs 2))]⟩
theorem stage_Set97 (b bj:Nat) (m:KV) (L:List Ent) (k v:Int) (r_v:R4 v)  (hl:L.length<=1073741824):CallT Try.prog 23 #[.pointer (some ⟨b,0,none⟩), .int .u8 k,vI v] [(mS Try.mk97 b bj m),(jS Try.jk bj L)] (KV×List Ent) (fun zx=> .tuple #[]) (fun zx=> [(mS Try.mk97 b bj zx.1),(jS Try.jk bj zx.2)]) (fun zx=>(zx.1=mset m (Value.int .u8 k) (vI v)/\zx.2=L++ [(Try.ent97 b m (Value.int .u8 k))])):=by
  refine mS_call (m' :=fun x:KV×List Ent=>x.1) (us:=fun x=> [(jS Try.jk bj x.2)]) (enterOK (c:=bodyOf Try.f23) Try.func23 (by kernel_rfl) (by kernel_rfl)) (fun r hk=> ?_) (fun x hx h=> ?_)
  · exact (stage_Set_raw97 b bj r m L k v r_v hk hl)
  · exact hx.1▸h.set (⟨_,rfl⟩) (⟨_,r_v,rfl⟩)
theorem Try.numk92:NumK Try.mk92:=fun _=>Iff.rfl
theorem Try.numk97:NumK Try.mk97:=fun _=>Iff.rfl
def book_New_C:List Value->List Slot->Ctr:=fun vs hs=>⟨Nat×Nat×Nat,fun zx=>pp zx.1 0,fun zx=> [bk zx.1 #[pp zx.2.1 0,pp zx.2.2 0] 65,(mS Try.mk92 zx.2.1 (vblk (varg vs 1)) ([])),(mS Try.mk97 zx.2.2 (vblk (varg vs 1)) ([]))],fun zx=>True⟩
abbrev book_New_Q (bj:Nat) (zv:Value) (zs0:Slot) (zs1:Slot) (zs2:Slot):Prop:= ∃zx:Nat×Nat×Nat,(True)/\zv=pp zx.1 0/\zs0=bk zx.1 #[pp zx.2.1 0,pp zx.2.2 0] 65/\zs1=(mS Try.mk92 zx.2.1 bj ([]))/\zs2=(mS Try.mk97 zx.2.2 bj ([]))/\True
abbrev book_New_A (bj:Nat) (zF:SF (Nat×Nat×Nat)):Prop:=zF #[pp bj 0] [] (fun zx=>pp zx.1 0) (fun zx=> [bk zx.1 #[pp zx.2.1 0,pp zx.2.2 0] 65,(mS Try.mk92 zx.2.1 bj ([])),(mS Try.mk97 zx.2.2 bj ([]))]) (fun zx=>(True))
set_option maxRecDepth 100000 in
theorem book_New_vc (bj:Nat):book_New_A bj (fun za zh zv zu zp=>codeW Try.prog 9 none 2000 none (bodyOf Try.f6) (.reg [S0] (.reg [S0, .callw [] [21] stage_New92_C,S0, .callw [] [22] stage_New97_C,S0, .sem [.nw 20],S0] (.done)))
    (init za zh) (finW Try.prog Try.f6 [] [20,21,22] (X:=Nat×Nat×Nat) zv zu zp))=
    (callQ Try.prog 17 #[pp bj 0, .func (.func 18) #[] #[]] [] Nat (fun zx=>pp zx 0) (fun zx=> [(mS Try.mk92 zx bj ([]))]) (fun zx=>True) (fun x1=>callQ Try.prog 19 #[pp bj 0, .func (.func 20) #[] #[]] [] Nat (fun zx=>pp zx 0) (fun zx=> [(mS Try.mk97 zx bj ([]))]) (fun zx=>True) (fun x2=> ∀b3:Nat,book_New_Q bj (pp b3 0) (bk b3 #[pp x1 0,pp x2 0] 65) (mS Try.mk92 x1 bj ([])) (mS Try.mk97 x2 bj ([]))))):=by kernel_rfl
set_option maxRecDepth 100000 in
theorem book_New (bj:Nat) :book_New_A bj (fun za zh zv zu zp=>CallT Try.prog 6 za zh (Nat×Nat×Nat) zv zu zp):=by
  refine call_of (c:=bodyOf Try.f6) (n:=9) (fn:=Try.f6) Try.mixed Try.func6 (by kernel_rfl) (by kernel_rfl) (by kernel_rfl) 2000 _ [] [20,21,22] rfl rfl (Eq.mpr (book_New_vc bj) ?_)
  exact callQ_mk (stage_New92 bj) (⟨0,trivial⟩) fun x1 h1=>callQ_mk (stage_New97 bj) (⟨0,trivial⟩) fun x2 h2=>fun b3=>⟨(b3,x1,x2),trivial,rfl,rfl,rfl,rfl,trivial⟩
abbrev book_New_K (bj:Nat) (KK:(Nat×Nat×Nat)->Prop):Prop:=book_New_A bj (fun za zh zv zu zp=>callQ Try.prog 6 za zh (Nat×Nat×Nat) zv zu zp KK)
theorem book_New_m (bj:Nat) {KK:(Nat×Nat×Nat)->Prop} (kont: ∀zx:Nat×Nat×Nat,(True)->KK zx) :book_New_K bj KK:=callQ_mk (book_New bj) (⟨(0,0,0),trivial⟩) fun zx hz=>by
  exact kont zx hz
def book_put_C:List Value->List Slot->Ctr:=fun vs hs=>⟨BS,fun zx=> .tuple #[],fun zx=> [.blk (vblk (varg vs 1)) (.cells #[.pointer (some ⟨(vblk (scell (sarg hs 0) 0)),0,none⟩), .pointer (some ⟨(vblk (scell (sarg hs 0) 1)),0,none⟩)] 65 (0,0)),(mS Try.mk92 (vblk (scell (sarg hs 0) 0)) (snum (sarg hs 1) 1) zx.1),(mS Try.mk97 (vblk (scell (sarg hs 0) 1)) (snum (sarg hs 1) 1) zx.2.1),(jS Try.jk (snum (sarg hs 1) 1) zx.2.2)],fun zx=>zx=bPut (Try.ent92 (vblk (scell (sarg hs 0) 0))) (((skv (sarg hs 1)),(skv (sarg hs 2)),(sents (sarg hs 3))):BS) (varg vs 2) (num (varg vs 3))⟩
abbrev book_put_Q (b bm bs bj:Nat) (mb ms:KV) (L:List Ent) (k0 k1 n:Int) (zv:Value) (zs0:Slot) (zs1:Slot) (zs2:Slot) (zs3:Slot):Prop:= ∃zx:BS,(zx=bPut (Try.ent92 bm) ((mb,ms,L):BS) (Value.agg #[.int .u8 k0, .int .u8 k1]) (num (vI n)))/\zv= .tuple #[]/\zs0=bk b #[pp bm 0,pp bs 0] 65/\zs1=(mS Try.mk92 bm bj zx.1)/\zs2=(mS Try.mk97 bs bj zx.2.1)/\zs3=(jS Try.jk bj zx.2.2)/\True
abbrev book_put_A (b bm bs bj:Nat) (mb ms:KV) (L:List Ent) (k0 k1 n:Int) (zF:SF BS):Prop:=zF #[pp b 0, .agg #[.int .u8 k0, .int .u8 k1],vI n] [bk b #[pp bm 0,pp bs 0] 65,(mS Try.mk92 bm bj mb),(mS Try.mk97 bs bj ms),(jS Try.jk bj L)] (fun zx=> .tuple #[]) (fun zx=> [bk b #[pp bm 0,pp bs 0] 65,(mS Try.mk92 bm bj zx.1),(mS Try.mk97 bs bj zx.2.1),(jS Try.jk bj zx.2.2)]) (fun zx=>(zx=bPut (Try.ent92 bm) ((mb,ms,L):BS) (Value.agg #[.int .u8 k0, .int .u8 k1]) (num (vI n))))
set_option maxRecDepth 100000 in
theorem book_put_vc (b bm bs bj:Nat) (mb ms:KV) (L:List Ent) (k0 k1 n:Int):book_put_A b bm bs bj mb ms L k0 k1 n (fun za zh zv zu zp=>codeW Try.prog 22 none 2000 none (bodyOf Try.f24) (.reg [.sem [.nw 4], .sem [.nw 5]] (.reg [.sem (rds 4 5),S0, .eq (f_eq)] (.cond (.reg [S0,S0,S0, .sem [.rd 0], .sem [.rd 4, .rd 4], .callw [1,3] [1,3] stage_Drop92_C] (.done)) (.reg [S0,S0,S0, .sem [.rd 0], .sem [.rd 4, .rd 4], .sem (rds 4 5), .callw [1,3] [1,3] stage_Set92_C] (.done)))))
    (init za zh) (finW Try.prog Try.f24 [] [0,1,2,3] (X:=BS) zv zu zp))=
    (∀b1:Nat,∀b2:Nat,rdQ 4 b2 ((PureRun Try.prog (xBin .eql 32 (vI n) (vI 0)) (.bool (num (vI n)==num (vI 0))))/\((num (vI n)==num (vI 0))=true->rdQ 1 b (rdQ 2 b1 (callQ Try.prog 47 #[pp bm 0, .agg #[.int .u8 k0, .int .u8 k1]] [(mS Try.mk92 bm bj mb),(jS Try.jk bj L)] (KV×List Ent×Bool) (fun zx=> .bool zx.2.2) (fun zx=> [(mS Try.mk92 bm bj zx.1),(jS Try.jk bj zx.2.1)]) (fun zx=>zx.2.2=(mget mb (Value.agg #[.int .u8 k0, .int .u8 k1])).isSome/\zx.1=mdel mb (Value.agg #[.int .u8 k0, .int .u8 k1])/\zx.2.1=if (mget mb (Value.agg #[.int .u8 k0, .int .u8 k1])).isSome then L++ [(Try.ent92 bm mb (Value.agg #[.int .u8 k0, .int .u8 k1]))] else L) (fun x3=>book_put_Q b bm bs bj mb ms L k0 k1 n (Value.tuple #[]) (bk b #[pp bm 0,pp bs 0] 65) (mS Try.mk92 bm bj x3.1) (mS Try.mk97 bs bj ms) (jS Try.jk bj x3.2.1)))))/\((num (vI n)==num (vI 0))=false->rdQ 1 b (rdQ 2 b1 (rdQ 4 b2 (callQ Try.prog 48 #[pp bm 0, .agg #[.int .u8 k0, .int .u8 k1],vI n] [(mS Try.mk92 bm bj mb),(jS Try.jk bj L)] (KV×List Ent) (fun zx=> .tuple #[]) (fun zx=> [(mS Try.mk92 bm bj zx.1),(jS Try.jk bj zx.2)]) (fun zx=>zx.1=mset mb (Value.agg #[.int .u8 k0, .int .u8 k1]) (vI n)/\zx.2=L++ [(Try.ent92 bm mb (Value.agg #[.int .u8 k0, .int .u8 k1]))]) (fun x4=>book_put_Q b bm bs bj mb ms L k0 k1 n (Value.tuple #[]) (bk b #[pp bm 0,pp bs 0] 65) (mS Try.mk92 bm bj x4.1) (mS Try.mk97 bs bj ms) (jS Try.jk bj x4.2)))))))):=by kernel_rfl
set_option maxRecDepth 100000 in
theorem book_put (b bm bs bj:Nat) (mb ms:KV) (L:List Ent) (k0 k1 n:Int) (r_n:R4 n) (hl:L.length<=2000000):book_put_A b bm bs bj mb ms L k0 k1 n (fun za zh zv zu zp=>CallT Try.prog 24 za zh BS zv zu zp):=by
  refine call_of (c:=bodyOf Try.f24) (n:=22) (fn:=Try.f24) Try.mixed Try.func24 (by kernel_rfl) (by kernel_rfl) (by kernel_rfl) 2000 _ [] [0,1,2,3] rfl rfl (Eq.mpr (book_put_vc b bm bs bj mb ms L k0 k1 n) ?_)
  intro b1
  intro b2
  refine rdQ_mk 4 _ ⟨Try.xeq32 n 0,⟨fun h1=> ?_,fun h1=> ?_⟩⟩
  · refine rdQ_mk 1 _ (rdQ_mk 2 _ (callQ_mk (stage_Drop92 bm bj mb L k0 k1 (by omega)) (⟨(_,_,_),rfl,rfl,rfl⟩) fun x3 h2=> ?_))
    have hd:=h2
    unfold book_put_Q
    have hz:n=0:=by
      have hq:=‹(num (vI n)==num (vI 0))=true›
      rw [num_vI r_n,num_vI R4_zero] at hq;exact beq_iff_eq.1 hq
    exact ⟨(x3.1,ms,x3.2.1),by rw [num_vI r_n];unfold bPut mput putL;rw [if_pos hz,if_pos hz,←hd.2.1,←hd.2.2],rfl,rfl,rfl,rfl,rfl,trivial⟩
  refine rdQ_mk 1 _ (rdQ_mk 2 _ (rdQ_mk 4 _ (callQ_mk (stage_Set92 bm bj mb L k0 k1 n (by assumption) (by omega)) (⟨(_,_),rfl,rfl⟩) fun x4 h3=> ?_)))
  try simp only [num_vI (n:=n) (by assumption)] at h3
  have hs:=h3
  unfold book_put_Q
  have hz: ¬n=0:=by
    have hq:=‹(num (vI n)==num (vI 0))=false›
    rw [num_vI r_n,num_vI R4_zero] at hq;exact beq_eq_false_iff_ne.1 hq
  exact ⟨(x4.1,ms,x4.2),by rw [num_vI r_n];unfold bPut mput putL;rw [if_neg hz,if_neg hz,←hs.1,←hs.2],rfl,rfl,rfl,rfl,rfl,trivial⟩
abbrev book_put_K (b bm bs bj:Nat) (mb ms:KV) (L:List Ent) (k0 k1 n:Int) (KK:BS->Prop):Prop:=book_put_A b bm bs bj mb ms L k0 k1 n (fun za zh zv zu zp=>callQ Try.prog 24 za zh BS zv zu zp KK)
theorem book_put_m (b bm bs bj:Nat) (mb ms:KV) (L:List Ent) (k0 k1 n:Int) {KK:BS->Prop} (kont: ∀zx:BS,(zx=bPut (Try.ent92 bm) ((mb,ms,L):BS) (Value.agg #[.int .u8 k0, .int .u8 k1]) n)->KK zx) (r_n:R4 n:=by assumption) (hl:L.length<=2000000:=by omega):book_put_K b bm bs bj mb ms L k0 k1 n KK:=callQ_mk (book_put b bm bs bj mb ms L k0 k1 n r_n hl) (⟨_,rfl⟩) fun zx hz=>by
  try simp only [num_vI (n:=n) r_n] at hz
  exact kont zx hz
def book_Balance_C:List Value->List Slot->Ctr:=fun vs hs=>⟨Int,fun zx=>vI zx,fun _=>hs,fun zx=>R4 zx/\zx=bal (skv (sarg hs 1)) (ci (varg vs 2)) (ci (varg vs 3))⟩
abbrev book_Balance_Q (b bm bs bj:Nat) (mb:KV) (t p:Int) (zv:Value) (zs0:Slot) (zs1:Slot):Prop:= ∃zx:Int,(R4 zx/\zx=bal mb t p)/\zv=vI zx/\zs0=bk b #[pp bm 0,pp bs 0] 65/\zs1=(mS Try.mk92 bm bj mb)/\True
abbrev book_Balance_A (b bm bs bj:Nat) (mb:KV) (t p:Int) (zF:SF Int):Prop:=zF #[pp b 0, .int .u8 t, .int .u8 p] [bk b #[pp bm 0,pp bs 0] 65,(mS Try.mk92 bm bj mb)] (fun zx=>vI zx) (fun zx=> [bk b #[pp bm 0,pp bs 0] 65,(mS Try.mk92 bm bj mb)]) (fun zx=>(R4 zx/\zx=bal mb t p))
set_option maxRecDepth 100000 in
theorem book_Balance_vc (b bm bs bj:Nat) (mb:KV) (t p:Int):book_Balance_A b bm bs bj mb t p (fun za zh zv zu zp=>codeW Try.prog 21 none 2000 none (bodyOf Try.f10) (.reg [.sem [.nw 2]] (.reg [S0,S0,S0, .sem [.rd 0],S0,S0,S0, .callr [1] stage_Get92_C,S0,S0,S0, .sem [.nw 3], .sem (wrs 4 3),S0] (.reg [.sem (rds 4 3), .sem (wrs 4 2)] (.done))))
    (init za zh) (finW Try.prog Try.f10 [.rd 2, .rd 2, .rd 2, .rd 2] [0,1] (X:=Int) zv zu zp))=
    (∀b1:Nat,rdQ 1 b (callQr Try.prog 27 #[pp bm 0, .agg #[.int .u8 t, .int .u8 p]] [(mS Try.mk92 bm bj mb)] (Int×Bool) (fun zx=> .tuple #[vI zx.1, .bool zx.2]) (fun zx=>zx.1=num ((mget mb (Value.agg #[.int .u8 t, .int .u8 p])).getD (vI 0))/\zx.2=(mget mb (Value.agg #[.int .u8 t, .int .u8 p])).isSome) (fun x2=> ∀b3:Nat,rdQ 4 b3 (rdQ 4 b3 (rdQ 4 b1 (rdQ 4 b1 (book_Balance_Q b bm bs bj mb t p (vI x2.1) (bk b #[pp bm 0,pp bs 0] 65) (mS Try.mk92 bm bj mb)))))))):=by kernel_rfl
set_option maxRecDepth 100000 in
theorem book_Balance (b bm bs bj:Nat) (mb:KV) (t p:Int) (hb:KOK Try.mk92 mb):book_Balance_A b bm bs bj mb t p (fun za zh zv zu zp=>CallT Try.prog 10 za zh Int zv zu zp):=by
  refine call_of (c:=bodyOf Try.f10) (n:=21) (fn:=Try.f10) Try.mixed Try.func10 (by kernel_rfl) (by kernel_rfl) (by kernel_rfl) 2000 _ [.rd 2, .rd 2, .rd 2, .rd 2] [0,1] rfl rfl (Eq.mpr (book_Balance_vc b bm bs bj mb t p) ?_)
  intro b1
  refine rdQ_mk 1 _ (callQr_mk (stage_Get92 bm bj mb t p) (⟨(_,_),rfl,rfl⟩) fun x2 h1=> ?_)
  have hg:=h1
  have r0:R4 x2.1:=by rw [hg.1];exact KOK.R4v Try.numk92 hb _
  intro b3
  exact rdQ_mk 4 _ (rdQ_mk 4 _ (rdQ_mk 4 _ (rdQ_mk 4 _ ⟨_,⟨r0,hg.1⟩,rfl,rfl,rfl,trivial⟩)))
abbrev book_Balance_K (b bm bs bj:Nat) (mb:KV) (t p:Int) (KK:Int->Prop):Prop:=book_Balance_A b bm bs bj mb t p (fun za zh zv zu zp=>callQr Try.prog 10 za zh Int zv zp KK)
theorem book_Balance_m (b bm bs bj:Nat) (mb:KV) (t p:Int) {KK:Int->Prop} (kont: ∀zx:Int,R4 zx->(zx=bal mb t p)->KK zx) (hb:KOK Try.mk92 mb:=by assumption):book_Balance_K b bm bs bj mb t p KK:=callQr_mk (book_Balance b bm bs bj mb t p hb) (⟨_,KOK.R4v Try.numk92 (by assumption) _,rfl⟩) fun zx hz=>by
  obtain ⟨rhz_,hz⟩:=hz
  exact kont zx rhz_ hz
def book_Supply_C:List Value->List Slot->Ctr:=fun vs hs=>⟨Int,fun zx=>vI zx,fun _=>hs,fun zx=>R4 zx/\zx=sup (skv (sarg hs 1)) (ci (varg vs 2))⟩
abbrev book_Supply_Q (b bm bs bj:Nat) (ms:KV) (t:Int) (zv:Value) (zs0:Slot) (zs1:Slot):Prop:= ∃zx:Int,(R4 zx/\zx=sup ms t)/\zv=vI zx/\zs0=bk b #[pp bm 0,pp bs 0] 65/\zs1=(mS Try.mk97 bs bj ms)/\True
abbrev book_Supply_A (b bm bs bj:Nat) (ms:KV) (t:Int) (zF:SF Int):Prop:=zF #[pp b 0, .int .u8 t] [bk b #[pp bm 0,pp bs 0] 65,(mS Try.mk97 bs bj ms)] (fun zx=>vI zx) (fun zx=> [bk b #[pp bm 0,pp bs 0] 65,(mS Try.mk97 bs bj ms)]) (fun zx=>(R4 zx/\zx=sup ms t))
set_option maxRecDepth 100000 in
theorem book_Supply_vc (b bm bs bj:Nat) (ms:KV) (t:Int):book_Supply_A b bm bs bj ms t (fun za zh zv zu zp=>codeW Try.prog 17 none 2000 none (bodyOf Try.f16) (.reg [.sem [.nw 2]] (.reg [S0,S0,S0, .sem [.rd 0],S0, .callr [1] stage_Get97_C,S0,S0,S0, .sem [.nw 3], .sem (wrs 4 3),S0] (.reg [.sem (rds 4 3), .sem (wrs 4 2)] (.done))))
    (init za zh) (finW Try.prog Try.f16 [.rd 2, .rd 2, .rd 2, .rd 2] [0,1] (X:=Int) zv zu zp))=
    (∀b1:Nat,rdQ 1 b (callQr Try.prog 40 #[pp bs 0, .int .u8 t] [(mS Try.mk97 bs bj ms)] (Int×Bool) (fun zx=> .tuple #[vI zx.1, .bool zx.2]) (fun zx=>zx.1=num ((mget ms (Value.int .u8 t)).getD (vI 0))/\zx.2=(mget ms (Value.int .u8 t)).isSome) (fun x2=> ∀b3:Nat,rdQ 4 b3 (rdQ 4 b3 (rdQ 4 b1 (rdQ 4 b1 (book_Supply_Q b bm bs bj ms t (vI x2.1) (bk b #[pp bm 0,pp bs 0] 65) (mS Try.mk97 bs bj ms)))))))):=by kernel_rfl
set_option maxRecDepth 100000 in
theorem book_Supply (b bm bs bj:Nat) (ms:KV) (t:Int) (hs:KOK Try.mk97 ms):book_Supply_A b bm bs bj ms t (fun za zh zv zu zp=>CallT Try.prog 16 za zh Int zv zu zp):=by
  refine call_of (c:=bodyOf Try.f16) (n:=17) (fn:=Try.f16) Try.mixed Try.func16 (by kernel_rfl) (by kernel_rfl) (by kernel_rfl) 2000 _ [.rd 2, .rd 2, .rd 2, .rd 2] [0,1] rfl rfl (Eq.mpr (book_Supply_vc b bm bs bj ms t) ?_)
  intro b1
  refine rdQ_mk 1 _ (callQr_mk (stage_Get97 bs bj ms t) (⟨(_,_),rfl,rfl⟩) fun x2 h1=> ?_)
  have hg:=h1
  have r0:R4 x2.1:=by rw [hg.1];exact KOK.R4v Try.numk97 hs _
  intro b3
  exact rdQ_mk 4 _ (rdQ_mk 4 _ (rdQ_mk 4 _ (rdQ_mk 4 _ ⟨_,⟨r0,hg.1⟩,rfl,rfl,rfl,trivial⟩)))
abbrev book_Supply_K (b bm bs bj:Nat) (ms:KV) (t:Int) (KK:Int->Prop):Prop:=book_Supply_A b bm bs bj ms t (fun za zh zv zu zp=>callQr Try.prog 16 za zh Int zv zp KK)
theorem book_Supply_m (b bm bs bj:Nat) (ms:KV) (t:Int) {KK:Int->Prop} (kont: ∀zx:Int,R4 zx->(zx=sup ms t)->KK zx) (hs:KOK Try.mk97 ms:=by assumption):book_Supply_K b bm bs bj ms t KK:=callQr_mk (book_Supply b bm bs bj ms t hs) (⟨_,KOK.R4v Try.numk97 (by assumption) _,rfl⟩) fun zx hz=>by
  obtain ⟨rhz_,hz⟩:=hz
  exact kont zx rhz_ hz
def book_wrong1_C:List Value->List Slot->Ctr:=fun vs hs=>⟨Int,fun zx=> .int .i64 zx,fun _=>hs,fun zx=>zx=bw1 (ci (varg vs 1)) (ci (scell (sarg hs 0) 0)) (num (varg vs 2))⟩
abbrev book_wrong1_Q (c:Nat) (t n p:Int) (zv:Value) (zs0:Slot):Prop:= ∃zx:Int,(zx=bw1 t p (num (vI n)))/\zv= .int .i64 zx/\zs0=bk c #[.int .u8 p] 5/\True
abbrev book_wrong1_A (c:Nat) (t n p:Int) (zF:SF Int):Prop:=zF #[.int .u8 t,vI n, .slice (some ⟨c,0,none⟩) 1 1] [bk c #[.int .u8 p] 5] (fun zx=> .int .i64 zx) (fun zx=> [bk c #[.int .u8 p] 5]) (fun zx=>(zx=bw1 t p (num (vI n))))
set_option maxRecDepth 100000 in
theorem book_wrong1_vc (c:Nat) (t n p:Int):book_wrong1_A c t n p (fun za zh zv zu zp=>codeW Try.prog 26 none 2000 none (bodyOf Try.f21) (.reg [.sem [.nw 1],S0] (.reg [S0,S0,S0] (.reg [S0] (.condT (.reg [S0, .sem [.rd 0],S0] (.caseP (fun s=>decide ((ci (s.fr 0))≥(4:Int))) (.reg [S0, .gen [] (Sx.one (.bool true)),S0, .no, .no, .no,S0] (.condT (.reg [S0] (.done)))) (.reg [S0, .gen [] (Sx.one (.bool false)),S0,S0, .gen [] (fun vs=>Sx.one (.int .i64 (ci (varg vs 0))) vs),S0,S0] (.cond (.reg [S0] (.done)) (.reg [S0,S0] (.reg [S0] (.condF (.reg [.sem (rds 4 1),S0, .eq (f_eq)] (.cond (.reg [S0] (.done)) (.reg [S0] (.done)))))))))))))))
    (init za zh) (finW Try.prog Try.f21 [] [0] (X:=Int) zv zu zp))=
    (∀b1:Nat,(true=true)/\rdQ 1 c (((decide (t≥(4:Int)))=true->(∃_:Unit,True/\Value.bool (decide (t≥(4:Int)))= .bool true)/\ ∀_:Unit,(True)->true= !false/\true= !false/\true= !false/\(true=true)/\book_wrong1_Q c t n p (Value.int .i64 1) (bk c #[.int .u8 p] 5))/\((decide (t≥(4:Int)))=false->(∃_:Unit,True/\Value.bool (decide (t≥(4:Int)))= .bool false)/\ ∀_:Unit,(True)->false=false/\false=false/\(∃_:Unit,True/\Value.int .i64 (IntKind.i64.wrap p)= .int .i64 p)/\ ∀_:Unit,(True)->false=false/\((decide (p≥(18:Int)))=true->book_wrong1_Q c t n p (Value.int .i64 1) (bk c #[.int .u8 p] 5))/\((decide (p≥(18:Int)))=false->(false=false)/\rdQ 4 b1 ((PureRun Try.prog (xBin .eql 32 (vI n) (vI 0)) (.bool (num (vI n)==num (vI 0))))/\((num (vI n)==num (vI 0))=true->book_wrong1_Q c t n p (Value.int .i64 3) (bk c #[.int .u8 p] 5))/\((num (vI n)==num (vI 0))=false->book_wrong1_Q c t n p (Value.int .i64 0) (bk c #[.int .u8 p] 5))))))):=by kernel_rfl
set_option maxRecDepth 100000 in
theorem book_wrong1 (c:Nat) (t n p:Int) (r_n:R4 n) (wp:(Lit.int .u8 p).wf=true):book_wrong1_A c t n p (fun za zh zv zu zp=>CallT Try.prog 21 za zh Int zv zu zp):=by
  refine call_of (c:=bodyOf Try.f21) (n:=26) (fn:=Try.f21) Try.mixed Try.func21 (by kernel_rfl) (by kernel_rfl) (by kernel_rfl) 2000 _ [] [0] rfl rfl (Eq.mpr (book_wrong1_vc c t n p) ?_)
  have wp' :=wf8' wp
  intro b1
  refine ⟨rfl,rdQ_mk 1 _ ⟨fun h1=> ?_,fun h1=> ?_⟩⟩
  · refine ⟨⟨(),trivial,congrArg Value.bool h1⟩,fun _=>fun _=>⟨rfl,rfl,rfl,⟨rfl,?_⟩⟩⟩
    unfold book_wrong1_Q
    have hs:bw1 t p n=1:=by
      try simp (disch:=first | assumption | exact R4_zero | exact R4_one) only [rdx] at *
      unfold bw1
      (repeat' split)<;>first | rfl | (exfalso;omega)
    exact ⟨_,by first | exact hs.symm | (rw [num_vI r_n];exact hs.symm),rfl,rfl,trivial⟩
  refine ⟨⟨(),trivial,congrArg Value.bool h1⟩,fun _=>fun _=>⟨rfl,rfl,⟨(),trivial,congrArg (Value.int .i64) (wrap_i64 _ (by omega) (by omega))⟩,fun _=>fun _=>⟨rfl,⟨fun h2=> ?_,fun h2=> ?_⟩⟩⟩⟩
  · unfold book_wrong1_Q
    have hs:bw1 t p n=1:=by
      try simp (disch:=first | assumption | exact R4_zero | exact R4_one) only [rdx] at *
      unfold bw1
      (repeat' split)<;>first | rfl | (exfalso;omega)
    exact ⟨_,by first | exact hs.symm | (rw [num_vI r_n];exact hs.symm),rfl,rfl,trivial⟩
  refine ⟨rfl,rdQ_mk 4 _ ⟨Try.xeq32 n 0,⟨fun h3=> ?_,fun h3=> ?_⟩⟩⟩
  · unfold book_wrong1_Q
    have hs:bw1 t p n=3:=by
      try simp (disch:=first | assumption | exact R4_zero | exact R4_one) only [rdx] at *
      unfold bw1
      (repeat' split)<;>first | rfl | (exfalso;omega)
    exact ⟨_,by first | exact hs.symm | (rw [num_vI r_n];exact hs.symm),rfl,rfl,trivial⟩
  unfold book_wrong1_Q
  have hs:bw1 t p n=0:=by
    try simp (disch:=first | assumption | exact R4_zero | exact R4_one) only [rdx] at *
    unfold bw1
    (repeat' split)<;>first | rfl | (exfalso;omega)
  exact ⟨_,by first | exact hs.symm | (rw [num_vI r_n];exact hs.symm),rfl,rfl,trivial⟩
abbrev book_wrong1_K (c:Nat) (t n p:Int) (KK:Int->Prop):Prop:=book_wrong1_A c t n p (fun za zh zv zu zp=>callQr Try.prog 21 za zh Int zv zp KK)
theorem book_wrong1_m (c:Nat) (t n p:Int) {KK:Int->Prop} (kont: ∀zx:Int,(zx=bw1 t p n)->KK zx) (r_n:R4 n:=by assumption) (wp:(Lit.int .u8 p).wf=true:=by first | assumption | decide):book_wrong1_K c t n p KK:=callQr_mk (book_wrong1 c t n p r_n wp) (⟨_,rfl⟩) fun zx hz=>by
  try simp only [num_vI (n:=n) r_n] at hz
  exact kont zx hz
def book_wrong2_C:List Value->List Slot->Ctr:=fun vs hs=>⟨Int,fun zx=> .int .i64 zx,fun _=>hs,fun zx=>zx=bw2 (ci (varg vs 1)) (ci (scell (sarg hs 0) 0)) (ci (scell (sarg hs 0) 1)) (num (varg vs 2))⟩
abbrev book_wrong2_Q (c:Nat) (t n p q:Int) (zv:Value) (zs0:Slot):Prop:= ∃zx:Int,(zx=bw2 t p q (num (vI n)))/\zv= .int .i64 zx/\zs0=bk c #[.int .u8 p, .int .u8 q] 5/\True
abbrev book_wrong2_A (c:Nat) (t n p q:Int) (zF:SF Int):Prop:=zF #[.int .u8 t,vI n, .slice (some ⟨c,0,none⟩) 2 2] [bk c #[.int .u8 p, .int .u8 q] 5] (fun zx=> .int .i64 zx) (fun zx=> [bk c #[.int .u8 p, .int .u8 q] 5]) (fun zx=>(zx=bw2 t p q (num (vI n))))
set_option maxRecDepth 100000 in
theorem book_wrong2_vc (c:Nat) (t n p q:Int):book_wrong2_A c t n p q (fun za zh zv zu zp=>codeW Try.prog 26 none 2000 none (bodyOf Try.f21) (.reg [.sem [.nw 1],S0] (.reg [S0,S0,S0] (.reg [S0] (.condT (.reg [S0, .sem [.rd 0],S0] (.caseP (fun s=>decide ((ci (s.fr 0))≥(4:Int))) (.reg [S0, .gen [] (Sx.one (.bool true)),S0, .no, .no, .no,S0] (.condT (.reg [S0] (.done)))) (.reg [S0, .gen [] (Sx.one (.bool false)),S0,S0, .gen [] (fun vs=>Sx.one (.int .i64 (ci (varg vs 0))) vs),S0,S0] (.cond (.reg [S0] (.done)) (.reg [S0,S0] (.reg [S0] (.condT (.reg [S0, .sem [.rd 0],S0] (.reg [S0, .gen [] (Sx.one (.bool false)),S0,S0, .gen [] (fun vs=>Sx.one (.int .i64 (ci (varg vs 0))) vs),S0,S0] (.cond (.reg [S0] (.done)) (.reg [S0,S0] (.reg [S0] (.condF (.reg [.sem (rds 4 1),S0, .eq (f_eq)] (.cond (.reg [S0] (.done)) (.reg [S0] (.done)))))))))))))))))))))
    (init za zh) (finW Try.prog Try.f21 [] [0] (X:=Int) zv zu zp))=
    (∀b1:Nat,(true=true)/\rdQ 1 c (((decide (t≥(4:Int)))=true->(∃_:Unit,True/\Value.bool (decide (t≥(4:Int)))= .bool true)/\ ∀_:Unit,(True)->true= !false/\true= !false/\true= !false/\(true=true)/\book_wrong2_Q c t n p q (Value.int .i64 1) (bk c #[.int .u8 p, .int .u8 q] 5))/\((decide (t≥(4:Int)))=false->(∃_:Unit,True/\Value.bool (decide (t≥(4:Int)))= .bool false)/\ ∀_:Unit,(True)->false=false/\false=false/\(∃_:Unit,True/\Value.int .i64 (IntKind.i64.wrap p)= .int .i64 p)/\ ∀_:Unit,(True)->false=false/\((decide (p≥(18:Int)))=true->book_wrong2_Q c t n p q (Value.int .i64 1) (bk c #[.int .u8 p, .int .u8 q] 5))/\((decide (p≥(18:Int)))=false->(true=true)/\rdQ 1 c ((∃_:Unit,True/\Value.bool (decide (t≥(4:Int)))= .bool false)/\ ∀_:Unit,(True)->false=false/\false=false/\(∃_:Unit,True/\Value.int .i64 (IntKind.i64.wrap q)= .int .i64 q)/\ ∀_:Unit,(True)->false=false/\((decide (q≥(18:Int)))=true->book_wrong2_Q c t n p q (Value.int .i64 1) (bk c #[.int .u8 p, .int .u8 q] 5))/\((decide (q≥(18:Int)))=false->(false=false)/\rdQ 4 b1 ((PureRun Try.prog (xBin .eql 32 (vI n) (vI 0)) (.bool (num (vI n)==num (vI 0))))/\((num (vI n)==num (vI 0))=true->book_wrong2_Q c t n p q (Value.int .i64 3) (bk c #[.int .u8 p, .int .u8 q] 5))/\((num (vI n)==num (vI 0))=false->book_wrong2_Q c t n p q (Value.int .i64 0) (bk c #[.int .u8 p, .int .u8 q] 5))))))))):=by kernel_rfl
set_option maxRecDepth 100000 in
theorem book_wrong2 (c:Nat) (t n p q:Int) (r_n:R4 n) (wp:(Lit.int .u8 p).wf=true) (wq:(Lit.int .u8 q).wf=true):book_wrong2_A c t n p q (fun za zh zv zu zp=>CallT Try.prog 21 za zh Int zv zu zp):=by
  refine call_of (c:=bodyOf Try.f21) (n:=26) (fn:=Try.f21) Try.mixed Try.func21 (by kernel_rfl) (by kernel_rfl) (by kernel_rfl) 2000 _ [] [0] rfl rfl (Eq.mpr (book_wrong2_vc c t n p q) ?_)
  have wp' :=wf8' wp
  have wq' :=wf8' wq
  intro b1
  refine ⟨rfl,rdQ_mk 1 _ ⟨fun h1=> ?_,fun h1=> ?_⟩⟩
  · refine ⟨⟨(),trivial,congrArg Value.bool h1⟩,fun _=>fun _=>⟨rfl,rfl,rfl,⟨rfl,?_⟩⟩⟩
    unfold book_wrong2_Q
    have hs:bw2 t p q n=1:=by
      try simp (disch:=first | assumption | exact R4_zero | exact R4_one) only [rdx] at *
      unfold bw2
      (repeat' split)<;>first | rfl | (exfalso;omega)
    exact ⟨_,by first | exact hs.symm | (rw [num_vI r_n];exact hs.symm),rfl,rfl,trivial⟩
  refine ⟨⟨(),trivial,congrArg Value.bool h1⟩,fun _=>fun _=>⟨rfl,rfl,⟨(),trivial,congrArg (Value.int .i64) (wrap_i64 _ (by omega) (by omega))⟩,fun _=>fun _=>⟨rfl,⟨fun h2=> ?_,fun h2=> ?_⟩⟩⟩⟩
  · unfold book_wrong2_Q
    have hs:bw2 t p q n=1:=by
      try simp (disch:=first | assumption | exact R4_zero | exact R4_one) only [rdx] at *
      unfold bw2
      (repeat' split)<;>first | rfl | (exfalso;omega)
    exact ⟨_,by first | exact hs.symm | (rw [num_vI r_n];exact hs.symm),rfl,rfl,trivial⟩
  refine ⟨rfl,rdQ_mk 1 _ ⟨⟨(),trivial,congrArg Value.bool h1⟩,fun _=>fun _=>⟨rfl,rfl,⟨(),trivial,congrArg (Value.int .i64) (wrap_i64 _ (by omega) (by omega))⟩,fun _=>fun _=>⟨rfl,⟨fun h3=> ?_,fun h3=> ?_⟩⟩⟩⟩⟩
  · unfold book_wrong2_Q
    have hs:bw2 t p q n=1:=by
      try simp (disch:=first | assumption | exact R4_zero | exact R4_one) only [rdx] at *
      unfold bw2
      (repeat' split)<;>first | rfl | (exfalso;omega)
    exact ⟨_,by first | exact hs.symm | (rw [num_vI r_n];exact hs.symm),rfl,rfl,trivial⟩
  refine ⟨rfl,rdQ_mk 4 _ ⟨Try.xeq32 n 0,⟨fun h4=> ?_,fun h4=> ?_⟩⟩⟩
  · unfold book_wrong2_Q
    have hs:bw2 t p q n=3:=by
      try simp (disch:=first | assumption | exact R4_zero | exact R4_one) only [rdx] at *
      unfold bw2
      (repeat' split)<;>first | rfl | (exfalso;omega)
    exact ⟨_,by first | exact hs.symm | (rw [num_vI r_n];exact hs.symm),rfl,rfl,trivial⟩
  unfold book_wrong2_Q
  have hs:bw2 t p q n=0:=by
    try simp (disch:=first | assumption | exact R4_zero | exact R4_one) only [rdx] at *
    unfold bw2
    (repeat' split)<;>first | rfl | (exfalso;omega)
  exact ⟨_,by first | exact hs.symm | (rw [num_vI r_n];exact hs.symm),rfl,rfl,trivial⟩
abbrev book_wrong2_K (c:Nat) (t n p q:Int) (KK:Int->Prop):Prop:=book_wrong2_A c t n p q (fun za zh zv zu zp=>callQr Try.prog 21 za zh Int zv zp KK)
theorem book_wrong2_m (c:Nat) (t n p q:Int) {KK:Int->Prop} (kont: ∀zx:Int,(zx=bw2 t p q n)->KK zx) (r_n:R4 n:=by assumption) (wp:(Lit.int .u8 p).wf=true:=by first | assumption | decide) (wq:(Lit.int .u8 q).wf=true:=by first | assumption | decide):book_wrong2_K c t n p q KK:=callQr_mk (book_wrong2 c t n p q r_n wp wq) (⟨_,rfl⟩) fun zx hz=>by
  try simp only [num_vI (n:=n) r_n] at hz
  exact kont zx hz
def book_Mint_C:List Value->List Slot->Ctr:=fun vs hs=>⟨Int×BS,fun zx=> .int .i64 zx.1,fun zx=> [.blk (vblk (varg vs 1)) (.cells #[.pointer (some ⟨(vblk (scell (sarg hs 0) 0)),0,none⟩), .pointer (some ⟨(vblk (scell (sarg hs 0) 1)),0,none⟩)] 65 (0,0)),(mS Try.mk92 (vblk (scell (sarg hs 0) 0)) (snum (sarg hs 1) 1) zx.2.1),(mS Try.mk97 (vblk (scell (sarg hs 0) 1)) (snum (sarg hs 1) 1) zx.2.2.1),(jS Try.jk (snum (sarg hs 1) 1) zx.2.2.2)],fun zx=>zx=bMint (Try.ent92 (vblk (scell (sarg hs 0) 0))) (Try.ent97 (vblk (scell (sarg hs 0) 1))) (((skv (sarg hs 1)),(skv (sarg hs 2)),(sents (sarg hs 3))):BS) (ci (varg vs 2)) (ci (varg vs 3)) (num (varg vs 4))⟩
abbrev book_Mint_Q (b bm bs bj:Nat) (mb ms:KV) (L:List Ent) (t p n:Int) (zv:Value) (zs0:Slot) (zs1:Slot) (zs2:Slot) (zs3:Slot):Prop:= ∃zx:Int×BS,(zx=bMint (Try.ent92 bm) (Try.ent97 bs) ((mb,ms,L):BS) t p (num (vI n)))/\zv= .int .i64 zx.1/\zs0=bk b #[pp bm 0,pp bs 0] 65/\zs1=(mS Try.mk92 bm bj zx.2.1)/\zs2=(mS Try.mk97 bs bj zx.2.2.1)/\zs3=(jS Try.jk bj zx.2.2.2)/\True
abbrev book_Mint_A (b bm bs bj:Nat) (mb ms:KV) (L:List Ent) (t p n:Int) (zF:SF (Int×BS)):Prop:=zF #[pp b 0, .int .u8 t, .int .u8 p,vI n] [bk b #[pp bm 0,pp bs 0] 65,(mS Try.mk92 bm bj mb),(mS Try.mk97 bs bj ms),(jS Try.jk bj L)] (fun zx=> .int .i64 zx.1) (fun zx=> [bk b #[pp bm 0,pp bs 0] 65,(mS Try.mk92 bm bj zx.2.1),(mS Try.mk97 bs bj zx.2.2.1),(jS Try.jk bj zx.2.2.2)]) (fun zx=>(zx=bMint (Try.ent92 bm) (Try.ent97 bs) ((mb,ms,L):BS) t p (num (vI n))))
set_option maxRecDepth 100000 in
set_option maxHeartbeats 1000000 in
theorem book_Mint_vc (b bm bs bj:Nat) (mb ms:KV) (L:List Ent) (t p n:Int):book_Mint_A b bm bs bj mb ms L t p n (fun za zh zv zu zp=>codeW Try.prog 55 none 2000 none (bodyOf Try.f7) (.reg [.sem [.nw 4],S0] (.reg [S0, .sem (rds 4 4),S0, .sem [.nw 5], .callr [5] book_wrong1_C,S0] (.reg [S0,S0] (.cond (.reg [S0,S0] (.done)) (.reg [S0,S0, .callr [0,2] book_Supply_C, .sem (rds 4 4), .callr [] huge_Add_C,S0,S0,S0, .sem [.nw 6], .sem (wrs 4 6),S0] (.reg [S0,S0] (.cond (.reg [S0,S0] (.done)) (.reg [S0,S0,S0, .callr [0,1] book_Balance_C, .sem (rds 4 4), .callr [] huge_Add_C,S0,S0,S0, .sem [.nw 7], .sem (wrs 4 7),S0] (.reg [S0,S0,S0, .sem [.rd 0],S0, .sem (rds 4 6), .callw [2,3] [2,3] stage_Set97_C] (.reg [S0,S0,S0,S0, .sem (rds 4 7), .callw [0,1,2,3] [0,1,2,3] book_put_C] (.reg [S0] (.done))))))))))))
    (init za zh) (finW Try.prog Try.f7 [] [0,1,2,3] (X:=Int×BS) zv zu zp))=
    (∀b1:Nat,rdQ 4 b1 (∀b2:Nat,book_wrong1_K b2 t n p (fun x3=>((x3 !=(0:Int))=true->book_Mint_Q b bm bs bj mb ms L t p n (Value.int .i64 x3) (bk b #[pp bm 0,pp bs 0] 65) (mS Try.mk92 bm bj mb) (mS Try.mk97 bs bj ms) (jS Try.jk bj L))/\((x3 !=(0:Int))=false->book_Supply_K b bm bs bj ms t (fun x4=>rdQ 4 b1 (huge_Add_K x4 n (fun x5=> ∀b6:Nat,rdQ 4 b6 (((x5.2 !=(0:Int))=true->book_Mint_Q b bm bs bj mb ms L t p n (Value.int .i64 x5.2) (bk b #[pp bm 0,pp bs 0] 65) (mS Try.mk92 bm bj mb) (mS Try.mk97 bs bj ms) (jS Try.jk bj L))/\((x5.2 !=(0:Int))=false->book_Balance_K b bm bs bj mb t p (fun x7=>rdQ 4 b1 (huge_Add_K x7 n (fun x8=> ∀b9:Nat,rdQ 4 b9 (rdQ 1 b (rdQ 4 b6 (callQ Try.prog 23 #[pp bs 0, .int .u8 t,vI x5.1] [(mS Try.mk97 bs bj ms),(jS Try.jk bj L)] (KV×List Ent) (fun zx=> .tuple #[]) (fun zx=> [(mS Try.mk97 bs bj zx.1),(jS Try.jk bj zx.2)]) (fun zx=>zx.1=mset ms (Value.int .u8 t) (vI x5.1)/\zx.2=L++ [(Try.ent97 bs ms (Value.int .u8 t))]) (fun x10=>rdQ 4 b9 (book_put_K b bm bs bj mb x10.1 x10.2 t p x8.1 (fun x11=>book_Mint_Q b bm bs bj mb ms L t p n (Value.int .i64 0) (bk b #[pp bm 0,pp bs 0] 65) (mS Try.mk92 bm bj x11.1) (mS Try.mk97 bs bj x11.2.1) (jS Try.jk bj x11.2.2))))))))))))))))))):=by kernel_rfl
set_option maxRecDepth 100000 in
set_option maxHeartbeats 1000000 in
theorem book_Mint (b bm bs bj:Nat) (mb ms:KV) (L:List Ent) (t p n:Int) (r_n:R4 n) (wp:(Lit.int .u8 p).wf=true) (hb:KOK Try.mk92 mb) (hs:KOK Try.mk97 ms) (hl:L.length<=1000000):book_Mint_A b bm bs bj mb ms L t p n (fun za zh zv zu zp=>CallT Try.prog 7 za zh (Int×BS) zv zu zp):=by
  refine call_of (c:=bodyOf Try.f7) (n:=55) (fn:=Try.f7) Try.mixed Try.func7 (by kernel_rfl) (by kernel_rfl) (by kernel_rfl) 2000 _ [] [0,1,2,3] rfl rfl (Eq.mpr (book_Mint_vc b bm bs bj mb ms L t p n) ?_)
  intro b1
  refine rdQ_mk 4 _ (fun b2=>book_wrong1_m b2 t n p (fun x3 h1=> ?_))
  have hw:=h1
  refine ⟨fun h2=> ?_,fun h2=> ?_⟩
  · exact ⟨(x3,mb,ms,L),by rw [num_vI r_n];exact (bMint_w hw (bne_iff_ne.1 h2)).symm,rfl,rfl,rfl,rfl,rfl,trivial⟩
  have hw0:=h2
  have w0' :=bne_eq_false_iff_eq.1 hw0
  rw [w0'] at hw
  refine book_Supply_m b bm bs bj ms t (fun x4 rh3_ h3=> ?_)
  have hsu:=h3
  refine rdQ_mk 4 _ (huge_Add_m x4 n (fun x5 rh4_1 h4=> ?_))
  have ha:=h4
  intro b6
  refine rdQ_mk 4 _ ⟨fun h5=> ?_,fun h5=> ?_⟩
  · have q:=add_ov ha h5
    exact ⟨(2,mb,ms,L),by rw [num_vI r_n];exact (bMint_ov hw (by rw [hsu] at q;exact q.2)).symm,by rw [q.1],rfl,rfl,rfl,rfl,trivial⟩
  refine book_Balance_m b bm bs bj mb t p (fun x7 rh6_ h6=> ?_)
  have hba:=h6
  refine rdQ_mk 4 _ (huge_Add_m x7 n (fun x8 rh7_1 h7=> ?_))
  have hnow:=h7
  intro b9
  refine rdQ_mk 4 _ (rdQ_mk 1 _ (rdQ_mk 4 _ (callQ_mk (stage_Set97 bs bj ms L t x5.1 (by assumption) (by omega)) (⟨(_,_),rfl,rfl⟩) fun x10 h8=> ?_)))
  try simp only [num_vI (n:=x5.1) (by assumption)] at h8
  have hse:=h8
  have l1:List.length x10.2=L.length+1:=by rw [hse.2];simp
  refine rdQ_mk 4 _ (book_put_m b bm bs bj mb x10.1 x10.2 t p x8.1 (fun x11 h9=> ?_))
  have hput:=h9
  unfold book_Mint_Q
  have q:=add_ok ha h5
  rw [hsu] at q
  exact ⟨(0,x11),by rw [num_vI r_n];exact (bMint_ok hw (by have:=q.2;simp only;omega) q.1 hse.1 hse.2 (by rw [hnow,hba]) hput).symm,rfl,rfl,rfl,congrArg (mS Try.mk97 bs bj) (by rw [hput];try rfl),rfl,trivial⟩
abbrev book_Mint_K (b bm bs bj:Nat) (mb ms:KV) (L:List Ent) (t p n:Int) (KK:(Int×BS)->Prop):Prop:=book_Mint_A b bm bs bj mb ms L t p n (fun za zh zv zu zp=>callQ Try.prog 7 za zh (Int×BS) zv zu zp KK)
theorem book_Mint_m (b bm bs bj:Nat) (mb ms:KV) (L:List Ent) (t p n:Int) {KK:(Int×BS)->Prop} (kont: ∀zx:Int×BS,(zx=bMint (Try.ent92 bm) (Try.ent97 bs) ((mb,ms,L):BS) t p n)->KK zx) (r_n:R4 n:=by assumption) (wp:(Lit.int .u8 p).wf=true:=by first | assumption | decide) (hb:KOK Try.mk92 mb:=by assumption) (hs:KOK Try.mk97 ms:=by assumption) (hl:L.length<=1000000:=by omega):book_Mint_K b bm bs bj mb ms L t p n KK:=callQ_mk (book_Mint b bm bs bj mb ms L t p n r_n wp hb hs hl) (⟨_,rfl⟩) fun zx hz=>by
  try simp only [num_vI (n:=n) r_n] at hz
  exact kont zx hz
def book_Burn_C:List Value->List Slot->Ctr:=fun vs hs=>⟨Int×BS,fun zx=> .int .i64 zx.1,fun zx=> [.blk (vblk (varg vs 1)) (.cells #[.pointer (some ⟨(vblk (scell (sarg hs 0) 0)),0,none⟩), .pointer (some ⟨(vblk (scell (sarg hs 0) 1)),0,none⟩)] 65 (0,0)),(mS Try.mk92 (vblk (scell (sarg hs 0) 0)) (snum (sarg hs 1) 1) zx.2.1),(mS Try.mk97 (vblk (scell (sarg hs 0) 1)) (snum (sarg hs 1) 1) zx.2.2.1),(jS Try.jk (snum (sarg hs 1) 1) zx.2.2.2)],fun zx=>zx=bBurn (Try.ent92 (vblk (scell (sarg hs 0) 0))) (Try.ent97 (vblk (scell (sarg hs 0) 1))) (((skv (sarg hs 1)),(skv (sarg hs 2)),(sents (sarg hs 3))):BS) (ci (varg vs 2)) (ci (varg vs 3)) (num (varg vs 4))⟩
abbrev book_Burn_Q (b bm bs bj:Nat) (mb ms:KV) (L:List Ent) (t p n:Int) (zv:Value) (zs0:Slot) (zs1:Slot) (zs2:Slot) (zs3:Slot):Prop:= ∃zx:Int×BS,(zx=bBurn (Try.ent92 bm) (Try.ent97 bs) ((mb,ms,L):BS) t p (num (vI n)))/\zv= .int .i64 zx.1/\zs0=bk b #[pp bm 0,pp bs 0] 65/\zs1=(mS Try.mk92 bm bj zx.2.1)/\zs2=(mS Try.mk97 bs bj zx.2.2.1)/\zs3=(jS Try.jk bj zx.2.2.2)/\True
abbrev book_Burn_A (b bm bs bj:Nat) (mb ms:KV) (L:List Ent) (t p n:Int) (zF:SF (Int×BS)):Prop:=zF #[pp b 0, .int .u8 t, .int .u8 p,vI n] [bk b #[pp bm 0,pp bs 0] 65,(mS Try.mk92 bm bj mb),(mS Try.mk97 bs bj ms),(jS Try.jk bj L)] (fun zx=> .int .i64 zx.1) (fun zx=> [bk b #[pp bm 0,pp bs 0] 65,(mS Try.mk92 bm bj zx.2.1),(mS Try.mk97 bs bj zx.2.2.1),(jS Try.jk bj zx.2.2.2)]) (fun zx=>(zx=bBurn (Try.ent92 bm) (Try.ent97 bs) ((mb,ms,L):BS) t p (num (vI n))))
set_option maxRecDepth 100000 in
set_option maxHeartbeats 1000000 in
theorem book_Burn_vc (b bm bs bj:Nat) (mb ms:KV) (L:List Ent) (t p n:Int):book_Burn_A b bm bs bj mb ms L t p n (fun za zh zv zu zp=>codeW Try.prog 54 none 2000 none (bodyOf Try.f34) (.reg [.sem [.nw 4],S0] (.reg [S0, .sem (rds 4 4),S0, .sem [.nw 5], .callr [5] book_wrong1_C,S0] (.reg [S0,S0] (.cond (.reg [S0,S0] (.done)) (.reg [S0,S0,S0, .callr [0,1] book_Balance_C, .sem (rds 4 4), .callr [] huge_Sub_C,S0,S0,S0, .sem [.nw 6], .sem (wrs 4 6),S0] (.reg [S0,S0] (.cond (.reg [S0] (.done)) (.reg [S0,S0, .callr [0,2] book_Supply_C, .sem (rds 4 4), .callr [] huge_Sub_C,S0,S0,S0, .sem [.nw 7], .sem (wrs 4 7),S0] (.reg [S0,S0,S0, .sem [.rd 0],S0, .sem (rds 4 7), .callw [2,3] [2,3] stage_Set97_C] (.reg [S0,S0,S0,S0, .sem (rds 4 6), .callw [0,1,2,3] [0,1,2,3] book_put_C] (.reg [S0] (.done))))))))))))
    (init za zh) (finW Try.prog Try.f34 [] [0,1,2,3] (X:=Int×BS) zv zu zp))=
    (∀b1:Nat,rdQ 4 b1 (∀b2:Nat,book_wrong1_K b2 t n p (fun x3=>((x3 !=(0:Int))=true->book_Burn_Q b bm bs bj mb ms L t p n (Value.int .i64 x3) (bk b #[pp bm 0,pp bs 0] 65) (mS Try.mk92 bm bj mb) (mS Try.mk97 bs bj ms) (jS Try.jk bj L))/\((x3 !=(0:Int))=false->book_Balance_K b bm bs bj mb t p (fun x4=>rdQ 4 b1 (huge_Sub_K x4 n (fun x5=> ∀b6:Nat,rdQ 4 b6 (((x5.2 !=(0:Int))=true->book_Burn_Q b bm bs bj mb ms L t p n (Value.int .i64 8) (bk b #[pp bm 0,pp bs 0] 65) (mS Try.mk92 bm bj mb) (mS Try.mk97 bs bj ms) (jS Try.jk bj L))/\((x5.2 !=(0:Int))=false->book_Supply_K b bm bs bj ms t (fun x7=>rdQ 4 b1 (huge_Sub_K x7 n (fun x8=> ∀b9:Nat,rdQ 4 b9 (rdQ 1 b (rdQ 4 b9 (callQ Try.prog 23 #[pp bs 0, .int .u8 t,vI x8.1] [(mS Try.mk97 bs bj ms),(jS Try.jk bj L)] (KV×List Ent) (fun zx=> .tuple #[]) (fun zx=> [(mS Try.mk97 bs bj zx.1),(jS Try.jk bj zx.2)]) (fun zx=>zx.1=mset ms (Value.int .u8 t) (vI x8.1)/\zx.2=L++ [(Try.ent97 bs ms (Value.int .u8 t))]) (fun x10=>rdQ 4 b6 (book_put_K b bm bs bj mb x10.1 x10.2 t p x5.1 (fun x11=>book_Burn_Q b bm bs bj mb ms L t p n (Value.int .i64 0) (bk b #[pp bm 0,pp bs 0] 65) (mS Try.mk92 bm bj x11.1) (mS Try.mk97 bs bj x11.2.1) (jS Try.jk bj x11.2.2))))))))))))))))))):=by kernel_rfl
set_option maxRecDepth 100000 in
set_option maxHeartbeats 1000000 in
theorem book_Burn (b bm bs bj:Nat) (mb ms:KV) (L:List Ent) (t p n:Int) (r_n:R4 n) (wp:(Lit.int .u8 p).wf=true) (hb:KOK Try.mk92 mb) (hs:KOK Try.mk97 ms) (hl:L.length<=1000000):book_Burn_A b bm bs bj mb ms L t p n (fun za zh zv zu zp=>CallT Try.prog 34 za zh (Int×BS) zv zu zp):=by
  refine call_of (c:=bodyOf Try.f34) (n:=54) (fn:=Try.f34) Try.mixed Try.func34 (by kernel_rfl) (by kernel_rfl) (by kernel_rfl) 2000 _ [] [0,1,2,3] rfl rfl (Eq.mpr (book_Burn_vc b bm bs bj mb ms L t p n) ?_)
  intro b1
  refine rdQ_mk 4 _ (fun b2=>book_wrong1_m b2 t n p (fun x3 h1=> ?_))
  have hw:=h1
  refine ⟨fun h2=> ?_,fun h2=> ?_⟩
  · exact ⟨(x3,mb,ms,L),by rw [num_vI r_n];exact (bBurn_w hw (bne_iff_ne.1 h2)).symm,rfl,rfl,rfl,rfl,rfl,trivial⟩
  have hw0:=h2
  have w0' :=bne_eq_false_iff_eq.1 hw0
  rw [w0'] at hw
  refine book_Balance_m b bm bs bj mb t p (fun x4 rh3_ h3=> ?_)
  have hba:=h3
  refine rdQ_mk 4 _ (huge_Sub_m x4 n (fun x5 rh4_1 h4=> ?_))
  have ha:=h4
  intro b6
  refine rdQ_mk 4 _ ⟨fun h5=> ?_,fun h5=> ?_⟩
  · unfold book_Burn_Q
    have q:=sub_no ha h5
    rw [hba] at q
    exact ⟨(8,mb,ms,L),by rw [num_vI r_n];exact (bBurn_no hw q.2).symm,rfl,rfl,rfl,rfl,rfl,trivial⟩
  refine book_Supply_m b bm bs bj ms t (fun x7 rh6_ h6=> ?_)
  have hsu:=h6
  refine rdQ_mk 4 _ (huge_Sub_m x7 n (fun x8 rh7_1 h7=> ?_))
  have hnow:=h7
  intro b9
  refine rdQ_mk 4 _ (rdQ_mk 1 _ (rdQ_mk 4 _ (callQ_mk (stage_Set97 bs bj ms L t x8.1 (by assumption) (by omega)) (⟨(_,_),rfl,rfl⟩) fun x10 h8=> ?_)))
  try simp only [num_vI (n:=x8.1) (by assumption)] at h8
  have hse:=h8
  have l1:List.length x10.2=L.length+1:=by rw [hse.2];simp
  refine rdQ_mk 4 _ (book_put_m b bm bs bj mb x10.1 x10.2 t p x5.1 (fun x11 h9=> ?_))
  have hput:=h9
  unfold book_Burn_Q
  have q:=sub_ok ha h5
  rw [hba] at q
  exact ⟨(0,x11),by rw [num_vI r_n];exact (bBurn_ok hw (by have:=q.2;simp only;omega) (by rw [hnow,hsu]) hse.1 hse.2 q.1 hput).symm,rfl,rfl,rfl,congrArg (mS Try.mk97 bs bj) (by rw [hput];try rfl),rfl,trivial⟩
abbrev book_Burn_K (b bm bs bj:Nat) (mb ms:KV) (L:List Ent) (t p n:Int) (KK:(Int×BS)->Prop):Prop:=book_Burn_A b bm bs bj mb ms L t p n (fun za zh zv zu zp=>callQ Try.prog 34 za zh (Int×BS) zv zu zp KK)
theorem book_Burn_m (b bm bs bj:Nat) (mb ms:KV) (L:List Ent) (t p n:Int) {KK:(Int×BS)->Prop} (kont: ∀zx:Int×BS,(zx=bBurn (Try.ent92 bm) (Try.ent97 bs) ((mb,ms,L):BS) t p n)->KK zx) (r_n:R4 n:=by assumption) (wp:(Lit.int .u8 p).wf=true:=by first | assumption | decide) (hb:KOK Try.mk92 mb:=by assumption) (hs:KOK Try.mk97 ms:=by assumption) (hl:L.length<=1000000:=by omega):book_Burn_K b bm bs bj mb ms L t p n KK:=callQ_mk (book_Burn b bm bs bj mb ms L t p n r_n wp hb hs hl) (⟨_,rfl⟩) fun zx hz=>by
  try simp only [num_vI (n:=n) r_n] at hz
  exact kont zx hz
def book_Move_C:List Value->List Slot->Ctr:=fun vs hs=>⟨Int×BS,fun zx=> .int .i64 zx.1,fun zx=> [.blk (vblk (varg vs 1)) (.cells #[.pointer (some ⟨(vblk (scell (sarg hs 0) 0)),0,none⟩), .pointer (some ⟨(vblk (scell (sarg hs 0) 1)),0,none⟩)] 65 (0,0)),(mS Try.mk92 (vblk (scell (sarg hs 0) 0)) (snum (sarg hs 1) 1) zx.2.1),(mS Try.mk97 (vblk (scell (sarg hs 0) 1)) (snum (sarg hs 1) 1) zx.2.2.1),(jS Try.jk (snum (sarg hs 1) 1) zx.2.2.2)],fun zx=>zx=bMove (Try.ent92 (vblk (scell (sarg hs 0) 0))) (((skv (sarg hs 1)),(skv (sarg hs 2)),(sents (sarg hs 3))):BS) (ci (varg vs 2)) (ci (varg vs 3)) (ci (varg vs 4)) (num (varg vs 5))⟩
abbrev book_Move_Q (b bm bs bj:Nat) (mb ms:KV) (L:List Ent) (t p q n:Int) (zv:Value) (zs0:Slot) (zs1:Slot) (zs2:Slot) (zs3:Slot):Prop:= ∃zx:Int×BS,(zx=bMove (Try.ent92 bm) ((mb,ms,L):BS) t p q (num (vI n)))/\zv= .int .i64 zx.1/\zs0=bk b #[pp bm 0,pp bs 0] 65/\zs1=(mS Try.mk92 bm bj zx.2.1)/\zs2=(mS Try.mk97 bs bj zx.2.2.1)/\zs3=(jS Try.jk bj zx.2.2.2)/\True
abbrev book_Move_A (b bm bs bj:Nat) (mb ms:KV) (L:List Ent) (t p q n:Int) (zF:SF (Int×BS)):Prop:=zF #[pp b 0, .int .u8 t, .int .u8 p, .int .u8 q,vI n] [bk b #[pp bm 0,pp bs 0] 65,(mS Try.mk92 bm bj mb),(mS Try.mk97 bs bj ms),(jS Try.jk bj L)] (fun zx=> .int .i64 zx.1) (fun zx=> [bk b #[pp bm 0,pp bs 0] 65,(mS Try.mk92 bm bj zx.2.1),(mS Try.mk97 bs bj zx.2.2.1),(jS Try.jk bj zx.2.2.2)]) (fun zx=>(zx=bMove (Try.ent92 bm) ((mb,ms,L):BS) t p q (num (vI n))))
set_option maxRecDepth 100000 in
set_option maxHeartbeats 1000000 in
theorem book_Move_vc (b bm bs bj:Nat) (mb ms:KV) (L:List Ent) (t p q n:Int):book_Move_A b bm bs bj mb ms L t p q n (fun za zh zv zu zp=>codeW Try.prog 57 none 2000 none (bodyOf Try.f8) (.reg [.sem [.nw 4],S0] (.reg [S0, .sem (rds 4 4),S0,S0, .sem [.nw 5], .callr [5] book_wrong2_C,S0] (.reg [S0,S0] (.cond (.reg [S0,S0] (.done)) (.reg [S0,S0,S0, .callr [0,1] book_Balance_C, .sem (rds 4 4), .callr [] huge_Sub_C,S0,S0,S0, .sem [.nw 6], .sem (wrs 4 6),S0] (.reg [S0,S0] (.cond (.reg [S0] (.done)) (.reg [S0,S0,S0,S0, .sem (rds 4 6), .callw [0,1,2,3] [0,1,2,3] book_put_C] (.reg [S0,S0,S0, .callr [0,1] book_Balance_C, .sem (rds 4 4), .callr [] huge_Add_C,S0,S0,S0, .sem [.nw 7], .sem (wrs 4 7),S0] (.reg [S0,S0,S0,S0, .sem (rds 4 7), .callw [0,1,2,3] [0,1,2,3] book_put_C] (.reg [S0] (.done))))))))))))
    (init za zh) (finW Try.prog Try.f8 [] [0,1,2,3] (X:=Int×BS) zv zu zp))=
    (∀b1:Nat,rdQ 4 b1 (∀b2:Nat,book_wrong2_K b2 t n p q (fun x3=>((x3 !=(0:Int))=true->book_Move_Q b bm bs bj mb ms L t p q n (Value.int .i64 x3) (bk b #[pp bm 0,pp bs 0] 65) (mS Try.mk92 bm bj mb) (mS Try.mk97 bs bj ms) (jS Try.jk bj L))/\((x3 !=(0:Int))=false->book_Balance_K b bm bs bj mb t p (fun x4=>rdQ 4 b1 (huge_Sub_K x4 n (fun x5=> ∀b6:Nat,rdQ 4 b6 (((x5.2 !=(0:Int))=true->book_Move_Q b bm bs bj mb ms L t p q n (Value.int .i64 8) (bk b #[pp bm 0,pp bs 0] 65) (mS Try.mk92 bm bj mb) (mS Try.mk97 bs bj ms) (jS Try.jk bj L))/\((x5.2 !=(0:Int))=false->rdQ 4 b6 (book_put_K b bm bs bj mb ms L t p x5.1 (fun x7=>book_Balance_K b bm bs bj x7.1 t q (fun x8=>rdQ 4 b1 (huge_Add_K x8 n (fun x9=> ∀b10:Nat,rdQ 4 b10 (rdQ 4 b10 (book_put_K b bm bs bj x7.1 x7.2.1 x7.2.2 t q x9.1 (fun x11=>book_Move_Q b bm bs bj mb ms L t p q n (Value.int .i64 0) (bk b #[pp bm 0,pp bs 0] 65) (mS Try.mk92 bm bj x11.1) (mS Try.mk97 bs bj x11.2.1) (jS Try.jk bj x11.2.2)))))))))))))))))):=by kernel_rfl
set_option maxRecDepth 100000 in
set_option maxHeartbeats 1000000 in
theorem book_Move (b bm bs bj:Nat) (mb ms:KV) (L:List Ent) (t p q n:Int) (r_n:R4 n) (wp:(Lit.int .u8 p).wf=true) (wq:(Lit.int .u8 q).wf=true) (hb:KOK Try.mk92 mb) (hs:KOK Try.mk97 ms) (hl:L.length<=1000000):book_Move_A b bm bs bj mb ms L t p q n (fun za zh zv zu zp=>CallT Try.prog 8 za zh (Int×BS) zv zu zp):=by
  refine call_of (c:=bodyOf Try.f8) (n:=57) (fn:=Try.f8) Try.mixed Try.func8 (by kernel_rfl) (by kernel_rfl) (by kernel_rfl) 2000 _ [] [0,1,2,3] rfl rfl (Eq.mpr (book_Move_vc b bm bs bj mb ms L t p q n) ?_)
  intro b1
  refine rdQ_mk 4 _ (fun b2=>book_wrong2_m b2 t n p q (fun x3 h1=> ?_))
  have hw:=h1
  refine ⟨fun h2=> ?_,fun h2=> ?_⟩
  · exact ⟨(x3,mb,ms,L),by rw [num_vI r_n];exact (bMove_w hw (bne_iff_ne.1 h2)).symm,rfl,rfl,rfl,rfl,rfl,trivial⟩
  have hw0:=h2
  have w0' :=bne_eq_false_iff_eq.1 hw0
  rw [w0'] at hw
  refine book_Balance_m b bm bs bj mb t p (fun x4 rh3_ h3=> ?_)
  have hba:=h3
  refine rdQ_mk 4 _ (huge_Sub_m x4 n (fun x5 rh4_1 h4=> ?_))
  have ha:=h4
  intro b6
  refine rdQ_mk 4 _ ⟨fun h5=> ?_,fun h5=> ?_⟩
  · unfold book_Move_Q
    have q:=sub_no ha h5
    rw [hba] at q
    exact ⟨(8,mb,ms,L),by rw [num_vI r_n];exact (bMove_no hw q.2).symm,rfl,rfl,rfl,rfl,rfl,trivial⟩
  refine rdQ_mk 4 _ (book_put_m b bm bs bj mb ms L t p x5.1 (fun x7 h6=> ?_))
  have hput:=h6
  have q0:=sub_ok ha h5
  have kb1:KOK Try.mk92 x7.1:=by rw [hput];exact KOK.put Try.numk92 hb ⟨_,_,rfl⟩ (by assumption)
  refine book_Balance_m b bm bs bj x7.1 t q (fun x8 rh7_ h7=> ?_)
  have hb2:=h7
  refine rdQ_mk 4 _ (huge_Add_m x8 n (fun x9 rh8_1 h8=> ?_))
  have hnow:=h8
  intro b10
  refine rdQ_mk 4 _ ?_
  have l1:List.length x7.2.2<=L.length+1:=by rw [hput];exact (bPut_len _ ((mb,ms,L):BS) _ _).2
  refine rdQ_mk 4 _ (book_put_m b bm bs bj x7.1 x7.2.1 x7.2.2 t q x9.1 (fun x11 h9=> ?_))
  have hput2:=h9
  unfold book_Move_Q
  have q:=sub_ok ha h5
  rw [hba] at q
  have lem:=bMove_ok (eb:=(Try.ent92 bm)) (s:=((mb,ms,L):BS)) hw (by have:=q.2;simp only;omega) q.1 hput (by rw [hnow,hb2]) hput2
  exact ⟨(0,x11),by rw [num_vI r_n];exact lem.symm,rfl,rfl,rfl,congrArg (mS Try.mk97 bs bj) (by rw [hput2,hput];try rfl),rfl,trivial⟩
abbrev book_Move_K (b bm bs bj:Nat) (mb ms:KV) (L:List Ent) (t p q n:Int) (KK:(Int×BS)->Prop):Prop:=book_Move_A b bm bs bj mb ms L t p q n (fun za zh zv zu zp=>callQ Try.prog 8 za zh (Int×BS) zv zu zp KK)
theorem book_Move_m (b bm bs bj:Nat) (mb ms:KV) (L:List Ent) (t p q n:Int) {KK:(Int×BS)->Prop} (kont: ∀zx:Int×BS,(zx=bMove (Try.ent92 bm) ((mb,ms,L):BS) t p q n)->KK zx) (r_n:R4 n:=by assumption) (wp:(Lit.int .u8 p).wf=true:=by first | assumption | decide) (wq:(Lit.int .u8 q).wf=true:=by first | assumption | decide) (hb:KOK Try.mk92 mb:=by assumption) (hs:KOK Try.mk97 ms:=by assumption) (hl:L.length<=1000000:=by omega):book_Move_K b bm bs bj mb ms L t p q n KK:=callQ_mk (book_Move b bm bs bj mb ms L t p q n r_n wp wq hb hs hl) (⟨_,rfl⟩) fun zx hz=>by
  try simp only [num_vI (n:=n) r_n] at hz
  exact kont zx hz
def law13_lives_C:List Value->List Slot->Ctr:=fun vs hs=>⟨Unit,fun _=> .bool true,fun _=>hs,fun _=>True⟩
abbrev law13_lives_Q  (zv:Value) :Prop:= ∃_:Unit,(True)/\zv= .bool true/\True
abbrev law13_lives_A  (zF:SF Unit):Prop:=zF #[] [] (fun _=> .bool true) (fun _=> []) (fun _=>True)
set_option maxRecDepth 100000 in
theorem law13_lives_vc :law13_lives_A  (fun za zh zv zu zp=>codeW Try.prog 27 none 2000 none (bodyOf Try.f5) (.reg [S0] (.reg [S0, .specw [] [0] (F_newj Try.jk), .callw [] [1,2,3] book_New_C,S0] (.reg [S0,S0] (.condF (.reg [S0,S0, .callw [1,2,3,0] [1,2,3,0] book_Mint_C,S0,S0, .callw [1,2,3,0] [1,2,3,0] book_Move_C,S0,S0] (.reg [S0, .gen [] (Sx.one (.bool true)),S0,S0, .gen [] (Sx.one (.bool true)),S0,S0,S0, .callr [1,2] book_Balance_C,S0, .specr [] (fun _ hs=>⟨Unit,fun _=> .bool true,fun _=>hs,fun _=>True⟩),S0,S0] (.done)))))))
    (init za zh) (finW Try.prog Try.f5 [] [] (X:=Unit) zv zu zp))=
    (opQ Try.prog (vS (Instr.box 29 (.agg #[.slice none 0 0]))) [] Nat (fun zx=>pp zx 0) (fun zx=> [(jS Try.jk zx ([]))]) (fun zx=>True) (fun x1=>book_New_K x1 (fun x2=>(false=false)/\book_Mint_K x2.1 x2.2.1 x2.2.2 x1 ([]) ([]) ([]) (0:Int) (3:Int) (5:Int) (fun x3=>book_Move_K x2.1 x2.2.1 x2.2.2 x1 x3.2.1 x3.2.2.1 x3.2.2.2 (0:Int) (3:Int) (16:Int) (6:Int) (fun x4=>(∃_:Unit,True/\Value.bool (x3.1==(0:Int))= .bool true)/\ ∀_:Unit,(True)->true=true/\true=true/\(∃_:Unit,True/\Value.bool (x4.1==(8:Int))= .bool true)/\ ∀_:Unit,(True)->true=true/\true=true/\book_Balance_K x2.1 x2.2.1 x2.2.2 x1 x4.2.1 (0:Int) (3:Int) (fun x5=>true=true/\true=true/\opQr Try.prog (xBin .eql 32 (vI x5) (vI 5)) [] Unit (fun _=> .bool true) (fun _=>True) (fun _=>law13_lives_Q  (Value.bool true)))))))):=by kernel_rfl
set_option maxRecDepth 100000 in
theorem law13_lives  :law13_lives_A  (fun za zh zv zu zp=>CallT Try.prog 5 za zh Unit zv zu zp):=by
  refine call_of (c:=bodyOf Try.f5) (n:=27) (fn:=Try.f5) Try.mixed Try.func5 (by kernel_rfl) (by kernel_rfl) (by kernel_rfl) 2000 _ [] [] rfl rfl (Eq.mpr (law13_lives_vc) ?_)
  have kb0:KOK Try.mk92 []:=KOK.nil
  have ks0:KOK Try.mk97 []:=KOK.nil
  refine opQ_mk (xnewj (K:=Try.jk) (Eq.mpr (by kernel_rfl:symW Try.prog (do pure (Next.value (←Instr.box 29 (.agg #[.slice none 0 0])))) [.nw 0] (ofList []) (fun nx H _=> ∃b,nx=Next.value (ptr b)/\H=upd (ofList []) 0 (.blk b (.cells #[.slice none 0 0] (JK.tj Try.jk) (0,0))))=(∀b,∃b',Next.value (ptr b)= .value (ptr b')/\upd (ofList []) 0 (.blk b (.cells #[.slice none 0 0] 29 (0,0)))=upd (ofList []) 0 (.blk b' (.cells #[.slice none 0 0] (JK.tj Try.jk) (0,0))))) fun b=>⟨b,rfl,rfl⟩)) (⟨0,trivial⟩) fun x1 h1=>book_New_m x1 (fun x2 h2=>⟨rfl,book_Mint_m x2.1 x2.2.1 x2.2.2 x1 ([]) ([]) ([]) (0:Int) (3:Int) (5:Int) (fun x3 h3=> ?_) (r_n:=by unfold R4;decide) (wp:=by decide) (hl:=by decide)⟩)
  have h1:=h3
  have h1:=h1.trans (live_mint _ _)
  have kb1:KOK Try.mk92 x3.2.1:=by rw [h1];exact KOK.nil.put Try.numk92 (n:=5) ⟨_,_,rfl⟩ (by unfold R4;decide)
  have ks1:KOK Try.mk97 x3.2.2.1:=by rw [h1];exact KOK.nil.set ⟨_,rfl⟩ ((Try.numk97 _).2 ⟨5,by unfold R4;decide,rfl⟩)
  have l1:List.length x3.2.2.2=2:=by rw [h1];rfl
  refine book_Move_m x2.1 x2.2.1 x2.2.2 x1 x3.2.1 x3.2.2.1 x3.2.2.2 (0:Int) (3:Int) (16:Int) (6:Int) (fun x4 h4=> ?_) (r_n:=by unfold R4;decide) (wp:=by decide) (wq:=by decide)
  have h2:=h4
  have h2:=h2.trans (live_move h1)
  have kb2:KOK Try.mk92 x4.2.1:=by rw [h2];exact kb1
  refine ⟨⟨(),trivial,congrArg Value.bool (by rw [h1];rfl)⟩,fun _=>fun _=>⟨rfl,rfl,⟨(),trivial,congrArg Value.bool (by rw [h2];rfl)⟩,fun _=>fun _=>⟨rfl,rfl,book_Balance_m x2.1 x2.2.1 x2.2.2 x1 x4.2.1 (0:Int) (3:Int) (fun x5 rh5_ h5=> ?_)⟩⟩⟩
  have h3:x5=5:=by rw [h5,h2];exact live_bal (x:=x3) h1
  exact ⟨rfl,rfl,opQr_mk (OpT.ofPure (Try.xeq32 x5 5) (congrArg Value.bool ((by rw [h3];rfl)))) (⟨(),trivial⟩) fun _ _=>⟨(),trivial,rfl,trivial⟩⟩
abbrev law13_lives_K  (KK:Unit->Prop):Prop:=law13_lives_A  (fun za zh zv zu zp=>callQr Try.prog 5 za zh Unit zv zp KK)
theorem law13_lives_m  {KK:Unit->Prop} (kont:KK ()) :law13_lives_K  KK:=callQr_mk (law13_lives) (⟨(),trivial⟩) fun _ _=>kont
abbrev keys_it92_Q (l:Nat) (rec:Loop) (r c:Nat) (m:KV) (T:List Value->Slot) (zv:Value) (zs0:Slot) (zs1:Slot) (zs2:Slot) (zs3:Slot):Prop:= ∃zx:List Value,(zx.Perm (m.map (·.1)))/\zv= .tuple #[]/\zs0=(loopB l rec)/\zs1=bk c #[.map (some r)] 90/\zs2=(mo r m)/\zs3=(T zx)/\True
set_option maxRecDepth 100000 in
theorem keys_it92_vc (l:Nat) (rec:Loop) (r c:Nat) (m:KV) (T:List Value->Slot):codeW Try.prog 14 none 2000 none (bodyOf Try.f79) (.reg [.sem [.rd 1], .specw [2] [2] (fun _ _=>⟨Nat,ptr,fun it=> [mit r it m []],fun _=>True⟩)] (.inv (List Value×Nat) (fun zx=> [(0, .func (.yield l) #[] #[]),(1,pp c 0),(5,pp zx.2 0)]) (fun zx=> [(0,(loopB l rec)),(1,bk c #[.map (some r)] 90),(2,(mit r zx.2 m zx.1)),(3,(T zx.1))]) (fun zx=>zx.1.Nodup/\ ∀k∈zx.1,k∈m.map (·.1)) (fun zx=>m.length - zx.1.length) (fun x2=> .reg [.specw [2] [2] (fun _ _=>⟨Option Value,nxv m,fun x=> [mitE r x2.2 m x2.1 x],nxP m x2.1⟩), .eq (fun vs=> .bool (cb (cell (varg vs 0) 0)))] (.cond (.reg [.specr [2] (fun _ hs=>⟨Int×Int,fun zx=> .tuple #[.agg #[.int .u8 zx.1, .int .u8 zx.2],(mget m (.agg #[.int .u8 zx.1, .int .u8 zx.2])).getD undef],fun _=>hs,fun zx=>slast (sarg hs 0)=tV zx⟩),S0, .sem [.nw 4], .sem [.wr 4, .wr 4]] (.reg [S0, .sem [.rd 4, .rd 4], .callw [0,3] [0,3] (fun vs _=>⟨Unit,fun _=> .bool true,fun _=> [loopB l rec,T (x2.1++ [varg vs 1])],fun _=>True⟩),S0] (.condF (.done)))) (.done)))))
    (init #[.func (.yield l) #[] #[],pp c 0] [(loopB l rec),bk c #[.map (some r)] 90,(mo r m),(T [])]) (finW Try.prog Try.f79 [] [0,1,2,3] (X:=List Value) (fun zx=> .tuple #[]) (fun zx=> [(loopB l rec),bk c #[.map (some r)] 90,(mo r m),(T zx)]) (fun zx=>(zx.Perm (m.map (·.1)))))=
    (rdQ 1 c (opQ Try.prog (vS (Instr.range 90 (.map (some r)))) [(mo r m)] Nat (fun zx=>pp zx 0) (fun zx=> [(mit r zx m ([]))]) (fun zx=>True) (fun x1=>(∃zx:List Value×Nat,(zx.1.Nodup/\ ∀k∈zx.1,k∈m.map (·.1))/\Value.func (.yield l) #[] #[]= .func (.yield l) #[] #[]/\pp c 0=pp c 0/\pp x1 0=pp zx.2 0/\(loopB l rec)=(loopB l rec)/\bk c #[.map (some r)] 90=bk c #[.map (some r)] 90/\(mit r x1 m ([]))=(mit r zx.2 m zx.1)/\(T [])=(T zx.1)/\True)/\ ∀x2:List Value×Nat,∀jx2:Nat->Value,(x2.1.Nodup/\ ∀k∈x2.1,k∈m.map (·.1))->opQ Try.prog (vS (Instr.next (pp x2.2 0) false 0)) [(mit r x2.2 m x2.1)] (Option Value) (fun zx=>(nxv m zx)) (fun zx=> [(mitE r x2.2 m x2.1 zx)]) (fun zx=>nxP m x2.1 zx) (fun x3=>(PureRun Try.prog (vS (Instr.extract (nxv m x3) 0)) (.bool (cb (cell (nxv m x3) 0))))/\((cb (cell (nxv m x3) 0))=true->opQr Try.prog (vS (Instr.entry (pp x2.2 0))) [(mitE r x2.2 m x2.1 x3)] (Int×Int) (fun zx=> .tuple #[.agg #[.int .u8 zx.1, .int .u8 zx.2],((mget m (.agg #[.int .u8 zx.1, .int .u8 zx.2])).getD undef)]) (fun zx=>slast (mitE r x2.2 m x2.1 x3)=tV zx) (fun x4=> ∀b5:Nat,rdQ 2 b5 (rdQ 2 b5 (rndQ Try.prog l #[.agg #[.int .u8 x4.1, .int .u8 x4.2]] [(loopB l rec),(T x2.1)] Unit (fun _=> .bool true) (fun _=> [(loopB l rec),(T (x2.1++ [.agg #[.int .u8 x4.1, .int .u8 x4.2]]))]) (fun _=>True) (fun _=>(false=false)/\ ∃zy:List Value×Nat,(zy.1.Nodup/\ ∀k∈zy.1,k∈m.map (·.1))/\m.length - zy.1.length<m.length - x2.1.length/\Value.func (.yield l) #[] #[]= .func (.yield l) #[] #[]/\pp c 0=pp c 0/\pp x2.2 0=pp zy.2 0/\(loopB l rec)=(loopB l rec)/\bk c #[.map (some r)] 90=bk c #[.map (some r)] 90/\(mitE r x2.2 m x2.1 x3)=(mit r zy.2 m zy.1)/\(T (x2.1++ [.agg #[.int .u8 x4.1, .int .u8 x4.2]]))=(T zy.1)/\True)))))/\((cb (cell (nxv m x3) 0))=false->keys_it92_Q l rec r c m T (Value.tuple #[]) (loopB l rec) (bk c #[.map (some r)] 90) (mitE r x2.2 m x2.1 x3) (T x2.1)))))):=by kernel_rfl
set_option maxRecDepth 100000 in
theorem keys_it92 (l:Nat) (rec:Loop) (r c:Nat) (m:KV) (T:List Value->Slot) (hm:MOK m) (hi:Pairs2 (m.map (·.1))) (hT: ∀ (ks:List Value) (k:Value),(ks.Nodup/\ ∀j∈ks,j∈m.map (·.1))->k∉ks->k∈m.map (·.1)->RoundT Try.prog l #[k] [loopB l rec,T ks] Unit (fun _=> .bool true) (fun _=> [loopB l rec,T (ks++ [k])]) (fun _=>True)):CallT Try.prog 79 #[.func (.yield l) #[] #[],pp c 0] [(loopB l rec),bk c #[.map (some r)] 90,(mo r m),(T [])] (List Value) (fun zx=> .tuple #[]) (fun zx=> [(loopB l rec),bk c #[.map (some r)] 90,(mo r m),(T zx)]) (fun zx=>(zx.Perm (m.map (·.1)))):=by
  refine call_of (c:=bodyOf Try.f79) (n:=14) (fn:=Try.f79) Try.mixed Try.func79 (by kernel_rfl) (by kernel_rfl) (by kernel_rfl) 2000 _ [] [0,1,2,3] rfl rfl (Eq.mpr (keys_it92_vc l rec r c m T) ?_)
  refine rdQ_mk 1 _ (opQ_mk (xrange (kt:=42) (vt:=32) (by kernel_rfl)) (⟨0,trivial⟩) fun x1 h1=>⟨?_,fun x2 jx2 h2=> ?_⟩)
  · exact ⟨([],x1),⟨List.nodup_nil,fun k h=>by cases h⟩,rfl,rfl,rfl,rfl,rfl,rfl,rfl,trivial⟩
  have hN:=h2
  refine opQ_mk (xnext 0 hm) (wit_next hm hN) fun x3 h3=> ?_
  have hX:=h3
  refine ⟨xfirst' _ _,⟨fun h4=> ?_,fun h4=> ?_⟩⟩
  · refine opQr_mk (xentry2 hm hi hX (nx_some h4)) (slast_pair hi hX (nx_some h4)) fun x4 h5=> ?_
    have hZ:=h5
    intro b5
    refine rdQ_mk 2 _ (rdQ_mk 2 _ (rndQ_mk (keys_yield2 hX (nx_some h4) hZ (fun k=>hT x2.1 k hN)) (⟨(),trivial⟩) fun _ _=>⟨rfl,?_⟩))
    have hP:=nxP_pair hX (nx_some h4) hZ
    rw [hP.2]
    exact ⟨(x2.1++ [_],x2.2),keys_step hN hP.1,keys_mu hN hP.1,rfl,rfl,rfl,rfl,rfl,rfl,rfl,trivial⟩
  unfold keys_it92_Q
  rw [mitE_none (nx_none h4)]
  exact ⟨x2.1,nxP_none hX (nx_none h4),rfl,rfl,rfl,rfl,rfl,trivial⟩
theorem Try.sk103:SkT Try.prog 103 42 2 (Value.agg #[.int .u8 0, .int .u8 0]):=SkT.of (by kernel_rfl) (by kernel_rfl) (by kernel_rfl) rfl (fun w=>by kernel_rfl)
noncomputable def Try.rfA80:Code:=((rfs (bodyOf Try.f80)).getD 0 (.skip, .skip)).1
noncomputable def Try.rfB80:Code:=((rfs (bodyOf Try.f80)).getD 0 (.skip, .skip)).2
set_option maxRecDepth 100000 in
theorem keys_round92_vc (l D:Nat) (fn:FuncId) (tmps:Array Value) (b:Nat) (y:RK 2) (n0 n1:Int) (fr:Nat->Value):roundW Try.prog 13 l 400 Try.rfA80 Try.rfB80 (.reg [.sem [.nw 3], .sem [.wr 3, .wr 3]] (.reg [.sem [.rd 1], .sem [.rd 3, .rd 3], .sem [.nw 4], .specw [2,4] [2,4] (F_appK 2 42), .specw [1] [1] F_put] (.done))) (recOf fn tmps #[7] Try.rfA80 Try.rfB80 D) ⟨putFr (upd fr 2 (Value.pointer (some ⟨b,0,none⟩))) [(7, .agg #[.int .u8 n0, .int .u8 n1])],ofList (loopB l (recOf fn tmps #[7] Try.rfA80 Try.rfB80 D):: [.blk b (.cells #[sv y.1] 103 (0,0)),(sk 42 y.1)]),[]⟩ [1,2] (X:=RK 2) (fun zx:RK 2=> [.blk b (.cells #[sv zx.1] 103 (0,0)),(sk 42 zx.1)]) (fun zx:RK 2=>vals zx.1=vals y.1++ [.agg #[.int .u8 n0, .int .u8 n1]])=
    (∀b1:Nat,rdQ 2 b1 ((loopB l (recOf fn tmps #[7] Try.rfA80 Try.rfB80 D))=loopB l (recOf fn tmps #[7] Try.rfA80 Try.rfB80 D)/\rdQ 1 b (rdQ 2 b1 (∀b2:Nat,opQ Try.prog (do pure (.value (←Builtin.append_ #[103,103] 103 #[sv y.1, .slice (some ⟨b2,0,none⟩) 1 1]))) [(sk 42 y.1), .blk b2 (.cells #[.int .u8 n0, .int .u8 n1] 42 (0,0))] (RK 2) (fun zx=>sv zx.1) (fun zx=> [(sk 42 zx.1), .blk b2 (.cells #[.int .u8 n0, .int .u8 n1] 42 (0,0))]) (fun zx=>vals zx.1=kvals 2 (sv y.1) (sk 42 y.1)++ [.agg #[.int .u8 n0, .int .u8 n1]]) (fun x3=>opQ Try.prog (do Instr.storeAt 103 (.pointer (some ⟨b,0,none⟩)) (sv x3.1);pure .skip) [.blk b (.cells #[sv y.1] 103 (0,0))] Unit (fun _=> .tuple #[]) (fun _=> [.blk b (.cells #[sv x3.1] 103 (0,0))]) (fun _=>True) (fun _=>(loopB l { (recOf fn tmps #[7] Try.rfA80 Try.rfB80 D) with state:= .busy })=loopB l { (recOf fn tmps #[7] Try.rfA80 Try.rfB80 D) with state:= .busy }/\ ∃zx:RK 2,(vals zx.1=vals y.1++ [.agg #[.int .u8 n0, .int .u8 n1]])/\Slot.blk b (.cells #[sv x3.1] 103 (0,0))= .blk b (.cells #[sv zx.1] 103 (0,0))/\(sk 42 x3.1)=(sk 42 zx.1)/\True)))))):=by kernel_rfl
set_option maxRecDepth 100000 in
theorem keys_round92 (l D:Nat) (fn:FuncId) (tmps:Array Value) (b:Nat) (y:RK 2) (n0 n1:Int) (hz:tmps.size=13) (t2:tmps.getD 2 undef=Value.pointer (some ⟨b,0,none⟩)) (hy:(vals y.1).length<=1048576):RoundT Try.prog l #[.agg #[.int .u8 n0, .int .u8 n1]] (loopB l (recOf fn tmps #[7] Try.rfA80 Try.rfB80 D):: [.blk b (.cells #[sv y.1] 103 (0,0)),(sk 42 y.1)]) (RK 2) (fun _=> .bool true) (fun zx:RK 2=>loopB l (recOf fn tmps #[7] Try.rfA80 Try.rfB80 D):: [.blk b (.cells #[sv zx.1] 103 (0,0)),(sk 42 zx.1)]) (fun zx:RK 2=>vals zx.1=vals y.1++ [.agg #[.int .u8 n0, .int .u8 n1]]):=by
  refine round_of (n:=13) (fuel:=400) (fr:=(upd (fun i=>tmps.getD i undef) 2 (Value.pointer (some ⟨b,0,none⟩)))) (Hs:= [.blk b (.cells #[sv y.1] 103 (0,0)),(sk 42 y.1)]) (us:=(fun zx:RK 2=> [.blk b (.cells #[sv zx.1] 103 (0,0)),(sk 42 zx.1)])) Try.mixed hz (fun i=>congrFun (upd_known (f:=(fun i=>tmps.getD i undef)) (t:=2) (v:=Value.pointer (some ⟨b,0,none⟩)) (t2)) i) rfl rfl _ [1,2] rfl (Eq.mpr (keys_round92_vc l D fn tmps b y n0 n1 (fun i=>tmps.getD i undef)) ?_)
  intro b1
  refine rdQ_mk 2 _ ?_
  refine ⟨rfl,?_⟩
  refine rdQ_mk 1 _ ?_
  refine rdQ_mk 2 _ ?_
  intro b2
  refine opQ_mk (xappendK Try.sk103 103 y (by omega) b2 1 #[.int .u8 n0, .int .u8 n1] rfl (List.all_eq_true.1 rfl)) (wit_appK (kvals_all y _) rfl) fun x3 h1=> ?_
  rw [kvals_eq] at h1
  have ha:=h1
  refine opQ_mk (xputv (b:=b) (cs:= #[sv y.1]) (ty:=103) (te:=103) (fun w=>by kernel_rfl) 0 (sv x3.1) (cells_sv _) (one_sv _) (by show 0<1;decide)) (⟨(),trivial⟩) fun _ _=> ?_
  exact ⟨rfl,x3,ha,rfl,rfl,trivial⟩
theorem key_pair92 {m:KV} (hk:KOK Try.mk92 m) {k:Value} (h:k∈m.map (·.1)): ∃n0 n1:Int,k= .agg #[.int .u8 n0, .int .u8 n1]:=by
  obtain ⟨x,hx,rfl⟩:=List.mem_map.1 h
  exact (hk.ok x hx).1
theorem key_pairs92 {m:KV} (hk:KOK Try.mk92 m):Pairs2 (m.map (·.1)):=fun v hv=>key_pair92 hk hv
def keys_AppendSeq92_C:List Value->List Slot->Ctr:=fun vs hs=>⟨RK 2,fun zx=>sv zx.1,fun zx=> [.blk (sblk (sarg hs 0)) (.cells #[.map (some (vblk (scell (sarg hs 0) 0)))] 90 (0,0)),(mo (vblk (scell (sarg hs 0) 0)) (skv (sarg hs 1))),(sk 42 zx.1)],fun zx=>(vals zx.1).Perm ((skv (sarg hs 1)).map (·.1))⟩
abbrev keys_AppendSeq92_Q (r c:Nat) (m:KV) (zv:Value) (zs0:Slot) (zs1:Slot) (zs2:Slot):Prop:= ∃zx:RK 2,((vals zx.1).Perm (m.map (·.1)))/\zv=sv zx.1/\zs0=bk c #[.map (some r)] 90/\zs1=(mo r m)/\zs2=(sk 42 zx.1)/\True
abbrev keys_AppendSeq92_A (r c:Nat) (m:KV) (zF:SF (RK 2)):Prop:=zF #[.slice none 0 0, .func (.func 79) #[] #[pp c 0]] [bk c #[.map (some r)] 90,(mo r m)] (fun zx=>sv zx.1) (fun zx=> [bk c #[.map (some r)] 90,(mo r m),(sk 42 zx.1)]) (fun zx=>((vals zx.1).Perm (m.map (·.1))))
set_option maxRecDepth 100000 in
theorem keys_AppendSeq92_vc (r c:Nat) (m:KV):keys_AppendSeq92_A r c m (fun za zh zv zu zp=>codeW Try.prog 13 none 2000 none (bodyOf Try.f80) (.reg [.sem [.nw 2],S0] (.reg [S0] (.rf [6,2] [0,1,2] [50,0,1,60,61] (fun _ hs=>⟨RK 2,fun _=>undef,fun zx=> [bk c #[.map (some r)] 90,(mo r m), .blk (sblk (sarg hs 2)) (.cells #[sv zx.1] 103 (0,0)),(sk 42 zx.1)],fun zx=>(vals zx.1).Perm (m.map (·.1))⟩) (.reg [.sem [.rd 60],S0] (.done)))))
    (init za zh) (finM Try.prog Try.f80 [] [0,1,61] 50 (X:=RK 2) zv zu zp))=
    (∀b1:Nat,(∀fr' :Nat->Value,fr' 6=Value.func (.func 79) #[] #[pp c 0]->fr' 2=pp b1 0->RangeT Try.prog 13 (Operand.tmp 6) #[7] Try.rfA80 Try.rfB80 fr' [bk c #[.map (some r)] 90,(mo r m),bk b1 #[.slice none 0 0] 103] (RK 2) (fun zx=> [bk c #[.map (some r)] 90,(mo r m),bk b1 #[sv zx.1] 103,(sk 42 zx.1)]) (fun zx=>(vals zx.1).Perm (m.map (·.1))))/\(∃zx:RK 2,(vals zx.1).Perm (m.map (·.1)))/\ ∀ (d2:Nat) (x3:RK 2),((vals x3.1).Perm (m.map (·.1)))->rdQ 1 b1 (Slot.blk d2 (.deferred (some []))= .blk d2 (.deferred (some []))/\keys_AppendSeq92_Q r c m (sv x3.1) (bk c #[.map (some r)] 90) (mo r m) (sk 42 x3.1))):=by kernel_rfl
set_option maxRecDepth 100000 in
theorem keys_AppendSeq92 (r c:Nat) (m:KV) (hk:KOK Try.mk92 m) (hl:m.length<=1048576):keys_AppendSeq92_A r c m (fun za zh zv zu zp=>CallT Try.prog 80 za zh (RK 2) zv zu zp):=by
  refine call_of_mark (c:=bodyOf Try.f80) (n:=13) (fn:=Try.f80) Try.mixed Try.func80 (by kernel_rfl) (by kernel_rfl) (by kernel_rfl) 2000 _ [] [0,1,61] 50 rfl rfl (Eq.mpr (keys_AppendSeq92_vc r c m) ?_)
  intro b1
  exact ⟨fun fr' ht hb=>range_keysK (gf:=79) ht hk.once hl (fun l rec T hT=>keys_it92 l rec r c m T hk.once (key_pairs92 hk) hT) (fun l D fn tmps y k hkm hy hz hf=>(key_pair92 hk hkm).elim fun n0 h=>h.elim fun n1 hn=>hn▸keys_round92 l D fn tmps b1 y n0 n1 hz ((hf 2).trans hb) hy),wit_permK (key_pairs92 hk),fun d2 x3 h1=>rdQ_mk 1 _ ⟨rfl,⟨x3,h1,rfl,rfl,rfl,rfl,trivial⟩⟩⟩
def keys_Collect92_C:List Value->List Slot->Ctr:=fun vs hs=>⟨RK 2,fun zx=>sv zx.1,fun zx=> [.blk (sblk (sarg hs 0)) (.cells #[.map (some (vblk (scell (sarg hs 0) 0)))] 90 (0,0)),(mo (vblk (scell (sarg hs 0) 0)) (skv (sarg hs 1))),(sk 42 zx.1)],fun zx=>(vals zx.1).Perm ((skv (sarg hs 1)).map (·.1))⟩
abbrev keys_Collect92_Q (r c:Nat) (m:KV) (zv:Value) (zs0:Slot) (zs1:Slot) (zs2:Slot):Prop:= ∃zx:RK 2,((vals zx.1).Perm (m.map (·.1)))/\zv=sv zx.1/\zs0=bk c #[.map (some r)] 90/\zs1=(mo r m)/\zs2=(sk 42 zx.1)/\True
abbrev keys_Collect92_A (r c:Nat) (m:KV) (zF:SF (RK 2)):Prop:=zF #[.func (.func 79) #[] #[pp c 0]] [bk c #[.map (some r)] 90,(mo r m)] (fun zx=>sv zx.1) (fun zx=> [bk c #[.map (some r)] 90,(mo r m),(sk 42 zx.1)]) (fun zx=>((vals zx.1).Perm (m.map (·.1))))
set_option maxRecDepth 100000 in
theorem keys_Collect92_vc (r c:Nat) (m:KV):keys_Collect92_A r c m (fun za zh zv zu zp=>codeW Try.prog 5 none 2000 none (bodyOf Try.f77) (.reg [S0] (.reg [S0, .callw [0,1] [0,1,40] keys_AppendSeq92_C,S0] (.done)))
    (init za zh) (finW Try.prog Try.f77 [] [0,1,40] (X:=RK 2) zv zu zp))=
    (callQ Try.prog 80 #[.slice none 0 0, .func (.func 79) #[] #[pp c 0]] [bk c #[.map (some r)] 90,(mo r m)] (RK 2) (fun zx=>sv zx.1) (fun zx=> [bk c #[.map (some r)] 90,(mo r m),(sk 42 zx.1)]) (fun zx=>(vals zx.1).Perm (m.map (·.1))) (fun x1=>keys_Collect92_Q r c m (sv x1.1) (bk c #[.map (some r)] 90) (mo r m) (sk 42 x1.1))):=by kernel_rfl
set_option maxRecDepth 100000 in
theorem keys_Collect92 (r c:Nat) (m:KV) (hk:KOK Try.mk92 m) (hl:m.length<=1048576):keys_Collect92_A r c m (fun za zh zv zu zp=>CallT Try.prog 77 za zh (RK 2) zv zu zp):=by
  refine call_of (c:=bodyOf Try.f77) (n:=5) (fn:=Try.f77) Try.mixed Try.func77 (by kernel_rfl) (by kernel_rfl) (by kernel_rfl) 2000 _ [] [0,1,40] rfl rfl (Eq.mpr (keys_Collect92_vc r c m) ?_)
  exact callQ_mk (keys_AppendSeq92 r c m (by assumption) (by assumption)) (wit_permK (key_pairs92 (by assumption))) fun x1 h1=>⟨x1,h1,rfl,rfl,rfl,rfl,trivial⟩
def maps_Keys92_C:List Value->List Slot->Ctr:=fun vs hs=>⟨Nat,fun zx=> .func (.func 79) #[] #[pp zx 0],fun zx=> [bk zx #[.map (some (vblk (varg vs 1)))] 90],fun zx=>True⟩
abbrev maps_Keys92_Q (r:Nat) (zv:Value) (zs0:Slot):Prop:= ∃zx:Nat,(True)/\zv= .func (.func 79) #[] #[pp zx 0]/\zs0=bk zx #[.map (some r)] 90/\True
abbrev maps_Keys92_A (r:Nat) (zF:SF Nat):Prop:=zF #[.map (some r)] [] (fun zx=> .func (.func 79) #[] #[pp zx 0]) (fun zx=> [bk zx #[.map (some r)] 90]) (fun zx=>(True))
set_option maxRecDepth 100000 in
theorem maps_Keys92_vc (r:Nat):maps_Keys92_A r (fun za zh zv zu zp=>codeW Try.prog 4 none 2000 none (bodyOf Try.f71) (.reg [.sem [.nw 40],S0] (.reg [S0,S0] (.done)))
    (init za zh) (finW Try.prog Try.f71 [] [40] (X:=Nat) zv zu zp))=
    (∀b1:Nat,maps_Keys92_Q r (Value.func (.func 79) #[] #[pp b1 0]) (bk b1 #[.map (some r)] 90)):=by kernel_rfl
set_option maxRecDepth 100000 in
theorem maps_Keys92 (r:Nat) :maps_Keys92_A r (fun za zh zv zu zp=>CallT Try.prog 71 za zh Nat zv zu zp):=by
  refine call_of (c:=bodyOf Try.f71) (n:=4) (fn:=Try.f71) Try.mixed Try.func71 (by kernel_rfl) (by kernel_rfl) (by kernel_rfl) 2000 _ [] [40] rfl rfl (Eq.mpr (maps_Keys92_vc r) ?_)
  intro b1
  exact ⟨b1,trivial,rfl,rfl,trivial⟩
def keys_nan92_C:List Value->List Slot->Ctr:=fun vs hs=>⟨Unit,fun _=> .bool false,fun _=>hs,fun _=>True⟩
abbrev keys_nan92_Q (x:Int) (zv:Value) :Prop:= ∃_:Unit,(True)/\zv= .bool false/\True
abbrev keys_nan92_A (x:Int) (zF:SF Unit):Prop:=zF #[.int .u8 x] [] (fun _=> .bool false) (fun _=> []) (fun _=>True)
set_option maxRecDepth 100000 in
theorem keys_nan92_vc (x:Int):keys_nan92_A x (fun za zh zv zu zp=>codeW Try.prog 6 none 2000 none (bodyOf Try.f43) (.reg [S0] (.reg [S0,S0, .gen [] (Sx.one (.bool false)),S0] (.done)))
    (init za zh) (finW Try.prog Try.f43 [] [] (X:=Unit) zv zu zp))=
    ((∃_:Unit,True/\Value.bool (x !=x)= .bool false)/\ ∀_:Unit,(True)->keys_nan92_Q x (Value.bool false)):=by kernel_rfl
set_option maxRecDepth 100000 in
theorem keys_nan92 (x:Int) :keys_nan92_A x (fun za zh zv zu zp=>CallT Try.prog 43 za zh Unit zv zu zp):=by
  refine call_of (c:=bodyOf Try.f43) (n:=6) (fn:=Try.f43) Try.mixed Try.func43 (by kernel_rfl) (by kernel_rfl) (by kernel_rfl) 2000 _ [] [] rfl rfl (Eq.mpr (keys_nan92_vc x) ?_)
  exact ⟨⟨(),trivial,congrArg Value.bool (bne_self_eq_false _)⟩,fun _=>fun _=>⟨(),trivial,rfl,trivial⟩⟩
def cmp_Compare_u8_C:List Value->List Slot->Ctr:=fun vs hs=>⟨Unit,fun _=> .int .i64 (cmpI (ci (varg vs 1)) (ci (varg vs 2))),fun _=>hs,fun _=>True⟩
abbrev cmp_Compare_u8_Q (x y:Int) (zv:Value) :Prop:= ∃_:Unit,(True)/\zv= .int .i64 (cmpI x y)/\True
abbrev cmp_Compare_u8_A (x y:Int) (zF:SF Unit):Prop:=zF #[.int .u8 x, .int .u8 y] [] (fun _=> .int .i64 (cmpI x y)) (fun _=> []) (fun _=>True)
set_option maxRecDepth 100000 in
theorem cmp_Compare_u8_vc (x y:Int):cmp_Compare_u8_A x y (fun za zh zv zu zp=>codeW Try.prog 20 none 2000 none (bodyOf Try.f42) (.reg [S0] (.reg [S0, .callr [] keys_nan92_C,S0] (.reg [S0, .callr [] keys_nan92_C,S0] (.reg [S0] (.condF (.reg [S0] (.condF (.reg [S0,S0,S0] (.cond (.reg [S0] (.done)) (.reg [S0,S0,S0] (.cond (.reg [S0] (.done)) (.reg [S0] (.done)))))))))))))
    (init za zh) (finW Try.prog Try.f42 [] [] (X:=Unit) zv zu zp))=
    (callQr Try.prog 43 #[.int .u8 x] [] Unit (fun _=> .bool false) (fun _=>True) (fun _=>callQr Try.prog 43 #[.int .u8 y] [] Unit (fun _=> .bool false) (fun _=>True) (fun _=>(false=false)/\(false=false)/\((decide (x<y))=true->cmp_Compare_u8_Q x y (Value.int .i64 (-1)))/\((decide (x<y))=false->((decide (x>y))=true->cmp_Compare_u8_Q x y (Value.int .i64 1))/\((decide (x>y))=false->cmp_Compare_u8_Q x y (Value.int .i64 0)))))):=by kernel_rfl
set_option maxRecDepth 100000 in
theorem cmp_Compare_u8 (x y:Int) :cmp_Compare_u8_A x y (fun za zh zv zu zp=>CallT Try.prog 42 za zh Unit zv zu zp):=by
  refine call_of (c:=bodyOf Try.f42) (n:=20) (fn:=Try.f42) Try.mixed Try.func42 (by kernel_rfl) (by kernel_rfl) (by kernel_rfl) 2000 _ [] [] rfl rfl (Eq.mpr (cmp_Compare_u8_vc x y) ?_)
  refine callQr_mk (keys_nan92 x) (⟨(),trivial⟩) fun _ _=>callQr_mk (keys_nan92 y) (⟨(),trivial⟩) fun _ _=>⟨rfl,⟨rfl,⟨fun h1=> ?_,fun h1=> ?_⟩⟩⟩
  · refine ⟨(),trivial,?_,trivial⟩
    unfold cmpI
    simp only [decide_eq_true_eq,decide_eq_false_iff_not,gt_iff_lt,bne_iff_ne,bne_eq_false_iff_eq,ne_eq] at h1
    simp only [h1,if_true,if_false,ite_true,ite_false]
  refine ⟨fun h2=> ?_,fun h2=> ?_⟩
  · refine ⟨(),trivial,?_,trivial⟩
    unfold cmpI
    simp only [decide_eq_true_eq,decide_eq_false_iff_not,gt_iff_lt,bne_iff_ne,bne_eq_false_iff_eq,ne_eq] at h1 h2
    simp only [h1,h2,if_true,if_false,ite_true,ite_false]
  refine ⟨(),trivial,?_,trivial⟩
  unfold cmpI
  simp only [decide_eq_true_eq,decide_eq_false_iff_not,gt_iff_lt,bne_iff_ne,bne_eq_false_iff_eq,ne_eq] at h1 h2
  simp only [h1,h2,if_true,if_false,ite_true,ite_false]
abbrev cmp_Compare_u8_K (x y:Int) (KK:Unit->Prop):Prop:=cmp_Compare_u8_A x y (fun za zh zv zu zp=>callQr Try.prog 42 za zh Unit zv zp KK)
theorem cmp_Compare_u8_m (x y:Int) {KK:Unit->Prop} (kont:KK ()) :cmp_Compare_u8_K x y KK:=callQr_mk (cmp_Compare_u8 x y) (⟨(),trivial⟩) fun _ _=>kont
def cmp_Or_int2_C:List Value->List Slot->Ctr:=fun vs hs=>⟨Unit,fun _=> .int .i64 (orI (ci (scell (sarg hs 0) 0)) (ci (scell (sarg hs 0) 1))),fun _=>hs,fun _=>True⟩
abbrev cmp_Or_int2_Q (c:Nat) (x y:Int) (zv:Value) (zs0:Slot):Prop:= ∃_:Unit,(True)/\zv= .int .i64 (orI x y)/\zs0=bk c #[.int .i64 x, .int .i64 y] 3/\True
abbrev cmp_Or_int2_A (c:Nat) (x y:Int) (zF:SF Unit):Prop:=zF #[.slice (some ⟨c,0,none⟩) 2 2] [bk c #[.int .i64 x, .int .i64 y] 3] (fun _=> .int .i64 (orI x y)) (fun _=> [bk c #[.int .i64 x, .int .i64 y] 3]) (fun _=>True)
set_option maxRecDepth 100000 in
theorem cmp_Or_int2_vc (c:Nat) (x y:Int):cmp_Or_int2_A c x y (fun za zh zv zu zp=>codeW Try.prog 18 none 2000 none (bodyOf Try.f41) (.reg [S0] (.reg [S0] (.reg [S0,S0,S0] (.reg [S0] (.condT (.reg [S0, .sem [.rd 0],S0] (.reg [S0,S0,S0] (.cond (.reg [S0,S0] (.done)) (.reg [S0,S0] (.reg [S0] (.condT (.reg [S0, .sem [.rd 0],S0] (.reg [S0,S0,S0] (.cond (.reg [S0,S0] (.done)) (.reg [S0,S0] (.reg [S0] (.condF (.reg [S0,S0] (.done)))))))))))))))))))
    (init za zh) (finW Try.prog Try.f41 [] [0] (X:=Unit) zv zu zp))=
    ((true=true)/\rdQ 1 c (((x !=(0:Int))=true->cmp_Or_int2_Q c x y (Value.int .i64 x) (bk c #[.int .i64 x, .int .i64 y] 3))/\((x !=(0:Int))=false->(true=true)/\rdQ 1 c (((y !=(0:Int))=true->cmp_Or_int2_Q c x y (Value.int .i64 y) (bk c #[.int .i64 x, .int .i64 y] 3))/\((y !=(0:Int))=false->(false=false)/\cmp_Or_int2_Q c x y (Value.int .i64 0) (bk c #[.int .i64 x, .int .i64 y] 3)))))):=by kernel_rfl
set_option maxRecDepth 100000 in
theorem cmp_Or_int2 (c:Nat) (x y:Int) :cmp_Or_int2_A c x y (fun za zh zv zu zp=>CallT Try.prog 41 za zh Unit zv zu zp):=by
  refine call_of (c:=bodyOf Try.f41) (n:=18) (fn:=Try.f41) Try.mixed Try.func41 (by kernel_rfl) (by kernel_rfl) (by kernel_rfl) 2000 _ [] [0] rfl rfl (Eq.mpr (cmp_Or_int2_vc c x y) ?_)
  refine ⟨rfl,rdQ_mk 1 _ ⟨fun h1=> ?_,fun h1=> ?_⟩⟩
  · unfold cmp_Or_int2_Q
    have g0:=bne_iff_ne.1 h1
    refine ⟨(),trivial,?_,rfl,trivial⟩
    unfold orI
    simp only [g0,if_true,if_false,ite_true,ite_false]
  refine ⟨rfl,rdQ_mk 1 _ ⟨fun h2=> ?_,fun h2=> ?_⟩⟩
  · unfold cmp_Or_int2_Q
    have g0:=bne_eq_false_iff_eq.1 h1
    have g1:=bne_iff_ne.1 h2
    refine ⟨(),trivial,?_,rfl,trivial⟩
    unfold orI
    simp only [g0,g1,if_true,if_false,ite_true,ite_false]
  refine ⟨rfl,?_⟩
  unfold cmp_Or_int2_Q
  have g0:=bne_eq_false_iff_eq.1 h1
  have g1:=bne_eq_false_iff_eq.1 h2
  refine ⟨(),trivial,?_,rfl,trivial⟩
  unfold orI
  simp only [g0,g1,if_true,if_false,ite_true,ite_false]
abbrev cmp_Or_int2_K (c:Nat) (x y:Int) (KK:Unit->Prop):Prop:=cmp_Or_int2_A c x y (fun za zh zv zu zp=>callQr Try.prog 41 za zh Unit zv zp KK)
theorem cmp_Or_int2_m (c:Nat) (x y:Int) {KK:Unit->Prop} (kont:KK ()) :cmp_Or_int2_K c x y KK:=callQr_mk (cmp_Or_int2 c x y) (⟨(),trivial⟩) fun _ _=>kont
def book_ahead_C:List Value->List Slot->Ctr:=fun vs hs=>⟨Unit,fun _=> .bool (ahd ((ci (cell (varg vs 1) 0)),(ci (cell (varg vs 1) 1))) ((ci (cell (varg vs 2) 0)),(ci (cell (varg vs 2) 1)))),fun _=>hs,fun _=>True⟩
abbrev book_ahead_Q (x0 x1 y0 y1:Int) (zv:Value) :Prop:= ∃_:Unit,(True)/\zv= .bool (ahd (x0,x1) (y0,y1))/\True
abbrev book_ahead_A (x0 x1 y0 y1:Int) (zF:SF Unit):Prop:=zF #[.agg #[.int .u8 x0, .int .u8 x1], .agg #[.int .u8 y0, .int .u8 y1]] [] (fun _=> .bool (ahd (x0,x1) (y0,y1))) (fun _=> []) (fun _=>True)
set_option maxRecDepth 100000 in
theorem book_ahead_vc (x0 x1 y0 y1:Int):book_ahead_A x0 x1 y0 y1 (fun za zh zv zu zp=>codeW Try.prog 18 none 2000 none (bodyOf Try.f18) (.reg [.sem [.nw 0], .sem [.nw 1],S0] (.reg [S0, .sem [.rd 0],S0, .sem [.rd 1], .callr [] cmp_Compare_u8_C,S0, .sem [.rd 0],S0, .sem [.rd 1], .callr [] cmp_Compare_u8_C, .sem [.nw 2], .callr [2] cmp_Or_int2_C,S0,S0] (.done)))
    (init za zh) (finW Try.prog Try.f18 [] [] (X:=Unit) zv zu zp))=
    (∀b1:Nat,∀b2:Nat,rdQ 1 b1 (rdQ 1 b2 (cmp_Compare_u8_K x0 y0 (fun _=>rdQ 1 b1 (rdQ 1 b2 (cmp_Compare_u8_K x1 y1 (fun _=> ∀b3:Nat,cmp_Or_int2_K b3 (cmpI x0 y0) (cmpI x1 y1) (fun _=>book_ahead_Q x0 x1 y0 y1 (Value.bool (decide ((orI (cmpI x0 y0) (cmpI x1 y1))<(0:Int)))))))))))):=by kernel_rfl
set_option maxRecDepth 100000 in
theorem book_ahead (x0 x1 y0 y1:Int) :book_ahead_A x0 x1 y0 y1 (fun za zh zv zu zp=>CallT Try.prog 18 za zh Unit zv zu zp):=by
  refine call_of (c:=bodyOf Try.f18) (n:=18) (fn:=Try.f18) Try.mixed Try.func18 (by kernel_rfl) (by kernel_rfl) (by kernel_rfl) 2000 _ [] [] rfl rfl (Eq.mpr (book_ahead_vc x0 x1 y0 y1) ?_)
  intro b1
  intro b2
  exact rdQ_mk 1 _ (rdQ_mk 1 _ (cmp_Compare_u8_m x0 y0 (rdQ_mk 1 _ (rdQ_mk 1 _ (cmp_Compare_u8_m x1 y1 (fun b3=>cmp_Or_int2_m b3 (cmpI x0 y0) (cmpI x1 y1) ⟨(),trivial,rfl,trivial⟩))))))
abbrev book_ahead_K (x0 x1 y0 y1:Int) (KK:Unit->Prop):Prop:=book_ahead_A x0 x1 y0 y1 (fun za zh zv zu zp=>callQr Try.prog 18 za zh Unit zv zp KK)
theorem book_ahead_m (x0 x1 y0 y1:Int) {KK:Unit->Prop} (kont:KK ()) :book_ahead_K x0 x1 y0 y1 KK:=callQr_mk (book_ahead x0 x1 y0 y1) (⟨(),trivial⟩) fun _ _=>kont
abbrev keys_cmp92_Q (w0:World) (c b:Nat) (x0 x1 y0 y1:Int) (zv:Value) (zs0:Slot):Prop:= ∃_:Unit,(True)/\zv= .int .i64 (cmp2 (x0,x1) (y0,y1))/\zs0=(old w0)/\True
set_option maxRecDepth 100000 in
theorem keys_cmp92_vc (w0:World) (c b:Nat) (x0 x1 y0 y1:Int):codeW Try.prog 22 none 2000 none (bodyOf Try.f72) (.reg [.sem [.nw 1], .sem [.nw 2],S0] (.reg [.specr [0] (fun _ hs=>⟨Unit,fun _=>pp b 0,fun _=>hs,fun _=>True⟩),S0,S0, .specr [0] (fun _ hs=>⟨Unit,fun _=> .func (.func 18) #[] #[],fun _=>hs,fun _=>True⟩), .sem [.rd 1, .rd 1], .sem [.rd 2, .rd 2], .callr [] book_ahead_C,S0] (.cond (.reg [S0] (.done)) (.reg [.specr [0] (fun _ hs=>⟨Unit,fun _=>pp b 0,fun _=>hs,fun _=>True⟩),S0,S0, .specr [0] (fun _ hs=>⟨Unit,fun _=> .func (.func 18) #[] #[],fun _=>hs,fun _=>True⟩), .sem [.rd 2, .rd 2], .sem [.rd 1, .rd 1], .callr [] book_ahead_C,S0] (.cond (.reg [S0] (.done)) (.reg [S0] (.done)))))))
    (init #[.agg #[.int .u8 x0, .int .u8 x1], .agg #[.int .u8 y0, .int .u8 y1],pp c 0] [(old w0)]) (finW Try.prog Try.f72 [] [0] (X:=Unit) (fun _=> .int .i64 (cmp2 (x0,x1) (y0,y1))) (fun _=> [(old w0)]) (fun _=>True))=
    (∀b1:Nat,∀b2:Nat,opQr Try.prog (vS (Instr.loadAt 58 (pp c 0))) [(old w0)] Unit (fun _=>pp b 0) (fun _=>True) (fun _=>opQr Try.prog (vS (Instr.loadAt 60 (pp b 2))) [(old w0)] Unit (fun _=> .func (.func 18) #[] #[]) (fun _=>True) (fun _=>rdQ 2 b1 (rdQ 2 b2 (book_ahead_K x0 x1 y0 y1 (fun _=>((ahd (x0,x1) (y0,y1))=true->keys_cmp92_Q w0 c b x0 x1 y0 y1 (Value.int .i64 (-1)) (old w0))/\((ahd (x0,x1) (y0,y1))=false->opQr Try.prog (vS (Instr.loadAt 58 (pp c 0))) [(old w0)] Unit (fun _=>pp b 0) (fun _=>True) (fun _=>opQr Try.prog (vS (Instr.loadAt 60 (pp b 2))) [(old w0)] Unit (fun _=> .func (.func 18) #[] #[]) (fun _=>True) (fun _=>rdQ 2 b2 (rdQ 2 b1 (book_ahead_K y0 y1 x0 x1 (fun _=>((ahd (y0,y1) (x0,x1))=true->keys_cmp92_Q w0 c b x0 x1 y0 y1 (Value.int .i64 1) (old w0))/\((ahd (y0,y1) (x0,x1))=false->keys_cmp92_Q w0 c b x0 x1 y0 y1 (Value.int .i64 0) (old w0)))))))))))))):=by kernel_rfl
set_option maxRecDepth 100000 in
theorem keys_cmp92 (w0:World) (c b:Nat) (x0 x1 y0 y1:Int) (hc1:w0.cell? ⟨c,0,none⟩=some (pp b 0)) (hc2:w0.cell? ⟨b,2,none⟩=some (.func (.func 18) #[] #[])):CallT Try.prog 72 #[.agg #[.int .u8 x0, .int .u8 x1], .agg #[.int .u8 y0, .int .u8 y1],pp c 0] [(old w0)] Unit (fun _=> .int .i64 (cmp2 (x0,x1) (y0,y1))) (fun _=> [(old w0)]) (fun _=>True):=by
  refine call_of (c:=bodyOf Try.f72) (n:=22) (fn:=Try.f72) Try.mixed Try.func72 (by kernel_rfl) (by kernel_rfl) (by kernel_rfl) 2000 _ [] [0] rfl rfl (Eq.mpr (keys_cmp92_vc w0 c b x0 x1 y0 y1) ?_)
  intro b1
  intro b2
  refine opQr_mk (xold1 Try.isAgg58 hc1) (⟨(),trivial⟩) fun _ _=>opQr_mk (xold1 Try.isAgg60 hc2) (⟨(),trivial⟩) fun _ _=>rdQ_mk 2 _ (rdQ_mk 2 _ (book_ahead_m x0 x1 y0 y1 ⟨fun h1=> ?_,fun h1=> ?_⟩))
  · refine ⟨(),trivial,?_,rfl,trivial⟩
    unfold cmp2
    simp only [h1,if_true,if_false,ite_true,ite_false,Bool.false_eq_true]
  refine opQr_mk (xold1 Try.isAgg58 hc1) (⟨(),trivial⟩) fun _ _=>opQr_mk (xold1 Try.isAgg60 hc2) (⟨(),trivial⟩) fun _ _=>rdQ_mk 2 _ (rdQ_mk 2 _ (book_ahead_m y0 y1 x0 x1 ⟨fun h2=> ?_,fun h2=> ?_⟩))
  · refine ⟨(),trivial,?_,rfl,trivial⟩
    unfold cmp2
    simp only [h1,h2,if_true,if_false,ite_true,ite_false,Bool.false_eq_true]
  refine ⟨(),trivial,?_,rfl,trivial⟩
  unfold cmp2
  simp only [h1,h2,if_true,if_false,ite_true,ite_false,Bool.false_eq_true]
def Try.sortK78_ren:Go.Shelf.Ren:=⟨fun | 6=>78 | 15=>82 | 14=>81 | 28=>91 | 29=>92 | 20=>83 | 21=>84 | 22=>85 | 23=>86 | 24=>87 | 25=>88 | 26=>89 | 27=>90 | 46=>93 | 47=>94 | 48=>95 | 49=>96 | 50=>97 | 57=>98 | n=>n,fun | 22=>103 | 24=>42 | 25=>128 | 3=>3 | 39=>136 | 0=>0 | 53=>146 | 55=>30 | 4=>4 | 46=>139 | 45=>138 | 50=>143 | 5=>5 | 9=>9 | 66=>148 | 70=>152 | 76=>154 | 77=>155 | n=>n,fun | n=>n⟩
theorem Try.sortK78:Go.Proofs.SlLaysF0.n6 Try.prog Try.sortK78_ren:= {
  mixed:=by kernel_rfl
  f6:=⟨Try.f78.name,by decide,Try.func78.trans (congrArg some (by kernel_rfl))⟩
  f14:=⟨Try.f81.name,by decide,Try.func81.trans (congrArg some (by kernel_rfl))⟩
  f15:=Try.func82.trans (congrArg some (by kernel_rfl))
  f20:=⟨Try.f83.name,by decide,Try.func83.trans (congrArg some (by kernel_rfl))⟩
  f21:=⟨Try.f84.name,by decide,Try.func84.trans (congrArg some (by kernel_rfl))⟩
  f22:=⟨Try.f85.name,by decide,Try.func85.trans (congrArg some (by kernel_rfl))⟩
  f23:=⟨Try.f86.name,by decide,Try.func86.trans (congrArg some (by kernel_rfl))⟩
  f24:=⟨Try.f87.name,by decide,Try.func87.trans (congrArg some (by kernel_rfl))⟩
  f25:=⟨Try.f88.name,by decide,Try.func88.trans (congrArg some (by kernel_rfl))⟩
  f26:=⟨Try.f89.name,by decide,Try.func89.trans (congrArg some (by kernel_rfl))⟩
  f27:=⟨Try.f90.name,by decide,Try.func90.trans (congrArg some (by kernel_rfl))⟩
  f28:=Try.func91.trans (congrArg some (by kernel_rfl))
  f29:=Try.func92.trans (congrArg some (by kernel_rfl))
  f46:=⟨Try.f93.name,by decide,Try.func93.trans (congrArg some (by kernel_rfl))⟩
  f47:=Try.func94.trans (congrArg some (by kernel_rfl))
  f48:=Try.func95.trans (congrArg some (by kernel_rfl))
  f49:=⟨Try.f96.name,by decide,Try.func96.trans (congrArg some (by kernel_rfl))⟩
  f50:=⟨Try.f97.name,by decide,Try.func97.trans (congrArg some (by kernel_rfl))⟩
  f57:=⟨Try.f98.name,by decide,Try.func98.trans (congrArg some (by kernel_rfl))⟩
  t0:=Try.underlying0
  a0:=Try.isAgg0
  z0:=Try.sizeOf0
  v0:=Try.zeroValue0
  t3:=Try.underlying3
  a3:=Try.isAgg3
  z3:=Try.sizeOf3
  v3:=Try.zeroValue3
  t4:=Try.underlying4
  a4:=Try.isAgg4
  z4:=Try.sizeOf4
  v4:=Try.zeroValue4
  t5:=Try.underlying5
  a5:=Try.isAgg5
  z5:=Try.sizeOf5
  v5:=Try.zeroValue5
  t9:=Try.underlying9
  a9:=Try.isAgg9
  z9:=Try.sizeOf9
  v9:=Try.zeroValue9
  t22:=Try.underlying103
  a22:=Try.isAgg103
  z22:=Try.sizeOf103
  v22:=Try.zeroValue103
  t25:=Try.underlying128
  a25:=Try.isAgg128
  z25:=Try.sizeOf128
  v25:=Try.zeroValue128
  t39:=Try.underlying136
  a39:=Try.isAgg136
  z39:=Try.sizeOf136
  v39:=Try.zeroValue136
  t45:=Try.underlying138
  a45:=Try.isAgg138
  z45:=Try.sizeOf138
  v45:=Try.zeroValue138
  t46:=Try.underlying139
  a46:=Try.isAgg139
  z46:=Try.sizeOf139
  v46:=Try.zeroValue139
  t50:=Try.underlying143
  a50:=Try.isAgg143
  z50:=Try.sizeOf143
  v50:=Try.zeroValue143
  t53:=Try.underlying146
  a53:=Try.isAgg146
  z53:=Try.sizeOf146
  v53:=Try.zeroValue146
  t55:=Try.underlying30
  a55:=Try.isAgg30
  z55:=Try.sizeOf30
  v55:=Try.zeroValue30
  t66:=Try.underlying148
  a66:=Try.isAgg148
  z66:=Try.sizeOf148
  v66:=Try.zeroValue148
  t70:=Try.underlying152
  a70:=Try.isAgg152
  z70:=Try.sizeOf152
  v70:=Try.zeroValue152
  t76:=Try.underlying154
  a76:=Try.isAgg154
  z76:=Try.sizeOf154
  v76:=Try.zeroValue154
  t77:=Try.underlying155
  a77:=Try.isAgg155
  z77:=Try.sizeOf155
  v77:=Try.zeroValue155 }
abbrev keys_SortedFunc92_Q (r c c2 b bj:Nat) (m:KV) (zv:Value) (zs0:Slot) (zs1:Slot) (zs2:Slot) (zs3:Slot) (zs4:Slot):Prop:= ∃zx:RK 2,(KeysOf2 m (vals zx.1))/\zv=sv zx.1/\zs0=bk c #[.map (some r)] 90/\zs1=(mo r m)/\zs2=bk c2 #[pp b 0] 58/\zs3= .blk b (.cells #[.map (some r),pp bj 0, .func (.func 18) #[] #[]] 92 (0,0))/\zs4=(sk 42 zx.1)/\True
set_option maxRecDepth 100000 in
theorem keys_SortedFunc92_vc (r c c2 b bj:Nat) (m:KV):codeW Try.prog 12 none 2000 none (bodyOf Try.f70) (.reg [S0] (.reg [S0, .callw [0,1] [0,1,40] keys_Collect92_C,S0] (.reg [S0,S0, .callw [40,2,3] [40,2,3] (fun vs hs=>⟨RK 2,fun _=>undef,fun zx=> [sk 42 zx.1,sarg hs 1,sarg hs 2],fun zx=>sv zx.1=varg vs 1/\(vals zx.1).Perm (kvals 2 (varg vs 1) (sarg hs 0))/\Sorted2 (vals zx.1)⟩)] (.reg [S0,S0] (.done)))))
    (init #[.func (.func 79) #[] #[pp c 0], .func (.func 72) #[] #[pp c2 0]] [bk c #[.map (some r)] 90,(mo r m),bk c2 #[pp b 0] 58, .blk b (.cells #[.map (some r),pp bj 0, .func (.func 18) #[] #[]] 92 (0,0))]) (finW Try.prog Try.f70 [] [0,1,2,3,40] (X:=RK 2) (fun zx=>sv zx.1) (fun zx=> [bk c #[.map (some r)] 90,(mo r m),bk c2 #[pp b 0] 58, .blk b (.cells #[.map (some r),pp bj 0, .func (.func 18) #[] #[]] 92 (0,0)),(sk 42 zx.1)]) (fun zx=>(KeysOf2 m (vals zx.1))))=
    (callQ Try.prog 77 #[.func (.func 79) #[] #[pp c 0]] [bk c #[.map (some r)] 90,(mo r m)] (RK 2) (fun zx=>sv zx.1) (fun zx=> [bk c #[.map (some r)] 90,(mo r m),(sk 42 zx.1)]) (fun zx=>(vals zx.1).Perm (m.map (·.1))) (fun x1=>callQ Try.prog 78 #[sv x1.1, .func (.func 72) #[] #[pp c2 0]] [(sk 42 x1.1),bk c2 #[pp b 0] 58, .blk b (.cells #[.map (some r),pp bj 0, .func (.func 18) #[] #[]] 92 (0,0))] (RK 2) (fun zx=> .tuple #[]) (fun zx=> [(sk 42 zx.1),bk c2 #[pp b 0] 58, .blk b (.cells #[.map (some r),pp bj 0, .func (.func 18) #[] #[]] 92 (0,0))]) (fun zx=>sv zx.1=sv x1.1/\(vals zx.1).Perm (kvals 2 (sv x1.1) (sk 42 x1.1))/\Sorted2 (vals zx.1)) (fun x2=>keys_SortedFunc92_Q r c c2 b bj m (sv x1.1) (bk c #[.map (some r)] 90) (mo r m) (bk c2 #[pp b 0] 58) (Slot.blk b (.cells #[.map (some r),pp bj 0, .func (.func 18) #[] #[]] 92 (0,0))) (sk 42 x2.1)))):=by kernel_rfl
set_option maxRecDepth 100000 in
theorem keys_SortedFunc92 (r c c2 b bj:Nat) (m:KV) (hk:KOK Try.mk92 m) (hl:m.length<=1048576):CallT Try.prog 70 #[.func (.func 79) #[] #[pp c 0], .func (.func 72) #[] #[pp c2 0]] [bk c #[.map (some r)] 90,(mo r m),bk c2 #[pp b 0] 58, .blk b (.cells #[.map (some r),pp bj 0, .func (.func 18) #[] #[]] 92 (0,0))] (RK 2) (fun zx=>sv zx.1) (fun zx=> [bk c #[.map (some r)] 90,(mo r m),bk c2 #[pp b 0] 58, .blk b (.cells #[.map (some r),pp bj 0, .func (.func 18) #[] #[]] 92 (0,0)),(sk 42 zx.1)]) (fun zx=>(KeysOf2 m (vals zx.1))):=by
  refine call_of (c:=bodyOf Try.f70) (n:=12) (fn:=Try.f70) Try.mixed Try.func70 (by kernel_rfl) (by kernel_rfl) (by kernel_rfl) 2000 _ [] [0,1,2,3,40] rfl rfl (Eq.mpr (keys_SortedFunc92_vc r c c2 b bj m) ?_)
  refine callQ_mk (keys_Collect92 r c m (by assumption) (by assumption)) (wit_permK (key_pairs92 (by assumption))) fun x1 h1=>callQ_mk (sort_row2 Try.sortK78 (fun w=>Try.isAgg42 w) (fun w=>Try.sizeOf42 w) rfl (enterOK (c:=bodyOf Try.f78) Try.func78 (by kernel_rfl) (by kernel_rfl)) (enterOK (c:=bodyOf Try.f72) Try.func72 (by kernel_rfl) (by kernel_rfl)) (fun w0 h1 h2 x0 x1 y0 y1=>keys_cmp92 w0 c2 b x0 x1 y0 y1 h1 h2) (fun v hv=>key_pair92 hk (h1.mem_iff.1 hv)) (by have:=h1.length_eq;simp at this;omega)) (sort_wit2 (x1) (fun v hv=>key_pair92 hk (h1.mem_iff.1 hv))) fun x2 h2=> ?_
  rw [kvals_eq] at h2
  exact ⟨x2,keysOf2_of hk.once (key_pairs92 hk) (h2.2.1.trans h1) h2.2.2,h2.1.symm,rfl,rfl,rfl,rfl,rfl,trivial⟩
def Try.clone51_ren:Go.Shelf.Ren:=⟨fun | 5=>51 | 7=>73 | n=>n,fun | 23=>90 | 25=>42 | 3=>32 | 4=>4 | 20=>20 | n=>n,fun | n=>n⟩
theorem Try.clone51:Go.Proofs.SlLaysW.n5 Try.prog Try.clone51_ren:= {
  mixed:=by kernel_rfl
  f5:=⟨Try.f51.name,by decide,Try.func51.trans (congrArg some (by kernel_rfl))⟩
  f7:=Try.func73.trans (congrArg some (by kernel_rfl))
  t4:=Try.underlying4
  a4:=Try.isAgg4
  z4:=Try.sizeOf4
  v4:=Try.zeroValue4
  t20:=Try.underlying20
  a20:=Try.isAgg20
  z20:=Try.sizeOf20
  v20:=Try.zeroValue20
  t23:=Try.underlying90
  a23:=Try.isAgg90
  z23:=Try.sizeOf90
  v23:=Try.zeroValue90 }
def keys_Keys_raw92_C:List Value->List Slot->Ctr:=fun vs hs=>⟨RK 2,fun zx=>sv zx.1,fun zx=> [(sk 42 zx.1)],fun zx=>KeysOf2 (skv (sarg hs 1)) (vals zx.1)⟩
abbrev keys_Keys_raw92_Q (b r bj:Nat) (m:KV) (zv:Value) (zs0:Slot) (zs1:Slot) (zs2:Slot):Prop:= ∃zx:RK 2,(KeysOf2 m (vals zx.1))/\zv=sv zx.1/\zs0= .blk b (.cells #[.map (some r),pp bj 0, .func (.func 18) #[] #[]] 92 (0,0))/\zs1=(mo r m)/\zs2=(sk 42 zx.1)/\True
abbrev keys_Keys_raw92_A (b r bj:Nat) (m:KV) (zF:SF (RK 2)):Prop:=zF #[pp b 0] [.blk b (.cells #[.map (some r),pp bj 0, .func (.func 18) #[] #[]] 92 (0,0)),(mo r m)] (fun zx=>sv zx.1) (fun zx=> [.blk b (.cells #[.map (some r),pp bj 0, .func (.func 18) #[] #[]] 92 (0,0)),(mo r m),(sk 42 zx.1)]) (fun zx=>(KeysOf2 m (vals zx.1)))
set_option maxRecDepth 100000 in
theorem keys_Keys_raw92_vc (b r bj:Nat) (m:KV):keys_Keys_raw92_A b r bj m (fun za zh zv zu zp=>codeW Try.prog 10 none 2000 none (bodyOf Try.f50) (.reg [.sem [.nw 40],S0] (.reg [.sem [.rd 40],S0,S0, .sem [.rd 0], .callw [] [41] maps_Keys92_C,S0, .callw [41,1,40,0] [41,1,40,0,45] (fun vs hs=>⟨RK 2,fun zx=>sv zx.1,fun zx=>hs++ [sk 42 zx.1],fun zx=>KeysOf2 (skv (sarg hs 1)) (vals zx.1)⟩),S0] (.done)))
    (init za zh) (finW Try.prog Try.f50 [] [0,1,45] (X:=RK 2) zv zu zp))=
    (∀b1:Nat,rdQ 1 b1 (rdQ 1 b (callQ Try.prog 71 #[.map (some r)] [] Nat (fun zx=> .func (.func 79) #[] #[pp zx 0]) (fun zx=> [bk zx #[.map (some r)] 90]) (fun zx=>True) (fun x2=>callQ Try.prog 70 #[.func (.func 79) #[] #[pp x2 0], .func (.func 72) #[] #[pp b1 0]] [bk x2 #[.map (some r)] 90,(mo r m),bk b1 #[pp b 0] 58, .blk b (.cells #[.map (some r),pp bj 0, .func (.func 18) #[] #[]] 92 (0,0))] (RK 2) (fun zx=>sv zx.1) (fun zx=> [bk x2 #[.map (some r)] 90,(mo r m),bk b1 #[pp b 0] 58, .blk b (.cells #[.map (some r),pp bj 0, .func (.func 18) #[] #[]] 92 (0,0)),(sk 42 zx.1)]) (fun zx=>KeysOf2 m (vals zx.1)) (fun x3=>keys_Keys_raw92_Q b r bj m (sv x3.1) (Slot.blk b (.cells #[.map (some r),pp bj 0, .func (.func 18) #[] #[]] 92 (0,0))) (mo r m) (sk 42 x3.1)))))):=by kernel_rfl
set_option maxRecDepth 100000 in
theorem keys_Keys_raw92 (b r bj:Nat) (m:KV) (hk:KOK Try.mk92 m) (hl:m.length<=1048576):keys_Keys_raw92_A b r bj m (fun za zh zv zu zp=>CallT Try.prog 50 za zh (RK 2) zv zu zp):=by
  refine call_of (c:=bodyOf Try.f50) (n:=10) (fn:=Try.f50) Try.mixed Try.func50 (by kernel_rfl) (by kernel_rfl) (by kernel_rfl) 2000 _ [] [0,1,45] rfl rfl (Eq.mpr (keys_Keys_raw92_vc b r bj m) ?_)
  intro b1
  exact rdQ_mk 1 _ (rdQ_mk 1 _ (callQ_mk (maps_Keys92 r) (⟨0,trivial⟩) fun x2 h1=>callQ_mk (keys_SortedFunc92 r x2 b1 b bj m hk hl) (keysOf2_wit (key_pairs92 hk) hk.once) fun x3 h2=>⟨x3,h2,rfl,rfl,rfl,rfl,trivial⟩))
def maps_Clone92_C:List Value->List Slot->Ctr:=fun vs hs=>⟨Nat,fun zx=> .map (some zx),fun zx=> [(mo zx (skv (sarg hs 0)))],fun zx=>True⟩
theorem maps_Clone92 (r:Nat) (m:KV) :CallT Try.prog 51 #[.map (some r)] [(mo r m)] Nat (fun zx=> .map (some zx)) (fun zx=> [(mo r m),(mo zx m)]) (fun zx=>(True)):=clone_map Try.clone51 rfl (enterOK (c:=bodyOf Try.f51) Try.func51 (by kernel_rfl) (by kernel_rfl))
abbrev keys_All_raw92_Q (b r bj:Nat) (m:KV) (zv:Value) (zs0:Slot) (zs1:Slot) (zs2:Slot) (zs3:Slot) (zs4:Slot) (zs5:Slot):Prop:= ∃zx:Nat×Nat×Nat×RK 2,(KeysOf2 m (vals zx.2.2.2.1))/\zv= .func (.func 52) #[] #[pp zx.1 0,pp zx.2.1 0]/\zs0= .blk b (.cells #[.map (some r),pp bj 0, .func (.func 18) #[] #[]] 92 (0,0))/\zs1=(mo r m)/\zs2=bk zx.1 #[sv zx.2.2.2.1] 103/\zs3=(sk 42 zx.2.2.2.1)/\zs4=bk zx.2.1 #[.map (some zx.2.2.1)] 90/\zs5=(mo zx.2.2.1 m)/\True
abbrev keys_All_raw92_A (b r bj:Nat) (m:KV) (zF:SF (Nat×Nat×Nat×RK 2)):Prop:=zF #[pp b 0] [.blk b (.cells #[.map (some r),pp bj 0, .func (.func 18) #[] #[]] 92 (0,0)),(mo r m)] (fun zx=> .func (.func 52) #[] #[pp zx.1 0,pp zx.2.1 0]) (fun zx=> [.blk b (.cells #[.map (some r),pp bj 0, .func (.func 18) #[] #[]] 92 (0,0)),(mo r m),bk zx.1 #[sv zx.2.2.2.1] 103,(sk 42 zx.2.2.2.1),bk zx.2.1 #[.map (some zx.2.2.1)] 90,(mo zx.2.2.1 m)]) (fun zx=>(KeysOf2 m (vals zx.2.2.2.1)))
set_option maxRecDepth 100000 in
theorem keys_All_raw92_vc (b r bj:Nat) (m:KV):keys_All_raw92_A b r bj m (fun za zh zv zu zp=>codeW Try.prog 13 none 2000 none (bodyOf Try.f26) (.reg [S0] (.reg [S0, .calln [0,1] [52] keys_Keys_raw92_C,S0,S0,S0, .sem [.rd 0], .calln [1] [53] maps_Clone92_C, .sem [.nw 50], .sem [.nw 51], .specw [50] [50] F_put, .sem [.wr 51]] (.reg [S0,S0] (.done))))
    (init za zh) (finW Try.prog Try.f26 [] [0,1,50,52,51,53] (X:=Nat×Nat×Nat×RK 2) zv zu zp))=
    (callQ Try.prog 50 #[pp b 0] [.blk b (.cells #[.map (some r),pp bj 0, .func (.func 18) #[] #[]] 92 (0,0)),(mo r m)] (RK 2) (fun zx=>sv zx.1) (fun zx=> [.blk b (.cells #[.map (some r),pp bj 0, .func (.func 18) #[] #[]] 92 (0,0)),(mo r m),(sk 42 zx.1)]) (fun zx=>KeysOf2 m (vals zx.1)) (fun x1=>rdQ 1 b (callQ Try.prog 51 #[.map (some r)] [(mo r m)] Nat (fun zx=> .map (some zx)) (fun zx=> [(mo r m),(mo zx m)]) (fun zx=>True) (fun x2=> ∀b3:Nat,∀b4:Nat,opQ Try.prog (skS (Instr.storeAt 103 (pp b3 0) (sv x1.1))) [bk b3 #[.slice none 0 0] 103] Unit (fun _=> .tuple #[]) (fun _=> [bk b3 #[sv x1.1] 103]) (fun _=>True) (fun _=>rdQ 1 b4 (keys_All_raw92_Q b r bj m (Value.func (.func 52) #[] #[pp b3 0,pp b4 0]) (Slot.blk b (.cells #[.map (some r),pp bj 0, .func (.func 18) #[] #[]] 92 (0,0))) (mo r m) (bk b3 #[sv x1.1] 103) (sk 42 x1.1) (bk b4 #[.map (some x2)] 90) (mo x2 m))))))):=by kernel_rfl
set_option maxRecDepth 100000 in
theorem keys_All_raw92 (b r bj:Nat) (m:KV) (hk:KOK Try.mk92 m) (hl:m.length<=1048576):keys_All_raw92_A b r bj m (fun za zh zv zu zp=>CallT Try.prog 26 za zh (Nat×Nat×Nat×RK 2) zv zu zp):=by
  refine call_of (c:=bodyOf Try.f26) (n:=13) (fn:=Try.f26) Try.mixed Try.func26 (by kernel_rfl) (by kernel_rfl) (by kernel_rfl) 2000 _ [] [0,1,50,52,51,53] rfl rfl (Eq.mpr (keys_All_raw92_vc b r bj m) ?_)
  exact callQ_mk (keys_Keys_raw92 b r bj m (hk) (hl)) (keysOf2_wit (key_pairs92 hk) hk.once) fun x1 h1=>rdQ_mk 1 _ (callQ_mk (maps_Clone92 r m) (⟨0,trivial⟩) fun x2 h2=>fun b3=>fun b4=>opQ_mk (xputv (b:=b3) (cs:= #[.slice none 0 0]) (ty:=103) (te:=103) (fun w=>by kernel_rfl) 0 (sv x1.1) (cells_sv _) (one_sv _) (by show 0<1;decide)) (⟨(),trivial⟩) fun _ _=>rdQ_mk 1 _ ⟨(b3,b4,x2,x1),h1,rfl,rfl,rfl,rfl,rfl,rfl,rfl,trivial⟩)
def keys_All92_C:List Value->List Slot->Ctr:=fun vs hs=>⟨Nat×Nat×Nat×RK 2,fun zx=> .func (.func 52) #[] #[pp zx.1 0,pp zx.2.1 0],fun zx=> [bk zx.1 #[sv zx.2.2.2.1] 103,(sk 42 zx.2.2.2.1),bk zx.2.1 #[.map (some zx.2.2.1)] 90,(mo zx.2.2.1 (skv (sarg hs 0)))],fun zx=>KeysOf2 (skv (sarg hs 0)) (vals zx.2.2.2.1)⟩
theorem keys_All92 (b bj:Nat) (m:KV) (hi:PairKeys m) (hl:m.length<=1048576):CallT Try.prog 26 #[.pointer (some ⟨b,0,none⟩)] [(mS Try.mk92 b bj m)] (Nat×Nat×Nat×RK 2) (fun zx=> .func (.func 52) #[] #[.pointer (some ⟨zx.1,0,none⟩), .pointer (some ⟨zx.2.1,0,none⟩)]) (fun zx=> [(mS Try.mk92 b bj m), .blk zx.1 (.cells #[sv zx.2.2.2.1] 103 (0,0)),(sk 42 zx.2.2.2.1), .blk zx.2.1 (.cells #[.map (some zx.2.2.1)] 90 (0,0)),(mo zx.2.2.1 m)]) (fun zx=>(KeysOf2 m (vals zx.2.2.2.1))):=by
  refine mS_call (m' :=fun _=>m) (us:=fun x:Nat×Nat×Nat×RK 2=> [.blk x.1 (.cells #[sv x.2.2.2.1] 103 (0,0)),(sk 42 x.2.2.2.1), .blk x.2.1 (.cells #[.map (some x.2.2.1)] 90 (0,0)),(mo x.2.2.1 m)]) (enterOK (c:=bodyOf Try.f26) Try.func26 (by kernel_rfl) (by kernel_rfl)) (fun r hk=> ?_) (fun _ _ h=>h)
  exact keys_All_raw92 b r bj m hk hl
abbrev keys_AllX0_92_Q (l c1 c2 n:Nat) (x:RK 2) (m:KV) (T:Nat->Slot) (S:Slot) (zv:Value) (zs0:Slot) (zs1:Slot) (zs2:Slot) (zs3:Slot) (zs4:Slot):Prop:= ∃zx:Bool,(True)/\zv= .tuple #[]/\zs0=bk c1 #[sv x.1] 103/\zs1=(sk 42 x.1)/\zs2=bk c2 #[.map (some n)] 90/\zs3=(mo n m)/\zs4=(bif zx then T (vals x.1).length else S)/\True
set_option maxRecDepth 100000 in
theorem keys_AllX0_92_vc (l c1 c2 n:Nat) (x:RK 2) (m:KV) (T:Nat->Slot) (S:Slot):codeW Try.prog 20 none 2000 none (bodyOf Try.f52) (.reg [.sem [.rd 0], .eq (f_len),S0] (.inv Nat (fun zx=> [(0, .func (.yield l) #[] #[]),(1,pp c1 0),(2,pp c2 0),(6,sv x.1),(7, .int .i64 ((vlen (sv x.1):Nat):Int)),(8, .int .i64 ((zx:Nat):Int))]) (fun zx=> [(0,bk c1 #[sv x.1] 103),(1,(sk 42 x.1)),(2,bk c2 #[.map (some n)] 90),(3,(mo n m)),(4,(T zx))]) (fun zx=>zx<=(vals x.1).length) (fun zx=>(vals x.1).length - zx) (fun x1=> .reg [S0] (.cond (.reg [.eq (f_idxK 2), .specr [1] (F_getK 2 tV), .sem [.nw 5], .sem [.wr 5, .wr 5]] (.reg [S0, .sem [.rd 5, .rd 5], .sem [.rd 2], .sem [.rd 5, .rd 5], .specr [3] (fun vs hs=>⟨Unit,fun _=>((mget m (varg vs 1)).getD (vI 0)),fun _=>hs,fun _=>True⟩), .callw [4] [4] (fun _ _=>⟨Bool,fun b=> .bool b,fun b=> [bif b then T (x1+1) else S],fun _=>True⟩),S0] (.cond (.done) (.reg [S0,S0] (.done))))) (.done)))))
    (init #[.func (.yield l) #[] #[],pp c1 0,pp c2 0] [bk c1 #[sv x.1] 103,(sk 42 x.1),bk c2 #[.map (some n)] 90,(mo n m),(T 0)]) (finW Try.prog Try.f52 [] [0,1,2,3,4] (X:=Bool) (fun zx=> .tuple #[]) (fun zx=> [bk c1 #[sv x.1] 103,(sk 42 x.1),bk c2 #[.map (some n)] 90,(mo n m),(bif zx then T (vals x.1).length else S)]) (fun zx=>(True)))=
    (rdQ 1 c1 ((PureRun Try.prog (vS (Builtin.len_ #[103] 3 #[sv x.1])) (.int .i64 ((vlen (sv x.1):Nat):Int)))/\(∃zx:Nat,(zx<=(vals x.1).length)/\Value.func (.yield l) #[] #[]= .func (.yield l) #[] #[]/\pp c1 0=pp c1 0/\pp c2 0=pp c2 0/\sv x.1=sv x.1/\Value.int .i64 ((vlen (sv x.1):Nat):Int)= .int .i64 ((vlen (sv x.1):Nat):Int)/\Value.int .i64 0= .int .i64 ((zx:Nat):Int)/\bk c1 #[sv x.1] 103=bk c1 #[sv x.1] 103/\(sk 42 x.1)=(sk 42 x.1)/\bk c2 #[.map (some n)] 90=bk c2 #[.map (some n)] 90/\(mo n m)=(mo n m)/\(T 0)=(T zx)/\True)/\ ∀x1:Nat,∀jx1:Nat->Value,(x1<=(vals x.1).length)->((decide (((x1:Nat):Int)<((vlen (sv x.1):Nat):Int)))=true->(PureRun Try.prog (vS (Instr.indexAt 103 (sv x.1) (.int .i64 ((x1:Nat):Int)))) (.pointer (some ⟨(vblk (sv x.1)),(Int.toNat ((x1:Nat):Int)*2),none⟩)))/\opQr Try.prog (vS (Instr.loadAt 42 (.pointer (some ⟨(vblk (sv x.1)),(Int.toNat ((x1:Nat):Int)*2),none⟩)))) [(sk 42 x.1)] (Int×Int) (fun zx=> .agg #[.int .u8 zx.1, .int .u8 zx.2]) (fun zx=>rdK 2 (scells (sk 42 x.1)) (Int.toNat ((x1:Nat):Int)*2)=tV zx) (fun x2=> ∀b3:Nat,rdQ 2 b3 (rdQ 2 b3 (rdQ 1 c2 (rdQ 2 b3 (opQr Try.prog (vS (Instr.lookup 90 (.map (some n)) (.agg #[.int .u8 x2.1, .int .u8 x2.2]) false)) [(mo n m)] Unit (fun _=>((mget m (Value.agg #[.int .u8 x2.1, .int .u8 x2.2])).getD (vI 0))) (fun _=>True) (fun _=>rndQ Try.prog l #[.agg #[.int .u8 x2.1, .int .u8 x2.2],((mget m (Value.agg #[.int .u8 x2.1, .int .u8 x2.2])).getD (vI 0))] [(T x1)] Bool (fun zx=> .bool zx) (fun zx=> [(bif zx then T (x1+1) else S)]) (fun zx=>True) (fun x4=>((!x4)=true->keys_AllX0_92_Q l c1 c2 n x m T S (Value.tuple #[]) (bk c1 #[sv x.1] 103) (sk 42 x.1) (bk c2 #[.map (some n)] 90) (mo n m) (bif x4 then T (x1+1) else S))/\((!x4)=false-> ∃zy:Nat,(zy<=(vals x.1).length)/\(vals x.1).length - zy<(vals x.1).length - x1/\Value.func (.yield l) #[] #[]= .func (.yield l) #[] #[]/\pp c1 0=pp c1 0/\pp c2 0=pp c2 0/\sv x.1=sv x.1/\Value.int .i64 ((vlen (sv x.1):Nat):Int)= .int .i64 ((vlen (sv x.1):Nat):Int)/\Value.int .i64 (IntKind.i64.wrap (((x1:Nat):Int)+1))= .int .i64 ((zy:Nat):Int)/\bk c1 #[sv x.1] 103=bk c1 #[sv x.1] 103/\(sk 42 x.1)=(sk 42 x.1)/\bk c2 #[.map (some n)] 90=bk c2 #[.map (some n)] 90/\(mo n m)=(mo n m)/\(bif x4 then T (x1+1) else S)=(T zy)/\True)))))))))/\((decide (((x1:Nat):Int)<((vlen (sv x.1):Nat):Int)))=false->keys_AllX0_92_Q l c1 c2 n x m T S (Value.tuple #[]) (bk c1 #[sv x.1] 103) (sk 42 x.1) (bk c2 #[.map (some n)] 90) (mo n m) (T x1)))):=by kernel_rfl
set_option maxRecDepth 100000 in
theorem keys_AllX0_92 (l c1 c2 n:Nat) (x:RK 2) (m:KV) (T:Nat->Slot) (S:Slot) (hk:KOK Try.mk92 m) (hl:m.length<=1048576) (hx:KeysOf2 m (vals x.1)) (hT: ∀i,i<(vals x.1).length->RoundT Try.prog l #[(vals x.1).getD i undef,(mget m ((vals x.1).getD i undef)).getD (vI 0)] [T i] Bool (fun b=> .bool b) (fun b=> [bif b then T (i+1) else S]) (fun _=>True)):CallT Try.prog 52 #[.func (.yield l) #[] #[],pp c1 0,pp c2 0] [bk c1 #[sv x.1] 103,(sk 42 x.1),bk c2 #[.map (some n)] 90,(mo n m),(T 0)] Bool (fun zx=> .tuple #[]) (fun zx=> [bk c1 #[sv x.1] 103,(sk 42 x.1),bk c2 #[.map (some n)] 90,(mo n m),(bif zx then T (vals x.1).length else S)]) (fun zx=>(True)):=by
  refine call_of (c:=bodyOf Try.f52) (n:=20) (fn:=Try.f52) Try.mixed Try.func52 (by kernel_rfl) (by kernel_rfl) (by kernel_rfl) 2000 _ [] [0,1,2,3,4] rfl rfl (Eq.mpr (keys_AllX0_92_vc l c1 c2 n x m T S) ?_)
  have hL:(vals x.1).length<=1048576:=by have:=hx.1.length_eq;simp at this;omega
  refine rdQ_mk 1 _ ⟨xlenK Try.sk103 3 x.1,⟨?_,fun x1 jx1 h1=> ?_⟩⟩
  · exact ⟨0,Nat.zero_le _,rfl,rfl,rfl,rfl,rfl,rfl,rfl,rfl,rfl,rfl,rfl,trivial⟩
  have hlen:=vlen_sv x.1
  refine ⟨fun h2=> ?_,fun h2=> ?_⟩
  · refine ⟨xidxK Try.sk103 x.1 .i64 ((x1:Nat):Int) (by omega) (by have:=(ilt_of hlen h2);omega),opQr_mk (xgetKV Try.sk103 tV x (Int.toNat ((x1:Nat):Int)) (pair_at hx.2.2 (by have:=(ilt_of hlen h2);exact this))) (wgetKV (pair_at hx.2.2 (by have:=(ilt_of hlen h2);exact this))) fun x2 h3=> ?_⟩
    replace h3:=egetKV (pair_at hx.2.2 (by have:=(ilt_of hlen h2);exact this)) h3
    have hK:=h3
    intro b3
    refine rdQ_mk 2 _ (rdQ_mk 2 _ (rdQ_mk 1 _ (rdQ_mk 2 _ (opQr_mk (xlookup1 Try.kl92.tm hk.keys ⟨_,_,rfl⟩) (⟨(),trivial⟩) fun _ _=>rndQ_mk (by have hr:=hT x1 (ilt_of hlen h2);rw [getD_at (i:=x1) hK] at hr;exact hr) (⟨true,trivial⟩) fun x4 h4=>⟨fun h5=> ?_,fun h5=> ?_⟩))))
    · have hb:x4=false:=by simpa using h5
      exact ⟨false,trivial,rfl,rfl,rfl,rfl,rfl,by rw [hb];rfl,trivial⟩
    have hb:x4=true:=by simpa using h5
    simp only [decide_eq_true_eq] at h2
    exact ⟨x1+1,by omega,by omega,rfl,rfl,rfl,rfl,rfl,congrArg (Value.int .i64) (wrap_succ (n:=x1) (N:=(vals x.1).length) (by omega) (by omega)),rfl,rfl,rfl,rfl,by rw [hb];rfl,trivial⟩
  unfold keys_AllX0_92_Q
  simp only [decide_eq_false_iff_not] at h2
  have he:x1=(vals x.1).length:=by omega
  rw [he]
  exact ⟨true,trivial,rfl,rfl,rfl,rfl,rfl,rfl,trivial⟩
theorem keys_AllX92 (c1 c2 n:Nat) (x:RK 2) (m:KV) (hk:KOK Try.mk92 m) (hl:m.length<=1048576) (hx:KeysOf2 m (vals x.1)):Iter Try.prog 52 #[.pointer (some ⟨c1,0,none⟩), .pointer (some ⟨c2,0,none⟩)] [.blk c1 (.cells #[sv x.1] 103 (0,0)),(sk 42 x.1), .blk c2 (.cells #[.map (some n)] 90 (0,0)),(mo n m)] (vals x.1).length (fun i=> #[(vals x.1).getD i undef,(mget m ((vals x.1).getD i undef)).getD (vI 0)]):=fun l T S hT=>keys_AllX0_92 l c1 c2 n x m T S hk hl hx hT
theorem Try.sl44:SlT Try.prog 44 5 (.int .u8 0):=SlT.of (by kernel_rfl) (by kernel_rfl) (by kernel_rfl) (by kernel_rfl) rfl
noncomputable def pk_num1_C:List Value->List Slot->Ctr:=fun vs hs=>⟨Row,fun zx=> .pointer (some ⟨(vblk (varg vs 1)),0,none⟩),fun zx=> [.blk (vblk (varg vs 1)) (.cells #[sv zx] 75 (0,0)),(ss 5 zx)],fun zx=>BOK zx/\(dg zx).length=((rdv (scell (sarg hs 0) 0) (sarg hs 1))).length+1/\dg zx=(rdv (scell (sarg hs 0) 0) (sarg hs 1))++nb1 (ci (varg vs 2))⟩
abbrev pk_num1_Q (bw:Nat) (r:Row) (x:Int) (zv:Value) (zs0:Slot) (zs1:Slot):Prop:= ∃zx:Row,(BOK zx/\(dg zx).length=((rdv (sv r) (ss 5 r))).length+1/\dg zx=(rdv (sv r) (ss 5 r))++nb1 x)/\zv=pp bw 0/\zs0=bk bw #[sv zx] 75/\zs1=(ss 5 zx)/\True
abbrev pk_num1_A (bw:Nat) (r:Row) (x:Int) (zF:SF Row):Prop:=zF #[pp bw 0,uu x, .int .i64 1] [bk bw #[sv r] 75,(ss 5 r)] (fun zx=>pp bw 0) (fun zx=> [bk bw #[sv zx] 75,(ss 5 zx)]) (fun zx=>(BOK zx/\(dg zx).length=((rdv (sv r) (ss 5 r))).length+1/\dg zx=(rdv (sv r) (ss 5 r))++nb1 x))
set_option maxRecDepth 100000 in
theorem pk_num1_vc (bw:Nat) (r:Row) (x:Int):pk_num1_A bw r x (fun za zh zv zu zp=>codeW Try.prog 29 none 2000 none (bodyOf Try.f53) (.reg [S0] (.reg [S0,S0,S0] (.reg [S0,S0] (.condT (.reg [S0,S0,S0,S0, .sem [.rd 0],S0,S0,S0,S0,S0, .sem [.nw 2], .specw [1,2] [1,2] (F_appN 5),S0,S0, .specw [0] [0] F_put] (.reg [S0,S0,S0] (.reg [S0,S0] (.condF (.reg [S0,S0] (.done))))))))))
    (init za zh) (finW Try.prog Try.f53 [] [0,1] (X:=Row) zv zu zp))=
    ((true=true)/\rdQ 1 bw (∀b1:Nat,opQ Try.prog (vS (Builtin.append_ #[44,44] 44 #[sv r, .slice (some ⟨b1,0,none⟩) 1 1])) [(ss 5 r),bk b1 #[.int .u8 (IntKind.u8.wrap (Int.fdiv x (2^0)))] 5] Row (fun zx=>sv zx) (fun zx=> [(ss 5 zx),bk b1 #[.int .u8 (IntKind.u8.wrap (Int.fdiv x (2^0)))] 5]) (fun zx=>vals zx=rvals (sv r) (ss 5 r)++srcv (Value.slice (some ⟨b1,0,none⟩) 1 1) (bk b1 #[.int .u8 (IntKind.u8.wrap (Int.fdiv x (2^0)))] 5)) (fun x2=>opQ Try.prog (skS (Instr.storeAt 44 (pp bw 0) (sv x2))) [bk bw #[sv r] 75] Unit (fun _=> .tuple #[]) (fun _=> [bk bw #[sv x2] 75]) (fun _=>True) (fun _=>(false=false)/\pk_num1_Q bw r x (pp bw 0) (bk bw #[sv x2] 75) (ss 5 x2))))):=by kernel_rfl
set_option maxRecDepth 100000 in
theorem pk_num1 (bw:Nat) (r:Row) (x:Int) (r_r:BOK r) (hr:(dg r).length<=6000):pk_num1_A bw r x (fun za zh zv zu zp=>CallT Try.prog 53 za zh Row zv zu zp):=by
  refine call_of (c:=bodyOf Try.f53) (n:=29) (fn:=Try.f53) Try.mixed Try.func53 (by kernel_rfl) (by kernel_rfl) (by kernel_rfl) 2000 _ [] [0,1] rfl rfl (Eq.mpr (pk_num1_vc bw r x) ?_)
  have d_r:=rdv_eq r 5
  have e_r:=vlen_dg r
  refine ⟨rfl,rdQ_mk 1 _ (fun b1=>opQ_mk (xappNR Try.sl44 44 r (by rw [vals_len];first | omega | decide | exact Nat.le_of_ble_eq_true rfl) (Nat.le_of_ble_eq_true rfl) (by decide) rfl) (wit_appN _) fun x2 h1=> ?_)⟩
  obtain ⟨hBh1,hNh1,hDh1⟩:=bok_app (r:=r) (l:= [(IntKind.u8.wrap (Int.fdiv x (2^0)))]) (by assumption) (by rw [rvals_eq] at h1;exact h1)
  simp only [List.length_cons,List.length_nil,List.length_replicate,Nat.zero_add,l32_length] at hNh1
  refine opQ_mk (xputv (b:=bw) (cs:= #[sv r]) (ty:=75) (te:=44) (fun w=>by kernel_rfl) 0 (sv x2) (cells_sv _) (one_sv _) (by show 0<1;decide)) (⟨(),trivial⟩) fun _ _=>⟨rfl,?_⟩
  unfold pk_num1_Q
  rw [d_r]
  exact ⟨x2,⟨by assumption,by omega,by simp only [hDh1,List.append_assoc,List.nil_append,List.cons_append];rfl⟩,rfl,rfl,rfl,trivial⟩
abbrev pk_num1_K (bw:Nat) (r:Row) (x:Int) (KK:Row->Prop):Prop:=pk_num1_A bw r x (fun za zh zv zu zp=>callQ Try.prog 53 za zh Row zv zu zp KK)
theorem pk_num1_m (bw:Nat) (r:Row) (x:Int) {KK:Row->Prop} (kont: ∀zx:Row,(BOK zx/\(dg zx).length=((dg r)).length+1/\dg zx=(dg r)++nb1 x)->KK zx) (r_r:BOK r:=by assumption) (hr:(dg r).length<=6000:=by first | omega | decide):pk_num1_K bw r x KK:=callQ_mk (pk_num1 bw r x r_r hr) (wit_bok rfl) fun zx hz=>by
  simp only [rdv_eq,rdv_nil] at hz
  exact kont zx hz
noncomputable def pk_U8_C:List Value->List Slot->Ctr:=fun vs hs=>⟨Row,fun zx=> .pointer (some ⟨(vblk (varg vs 1)),0,none⟩),fun zx=> [.blk (vblk (varg vs 1)) (.cells #[sv zx] 75 (0,0)),(ss 5 zx)],fun zx=>BOK zx/\(dg zx).length=((rdv (scell (sarg hs 0) 0) (sarg hs 1))).length+1/\dg zx=(rdv (scell (sarg hs 0) 0) (sarg hs 1))++nb1 (IntKind.u64.wrap (ci (varg vs 2)))⟩
abbrev pk_U8_Q (bw:Nat) (r:Row) (x:Int) (zv:Value) (zs0:Slot) (zs1:Slot):Prop:= ∃zx:Row,(BOK zx/\(dg zx).length=((rdv (sv r) (ss 5 r))).length+1/\dg zx=(rdv (sv r) (ss 5 r))++nb1 (IntKind.u64.wrap x))/\zv=pp bw 0/\zs0=bk bw #[sv zx] 75/\zs1=(ss 5 zx)/\True
abbrev pk_U8_A (bw:Nat) (r:Row) (x:Int) (zF:SF Row):Prop:=zF #[pp bw 0, .int .u8 x] [bk bw #[sv r] 75,(ss 5 r)] (fun zx=>pp bw 0) (fun zx=> [bk bw #[sv zx] 75,(ss 5 zx)]) (fun zx=>(BOK zx/\(dg zx).length=((rdv (sv r) (ss 5 r))).length+1/\dg zx=(rdv (sv r) (ss 5 r))++nb1 (IntKind.u64.wrap x)))
set_option maxRecDepth 100000 in
theorem pk_U8_vc (bw:Nat) (r:Row) (x:Int):pk_U8_A bw r x (fun za zh zv zu zp=>codeW Try.prog 9 none 2000 none (bodyOf Try.f28) (.reg [S0] (.reg [S0,S0,S0, .callw [0,1] [0,1] pk_num1_C,S0] (.done)))
    (init za zh) (finW Try.prog Try.f28 [] [0,1] (X:=Row) zv zu zp))=
    (pk_num1_K bw r (IntKind.u64.wrap x) (fun x1=>pk_U8_Q bw r x (pp bw 0) (bk bw #[sv x1] 75) (ss 5 x1))):=by kernel_rfl
set_option maxRecDepth 100000 in
theorem pk_U8 (bw:Nat) (r:Row) (x:Int) (r_r:BOK r) (hr:(dg r).length<=6000):pk_U8_A bw r x (fun za zh zv zu zp=>CallT Try.prog 28 za zh Row zv zu zp):=by
  refine call_of (c:=bodyOf Try.f28) (n:=9) (fn:=Try.f28) Try.mixed Try.func28 (by kernel_rfl) (by kernel_rfl) (by kernel_rfl) 2000 _ [] [0,1] rfl rfl (Eq.mpr (pk_U8_vc bw r x) ?_)
  have d_r:=rdv_eq r 5
  have e_r:=vlen_dg r
  refine pk_num1_m bw r (IntKind.u64.wrap x) (fun x1 h1=> ?_)
  unfold pk_U8_Q
  rw [d_r]
  exact ⟨x1,h1,rfl,rfl,rfl,trivial⟩
abbrev pk_U8_K (bw:Nat) (r:Row) (x:Int) (KK:Row->Prop):Prop:=pk_U8_A bw r x (fun za zh zv zu zp=>callQ Try.prog 28 za zh Row zv zu zp KK)
theorem pk_U8_m (bw:Nat) (r:Row) (x:Int) {KK:Row->Prop} (kont: ∀zx:Row,(BOK zx/\(dg zx).length=((dg r)).length+1/\dg zx=(dg r)++nb1 (IntKind.u64.wrap x))->KK zx) (r_r:BOK r:=by assumption) (hr:(dg r).length<=6000:=by first | omega | decide):pk_U8_K bw r x KK:=callQ_mk (pk_U8 bw r x r_r hr) (wit_bok rfl) fun zx hz=>by
  simp only [rdv_eq,rdv_nil] at hz
  exact kont zx hz
noncomputable def by_Clone_C:List Value->List Slot->Ctr:=fun vs hs=>⟨Row,fun zx=>sv zx,fun zx=> [(sarg hs 0),(ss 5 zx)],fun zx=>BOK zx/\(dg zx).length=((rdv (varg vs 1) (sarg hs 0))).length/\dg zx=(rdv (varg vs 1) (sarg hs 0))⟩
abbrev by_Clone_Q (r:Row) (zv:Value) (zs0:Slot) (zs1:Slot):Prop:= ∃zx:Row,(BOK zx/\(dg zx).length=((rdv (sv r) (ss 5 r))).length/\dg zx=(rdv (sv r) (ss 5 r)))/\zv=sv zx/\zs0=(ss 5 r)/\zs1=(ss 5 zx)/\True
abbrev by_Clone_A (r:Row) (zF:SF Row):Prop:=zF #[sv r] [(ss 5 r)] (fun zx=>sv zx) (fun zx=> [(ss 5 r),(ss 5 zx)]) (fun zx=>(BOK zx/\(dg zx).length=((rdv (sv r) (ss 5 r))).length/\dg zx=(rdv (sv r) (ss 5 r))))
set_option maxRecDepth 100000 in
theorem by_Clone_vc (r:Row):by_Clone_A r (fun za zh zv zu zp=>codeW Try.prog 8 none 2000 none (bodyOf Try.f56) (.reg [S0] (.reg [S0, .eq (f_nil)] (.cond (.reg [S0] (.done)) (.reg [.sem [.nw 1],S0, .specw [1,0] [40,0] (F_appN 5),S0] (.done)))))
    (init za zh) (finW Try.prog Try.f56 [] [0,40] (X:=Row) zv zu zp))=
    ((PureRun Try.prog (xBin .eql 44 (sv r) (.slice none 0 0)) (.bool (vnil (sv r))))/\((vnil (sv r))=true->by_Clone_Q r (Value.slice none 0 0) (ss 5 r) (Slot.free))/\((vnil (sv r))=false-> ∀b1:Nat,opQ Try.prog (vS (Builtin.append_ #[44,44] 44 #[sv (Row.mk b1 [] []),sv r])) [(ss 5 (Row.mk b1 [] [])),(ss 5 r)] Row (fun zx=>sv zx) (fun zx=> [(ss 5 zx),(ss 5 r)]) (fun zx=>vals zx=rvals (sv (Row.mk b1 [] [])) (ss 5 (Row.mk b1 [] []))++srcv (sv r) (ss 5 r)) (fun x2=>by_Clone_Q r (sv x2) (ss 5 r) (ss 5 x2)))):=by kernel_rfl
set_option maxRecDepth 100000 in
theorem by_Clone (r:Row) (r_r:BOK r) (hr:(dg r).length<=6000):by_Clone_A r (fun za zh zv zu zp=>CallT Try.prog 56 za zh Row zv zu zp):=by
  refine call_of (c:=bodyOf Try.f56) (n:=8) (fn:=Try.f56) Try.mixed Try.func56 (by kernel_rfl) (by kernel_rfl) (by kernel_rfl) 2000 _ [] [0,40] rfl rfl (Eq.mpr (by_Clone_vc r) ?_)
  have d_r:=rdv_eq r 5
  have e_r:=vlen_dg r
  refine ⟨xnilq Try.sl44 r,⟨fun h1=> ?_,fun h1=> ?_⟩⟩
  · unfold by_Clone_Q
    have hr0:=vnil_row ‹_›
    subst hr0
    exact ⟨Row.nil,⟨bok_nil,rfl,rfl⟩,rfl,rfl,rfl,trivial⟩
  intro b1
  refine opQ_mk (xappRow Try.sl44 44 (Row.mk b1 [] []) (by rw [vals_len];first | omega | decide | exact Nat.le_of_ble_eq_true rfl) r (by rw [vals_len];omega) (by rw [(show BOK r by assumption).eq];exact bv_one _)) (wit_appN _) fun x2 h2=> ?_
  rw [rvals_eq,srcv_row,(show BOK r by assumption).eq] at h2
  obtain ⟨hBh2,hNh2,hDh2⟩:=bok_app (bok_mk0 b1 _) h2
  unfold by_Clone_Q
  rw [d_r]
  exact ⟨x2,⟨by assumption,by rw [hNh2];exact Nat.zero_add _,by rw [hDh2];rfl⟩,rfl,rfl,rfl,trivial⟩
abbrev by_Clone_K (r:Row) (KK:Row->Prop):Prop:=by_Clone_A r (fun za zh zv zu zp=>callQ Try.prog 56 za zh Row zv zu zp KK)
theorem by_Clone_m (r:Row) {KK:Row->Prop} (kont: ∀zx:Row,(BOK zx/\(dg zx).length=((dg r)).length/\dg zx=(dg r))->KK zx) (r_r:BOK r:=by assumption) (hr:(dg r).length<=6000:=by first | omega | decide):by_Clone_K r KK:=callQ_mk (by_Clone r r_r hr) (wit_bok0) fun zx hz=>by
  simp only [rdv_eq,rdv_nil] at hz
  exact kont zx hz
noncomputable def pk_Bytes_C:List Value->List Slot->Ctr:=fun vs hs=>⟨Row,fun zx=>sv zx,fun zx=> [.blk (vblk (varg vs 1)) (.cells #[(scell (sarg hs 0) 0)] 75 (0,0)),(sarg hs 1),(ss 5 zx)],fun zx=>BOK zx/\(dg zx).length=((rdv (scell (sarg hs 0) 0) (sarg hs 1))).length/\dg zx=(rdv (scell (sarg hs 0) 0) (sarg hs 1))⟩
abbrev pk_Bytes_Q (bw:Nat) (r:Row) (zv:Value) (zs0:Slot) (zs1:Slot) (zs2:Slot):Prop:= ∃zx:Row,(BOK zx/\(dg zx).length=((rdv (sv r) (ss 5 r))).length/\dg zx=(rdv (sv r) (ss 5 r)))/\zv=sv zx/\zs0=bk bw #[sv r] 75/\zs1=(ss 5 r)/\zs2=(ss 5 zx)/\True
abbrev pk_Bytes_A (bw:Nat) (r:Row) (zF:SF Row):Prop:=zF #[pp bw 0] [bk bw #[sv r] 75,(ss 5 r)] (fun zx=>sv zx) (fun zx=> [bk bw #[sv r] 75,(ss 5 r),(ss 5 zx)]) (fun zx=>(BOK zx/\(dg zx).length=((rdv (sv r) (ss 5 r))).length/\dg zx=(rdv (sv r) (ss 5 r))))
set_option maxRecDepth 100000 in
theorem pk_Bytes_vc (bw:Nat) (r:Row):pk_Bytes_A bw r (fun za zh zv zu zp=>codeW Try.prog 8 none 2000 none (bodyOf Try.f30) (.reg [S0] (.reg [S0,S0,S0, .sem [.rd 0], .callw [1] [1,40] by_Clone_C,S0] (.done)))
    (init za zh) (finW Try.prog Try.f30 [] [0,1,40] (X:=Row) zv zu zp))=
    (rdQ 1 bw (by_Clone_K r (fun x1=>pk_Bytes_Q bw r (sv x1) (bk bw #[sv r] 75) (ss 5 r) (ss 5 x1)))):=by kernel_rfl
set_option maxRecDepth 100000 in
theorem pk_Bytes (bw:Nat) (r:Row) (r_r:BOK r) (hr:(dg r).length<=6000):pk_Bytes_A bw r (fun za zh zv zu zp=>CallT Try.prog 30 za zh Row zv zu zp):=by
  refine call_of (c:=bodyOf Try.f30) (n:=8) (fn:=Try.f30) Try.mixed Try.func30 (by kernel_rfl) (by kernel_rfl) (by kernel_rfl) 2000 _ [] [0,1,40] rfl rfl (Eq.mpr (pk_Bytes_vc bw r) ?_)
  have d_r:=rdv_eq r 5
  have e_r:=vlen_dg r
  refine rdQ_mk 1 _ (by_Clone_m r (fun x1 h1=> ?_))
  unfold pk_Bytes_Q
  rw [d_r]
  exact ⟨x1,h1,rfl,rfl,rfl,rfl,trivial⟩
abbrev pk_Bytes_K (bw:Nat) (r:Row) (KK:Row->Prop):Prop:=pk_Bytes_A bw r (fun za zh zv zu zp=>callQ Try.prog 30 za zh Row zv zu zp KK)
theorem pk_Bytes_m (bw:Nat) (r:Row) {KK:Row->Prop} (kont: ∀zx:Row,(BOK zx/\(dg zx).length=((dg r)).length/\dg zx=(dg r))->KK zx) (r_r:BOK r:=by assumption) (hr:(dg r).length<=6000:=by first | omega | decide):pk_Bytes_K bw r KK:=callQ_mk (pk_Bytes bw r r_r hr) (wit_bok0) fun zx hz=>by
  simp only [rdv_eq,rdv_nil] at hz
  exact kont zx hz
noncomputable def huge_Bytes_C:List Value->List Slot->Ctr:=fun vs hs=>⟨Unit,fun _=>hV (ib4 (ci (cell (varg vs 1) 0)) (ci (cell (varg vs 1) 1)) (ci (cell (varg vs 1) 2)) (ci (cell (varg vs 1) 3))),fun _=>hs,fun _=>True⟩
abbrev huge_Bytes_Q (m0 m1 m2 m3:Int) (zv:Value) :Prop:= ∃_:Unit,(True)/\zv=hV (ib4 m0 m1 m2 m3)/\True
abbrev huge_Bytes_A (m0 m1 m2 m3:Int) (zF:SF Unit):Prop:=zF #[.agg #[uu m0,uu m1,uu m2,uu m3]] [] (fun _=>hV (ib4 m0 m1 m2 m3)) (fun _=> []) (fun _=>True)
set_option maxRecDepth 100000 in
theorem huge_Bytes_vc (m0 m1 m2 m3:Int):huge_Bytes_A m0 m1 m2 m3 (fun za zh zv zu zp=>codeW Try.prog 24 none 2000 none (bodyOf Try.f54) (.reg [.sem [.nw 0], .sem [.nw 1]] (.reg [.sem [.nw 2]] (.reg [S0] (.reg [S0] (.condT (.reg [S0,S0] (.reg [S0,S0,S0] (.reg [S0,S0,S0,S0, .sem [.rd 0],S0,S0,S0,S0,S0,S0, .sem [.wr 2]] (.reg [S0,S0] (.reg [S0] (.condT (.reg [S0,S0] (.reg [S0,S0,S0] (.reg [S0,S0,S0,S0, .sem [.rd 0],S0,S0,S0,S0,S0,S0, .sem [.wr 2]] (.reg [S0,S0] (.reg [S0] (.condT (.reg [S0,S0] (.reg [S0,S0,S0] (.reg [S0,S0,S0,S0, .sem [.rd 0],S0,S0,S0,S0,S0,S0, .sem [.wr 2]] (.reg [S0,S0] (.reg [S0] (.condT (.reg [S0,S0] (.reg [S0,S0,S0] (.reg [S0,S0,S0,S0, .sem [.rd 0],S0,S0,S0,S0,S0,S0, .sem [.wr 2]] (.reg [S0,S0] (.reg [S0] (.condT (.reg [S0,S0] (.reg [S0,S0,S0] (.reg [S0,S0,S0,S0, .sem [.rd 0],S0,S0,S0,S0,S0,S0, .sem [.wr 2]] (.reg [S0,S0] (.reg [S0] (.condT (.reg [S0,S0] (.reg [S0,S0,S0] (.reg [S0,S0,S0,S0, .sem [.rd 0],S0,S0,S0,S0,S0,S0, .sem [.wr 2]] (.reg [S0,S0] (.reg [S0] (.condT (.reg [S0,S0] (.reg [S0,S0,S0] (.reg [S0,S0,S0,S0, .sem [.rd 0],S0,S0,S0,S0,S0,S0, .sem [.wr 2]] (.reg [S0,S0] (.reg [S0] (.condT (.reg [S0,S0] (.reg [S0,S0,S0] (.reg [S0,S0,S0,S0, .sem [.rd 0],S0,S0,S0,S0,S0,S0, .sem [.wr 2]] (.reg [S0,S0] (.reg [S0] (.condT (.reg [S0,S0] (.reg [S0,S0,S0] (.reg [S0,S0,S0,S0, .sem [.rd 0],S0,S0,S0,S0,S0,S0, .sem [.wr 2]] (.reg [S0,S0] (.reg [S0] (.condT (.reg [S0,S0] (.reg [S0,S0,S0] (.reg [S0,S0,S0,S0, .sem [.rd 0],S0,S0,S0,S0,S0,S0, .sem [.wr 2]] (.reg [S0,S0] (.reg [S0] (.condT (.reg [S0,S0] (.reg [S0,S0,S0] (.reg [S0,S0,S0,S0, .sem [.rd 0],S0,S0,S0,S0,S0,S0, .sem [.wr 2]] (.reg [S0,S0] (.reg [S0] (.condT (.reg [S0,S0] (.reg [S0,S0,S0] (.reg [S0,S0,S0,S0, .sem [.rd 0],S0,S0,S0,S0,S0,S0, .sem [.wr 2]] (.reg [S0,S0] (.reg [S0] (.condT (.reg [S0,S0] (.reg [S0,S0,S0] (.reg [S0,S0,S0,S0, .sem [.rd 0],S0,S0,S0,S0,S0,S0, .sem [.wr 2]] (.reg [S0,S0] (.reg [S0] (.condT (.reg [S0,S0] (.reg [S0,S0,S0] (.reg [S0,S0,S0,S0, .sem [.rd 0],S0,S0,S0,S0,S0,S0, .sem [.wr 2]] (.reg [S0,S0] (.reg [S0] (.condT (.reg [S0,S0] (.reg [S0,S0,S0] (.reg [S0,S0,S0,S0, .sem [.rd 0],S0,S0,S0,S0,S0,S0, .sem [.wr 2]] (.reg [S0,S0] (.reg [S0] (.condT (.reg [S0,S0] (.reg [S0,S0,S0] (.reg [S0,S0,S0,S0, .sem [.rd 0],S0,S0,S0,S0,S0,S0, .sem [.wr 2]] (.reg [S0,S0] (.reg [S0] (.condT (.reg [S0,S0] (.reg [S0,S0,S0] (.reg [S0,S0,S0,S0, .sem [.rd 0],S0,S0,S0,S0,S0,S0, .sem [.wr 2]] (.reg [S0,S0] (.reg [S0] (.condT (.reg [S0,S0] (.reg [S0,S0,S0] (.reg [S0,S0,S0,S0, .sem [.rd 0],S0,S0,S0,S0,S0,S0, .sem [.wr 2]] (.reg [S0,S0] (.reg [S0] (.condT (.reg [S0,S0] (.reg [S0,S0,S0] (.reg [S0,S0,S0,S0, .sem [.rd 0],S0,S0,S0,S0,S0,S0, .sem [.wr 2]] (.reg [S0,S0] (.reg [S0] (.condT (.reg [S0,S0] (.reg [S0,S0,S0] (.reg [S0,S0,S0,S0, .sem [.rd 0],S0,S0,S0,S0,S0,S0, .sem [.wr 2]] (.reg [S0,S0] (.reg [S0] (.condT (.reg [S0,S0] (.reg [S0,S0,S0] (.reg [S0,S0,S0,S0, .sem [.rd 0],S0,S0,S0,S0,S0,S0, .sem [.wr 2]] (.reg [S0,S0] (.reg [S0] (.condT (.reg [S0,S0] (.reg [S0,S0,S0] (.reg [S0,S0,S0,S0, .sem [.rd 0],S0,S0,S0,S0,S0,S0, .sem [.wr 2]] (.reg [S0,S0] (.reg [S0] (.condT (.reg [S0,S0] (.reg [S0,S0,S0] (.reg [S0,S0,S0,S0, .sem [.rd 0],S0,S0,S0,S0,S0,S0, .sem [.wr 2]] (.reg [S0,S0] (.reg [S0] (.condT (.reg [S0,S0] (.reg [S0,S0,S0] (.reg [S0,S0,S0,S0, .sem [.rd 0],S0,S0,S0,S0,S0,S0, .sem [.wr 2]] (.reg [S0,S0] (.reg [S0] (.condT (.reg [S0,S0] (.reg [S0,S0,S0] (.reg [S0,S0,S0,S0, .sem [.rd 0],S0,S0,S0,S0,S0,S0, .sem [.wr 2]] (.reg [S0,S0] (.reg [S0] (.condT (.reg [S0,S0] (.reg [S0,S0,S0] (.reg [S0,S0,S0,S0, .sem [.rd 0],S0,S0,S0,S0,S0,S0, .sem [.wr 2]] (.reg [S0,S0] (.reg [S0] (.condT (.reg [S0,S0] (.reg [S0,S0,S0] (.reg [S0,S0,S0,S0, .sem [.rd 0],S0,S0,S0,S0,S0,S0, .sem [.wr 2]] (.reg [S0,S0] (.reg [S0] (.condT (.reg [S0,S0] (.reg [S0,S0,S0] (.reg [S0,S0,S0,S0, .sem [.rd 0],S0,S0,S0,S0,S0,S0, .sem [.wr 2]] (.reg [S0,S0] (.reg [S0] (.condT (.reg [S0,S0] (.reg [S0,S0,S0] (.reg [S0,S0,S0,S0, .sem [.rd 0],S0,S0,S0,S0,S0,S0, .sem [.wr 2]] (.reg [S0,S0] (.reg [S0] (.condT (.reg [S0,S0] (.reg [S0,S0,S0] (.reg [S0,S0,S0,S0, .sem [.rd 0],S0,S0,S0,S0,S0,S0, .sem [.wr 2]] (.reg [S0,S0] (.reg [S0] (.condT (.reg [S0,S0] (.reg [S0,S0,S0] (.reg [S0,S0,S0,S0, .sem [.rd 0],S0,S0,S0,S0,S0,S0, .sem [.wr 2]] (.reg [S0,S0] (.reg [S0] (.condT (.reg [S0,S0] (.reg [S0,S0,S0] (.reg [S0,S0,S0,S0, .sem [.rd 0],S0,S0,S0,S0,S0,S0, .sem [.wr 2]] (.reg [S0,S0] (.reg [S0] (.condF (.reg [.sem (rds 32 2), .sem (wrs 32 1)] (.done)))))))))))))))))))))))))))))))))))))))))))))))))))))))))))))))))))))))))))))))))))))))))))))))))))))))))))))))))))))))))))))))))))))))))))))))))))))))))))))))))))))))))))))))))))))))))))))))))))))))
    (init za zh) (finW Try.prog Try.f54 [.rd 1, .rd 1, .rd 1, .rd 1, .rd 1, .rd 1, .rd 1, .rd 1, .rd 1, .rd 1, .rd 1, .rd 1, .rd 1, .rd 1, .rd 1, .rd 1, .rd 1, .rd 1, .rd 1, .rd 1, .rd 1, .rd 1, .rd 1, .rd 1, .rd 1, .rd 1, .rd 1, .rd 1, .rd 1, .rd 1, .rd 1, .rd 1] [] (X:=Unit) zv zu zp))=
    (∀b1:Nat,∀b2:Nat,∀b3:Nat,(true=true)/\rdQ 1 b1 (rdQ 1 b3 ((true=true)/\rdQ 1 b1 (rdQ 1 b3 ((true=true)/\rdQ 1 b1 (rdQ 1 b3 ((true=true)/\rdQ 1 b1 (rdQ 1 b3 ((true=true)/\rdQ 1 b1 (rdQ 1 b3 ((true=true)/\rdQ 1 b1 (rdQ 1 b3 ((true=true)/\rdQ 1 b1 (rdQ 1 b3 ((true=true)/\rdQ 1 b1 (rdQ 1 b3 ((true=true)/\rdQ 1 b1 (rdQ 1 b3 ((true=true)/\rdQ 1 b1 (rdQ 1 b3 ((true=true)/\rdQ 1 b1 (rdQ 1 b3 ((true=true)/\rdQ 1 b1 (rdQ 1 b3 ((true=true)/\rdQ 1 b1 (rdQ 1 b3 ((true=true)/\rdQ 1 b1 (rdQ 1 b3 ((true=true)/\rdQ 1 b1 (rdQ 1 b3 ((true=true)/\rdQ 1 b1 (rdQ 1 b3 ((true=true)/\rdQ 1 b1 (rdQ 1 b3 ((true=true)/\rdQ 1 b1 (rdQ 1 b3 ((true=true)/\rdQ 1 b1 (rdQ 1 b3 ((true=true)/\rdQ 1 b1 (rdQ 1 b3 ((true=true)/\rdQ 1 b1 (rdQ 1 b3 ((true=true)/\rdQ 1 b1 (rdQ 1 b3 ((true=true)/\rdQ 1 b1 (rdQ 1 b3 ((true=true)/\rdQ 1 b1 (rdQ 1 b3 ((true=true)/\rdQ 1 b1 (rdQ 1 b3 ((true=true)/\rdQ 1 b1 (rdQ 1 b3 ((true=true)/\rdQ 1 b1 (rdQ 1 b3 ((true=true)/\rdQ 1 b1 (rdQ 1 b3 ((true=true)/\rdQ 1 b1 (rdQ 1 b3 ((true=true)/\rdQ 1 b1 (rdQ 1 b3 ((true=true)/\rdQ 1 b1 (rdQ 1 b3 ((true=true)/\rdQ 1 b1 (rdQ 1 b3 ((false=false)/\rdQ 32 b3 (rdQ 32 b2 (rdQ 32 b2 (huge_Bytes_Q m0 m1 m2 m3 (Value.agg #[.int .u8 (IntKind.u8.wrap (Int.fdiv m3 (2^56))), .int .u8 (IntKind.u8.wrap (Int.fdiv m3 (2^48))), .int .u8 (IntKind.u8.wrap (Int.fdiv m3 (2^40))), .int .u8 (IntKind.u8.wrap (Int.fdiv m3 (2^32))), .int .u8 (IntKind.u8.wrap (Int.fdiv m3 (2^24))), .int .u8 (IntKind.u8.wrap (Int.fdiv m3 (2^16))), .int .u8 (IntKind.u8.wrap (Int.fdiv m3 (2^8))), .int .u8 (IntKind.u8.wrap (Int.fdiv m3 (2^0))), .int .u8 (IntKind.u8.wrap (Int.fdiv m2 (2^56))), .int .u8 (IntKind.u8.wrap (Int.fdiv m2 (2^48))), .int .u8 (IntKind.u8.wrap (Int.fdiv m2 (2^40))), .int .u8 (IntKind.u8.wrap (Int.fdiv m2 (2^32))), .int .u8 (IntKind.u8.wrap (Int.fdiv m2 (2^24))), .int .u8 (IntKind.u8.wrap (Int.fdiv m2 (2^16))), .int .u8 (IntKind.u8.wrap (Int.fdiv m2 (2^8))), .int .u8 (IntKind.u8.wrap (Int.fdiv m2 (2^0))), .int .u8 (IntKind.u8.wrap (Int.fdiv m1 (2^56))), .int .u8 (IntKind.u8.wrap (Int.fdiv m1 (2^48))), .int .u8 (IntKind.u8.wrap (Int.fdiv m1 (2^40))), .int .u8 (IntKind.u8.wrap (Int.fdiv m1 (2^32))), .int .u8 (IntKind.u8.wrap (Int.fdiv m1 (2^24))), .int .u8 (IntKind.u8.wrap (Int.fdiv m1 (2^16))), .int .u8 (IntKind.u8.wrap (Int.fdiv m1 (2^8))), .int .u8 (IntKind.u8.wrap (Int.fdiv m1 (2^0))), .int .u8 (IntKind.u8.wrap (Int.fdiv m0 (2^56))), .int .u8 (IntKind.u8.wrap (Int.fdiv m0 (2^48))), .int .u8 (IntKind.u8.wrap (Int.fdiv m0 (2^40))), .int .u8 (IntKind.u8.wrap (Int.fdiv m0 (2^32))), .int .u8 (IntKind.u8.wrap (Int.fdiv m0 (2^24))), .int .u8 (IntKind.u8.wrap (Int.fdiv m0 (2^16))), .int .u8 (IntKind.u8.wrap (Int.fdiv m0 (2^8))), .int .u8 (IntKind.u8.wrap (Int.fdiv m0 (2^0)))]))))))))))))))))))))))))))))))))))))))))))))))))))))))))))))))))))))):=by kernel_rfl
set_option maxRecDepth 100000 in
theorem huge_Bytes (m0 m1 m2 m3:Int) :huge_Bytes_A m0 m1 m2 m3 (fun za zh zv zu zp=>CallT Try.prog 54 za zh Unit zv zu zp):=by
  refine call_of (c:=bodyOf Try.f54) (n:=24) (fn:=Try.f54) Try.mixed Try.func54 (by kernel_rfl) (by kernel_rfl) (by kernel_rfl) 2000 _ [.rd 1, .rd 1, .rd 1, .rd 1, .rd 1, .rd 1, .rd 1, .rd 1, .rd 1, .rd 1, .rd 1, .rd 1, .rd 1, .rd 1, .rd 1, .rd 1, .rd 1, .rd 1, .rd 1, .rd 1, .rd 1, .rd 1, .rd 1, .rd 1, .rd 1, .rd 1, .rd 1, .rd 1, .rd 1, .rd 1, .rd 1, .rd 1] [] rfl rfl (Eq.mpr (huge_Bytes_vc m0 m1 m2 m3) ?_)
  intro b1
  intro b2
  intro b3
  exact ⟨rfl,rdQ_mk 1 _ (rdQ_mk 1 _ ⟨rfl,rdQ_mk 1 _ (rdQ_mk 1 _ ⟨rfl,rdQ_mk 1 _ (rdQ_mk 1 _ ⟨rfl,rdQ_mk 1 _ (rdQ_mk 1 _ ⟨rfl,rdQ_mk 1 _ (rdQ_mk 1 _ ⟨rfl,rdQ_mk 1 _ (rdQ_mk 1 _ ⟨rfl,rdQ_mk 1 _ (rdQ_mk 1 _ ⟨rfl,rdQ_mk 1 _ (rdQ_mk 1 _ ⟨rfl,rdQ_mk 1 _ (rdQ_mk 1 _ ⟨rfl,rdQ_mk 1 _ (rdQ_mk 1 _ ⟨rfl,rdQ_mk 1 _ (rdQ_mk 1 _ ⟨rfl,rdQ_mk 1 _ (rdQ_mk 1 _ ⟨rfl,rdQ_mk 1 _ (rdQ_mk 1 _ ⟨rfl,rdQ_mk 1 _ (rdQ_mk 1 _ ⟨rfl,rdQ_mk 1 _ (rdQ_mk 1 _ ⟨rfl,rdQ_mk 1 _ (rdQ_mk 1 _ ⟨rfl,rdQ_mk 1 _ (rdQ_mk 1 _ ⟨rfl,rdQ_mk 1 _ (rdQ_mk 1 _ ⟨rfl,rdQ_mk 1 _ (rdQ_mk 1 _ ⟨rfl,rdQ_mk 1 _ (rdQ_mk 1 _ ⟨rfl,rdQ_mk 1 _ (rdQ_mk 1 _ ⟨rfl,rdQ_mk 1 _ (rdQ_mk 1 _ ⟨rfl,rdQ_mk 1 _ (rdQ_mk 1 _ ⟨rfl,rdQ_mk 1 _ (rdQ_mk 1 _ ⟨rfl,rdQ_mk 1 _ (rdQ_mk 1 _ ⟨rfl,rdQ_mk 1 _ (rdQ_mk 1 _ ⟨rfl,rdQ_mk 1 _ (rdQ_mk 1 _ ⟨rfl,rdQ_mk 1 _ (rdQ_mk 1 _ ⟨rfl,rdQ_mk 1 _ (rdQ_mk 1 _ ⟨rfl,rdQ_mk 1 _ (rdQ_mk 1 _ ⟨rfl,rdQ_mk 1 _ (rdQ_mk 1 _ ⟨rfl,rdQ_mk 1 _ (rdQ_mk 1 _ ⟨rfl,rdQ_mk 32 _ (rdQ_mk 32 _ (rdQ_mk 32 _ ⟨(),trivial,rfl,trivial⟩))⟩)⟩)⟩)⟩)⟩)⟩)⟩)⟩)⟩)⟩)⟩)⟩)⟩)⟩)⟩)⟩)⟩)⟩)⟩)⟩)⟩)⟩)⟩)⟩)⟩)⟩)⟩)⟩)⟩)⟩)⟩)⟩)⟩
abbrev huge_Bytes_K (m0 m1 m2 m3:Int) (KK:Unit->Prop):Prop:=huge_Bytes_A m0 m1 m2 m3 (fun za zh zv zu zp=>callQr Try.prog 54 za zh Unit zv zp KK)
theorem huge_Bytes_m (m0 m1 m2 m3:Int) {KK:Unit->Prop} (kont:KK ()) :huge_Bytes_K m0 m1 m2 m3 KK:=callQr_mk (huge_Bytes m0 m1 m2 m3) (⟨(),trivial⟩) fun _ _=>kont
noncomputable def pk_RawA_C:List Value->List Slot->Ctr:=fun vs hs=>⟨Row,fun zx=> .pointer (some ⟨(vblk (varg vs 1)),0,none⟩),fun zx=> [.blk (vblk (varg vs 1)) (.cells #[sv zx] 75 (0,0)),(ss 5 zx), .blk (vblk (varg vs 2)) (.cells #[.int .u8 ((fun k=>ci (scell (sarg hs 2) k)) 0), .int .u8 ((fun k=>ci (scell (sarg hs 2) k)) 1), .int .u8 ((fun k=>ci (scell (sarg hs 2) k)) 2), .int .u8 ((fun k=>ci (scell (sarg hs 2) k)) 3), .int .u8 ((fun k=>ci (scell (sarg hs 2) k)) 4), .int .u8 ((fun k=>ci (scell (sarg hs 2) k)) 5), .int .u8 ((fun k=>ci (scell (sarg hs 2) k)) 6), .int .u8 ((fun k=>ci (scell (sarg hs 2) k)) 7), .int .u8 ((fun k=>ci (scell (sarg hs 2) k)) 8), .int .u8 ((fun k=>ci (scell (sarg hs 2) k)) 9), .int .u8 ((fun k=>ci (scell (sarg hs 2) k)) 10), .int .u8 ((fun k=>ci (scell (sarg hs 2) k)) 11), .int .u8 ((fun k=>ci (scell (sarg hs 2) k)) 12), .int .u8 ((fun k=>ci (scell (sarg hs 2) k)) 13), .int .u8 ((fun k=>ci (scell (sarg hs 2) k)) 14), .int .u8 ((fun k=>ci (scell (sarg hs 2) k)) 15), .int .u8 ((fun k=>ci (scell (sarg hs 2) k)) 16), .int .u8 ((fun k=>ci (scell (sarg hs 2) k)) 17), .int .u8 ((fun k=>ci (scell (sarg hs 2) k)) 18), .int .u8 ((fun k=>ci (scell (sarg hs 2) k)) 19), .int .u8 ((fun k=>ci (scell (sarg hs 2) k)) 20), .int .u8 ((fun k=>ci (scell (sarg hs 2) k)) 21), .int .u8 ((fun k=>ci (scell (sarg hs 2) k)) 22), .int .u8 ((fun k=>ci (scell (sarg hs 2) k)) 23), .int .u8 ((fun k=>ci (scell (sarg hs 2) k)) 24), .int .u8 ((fun k=>ci (scell (sarg hs 2) k)) 25), .int .u8 ((fun k=>ci (scell (sarg hs 2) k)) 26), .int .u8 ((fun k=>ci (scell (sarg hs 2) k)) 27), .int .u8 ((fun k=>ci (scell (sarg hs 2) k)) 28), .int .u8 ((fun k=>ci (scell (sarg hs 2) k)) 29), .int .u8 ((fun k=>ci (scell (sarg hs 2) k)) 30), .int .u8 ((fun k=>ci (scell (sarg hs 2) k)) 31)] 108 (0,0))],fun zx=>BOK zx/\(dg zx).length=((rdv (scell (sarg hs 0) 0) (sarg hs 1))).length+32/\dg zx=(rdv (scell (sarg hs 0) 0) (sarg hs 1))++l32 (fun k=>ci (scell (sarg hs 2) k))⟩
abbrev pk_RawA_Q (bw:Nat) (r:Row) (bs:Nat) (f:Nat->Int) (zv:Value) (zs0:Slot) (zs1:Slot) (zs2:Slot):Prop:= ∃zx:Row,(BOK zx/\(dg zx).length=((rdv (sv r) (ss 5 r))).length+32/\dg zx=(rdv (sv r) (ss 5 r))++l32 f)/\zv=pp bw 0/\zs0=bk bw #[sv zx] 75/\zs1=(ss 5 zx)/\zs2=bk bs #[.int .u8 (f 0), .int .u8 (f 1), .int .u8 (f 2), .int .u8 (f 3), .int .u8 (f 4), .int .u8 (f 5), .int .u8 (f 6), .int .u8 (f 7), .int .u8 (f 8), .int .u8 (f 9), .int .u8 (f 10), .int .u8 (f 11), .int .u8 (f 12), .int .u8 (f 13), .int .u8 (f 14), .int .u8 (f 15), .int .u8 (f 16), .int .u8 (f 17), .int .u8 (f 18), .int .u8 (f 19), .int .u8 (f 20), .int .u8 (f 21), .int .u8 (f 22), .int .u8 (f 23), .int .u8 (f 24), .int .u8 (f 25), .int .u8 (f 26), .int .u8 (f 27), .int .u8 (f 28), .int .u8 (f 29), .int .u8 (f 30), .int .u8 (f 31)] 108/\True
abbrev pk_RawA_A (bw:Nat) (r:Row) (bs:Nat) (f:Nat->Int) (zF:SF Row):Prop:=zF #[pp bw 0, .slice (some ⟨bs,0,none⟩) 32 32] [bk bw #[sv r] 75,(ss 5 r),bk bs #[.int .u8 (f 0), .int .u8 (f 1), .int .u8 (f 2), .int .u8 (f 3), .int .u8 (f 4), .int .u8 (f 5), .int .u8 (f 6), .int .u8 (f 7), .int .u8 (f 8), .int .u8 (f 9), .int .u8 (f 10), .int .u8 (f 11), .int .u8 (f 12), .int .u8 (f 13), .int .u8 (f 14), .int .u8 (f 15), .int .u8 (f 16), .int .u8 (f 17), .int .u8 (f 18), .int .u8 (f 19), .int .u8 (f 20), .int .u8 (f 21), .int .u8 (f 22), .int .u8 (f 23), .int .u8 (f 24), .int .u8 (f 25), .int .u8 (f 26), .int .u8 (f 27), .int .u8 (f 28), .int .u8 (f 29), .int .u8 (f 30), .int .u8 (f 31)] 108] (fun zx=>pp bw 0) (fun zx=> [bk bw #[sv zx] 75,(ss 5 zx),bk bs #[.int .u8 (f 0), .int .u8 (f 1), .int .u8 (f 2), .int .u8 (f 3), .int .u8 (f 4), .int .u8 (f 5), .int .u8 (f 6), .int .u8 (f 7), .int .u8 (f 8), .int .u8 (f 9), .int .u8 (f 10), .int .u8 (f 11), .int .u8 (f 12), .int .u8 (f 13), .int .u8 (f 14), .int .u8 (f 15), .int .u8 (f 16), .int .u8 (f 17), .int .u8 (f 18), .int .u8 (f 19), .int .u8 (f 20), .int .u8 (f 21), .int .u8 (f 22), .int .u8 (f 23), .int .u8 (f 24), .int .u8 (f 25), .int .u8 (f 26), .int .u8 (f 27), .int .u8 (f 28), .int .u8 (f 29), .int .u8 (f 30), .int .u8 (f 31)] 108]) (fun zx=>(BOK zx/\(dg zx).length=((rdv (sv r) (ss 5 r))).length+32/\dg zx=(rdv (sv r) (ss 5 r))++l32 f))
end Go.Proofs
